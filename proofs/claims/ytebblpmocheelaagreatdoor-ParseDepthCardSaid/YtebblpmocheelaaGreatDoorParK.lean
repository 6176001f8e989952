/- The walk of parse.Parse, behind a text that lex reads. -/
import Derived.Test.YtebblpmocheelaaGreatDoorParY
namespace Go.Proofs.YtebblpmocheelaaGreatDoor
open Go.RowKit Go.Lib

theorem own_cap {W : World} {lo size n g cap : Nat} {e : TypeId} {xs : List Value} (h : W.ownsRow lo e size (.slice (some ⟨g, 0, none⟩) n cap) n xs) : cap ≤ maxLen := by
  rcases h.2 with ⟨h1, _⟩ | ⟨g2, cap2, cur, h1, _, _, _, h5, _⟩
  · cases h1
  · injection h1 with _ _ h3; rw [h3]; exact h5
theorem q_bad {r : Except Err Q} {w w' : World} {p g cap d : Nat} {l : List Tok} {x : Err} {e : Ending} (h : r = .error x) (hp : QPost r w p g cap l d e w') :
    ∃ a b ao n c op nm tx ao2 n2 c2 ds lim pg, e = .returned (.tuple #[.agg #[.int .i64 a, .int .i64 b, .slice ao n c, .int .i64 op, .string nm, .string tx, .slice ao2 n2 c2, .bool ds, .int .i64 lim, .string pg], .iface 64 (.agg #[.int .i64 x.1, .int .i64 x.2])]) ∧ ∃ ts, Goes w p g cap l ts d w' := by subst h; exact hp
theorem q_good {r : Except Err Q} {w w' : World} {p g cap d : Nat} {l : List Tok} {q : Q} {e : Ending} (h : r = .ok q) (hp : QPost r w p g cap l d e w') :
    ∃ ao n c op nm tx ao2 n2 c2, e = .returned (.tuple #[.agg #[.int .i64 q.since, .int .i64 q.till, .slice ao n c, .int .i64 op, .string nm, .string tx, .slice ao2 n2 c2, .bool q.desc, .int .i64 q.limit, .string ⟨q.page.toArray⟩], .nilIface]) ∧
      w'.ownsRow w.heap.size 75 3 (.slice ao n c) q.ms.length (q.ms.flatMap mCells) ∧ FVal w' (fun b => w.heap.size ≤ b) ⟨.int .i64 op, .string nm, .string tx, .slice ao2 n2 c2⟩ q.filter ∧ ∃ ts, Goes w p g cap l ts d w' := by
  subst h
  obtain ⟨mv, fx, he, ho, hf, hg⟩ := hp
  obtain ⟨ao, cp, rfl⟩ := own_slice ho
  obtain ⟨op, nm, tx, ao2, n2, c2, rfl⟩ := hf.shape
  exact ⟨_, _, _, op, nm, tx, ao2, n2, c2, he, ho, hf, hg⟩

set_option maxHeartbeats 32000000 in
set_option maxRecDepth 1000000 in
theorem parse_ok (s : ByteArray) (l : List Tok) (w : World) (hE : PEnv w) (hs : s.size ≤ 65536) (hl : lexA s = .ok l) :
    Calls Tryz.prog 11 #[.string s] w (ParsePost (parseA s) w) := by
  have hB0 := ((Below.refl w.heap.size w).alloc (Nat.le_refl _) (.cells #[.int .i64 0, .int .i64 0, .slice none 0 0, .int .i64 0, .string ⟨#[]⟩, .string ⟨#[]⟩, .slice none 0 0, .bool false, .int .i64 0, .string ⟨#[]⟩] 28)).alloc (by simp) (.cells #[.int .i64 0, .int .i64 0] 31)
  have hRq0 := (CellsAt.new w 28 #[.int .i64 0, .int .i64 0, .slice none 0 0, .int .i64 0, .string ⟨#[]⟩, .string ⟨#[]⟩, .slice none 0 0, .bool false, .int .i64 0, .string ⟨#[]⟩]).alloc (.cells #[.int .i64 0, .int .i64 0] 31)
  have hRf0 := CellsAt.new (w.alloc (.cells #[.int .i64 0, .int .i64 0, .slice none 0 0, .int .i64 0, .string ⟨#[]⟩, .string ⟨#[]⟩, .slice none 0 0, .bool false, .int .i64 0, .string ⟨#[]⟩] 28)) 31 #[.int .i64 0, .int .i64 0]
  have hsz : (w.alloc (.cells #[.int .i64 0, .int .i64 0, .slice none 0 0, .int .i64 0, .string ⟨#[]⟩, .string ⟨#[]⟩, .slice none 0 0, .bool false, .int .i64 0, .string ⟨#[]⟩] 28)).heap.size = w.heap.size + 1 := by simp
  rw [hsz] at hRf0
  have cL := lex_walk s ((w.alloc (.cells #[.int .i64 0, .int .i64 0, .slice none 0 0, .int .i64 0, .string ⟨#[]⟩, .string ⟨#[]⟩, .slice none 0 0, .bool false, .int .i64 0, .string ⟨#[]⟩] 28)).alloc (.cells #[.int .i64 0, .int .i64 0] 31)) (hE.env.below hB0) hs
  have hpa : parseA s = queryR l := by unfold parseA; rw [hl]
  have hll : l.length ≤ 65536 := by have := (lexA_len hl).1; have := lexA_size hl; omega
  rw [hl] at cL
  have HL := Lib.hid hl
  rw [hpa]
  clear hsz hl hpa
  go_enter Tryz.func11, Tryz.ntmps11
  go_wp2_with fail
  refine cL.mono ?_
  clear cL
  rintro e w1 ⟨hb1, v, rfl, hown⟩
  have hpos : 0 < l.length := by
    obtain ⟨toks, p, he, _⟩ := lexA_struct HL.out
    rw [he]; simp
  obtain ⟨g, cap, rfl, hg1, hcap, hcell⟩ := own_shape hown hpos
  have hcm : cap ≤ maxLen := own_cap hown
  have hB1 := hB0.trans (hb1.mono (by simp; omega))
  have hRq1 := below_cells hRq0 hb1
  have hRf1 := below_cells hRf0 hb1
  have hb2 := (Below.refl w1.heap.size w1).alloc (Nat.le_refl _) (.cells #[.int .i64 0, .int .i64 0] 31)
  have hB2 := hB1.trans (hb2.mono hB1.size)
  have hRq2 := below_cells hRq1 hb2
  have hRf2 := below_cells hRf1 hb2
  have hF2 := CellsAt.new w1 31 #[.int .i64 0, .int .i64 0]
  have hs1 : w.heap.size + 1 < w1.heap.size := hRf1.lt
  have hown2 := own_below hown hb2
  have hg2 : g < (w1.alloc (.cells #[.int .i64 0, .int .i64 0] 31)).heap.size := by simp; omega
  have x0 : (w1.alloc (.cells #[.int .i64 0, .int .i64 0] 31)).cell? ⟨w1.heap.size, 0, none⟩ = some (.int .i64 0) := hF2.cell 0
  have x1 : (w1.alloc (.cells #[.int .i64 0, .int .i64 0] 31)).cell? ⟨w1.heap.size, 1, none⟩ = some (.int .i64 0) := hF2.cell 1
  have hps := ps_start HL.out hown2 hg2 hcap hcm
  have cQ := query_walk hps hll
  have hb3 := (Below.refl _ (w1.alloc (.cells #[.int .i64 0, .int .i64 0] 31))).alloc (Nat.le_refl _) (.cells #[.slice (some ⟨g, 0, none⟩) l.length cap, .int .i64 0] 62)
  have hB3 := hB2.trans (hb3.mono hB2.size)
  have hRq3 := below_cells hRq2 hb3
  have hRf3 := below_cells hRf2 hb3
  have hpw : w.heap.size + 1 < (w1.alloc (.cells #[.int .i64 0, .int .i64 0] 31)).heap.size := hRf2.lt
  have hpp : (w1.alloc (.cells #[.int .i64 0, .int .i64 0] 31)).heap.size < ((w1.alloc (.cells #[.int .i64 0, .int .i64 0] 31)).alloc (.cells #[.slice (some ⟨g, 0, none⟩) l.length cap, .int .i64 0] 62)).heap.size := hps.par.lt
  clear hb1 hb2 hB0 hB1 hRq0 hRf0 hRq1 hRf1 hown hown2 hcell hRq2 hRf2 hps hb3 hg1 hg2 hcap hcm hF2
  have hpz : (w1.alloc (.cells #[.int .i64 0, .int .i64 0] 31)).heap.size = w1.heap.size + 1 := by simp
  rw [hpz] at cQ hpw hpp
  clear hpz
  go_wp2_with fail
  refine cQ.mono ?_
  clear cQ x0 x1 hB2
  generalize hW3 : (w1.alloc (.cells #[.int .i64 0, .int .i64 0] 31)).alloc (.cells #[.slice (some ⟨g, 0, none⟩) l.length cap, .int .i64 0] 62) = W3 at hB3 hRq3 hRf3 hpp ⊢
  clear hW3
  generalize w1.heap.size + 1 = p at hpw hpp ⊢
  clear hs1
  have hpw' : w.heap.size ≠ p := by omega
  have hpw'' : w.heap.size + 1 ≠ p := by omega
  have hlo3 : w.heap.size + 2 ≤ W3.heap.size := by omega
  cases hq : queryR l with
  | error x =>
    intro e w4 hpost
    obtain ⟨qa, qb, ao, an, ac, op, nm, tx, fo, fn, fc, ds, lim, pg, rfl, ts4, hg4⟩ := q_bad rfl hpost
    clear hpost
    have hB4 := below_gb hB3 hB3.size (by omega) hg4.1
    have hRq4 := cells_gb hRq3 hg4.1 hpw'
    have hRf4 := cells_gb hRf3 hg4.1 hpw''
    have hs4 : w.heap.size + 2 ≤ w4.heap.size := Nat.le_trans hlo3 hg4.1.size
    clear hB3 hRq3 hRf3 hg4
    obtain ⟨QO, hQO⟩ : ∃ QO : Obj, (.cells #[.int .i64 qa, .int .i64 qb, .slice ao an ac, .int .i64 op, .string nm, .string tx, .slice fo fn fc, .bool ds, .int .i64 lim, .string pg] 28) = QO := ⟨_, rfl⟩
    have hb5 := (Below.refl w4.heap.size w4).alloc (Nat.le_refl _) QO
    have hB5 := hB4.trans (hb5.mono hB4.size)
    have hRq5 := below_cells hRq4 hb5
    have hRf5 := below_cells hRf4 hb5
    have hb6 := (Below.refl (w4.alloc QO).heap.size (w4.alloc QO)).alloc (Nat.le_refl _) (.cells #[.int .i64 0, .int .i64 0] 64)
    have hB6 := hB5.trans (hb6.mono hB5.size)
    have hRq6 := below_cells hRq5 hb6
    have hRf6 := below_cells hRf5 hb6
    have hT6 := CellsAt.new (w4.alloc QO) 64 #[.int .i64 0, .int .i64 0]
    have hz5 : (w4.alloc QO).heap.size = w4.heap.size + 1 := by simp
    rw [hz5] at hT6
    have cA := as_hit x.1 x.2 (w4.heap.size + 1) ((w4.alloc QO).alloc (.cells #[.int .i64 0, .int .i64 0] 64)) (hE.below hB6).et hT6
    subst hQO
    clear hz5 hb5 hb6 hB5 hRq5 hRf5 hT6
    go_wp2_with fail
    refine cA.mono ?_
    clear cA
    rintro e w7 ⟨rfl, hgr, hT7⟩
    have hB7 := below_gb hB6 hB6.size (by omega) hgr
    have hRq7 := cells_gb hRq6 hgr (by omega)
    have hRf7 := cells_gb hRf6 hgr (by omega)
    clear hB6 hRq6 hRf6 hgr hB4 hRq4 hRf4
    have htb : w.heap.size + 1 < w4.heap.size + 1 := by omega
    generalize w4.heap.size + 1 = tb at hT7 htb ⊢
    have f0 := hT7.cell 0; have f1 := hT7.cell 1
    obtain ⟨r0, r1, r2, r3, r4, r5, r6, r7, r8, r9⟩ := hRq7.ten; obtain ⟨z0, z1, z2, z3, z4, z5, z6, z7, z8, z9⟩ := hRq7.tenF
    have e0 := hRf7.cell 0; have e1 := hRf7.cell 1; have y0 := hRf7.frozen 0; have y1 := hRf7.frozen 1
    simp only [List.getElem?_toArray, List.getElem?_cons_zero, List.getElem?_cons_succ] at f0 f1 e0 e1
    go_wp2_with fail
    go_region
    go_wp2
    exact bodyPost_ret (v := .tuple #[.agg #[.int .i64 0, .int .i64 0, .slice none 0 0, .int .i64 0, .string ⟨#[]⟩, .string ⟨#[]⟩, .slice none 0 0, .bool false, .int .i64 0, .string ⟨#[]⟩], .agg #[.int .i64 x.1, .int .i64 x.2]]) (by
      have R := (fin_q hRq7 (.int .i64 0) (.int .i64 0) (.slice none 0 0) (.int .i64 0) (.string ⟨#[]⟩) (.string ⟨#[]⟩) (.slice none 0 0) (.bool false) (.int .i64 0) (.string ⟨#[]⟩) (.int .i64 x.1) (.int .i64 x.2)).drew
      have S := (fin_f hRf7 (.int .i64 0) (.int .i64 0) (.slice none 0 0) (.int .i64 0) (.string ⟨#[]⟩) (.string ⟨#[]⟩) (.slice none 0 0) (.bool false) (.int .i64 0) (.string ⟨#[]⟩) (.int .i64 x.1) (.int .i64 x.2)).drew
      obtain ⟨r0, r1, r2, r3, r4, r5, r6, r7, r8, r9⟩ := R.ten
      have s0 := S.cell 0; have s1 := S.cell 1
      simp only [List.getElem?_toArray, List.getElem?_cons_zero, List.getElem?_cons_succ] at s0 s1
      simp [results, Tryz.results11, go_sem, r0, r1, r2, r3, r4, r5, r6, r7, r8, r9, s0, s1]) rfl (ParsePost.bad hq (fin_below hB7 (Nat.le_refl _) (.int .i64 0) (.int .i64 0) (.slice none 0 0) (.int .i64 0) (.string ⟨#[]⟩) (.string ⟨#[]⟩) (.slice none 0 0) (.bool false) (.int .i64 0) (.string ⟨#[]⟩) (.int .i64 x.1) (.int .i64 x.2)).drew)
  | ok q =>
    intro e w4 hpost
    obtain ⟨ao, an, ac, op, nm, tx, fo, fn, fc, rfl, hO4, hF4, ts4, hg4⟩ := q_good rfl hpost
    clear hpost
    have hB4 := below_gb hB3 hB3.size (by omega) hg4.1
    have hRq4 := cells_gb hRq3 hg4.1 hpw'
    have hRf4 := cells_gb hRf3 hg4.1 hpw''
    have hs4 : w.heap.size + 2 ≤ w4.heap.size := Nat.le_trans hlo3 hg4.1.size
    clear hB3 hRq3 hRf3 hg4
    obtain ⟨QO, hQO⟩ : ∃ QO : Obj, (.cells #[.int .i64 q.since, .int .i64 q.till, .slice ao an ac, .int .i64 op, .string nm, .string tx, .slice fo fn fc, .bool q.desc, .int .i64 q.limit, .string ⟨q.page.toArray⟩] 28) = QO := ⟨_, rfl⟩
    have hb5 := (Below.refl w4.heap.size w4).alloc (Nat.le_refl _) QO
    have hB5 := hB4.trans (hb5.mono hB4.size)
    have hRq5 := below_cells hRq4 hb5
    have hRf5 := below_cells hRf4 hb5
    have hO5 := own_below hO4 hb5
    have hF5 := hF4.stay hb5
    have hN5 : CellsAt (w4.alloc QO) w4.heap.size 28 #[.int .i64 q.since, .int .i64 q.till, .slice ao an ac, .int .i64 op, .string nm, .string tx, .slice fo fn fc, .bool q.desc, .int .i64 q.limit, .string ⟨q.page.toArray⟩] := by subst hQO; exact CellsAt.new w4 _ _
    have hb6 := (Below.refl (w4.alloc QO).heap.size (w4.alloc QO)).alloc (Nat.le_refl _) (.cells #[.int .i64 0, .int .i64 0] 64)
    have hB6 := hB5.trans (hb6.mono hB5.size)
    have hRq6 := below_cells hRq5 hb6
    have hRf6 := below_cells hRf5 hb6
    have hO6 := own_below hO5 hb6
    have hF6 := hF5.stay hb6
    have hN6 := below_cells hN5 hb6
    have cA := as_nil (.iface 66 (.pointer (some ⟨w4.heap.size + 1, 0, none⟩))) ((w4.alloc QO).alloc (.cells #[.int .i64 0, .int .i64 0] 64))
    subst hQO
    clear hb5 hb6 hB5 hRq5 hRf5 hO5 hF5 hN5 hO4 hF4 hB4 hRq4 hRf4
    go_wp2_with fail
    refine cA.mono ?_
    clear cA
    rintro e w7 ⟨rfl, rfl⟩
    generalize hW7 : (w4.alloc (.cells #[.int .i64 q.since, .int .i64 q.till, .slice ao an ac, .int .i64 op, .string nm, .string tx, .slice fo fn fc, .bool q.desc, .int .i64 q.limit, .string ⟨q.page.toArray⟩] 28)).alloc (.cells #[.int .i64 0, .int .i64 0] 64) = W7 at hB6 hRq6 hRf6 hO6 hF6 hN6 ⊢
    clear hW7
    obtain ⟨r0, r1, r2, r3, r4, r5, r6, r7, r8, r9⟩ := hRq6.ten; obtain ⟨z0, z1, z2, z3, z4, z5, z6, z7, z8, z9⟩ := hRq6.tenF; obtain ⟨q0, q1, q2, q3, q4, q5, q6, q7, q8, q9⟩ := hN6.ten
    have e0 := hRf6.cell 0; have e1 := hRf6.cell 1; have y0 := hRf6.frozen 0; have y1 := hRf6.frozen 1
    simp only [List.getElem?_toArray, List.getElem?_cons_zero, List.getElem?_cons_succ] at e0 e1
    go_wp2
    exact bodyPost_ret (v := .tuple #[.agg #[.int .i64 q.since, .int .i64 q.till, .slice ao an ac, .int .i64 op, .string nm, .string tx, .slice fo fn fc, .bool q.desc, .int .i64 q.limit, .string ⟨q.page.toArray⟩], .agg #[.int .i64 0, .int .i64 0]]) (by
      have R := fin_q hRq6 (.int .i64 q.since) (.int .i64 q.till) (.slice ao an ac) (.int .i64 op) (.string nm) (.string tx) (.slice fo fn fc) (.bool q.desc) (.int .i64 q.limit) (.string ⟨q.page.toArray⟩) (.int .i64 0) (.int .i64 0)
      have S := fin_f hRf6 (.int .i64 q.since) (.int .i64 q.till) (.slice ao an ac) (.int .i64 op) (.string nm) (.string tx) (.slice fo fn fc) (.bool q.desc) (.int .i64 q.limit) (.string ⟨q.page.toArray⟩) (.int .i64 0) (.int .i64 0)
      obtain ⟨r0, r1, r2, r3, r4, r5, r6, r7, r8, r9⟩ := R.ten
      have s0 := S.cell 0; have s1 := S.cell 1
      simp only [List.getElem?_toArray, List.getElem?_cons_zero, List.getElem?_cons_succ] at s0 s1
      simp [results, Tryz.results11, go_sem, r0, r1, r2, r3, r4, r5, r6, r7, r8, r9, s0, s1]) rfl (ParsePost.good hq (fin_below hB6 (Nat.le_refl _) (.int .i64 q.since) (.int .i64 q.till) (.slice ao an ac) (.int .i64 op) (.string nm) (.string tx) (.slice fo fn fc) (.bool q.desc) (.int .i64 q.limit) (.string ⟨q.page.toArray⟩) (.int .i64 0) (.int .i64 0))
        (own_base (fin_own hO6 (by omega) (.int .i64 q.since) (.int .i64 q.till) (.slice ao an ac) (.int .i64 op) (.string nm) (.string tx) (.slice fo fn fc) (.bool q.desc) (.int .i64 q.limit) (.string ⟨q.page.toArray⟩) (.int .i64 0) (.int .i64 0)) (by omega)) ((fin_fil (B := w.heap.size) hF6 (by omega) (.int .i64 q.since) (.int .i64 q.till) (.slice ao an ac) (.int .i64 op) (.string nm) (.string tx) (.slice fo fn fc) (.bool q.desc) (.int .i64 q.limit) (.string ⟨q.page.toArray⟩) (.int .i64 0) (.int .i64 0)).low (by omega)))

/-- What parse.Parse answers. -/
theorem parse_walk (s : ByteArray) (w : World) (hE : PEnv w) (hs : s.size ≤ 65536) : Calls Tryz.prog 11 #[.string s] w (ParsePost (parseA s) w) := by
  cases hl : lexA s with
  | error x => exact parse_bad s x w hE.env hs hl
  | ok l => exact parse_ok s l w hE hs hl
end Go.Proofs.YtebblpmocheelaaGreatDoor
