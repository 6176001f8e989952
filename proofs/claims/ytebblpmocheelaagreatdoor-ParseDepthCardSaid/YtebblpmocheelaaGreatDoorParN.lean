/- The walk of the parser's matchers. -/
import Derived.Test.YtebblpmocheelaaGreatDoorParM
namespace Go.Proofs.YtebblpmocheelaaGreatDoor
open Go.RowKit Go.Lib

def mCells (m : M) : List Value := [.string ⟨m.name.toArray⟩, .bool m.not, .string ⟨m.value.toArray⟩]
/-- Where matchers stands: the parser, what is gathered, the loop's token. -/
structure MS (w W : World) (p g cap : Nat) (l ts : List Tok) (d : Nat) (v : Value) (ms : List M) (bt : Nat) (t : Tok) : Prop where
  goes : Goes w p g cap l ts d W
  own : W.ownsRow w.heap.size 75 3 v ms.length (ms.flatMap mCells)
  tk : CellsAt W bt 95 #[.int .i64 t.kind, .string ⟨t.says.toArray⟩, .int .i64 t.n, .int .i64 t.place]
  bt : w.heap.size ≤ bt
  pl : p < w.heap.size
theorem own_gb {W W' : World} {lo p size n : Nat} {e : TypeId} {v : Value} {xs : List Value} (h : W.ownsRow lo e size v n xs) (hp : p < lo) (hb : W.grownBy W' (some p)) : W'.ownsRow lo e size v n xs :=
  h.kept hb (by rcases hk : v.ownBlock with _ | k
                · exact .inl rfl
                · refine .inr (fun e => ?_)
                  injection e with e
                  have := (h.lt k hk).1; omega)
theorem MS.move {w W W' : World} {p g cap : Nat} {l ts ts' : List Tok} {d : Nat} {v : Value} {ms : List M} {bt : Nat} {t : Tok} (h : MS w W p g cap l ts d v ms bt t) (hg : Goes W p g cap l ts' d W') : MS w W' p g cap l ts' d v ms bt t :=
  ⟨h.goes.trans hg, own_gb h.own h.pl hg.1, cells_gb h.tk hg.1 (by have := h.pl; have := h.bt; omega), h.bt, h.pl⟩
theorem MS.stay {w W W' : World} {p g cap : Nat} {l ts : List Tok} {d : Nat} {v : Value} {ms : List M} {bt : Nat} {t : Tok} (h : MS w W p g cap l ts d v ms bt t) (hb : Below W.heap.size W W') : MS w W' p g cap l ts d v ms bt t :=
  ⟨h.goes.below hb, own_below h.own hb, below_cells h.tk hb, h.bt, h.pl⟩

/-- What matchers hands back. -/
def MsPost (r : Except Err (List M × List Tok)) (w : World) (p g cap : Nat) (l : List Tok) (d : Nat) (e : Ending) (w' : World) : Prop := match r with
  | .ok x => ∃ v, e = .returned (.tuple #[v, .nilIface]) ∧ w'.ownsRow w.heap.size 75 3 v x.1.length (x.1.flatMap mCells) ∧ Goes w p g cap l x.2 d w'
  | .error x => e = .returned (.tuple #[.slice none 0 0, errV x]) ∧ ∃ r, Goes w p g cap l r d w'
theorem MsPost.bad {r : Except Err (List M × List Tok)} {w w' : World} {p g cap d : Nat} {l ts : List Tok} {x : Err} (h : r = .error x) (hg : Goes w p g cap l ts d w') :
    MsPost r w p g cap l d (.returned (.tuple #[.slice none 0 0, .iface 64 (.agg #[.int .i64 x.1, .int .i64 x.2])])) w' := by subst h; exact ⟨rfl, ts, hg⟩
theorem MsPost.good {r : Except Err (List M × List Tok)} {w w' : World} {p g cap d : Nat} {l : List Tok} {x : List M × List Tok} {v : Value} (h : r = .ok x) (ho : w'.ownsRow w.heap.size 75 3 v x.1.length (x.1.flatMap mCells)) (hg : Goes w p g cap l x.2 d w') :
    MsPost r w p g cap l d (.returned (.tuple #[v, .nilIface])) w' := by subst h; exact ⟨v, rfl, ho, hg⟩

theorem infoMat : (Tryz.prog.info? 75).map (fun i => (i.zero, i.size, i.bytes)) = some (some (.agg #[.string ⟨#[]⟩, .bool false, .string ⟨#[]⟩]), 3, 40) := by kernel_rfl
theorem news3g (W : World) (g : Nat) (hg : g = W.heap.size) (t : TypeId) (a b c : Value) : ∀ j u, ([a, b, c] : List Value)[j]? = some u → (W.alloc (.cells #[a, b, c] t)).cell? ((⟨g, 0, none⟩ : Addr).add j) = some u := by
  subst hg
  intro j u hj
  have h := (CellsAt.new W t #[a, b, c]).cell j
  rw [show (⟨W.heap.size, 0, none⟩ : Addr).add j = ⟨W.heap.size, j, none⟩ by simp [Addr.add, eq_comm], h, ← hj]
  simp
theorem ones_m (a c : ByteArray) (b : Bool) : ∀ u ∈ ([.string a, .bool b, .string c] : List Value), u.oneCell' = true := by
  intro u hu
  simp at hu
  rcases hu with rfl | rfl | rfl <;> rfl
theorem ms_len (ms : List M) : (ms.flatMap mCells).length = ms.length * 3 := by
  induction ms with
  | nil => rfl
  | cons a l ih => rw [List.flatMap_cons, List.length_append, ih]; simp [mCells]; omega

theorem own_slice {W : World} {lo size n : Nat} {e : TypeId} {v : Value} {xs : List Value} (h : W.ownsRow lo e size v n xs) : ∃ ao cp, v = .slice ao n cp := by
  rcases h.2 with ⟨rfl, rfl⟩ | ⟨g, cap, cur, rfl, _⟩
  · exact ⟨_, _, rfl⟩
  · exact ⟨_, _, rfl⟩
theorem cells_not_row {W : World} {B lo size n : Nat} {t e : TypeId} {v : Value} {cs : Array Value} {xs : List Value} (h : CellsAt W B t cs) (ho : W.ownsRow lo e size v n xs) (hne : t ≠ e) : some B ≠ v.ownBlock := by
  intro e1
  rcases ho.2 with ⟨rfl, _⟩ | ⟨g, cap, cur, rfl, _, hg, _⟩
  · cases e1
  · have e2 : B = g := by simpa [Value.ownBlock] using e1
    subst e2
    unfold CellsAt at h
    rw [h] at hg
    injection hg with hg
    injection hg with _ h2 _
    exact hne h2
theorem MS.put {w W : World} {p g cap : Nat} {l ts : List Tok} {d : Nat} {v : Value} {ms : List M} {bt : Nat} {t : Tok} (h : MS w W p g cap l ts d v ms bt t) {mb : Nat} (hm : w.heap.size ≤ mb) (hne : some mb ≠ v.ownBlock) (hb : bt ≠ mb) (k : Nat) (x : Value) : MS w (W.setCell ⟨mb, k, none⟩ x) p g cap l ts d v ms bt t :=
  ⟨h.goes.set hm h.pl k x, h.own.kept (grown_setCell W mb k x) (.inr (fun e => hne e.symm)), h.tk.set_other hb k x, h.bt, h.pl⟩
theorem cells_set3 {W : World} {b : Nat} {t : TypeId} {a1 a2 a3 : Value} (h : CellsAt W b t #[a1, a2, a3]) (x y z : Value) :
    CellsAt (((W.setCell ⟨b, 0, none⟩ x).setCell ⟨b, 1, none⟩ y).setCell ⟨b, 2, none⟩ z) b t #[x, y, z] := ((h.set 0 x).set 1 y).set 2 z
theorem MS.snoc {w W W' : World} {p g cap : Nat} {l ts : List Tok} {d : Nat} {v v' : Value} {ms : List M} {bt : Nat} {t : Tok} (h : MS w W p g cap l ts d v ms bt t) (m : M) (hown : W'.ownsRow w.heap.size 75 3 v' (ms.length + 1) (ms.flatMap mCells ++ mCells m)) (hg : W.grownBy W' v.ownBlock) : MS w W' p g cap l ts d v' (ms ++ [m]) bt t :=
  ⟨h.goes.row h.pl hg (fun k hk => (h.own.lt k hk).1), by rw [List.length_append, List.flatMap_append]; simpa using hown, (hg.block bt h.tk.lt (cells_not_row h.tk h.own (by decide))).trans h.tk, h.bt, h.pl⟩
theorem MS.token {w W : World} {p g cap : Nat} {l ts : List Tok} {d : Nat} {v : Value} {ms : List M} {bt : Nat} {t : Tok} (h : MS w W p g cap l ts d v ms bt t) (u : Tok) : MS w (W.alloc (.cells #[.int .i64 u.kind, .string ⟨u.says.toArray⟩, .int .i64 u.n, .int .i64 u.place] 95)) p g cap l ts d v ms W.heap.size u :=
  ⟨h.goes.below ((Below.refl _ _).alloc (Nat.le_refl _) _), own_below h.own ((Below.refl _ _).alloc (Nat.le_refl _) _), CellsAt.new W _ _, h.goes.1.size, h.pl⟩
theorem MS.four {w W : World} {p g cap : Nat} {l ts : List Tok} {d : Nat} {v : Value} {ms : List M} {bt : Nat} {t : Tok} (h : MS w W p g cap l ts d v ms bt t) (u : Tok) :
    MS w ((((W.setCell ⟨bt, 0, none⟩ (.int .i64 u.kind)).setCell ⟨bt, 1, none⟩ (.string ⟨u.says.toArray⟩)).setCell ⟨bt, 2, none⟩ (.int .i64 u.n)).setCell ⟨bt, 3, none⟩ (.int .i64 u.place)) p g cap l ts d v ms bt u := by
  have hne := cells_not_row h.tk h.own (by decide)
  have k := fun (W : World) (i : Nat) (x : Value) (ho : W.ownsRow w.heap.size 75 3 v ms.length (ms.flatMap mCells)) => ho.kept (grown_setCell W bt i x) (.inr (fun e => hne e.symm))
  exact ⟨h.goes.four h.bt h.pl _ _ _ _, k _ _ _ (k _ _ _ (k _ _ _ (k _ _ _ h.own))), four_set h.tk _ _ _ _, h.bt, h.pl⟩
theorem MS.back {w W : World} {p g cap : Nat} {l ts : List Tok} {d : Nat} {v : Value} {ms : List M} {bt : Nat} {t : Tok} (h : MS w W p g cap l ts d v ms bt t) : toksLeft W p = ts.length := by
  obtain ⟨_, i, hp⟩ := h.goes
  exact hp.left
theorem matchersR_end {m : Nat} {out : List M} {ts : List Tok} (h : isIt (hdT ts) wWhere = false) : matchersR (m + 1) out ts = .ok (out, ts) := by rw [matchersR, if_neg (by rw [h]; simp)]
theorem matchersR_many {m : Nat} {out : List M} {ts : List Tok} (h : isIt (hdT ts) wWhere = true) (h4 : out.length = 4) : matchersR (m + 1) out ts = .error (6, (hdT ts).place) := by rw [matchersR, if_pos h, if_pos h4]
theorem matchersR_bad {m : Nat} {out : List M} {ts : List Tok} {x : Err} (h : isIt (hdT ts) wWhere = true) (h4 : out.length ≠ 4) (hm : matcherR (nextR ts) = .error x) : matchersR (m + 1) out ts = .error x := by rw [matchersR, if_pos h, if_neg h4, hm]
theorem matchersR_ok {m : Nat} {out : List M} {ts : List Tok} {x : M × List Tok} (h : isIt (hdT ts) wWhere = true) (h4 : out.length ≠ 4) (hm : matcherR (nextR ts) = .ok x) : matchersR (m + 1) out ts = matchersR m (out ++ [x.1]) x.2 := by rw [matchersR, if_pos h, if_neg h4, hm]

set_option maxHeartbeats 16000000 in
set_option maxRecDepth 1000000 in
theorem matchers_walk {w : World} {p g cap : Nat} {l ts : List Tok} {i d : Nat} (h : PS w p g cap l ts i d) :
    Calls Tryz.prog 50 #[.pointer (some ⟨p, 0, none⟩)] w (MsPost (matchersR (ts.length + 1) [] ts) w p g cap l d) := by
  obtain ⟨i0, hi, hz0, hz1, hz2⟩ := info_parts infoMat
  have hpl := h.par.lt
  have cP := peek_walk h
  obtain ⟨rr, hrr⟩ : ∃ rr, matchersR (ts.length + 1) [] ts = rr := ⟨_, rfl⟩
  have HRR := Lib.hid hrr
  rw [hrr]
  clear hrr
  obtain ⟨t, ht⟩ : ∃ t, hdT ts = t := ⟨_, rfl⟩
  rw [ht] at cP
  simp only [tokV] at cP
  go_enter Tryz.func50, Tryz.ntmps50
  go_wp2_with fail
  refine cP.mono ?_
  rintro e w1 ⟨rfl, hb1⟩
  have g1 := Goes.of h hb1
  have hw1 := hb1.size
  clear cP
  go_wp2_with fail
  go_loopw [4, 5] (fun v pt wr => ∃ (ms : List M) (ts' : List Tok) (fuel bt : Nat) (t : Tok), pt = .pointer (some ⟨bt, 0, none⟩) ∧ MS w wr p g cap l ts' d v ms bt t ∧ hdT ts' = t ∧ matchersR fuel ms ts' = rr ∧ ts'.length < fuel ∧ ms.length ≤ 4) (fun _ _ wr => toksLeft wr p)
  case atStart =>
    refine ⟨[], ts, ts.length + 1, w1.heap.size, t, rfl, ⟨g1.below ((Below.refl _ _).alloc (Nat.le_refl _) _), World.ownsRow_nil _ _ _ _, CellsAt.new w1 _ _, hw1, hpl⟩, ht, HRR.out, by omega, by simp⟩
  case round =>
    clear hb1 g1 hw1 HRR ht
    obtain ⟨ms, ts', fuel, bt, t, rfl, hM, ht, hrow, hfu, hm4⟩ := hrel
    obtain ⟨ao, cp, rfl⟩ := own_slice hM.own
    obtain ⟨j, hP⟩ := hM.goes.2
    have hleft := hP.left
    obtain ⟨f, rfl⟩ : ∃ f, fuel = f + 1 := ⟨fuel - 1, by omega⟩
    have cE := eat_walk hP wWhere
    rw [ht] at cE
    have HROW := Lib.hid hrow
    clear hrow
    cases hw : isIt t wWhere with
    | false =>
      have HV := Lib.hid (HROW.out.symm.trans (matchersR_end (by rw [ht]; exact hw)) : rr = .ok (ms, ts'))
      rw [hw, if_neg (by simp)] at cE
      go_wp2_with (go_at_call 51; refine cE.mono ?_; rintro e w2 ⟨rfl, hg2⟩; have hM2 := hM.move hg2)
      refine bodyPost_ret ?_ rfl (MsPost.good HV.out hM2.own hM2.goes)
      simp [results, Tryz.results50, go_sem]
    | true =>
      have hil := isIt_lt (ts := ts') (s := wWhere) (by rw [ht]; exact hw)
      rw [hw, if_pos rfl] at cE
      by_cases h4 : ms.length = 4
      · have HV := Lib.hid (HROW.out.symm.trans (matchersR_many (by rw [ht]; exact hw) h4) : rr = .error (6, (hdT ts').place))
        rw [ht] at HV
        have hl4 : ((ms.length : Int) == 4) = true := by rw [beq_iff_eq]; omega
        have cF := fun W => fail_walk 6 t W
        simp only [tokV, errV] at cF
        go_wp2_with (first
          | (go_at_call 51; refine cE.mono ?_; rintro e w2 ⟨rfl, hg2⟩; have hM2 := hM.move hg2; have t0 := hM2.tk.cell 0; have t1 := hM2.tk.cell 1; have t2 := hM2.tk.cell 2; have t3 := hM2.tk.cell 3; simp only [List.getElem?_toArray, List.getElem?_cons_zero, List.getElem?_cons_succ] at t0 t1 t2 t3; skip)
          | (go_at_call 84; refine (cF _).mono ?_; rintro e w3 ⟨rfl, hb3⟩; have hM3 := hM2.stay hb3))
        refine bodyPost_ret ?_ rfl (MsPost.bad (x := (6, t.place)) HV.out hM3.goes)
        simp [results, Tryz.results50, go_sem]
      · have hl4 : ((ms.length : Int) == 4) = false := by rw [beq_eq_false_iff_ne]; omega
        cases hk : kindR (nextR ts') 1 with
        | error x =>
          have HV := Lib.hid (HROW.out.symm.trans (matchersR_bad (by rw [ht]; exact hw) h4 (by unfold matcherR; rw [hk])) : rr = .error x)
          clear HROW
          go_wp2_with (first
            | (go_at_call 51; refine cE.mono ?_; rintro e w2 ⟨rfl, hg2⟩; have hM2 := hM.move hg2; have t0 := hM2.tk.cell 0; have t1 := hM2.tk.cell 1; have t2 := hM2.tk.cell 2; have t3 := hM2.tk.cell 3; simp only [List.getElem?_toArray, List.getElem?_cons_zero, List.getElem?_cons_succ] at t0 t1 t2 t3; obtain ⟨j2, hP2⟩ := hg2.2; have cK := kind_walk hP2 1; rw [hk] at cK; simp only [kindV, EndsK, tokV, errV] at cK; generalize hdT (nextR ts') = tj at cK)
            | (go_at_call 56; refine cK.mono ?_; rintro e w3 ⟨rfl, r3, hg3⟩; have hM3 := hM2.move hg3))
          refine bodyPost_ret ?_ rfl (MsPost.bad HV.out (hM3.stay ((Below.refl _ _).alloc (Nat.le_refl _) _)).goes)
          simp [results, Tryz.results50, go_sem]
        | ok y =>
          obtain ⟨hy1, hy2⟩ := kindR_ok hk
          obtain ⟨tj, rj⟩ := y
          dsimp only at hy1 hy2
          have hkl := kindR_lt (by decide) hk
          dsimp only at hkl
          cases hne : isIt (hdT rj) wNe with
          | true =>
            cases hx : textR (nextR rj) with
            | error x =>
              have HV := Lib.hid (HROW.out.symm.trans (matchersR_bad (by rw [ht]; exact hw) h4 (by unfold matcherR; rw [hk]; dsimp only; rw [if_pos hne, hx])) : rr = .error x)
              clear HROW
              go_wp2_with (first
                | (go_at_call 51; refine cE.mono ?_; rintro e w2 ⟨rfl, hg2⟩; have hM2 := hM.move hg2; have t0 := hM2.tk.cell 0; have t1 := hM2.tk.cell 1; have t2 := hM2.tk.cell 2; have t3 := hM2.tk.cell 3; simp only [List.getElem?_toArray, List.getElem?_cons_zero, List.getElem?_cons_succ] at t0 t1 t2 t3; obtain ⟨j2, hP2⟩ := hg2.2; have cK := kind_walk hP2 1; rw [hk] at cK; simp only [kindV, EndsK, tokV] at cK; rw [← hy1] at cK; clear hy1 hy2)
                | (go_at_call 56; refine cK.mono ?_; rintro e w3 ⟨rfl, hg3⟩; clear cK hP2))
              have hM3 := hM2.move hg3
              have hb33 := (Below.refl w3.heap.size w3).alloc (Nat.le_refl _) (.cells #[.int .i64 tj.kind, .string ⟨tj.says.toArray⟩, .int .i64 tj.n, .int .i64 tj.place] 95)
              have hM3' := hM3.stay hb33
              have hN3 := CellsAt.new w3 95 #[.int .i64 tj.kind, .string ⟨tj.says.toArray⟩, .int .i64 tj.n, .int .i64 tj.place]
              have hw3 : w.heap.size ≤ w3.heap.size := hM3.goes.1.size
              have hs3 : (w3.alloc (.cells #[.int .i64 tj.kind, .string ⟨tj.says.toArray⟩, .int .i64 tj.n, .int .i64 tj.place] 95)).heap.size = w3.heap.size + 1 := Array.size_push ..
              obtain ⟨tb, htb⟩ : ∃ tb, w3.heap.size = tb := ⟨_, rfl⟩
              generalize hW3 : w3.alloc (.cells #[.int .i64 tj.kind, .string ⟨tj.says.toArray⟩, .int .i64 tj.n, .int .i64 tj.place] 95) = W3 at hM3' hN3 hb33 hs3 ⊢
              rw [htb] at hN3 hw3 hs3 ⊢
              have n0 := hN3.cell 0; have n1 := hN3.cell 1; have n2 := hN3.cell 2; have n3 := hN3.cell 3; simp only [List.getElem?_toArray, List.getElem?_cons_zero, List.getElem?_cons_succ] at n0 n1 n2 n3
              have t0 := hM3'.tk.cell 0; have t1 := hM3'.tk.cell 1; have t2 := hM3'.tk.cell 2; have t3 := hM3'.tk.cell 3; simp only [List.getElem?_toArray, List.getElem?_cons_zero, List.getElem?_cons_succ] at t0 t1 t2 t3
              have hbt1 : bt ≠ tb + 1 := by have := hM3'.tk.lt; omega
              have hno1 : some (tb + 1) ≠ (Value.slice ao ms.length cp).ownBlock := by intro e; have := (hM3'.own.lt _ e.symm).2; omega
              have hb4 := (Below.refl W3.heap.size W3).alloc (Nat.le_refl _) (.cells #[.string ⟨#[]⟩, .bool false, .string ⟨#[]⟩] 75)
              have hM4 := (hM3'.stay hb4).stay (below_drew _)
              have hN4 := below_cells (below_cells hN3 hb4) (below_drew _)
              have hm4 := below_cells (CellsAt.new W3 75 #[.string ⟨#[]⟩, .bool false, .string ⟨#[]⟩]) (below_drew _)
              obtain ⟨j4, hP4⟩ := hM4.goes.2
              have cE2 := eat_walk hP4 wNe
              obtain ⟨j3, hP3⟩ := (hM3'.stay (below_drew W3)).goes.2
              have cE3 := eat_walk hP3 wNe
              rw [hne] at cE2 cE3
              have htp : tb ≠ p := by omega
              have hmp : tb + 1 ≠ p := by omega
              rw [hs3] at hm4
              clear hW3 hb33 hM3 hg3 hM2 hg2 hb4
              go_region_with (first
                | (go_at_call 51; refine cE3.mono ?_; rintro e w5 ⟨rfl, hg5⟩; have hM5 := (hM3'.stay (below_drew W3)).move hg5; have hN5 := cells_gb (below_cells hN3 (below_drew W3)) hg5.1 htp; clear hM4 hN4 hm4 hP4 hP3 cE2 cE3 hM3' hN3; have nn := (below_cells hN5 ((Below.refl w5.heap.size w5).alloc (Nat.le_refl _) (.cells #[.string ⟨#[]⟩, .bool false, .string ⟨#[]⟩] 75))).cell 1; simp only [List.getElem?_toArray, List.getElem?_cons_zero, List.getElem?_cons_succ] at nn; have n0 := hN5.cell 0; have n1 := hN5.cell 1; have n2 := hN5.cell 2; have n3 := hN5.cell 3; simp only [List.getElem?_toArray, List.getElem?_cons_zero, List.getElem?_cons_succ] at n0 n1 n2 n3; have t0 := hM5.tk.cell 0; have t1 := hM5.tk.cell 1; have t2 := hM5.tk.cell 2; have t3 := hM5.tk.cell 3; simp only [List.getElem?_toArray, List.getElem?_cons_zero, List.getElem?_cons_succ] at t0 t1 t2 t3)
                | (go_at_call 51; refine cE2.mono ?_; rintro e w5 ⟨rfl, hg5⟩; have hM5 := hM4.move hg5; have hN5 := cells_gb hN4 hg5.1 htp; have hm5 := cells_gb hm4 hg5.1 hmp; clear hM4 hN4 hm4 hP4 hP3 cE2 cE3 hM3' hN3; have n0 := hN5.cell 0; have n1 := hN5.cell 1; have n2 := hN5.cell 2; have n3 := hN5.cell 3; simp only [List.getElem?_toArray, List.getElem?_cons_zero, List.getElem?_cons_succ] at n0 n1 n2 n3; have t0 := hM5.tk.cell 0; have t1 := hM5.tk.cell 1; have t2 := hM5.tk.cell 2; have t3 := hM5.tk.cell 3; simp only [List.getElem?_toArray, List.getElem?_cons_zero, List.getElem?_cons_succ] at t0 t1 t2 t3; have m0 := hm5.cell 0; have m1 := hm5.cell 1; have m2 := hm5.cell 2; have x0 := hm5.frozen 0; have x1 := hm5.frozen 1; have x2 := hm5.frozen 2; simp only [List.getElem?_toArray, List.getElem?_cons_zero, List.getElem?_cons_succ] at m0 m1 m2))
              all_goals
                have hw5 : w.heap.size ≤ w5.heap.size := hM5.goes.1.size
                have hbp := hM5.bt
                first
                  | (have hno := hno1; have hz := hm5
                     have hbm : bt ≠ tb + 1 := hbt1
                     have hM6 := ((hM5.put (by omega) hno hbm 0 (.string ⟨tj.says.toArray⟩)).put (by omega) hno hbm 1 (.bool true)).put (by omega) hno hbm 2 (.string ⟨#[]⟩)
                     have hm6 := cells_set3 hm5 (.string ⟨tj.says.toArray⟩) (.bool true) (.string ⟨#[]⟩)
                     have hwm : w.heap.size ≤ tb + 1 := by omega
                     have hnoX := hno1
                     have hbmX := hbt1
                     clear hN5 hm5 hM5 hg5 n0 n1 n2 n3 t0 t1 t2 t3 m0 m1 m2 x0 x1 x2
                     generalize ((w5.setCell ⟨tb + 1, 0, none⟩ (.string ⟨tj.says.toArray⟩)).setCell ⟨tb + 1, 1, none⟩ (.bool true)).setCell ⟨tb + 1, 2, none⟩ (.string ⟨#[]⟩) = W6 at hM6 hm6 ⊢
                     generalize tb + 1 = mb at hm6 hwm hmp hnoX hbmX ⊢)
                  | (have hbm := (Below.refl w5.heap.size w5).alloc (Nat.le_refl _) (.cells #[.string ⟨tj.says.toArray⟩, .bool true, .string ⟨#[]⟩] 75)
                     have hM6 := hM5.stay hbm
                     have hm6 := CellsAt.new w5 75 #[.string ⟨tj.says.toArray⟩, .bool true, .string ⟨#[]⟩]
                     have hwm := hw5
                     have hnoX : some w5.heap.size ≠ (Value.slice ao ms.length cp).ownBlock := by intro e; have := (hM5.own.lt _ e.symm).2; omega
                     have hbmX : bt ≠ w5.heap.size := by have := hM5.tk.lt; omega
                     clear hmp
                     have hmp : w5.heap.size ≠ p := by omega
                     clear hbm hN5 hM5 hg5 nn n0 n1 n2 n3 t0 t1 t2 t3
                     generalize w5.alloc (.cells #[.string ⟨tj.says.toArray⟩, .bool true, .string ⟨#[]⟩] 75) = W6 at hM6 hm6 ⊢
                     generalize w5.heap.size = mb at hm6 hwm hmp hnoX hbmX ⊢)
              all_goals
                rw [if_pos trivial] at hM6
                have m0 := hm6.cell 0; have m1 := hm6.cell 1; have m2 := hm6.cell 2; have x0 := hm6.frozen 0; have x1 := hm6.frozen 1; have x2 := hm6.frozen 2; simp only [List.getElem?_toArray, List.getElem?_cons_zero, List.getElem?_cons_succ] at m0 m1 m2
                have t0 := hM6.tk.cell 0; have t1 := hM6.tk.cell 1; have t2 := hM6.tk.cell 2; have t3 := hM6.tk.cell 3; simp only [List.getElem?_toArray, List.getElem?_cons_zero, List.getElem?_cons_succ] at t0 t1 t2 t3
                obtain ⟨j6, hP6⟩ := hM6.goes.2
                have cT := text_walk hP6
                rw [hx] at cT
                simp only [textV, EndsT, errV] at cT
                go_wp2_with (go_at_call 55; refine cT.mono ?_; rintro e w7 ⟨rfl, r7, hg7⟩; have hM7 := hM6.move hg7; have hm7 := cells_gb hm6 hg7.1 hmp; have m0 := hm7.cell 0; have m1 := hm7.cell 1; have m2 := hm7.cell 2; have x0 := hm7.frozen 0; have x1 := hm7.frozen 1; have x2 := hm7.frozen 2; simp only [List.getElem?_toArray, List.getElem?_cons_zero, List.getElem?_cons_succ] at m0 m1 m2)
                refine bodyPost_ret ?_ rfl (MsPost.bad HV.out (hM7.goes.set hwm hpl 2 _))
                simp [results, Tryz.results50, go_sem]
            | ok x =>
              have HV : Hid (matchersR f (ms ++ [⟨tj.says, true, x.1⟩]) x.2 = rr) := Lib.hid (by rw [← HROW.out, matchersR_ok (x := (⟨tj.says, true, x.1⟩, x.2)) (by rw [ht]; exact hw) h4 (by unfold matcherR; rw [hk]; dsimp only; rw [if_pos hne, hx])])
              have hxl := textR_lt hx
              have hnl := isIt_lt hne
              clear HROW
              go_wp2_with (first
                | (go_at_call 51; refine cE.mono ?_; rintro e w2 ⟨rfl, hg2⟩; have hM2 := hM.move hg2; have t0 := hM2.tk.cell 0; have t1 := hM2.tk.cell 1; have t2 := hM2.tk.cell 2; have t3 := hM2.tk.cell 3; simp only [List.getElem?_toArray, List.getElem?_cons_zero, List.getElem?_cons_succ] at t0 t1 t2 t3; obtain ⟨j2, hP2⟩ := hg2.2; have cK := kind_walk hP2 1; rw [hk] at cK; simp only [kindV, EndsK, tokV] at cK; rw [← hy1] at cK; clear hy1 hy2)
                | (go_at_call 56; refine cK.mono ?_; rintro e w3 ⟨rfl, hg3⟩; clear cK hP2))
              have hM3 := hM2.move hg3
              have hb33 := (Below.refl w3.heap.size w3).alloc (Nat.le_refl _) (.cells #[.int .i64 tj.kind, .string ⟨tj.says.toArray⟩, .int .i64 tj.n, .int .i64 tj.place] 95)
              have hM3' := hM3.stay hb33
              have hN3 := CellsAt.new w3 95 #[.int .i64 tj.kind, .string ⟨tj.says.toArray⟩, .int .i64 tj.n, .int .i64 tj.place]
              have hw3 : w.heap.size ≤ w3.heap.size := hM3.goes.1.size
              have hs3 : (w3.alloc (.cells #[.int .i64 tj.kind, .string ⟨tj.says.toArray⟩, .int .i64 tj.n, .int .i64 tj.place] 95)).heap.size = w3.heap.size + 1 := Array.size_push ..
              obtain ⟨tb, htb⟩ : ∃ tb, w3.heap.size = tb := ⟨_, rfl⟩
              generalize hW3 : w3.alloc (.cells #[.int .i64 tj.kind, .string ⟨tj.says.toArray⟩, .int .i64 tj.n, .int .i64 tj.place] 95) = W3 at hM3' hN3 hb33 hs3 ⊢
              rw [htb] at hN3 hw3 hs3 ⊢
              have n0 := hN3.cell 0; have n1 := hN3.cell 1; have n2 := hN3.cell 2; have n3 := hN3.cell 3; simp only [List.getElem?_toArray, List.getElem?_cons_zero, List.getElem?_cons_succ] at n0 n1 n2 n3
              have t0 := hM3'.tk.cell 0; have t1 := hM3'.tk.cell 1; have t2 := hM3'.tk.cell 2; have t3 := hM3'.tk.cell 3; simp only [List.getElem?_toArray, List.getElem?_cons_zero, List.getElem?_cons_succ] at t0 t1 t2 t3
              have hbt1 : bt ≠ tb + 1 := by have := hM3'.tk.lt; omega
              have hno1 : some (tb + 1) ≠ (Value.slice ao ms.length cp).ownBlock := by intro e; have := (hM3'.own.lt _ e.symm).2; omega
              have hb4 := (Below.refl W3.heap.size W3).alloc (Nat.le_refl _) (.cells #[.string ⟨#[]⟩, .bool false, .string ⟨#[]⟩] 75)
              have hM4 := (hM3'.stay hb4).stay (below_drew _)
              have hN4 := below_cells (below_cells hN3 hb4) (below_drew _)
              have hm4 := below_cells (CellsAt.new W3 75 #[.string ⟨#[]⟩, .bool false, .string ⟨#[]⟩]) (below_drew _)
              obtain ⟨j4, hP4⟩ := hM4.goes.2
              have cE2 := eat_walk hP4 wNe
              obtain ⟨j3, hP3⟩ := (hM3'.stay (below_drew W3)).goes.2
              have cE3 := eat_walk hP3 wNe
              rw [hne] at cE2 cE3
              have htp : tb ≠ p := by omega
              have hmp : tb + 1 ≠ p := by omega
              rw [hs3] at hm4
              clear hW3 hb33 hM3 hg3 hM2 hg2 hb4
              go_region_with (first
                | (go_at_call 51; refine cE3.mono ?_; rintro e w5 ⟨rfl, hg5⟩; have hM5 := (hM3'.stay (below_drew W3)).move hg5; have hN5 := cells_gb (below_cells hN3 (below_drew W3)) hg5.1 htp; clear hM4 hN4 hm4 hP4 hP3 cE2 cE3 hM3' hN3; have nn := (below_cells hN5 ((Below.refl w5.heap.size w5).alloc (Nat.le_refl _) (.cells #[.string ⟨#[]⟩, .bool false, .string ⟨#[]⟩] 75))).cell 1; simp only [List.getElem?_toArray, List.getElem?_cons_zero, List.getElem?_cons_succ] at nn; have n0 := hN5.cell 0; have n1 := hN5.cell 1; have n2 := hN5.cell 2; have n3 := hN5.cell 3; simp only [List.getElem?_toArray, List.getElem?_cons_zero, List.getElem?_cons_succ] at n0 n1 n2 n3; have t0 := hM5.tk.cell 0; have t1 := hM5.tk.cell 1; have t2 := hM5.tk.cell 2; have t3 := hM5.tk.cell 3; simp only [List.getElem?_toArray, List.getElem?_cons_zero, List.getElem?_cons_succ] at t0 t1 t2 t3)
                | (go_at_call 51; refine cE2.mono ?_; rintro e w5 ⟨rfl, hg5⟩; have hM5 := hM4.move hg5; have hN5 := cells_gb hN4 hg5.1 htp; have hm5 := cells_gb hm4 hg5.1 hmp; clear hM4 hN4 hm4 hP4 hP3 cE2 cE3 hM3' hN3; have n0 := hN5.cell 0; have n1 := hN5.cell 1; have n2 := hN5.cell 2; have n3 := hN5.cell 3; simp only [List.getElem?_toArray, List.getElem?_cons_zero, List.getElem?_cons_succ] at n0 n1 n2 n3; have t0 := hM5.tk.cell 0; have t1 := hM5.tk.cell 1; have t2 := hM5.tk.cell 2; have t3 := hM5.tk.cell 3; simp only [List.getElem?_toArray, List.getElem?_cons_zero, List.getElem?_cons_succ] at t0 t1 t2 t3; have m0 := hm5.cell 0; have m1 := hm5.cell 1; have m2 := hm5.cell 2; have x0 := hm5.frozen 0; have x1 := hm5.frozen 1; have x2 := hm5.frozen 2; simp only [List.getElem?_toArray, List.getElem?_cons_zero, List.getElem?_cons_succ] at m0 m1 m2))
              all_goals
                have hw5 : w.heap.size ≤ w5.heap.size := hM5.goes.1.size
                have hbp := hM5.bt
                first
                  | (have hno := hno1; have hz := hm5
                     have hbm : bt ≠ tb + 1 := hbt1
                     have hM6 := ((hM5.put (by omega) hno hbm 0 (.string ⟨tj.says.toArray⟩)).put (by omega) hno hbm 1 (.bool true)).put (by omega) hno hbm 2 (.string ⟨#[]⟩)
                     have hm6 := cells_set3 hm5 (.string ⟨tj.says.toArray⟩) (.bool true) (.string ⟨#[]⟩)
                     have hwm : w.heap.size ≤ tb + 1 := by omega
                     have hnoX := hno1
                     have hbmX := hbt1
                     clear hN5 hm5 hM5 hg5 n0 n1 n2 n3 t0 t1 t2 t3 m0 m1 m2 x0 x1 x2
                     generalize ((w5.setCell ⟨tb + 1, 0, none⟩ (.string ⟨tj.says.toArray⟩)).setCell ⟨tb + 1, 1, none⟩ (.bool true)).setCell ⟨tb + 1, 2, none⟩ (.string ⟨#[]⟩) = W6 at hM6 hm6 ⊢
                     generalize tb + 1 = mb at hm6 hwm hmp hnoX hbmX ⊢)
                  | (have hbm := (Below.refl w5.heap.size w5).alloc (Nat.le_refl _) (.cells #[.string ⟨tj.says.toArray⟩, .bool true, .string ⟨#[]⟩] 75)
                     have hM6 := hM5.stay hbm
                     have hm6 := CellsAt.new w5 75 #[.string ⟨tj.says.toArray⟩, .bool true, .string ⟨#[]⟩]
                     have hwm := hw5
                     have hnoX : some w5.heap.size ≠ (Value.slice ao ms.length cp).ownBlock := by intro e; have := (hM5.own.lt _ e.symm).2; omega
                     have hbmX : bt ≠ w5.heap.size := by have := hM5.tk.lt; omega
                     clear hmp
                     have hmp : w5.heap.size ≠ p := by omega
                     clear hbm hN5 hM5 hg5 nn n0 n1 n2 n3 t0 t1 t2 t3
                     generalize w5.alloc (.cells #[.string ⟨tj.says.toArray⟩, .bool true, .string ⟨#[]⟩] 75) = W6 at hM6 hm6 ⊢
                     generalize w5.heap.size = mb at hm6 hwm hmp hnoX hbmX ⊢)
              all_goals
                rw [if_pos trivial] at hM6
                have m0 := hm6.cell 0; have m1 := hm6.cell 1; have m2 := hm6.cell 2; have x0 := hm6.frozen 0; have x1 := hm6.frozen 1; have x2 := hm6.frozen 2; simp only [List.getElem?_toArray, List.getElem?_cons_zero, List.getElem?_cons_succ] at m0 m1 m2
                have t0 := hM6.tk.cell 0; have t1 := hM6.tk.cell 1; have t2 := hM6.tk.cell 2; have t3 := hM6.tk.cell 3; simp only [List.getElem?_toArray, List.getElem?_cons_zero, List.getElem?_cons_succ] at t0 t1 t2 t3
                obtain ⟨j6, hP6⟩ := hM6.goes.2
                have cT := text_walk hP6
                rw [hx] at cT
                simp only [textV, EndsT] at cT
                go_wp2_with fail
                refine cT.mono ?_
                rintro e w7 ⟨rfl, hg7⟩
                have hM7 := hM6.move hg7
                have hm7 := cells_gb hm6 hg7.1 hmp
                have m0 := hm7.cell 0; have m1 := hm7.cell 1; have m2 := hm7.cell 2; have x0 := hm7.frozen 0; have x1 := hm7.frozen 1; have x2 := hm7.frozen 2; simp only [List.getElem?_toArray, List.getElem?_cons_zero, List.getElem?_cons_succ] at m0 m1 m2
                have hM8 := hM7.put hwm hnoX hbmX 2 (.string ⟨x.1.toArray⟩)
                have hm8 := hm7.set 2 (.string ⟨x.1.toArray⟩)
                simp only [List.setIfInBounds_toArray, List.set_cons_zero, List.set_cons_succ] at hm8
                obtain ⟨W8, hW8⟩ : ∃ W8, w7.setCell ⟨mb, 2, none⟩ (.string ⟨x.1.toArray⟩) = W8 := ⟨_, rfl⟩
                rw [hW8] at hM8 hm8
                have m0 := hm8.cell 0; have m1 := hm8.cell 1; have m2 := hm8.cell 2; simp only [List.getElem?_toArray, List.getElem?_cons_zero, List.getElem?_cons_succ] at m0 m1 m2
                have hM9 := hM8.stay ((Below.refl W8.heap.size W8).alloc (Nat.le_refl _) (.cells #[.string ⟨tj.says.toArray⟩, .bool true, .string ⟨x.1.toArray⟩] 75))
                have hnews := news3g W8 W8.heap.size rfl 75 (.string ⟨tj.says.toArray⟩) (.bool true) (.string ⟨x.1.toArray⟩)
                have hz8 : w.heap.size ≤ W8.heap.size := hM8.goes.1.size
                obtain ⟨W9, hW9⟩ : ∃ W9, W8.alloc (.cells #[.string ⟨tj.says.toArray⟩, .bool true, .string ⟨x.1.toArray⟩] 75) = W9 := ⟨_, rfl⟩
                have hz9 : w.heap.size ≤ W9.heap.size := by rw [← hW9]; exact Nat.le_trans hz8 (by simp)
                rw [hW9] at hM9 hnews
                go_wp2_with (at_builtin; go_loud (refine wpList_append_own_at _ rfl _ _ 23 rfl (w.heap.size) 75 i0 _ 3 40 Tryz.underlying23 hi hz0 hz1 hz2 rfl (by decide) _ _ _ rfl hM9.own ⟨W8.heap.size, 0, none⟩ 1 1 [.string ⟨tj.says.toArray⟩, .bool true, .string ⟨x.1.toArray⟩] rfl rfl hnews (ones_m _ _ _) (by unfold maxLen; omega) (by omega) (by omega) ?_; intro v3 w10 hown3 hgr3 _ hat3; have hM10 := hM9.snoc ⟨tj.says, true, x.1⟩ hown3 hgr3; have t0 := hM10.tk.cell 0; have t1 := hM10.tk.cell 1; have t2 := hM10.tk.cell 2; have t3 := hM10.tk.cell 3; simp only [List.getElem?_toArray, List.getElem?_cons_zero, List.getElem?_cons_succ] at t0 t1 t2 t3; have hM11 := hM10.token t; obtain ⟨W11, hW11⟩ : ∃ W11, w10.alloc (.cells #[.int .i64 t.kind, .string ⟨t.says.toArray⟩, .int .i64 t.n, .int .i64 t.place] 95) = W11 := ⟨_, rfl⟩; rw [hW11] at hM11; obtain ⟨nb, hnb⟩ : ∃ nb, w10.heap.size = nb := ⟨_, rfl⟩; rw [hnb] at hM11; obtain ⟨j11, hP11⟩ := hM11.goes.2; have cP := peek_walk hP11; obtain ⟨tn, htn⟩ : ∃ tn, hdT x.2 = tn := ⟨_, rfl⟩; rw [htn] at cP; simp only [tokV] at cP; have HTN := Lib.hid htn; clear htn))
                go_wp2_with (go_at_call 83; refine cP.mono ?_; rintro e w12 ⟨rfl, hb12⟩; have hM12 := hM11.stay hb12; have y0 := hM12.tk.frozen 0; have y1 := hM12.tk.frozen 1; have y2 := hM12.tk.frozen 2; have y3 := hM12.tk.frozen 3; have c0 := hM12.tk.cell 0; have c1 := hM12.tk.cell 1; have c2 := hM12.tk.cell 2; have c3 := hM12.tk.cell 3; simp only [List.getElem?_toArray, List.getElem?_cons_zero, List.getElem?_cons_succ] at c0 c1 c2 c3)
                have hM13 := hM12.four tn
                go_roundw
                case rel => exact ⟨ms ++ [⟨tj.says, true, x.1⟩], x.2, f, nb, tn, rfl, hM13, HTN.out, HV.out, by omega, by rw [List.length_append, List.length_singleton]; omega⟩
                case measure => rw [hM13.back, hleft]; omega
          | false =>
            have hnf : ¬ (isIt (hdT rj) wNe = true) := by rw [hne]; decide
            cases hmu : mustR rj wEq with
            | error x =>
              have HV := Lib.hid (HROW.out.symm.trans (matchersR_bad (by rw [ht]; exact hw) h4 (by unfold matcherR; rw [hk]; dsimp only; rw [if_neg hnf, hmu])) : rr = .error x)
              clear HROW
              go_wp2_with (first
                | (go_at_call 51; refine cE.mono ?_; rintro e w2 ⟨rfl, hg2⟩; have hM2 := hM.move hg2; have t0 := hM2.tk.cell 0; have t1 := hM2.tk.cell 1; have t2 := hM2.tk.cell 2; have t3 := hM2.tk.cell 3; simp only [List.getElem?_toArray, List.getElem?_cons_zero, List.getElem?_cons_succ] at t0 t1 t2 t3; obtain ⟨j2, hP2⟩ := hg2.2; have cK := kind_walk hP2 1; rw [hk] at cK; simp only [kindV, EndsK, tokV] at cK; rw [← hy1] at cK; clear hy1 hy2)
                | (go_at_call 56; refine cK.mono ?_; rintro e w3 ⟨rfl, hg3⟩; clear cK hP2))
              have hM3 := hM2.move hg3
              have hb33 := (Below.refl w3.heap.size w3).alloc (Nat.le_refl _) (.cells #[.int .i64 tj.kind, .string ⟨tj.says.toArray⟩, .int .i64 tj.n, .int .i64 tj.place] 95)
              have hM3' := hM3.stay hb33
              have hN3 := CellsAt.new w3 95 #[.int .i64 tj.kind, .string ⟨tj.says.toArray⟩, .int .i64 tj.n, .int .i64 tj.place]
              have hw3 : w.heap.size ≤ w3.heap.size := hM3.goes.1.size
              have hs3 : (w3.alloc (.cells #[.int .i64 tj.kind, .string ⟨tj.says.toArray⟩, .int .i64 tj.n, .int .i64 tj.place] 95)).heap.size = w3.heap.size + 1 := Array.size_push ..
              obtain ⟨tb, htb⟩ : ∃ tb, w3.heap.size = tb := ⟨_, rfl⟩
              generalize hW3 : w3.alloc (.cells #[.int .i64 tj.kind, .string ⟨tj.says.toArray⟩, .int .i64 tj.n, .int .i64 tj.place] 95) = W3 at hM3' hN3 hb33 hs3 ⊢
              rw [htb] at hN3 hw3 hs3 ⊢
              have n0 := hN3.cell 0; have n1 := hN3.cell 1; have n2 := hN3.cell 2; have n3 := hN3.cell 3; simp only [List.getElem?_toArray, List.getElem?_cons_zero, List.getElem?_cons_succ] at n0 n1 n2 n3
              have t0 := hM3'.tk.cell 0; have t1 := hM3'.tk.cell 1; have t2 := hM3'.tk.cell 2; have t3 := hM3'.tk.cell 3; simp only [List.getElem?_toArray, List.getElem?_cons_zero, List.getElem?_cons_succ] at t0 t1 t2 t3
              have hbt1 : bt ≠ tb + 1 := by have := hM3'.tk.lt; omega
              have hno1 : some (tb + 1) ≠ (Value.slice ao ms.length cp).ownBlock := by intro e; have := (hM3'.own.lt _ e.symm).2; omega
              have hb4 := (Below.refl W3.heap.size W3).alloc (Nat.le_refl _) (.cells #[.string ⟨#[]⟩, .bool false, .string ⟨#[]⟩] 75)
              have hM4 := (hM3'.stay hb4).stay (below_drew _)
              have hN4 := below_cells (below_cells hN3 hb4) (below_drew _)
              have hm4 := below_cells (CellsAt.new W3 75 #[.string ⟨#[]⟩, .bool false, .string ⟨#[]⟩]) (below_drew _)
              obtain ⟨j4, hP4⟩ := hM4.goes.2
              have cE2 := eat_walk hP4 wNe
              obtain ⟨j3, hP3⟩ := (hM3'.stay (below_drew W3)).goes.2
              have cE3 := eat_walk hP3 wNe
              rw [hne] at cE2 cE3
              have htp : tb ≠ p := by omega
              have hmp : tb + 1 ≠ p := by omega
              rw [hs3] at hm4
              clear hW3 hb33 hM3 hg3 hM2 hg2 hb4
              go_region_with (first
                | (go_at_call 51; refine cE3.mono ?_; rintro e w5 ⟨rfl, hg5⟩; have hM5 := (hM3'.stay (below_drew W3)).move hg5; have hN5 := cells_gb (below_cells hN3 (below_drew W3)) hg5.1 htp; clear hM4 hN4 hm4 hP4 hP3 cE2 cE3 hM3' hN3; have nn := (below_cells hN5 ((Below.refl w5.heap.size w5).alloc (Nat.le_refl _) (.cells #[.string ⟨#[]⟩, .bool false, .string ⟨#[]⟩] 75))).cell 1; simp only [List.getElem?_toArray, List.getElem?_cons_zero, List.getElem?_cons_succ] at nn; have n0 := hN5.cell 0; have n1 := hN5.cell 1; have n2 := hN5.cell 2; have n3 := hN5.cell 3; simp only [List.getElem?_toArray, List.getElem?_cons_zero, List.getElem?_cons_succ] at n0 n1 n2 n3; have t0 := hM5.tk.cell 0; have t1 := hM5.tk.cell 1; have t2 := hM5.tk.cell 2; have t3 := hM5.tk.cell 3; simp only [List.getElem?_toArray, List.getElem?_cons_zero, List.getElem?_cons_succ] at t0 t1 t2 t3)
                | (go_at_call 51; refine cE2.mono ?_; rintro e w5 ⟨rfl, hg5⟩; have hM5 := hM4.move hg5; have hN5 := cells_gb hN4 hg5.1 htp; have hm5 := cells_gb hm4 hg5.1 hmp; clear hM4 hN4 hm4 hP4 hP3 cE2 cE3 hM3' hN3; have n0 := hN5.cell 0; have n1 := hN5.cell 1; have n2 := hN5.cell 2; have n3 := hN5.cell 3; simp only [List.getElem?_toArray, List.getElem?_cons_zero, List.getElem?_cons_succ] at n0 n1 n2 n3; have t0 := hM5.tk.cell 0; have t1 := hM5.tk.cell 1; have t2 := hM5.tk.cell 2; have t3 := hM5.tk.cell 3; simp only [List.getElem?_toArray, List.getElem?_cons_zero, List.getElem?_cons_succ] at t0 t1 t2 t3; have m0 := hm5.cell 0; have m1 := hm5.cell 1; have m2 := hm5.cell 2; have x0 := hm5.frozen 0; have x1 := hm5.frozen 1; have x2 := hm5.frozen 2; simp only [List.getElem?_toArray, List.getElem?_cons_zero, List.getElem?_cons_succ] at m0 m1 m2))
              all_goals
                have hw5 : w.heap.size ≤ w5.heap.size := hM5.goes.1.size
                have hbp := hM5.bt
                first
                  | (have hno := hno1; have hz := hm5
                     have hbm : bt ≠ tb + 1 := hbt1
                     have hM6 := ((hM5.put (by omega) hno hbm 0 (.string ⟨tj.says.toArray⟩)).put (by omega) hno hbm 1 (.bool false)).put (by omega) hno hbm 2 (.string ⟨#[]⟩)
                     have hm6 := cells_set3 hm5 (.string ⟨tj.says.toArray⟩) (.bool false) (.string ⟨#[]⟩)
                     have hwm : w.heap.size ≤ tb + 1 := by omega
                     have hnoX := hno1
                     have hbmX := hbt1
                     clear hN5 hm5 hM5 hg5 n0 n1 n2 n3 t0 t1 t2 t3 m0 m1 m2 x0 x1 x2
                     generalize ((w5.setCell ⟨tb + 1, 0, none⟩ (.string ⟨tj.says.toArray⟩)).setCell ⟨tb + 1, 1, none⟩ (.bool false)).setCell ⟨tb + 1, 2, none⟩ (.string ⟨#[]⟩) = W6 at hM6 hm6 ⊢
                     generalize tb + 1 = mb at hm6 hwm hmp hnoX hbmX ⊢)
                  | (have hbm := (Below.refl w5.heap.size w5).alloc (Nat.le_refl _) (.cells #[.string ⟨tj.says.toArray⟩, .bool false, .string ⟨#[]⟩] 75)
                     have hM6 := hM5.stay hbm
                     have hm6 := CellsAt.new w5 75 #[.string ⟨tj.says.toArray⟩, .bool false, .string ⟨#[]⟩]
                     have hwm := hw5
                     have hnoX : some w5.heap.size ≠ (Value.slice ao ms.length cp).ownBlock := by intro e; have := (hM5.own.lt _ e.symm).2; omega
                     have hbmX : bt ≠ w5.heap.size := by have := hM5.tk.lt; omega
                     clear hmp
                     have hmp : w5.heap.size ≠ p := by omega
                     clear hbm hN5 hM5 hg5 nn n0 n1 n2 n3 t0 t1 t2 t3
                     generalize w5.alloc (.cells #[.string ⟨tj.says.toArray⟩, .bool false, .string ⟨#[]⟩] 75) = W6 at hM6 hm6 ⊢
                     generalize w5.heap.size = mb at hm6 hwm hmp hnoX hbmX ⊢)
              all_goals
                rw [if_neg (by simp)] at hM6
                have m0 := hm6.cell 0; have m1 := hm6.cell 1; have m2 := hm6.cell 2; have x0 := hm6.frozen 0; have x1 := hm6.frozen 1; have x2 := hm6.frozen 2; simp only [List.getElem?_toArray, List.getElem?_cons_zero, List.getElem?_cons_succ] at m0 m1 m2
                have t0 := hM6.tk.cell 0; have t1 := hM6.tk.cell 1; have t2 := hM6.tk.cell 2; have t3 := hM6.tk.cell 3; simp only [List.getElem?_toArray, List.getElem?_cons_zero, List.getElem?_cons_succ] at t0 t1 t2 t3
                obtain ⟨j6, hP6⟩ := hM6.goes.2
                have cM := must_walk hP6 wEq
                rw [hmu] at cM
                simp only [mustV, Ends, errV] at cM
                go_wp2_with (go_at_call 85; refine cM.mono ?_; rintro e w7 ⟨rfl, r7, hg7⟩; have hM7 := hM6.move hg7)
                refine bodyPost_ret ?_ rfl (MsPost.bad HV.out hM7.goes)
                simp [results, Tryz.results50, go_sem]
            | ok r =>
              have hml := mustR_lt hmu
              cases hx : textR r with
              | error x =>
                have HV := Lib.hid (HROW.out.symm.trans (matchersR_bad (by rw [ht]; exact hw) h4 (by unfold matcherR; rw [hk]; dsimp only; rw [if_neg hnf, hmu]; dsimp only; rw [hx])) : rr = .error x)
                clear HROW
                go_wp2_with (first
                  | (go_at_call 51; refine cE.mono ?_; rintro e w2 ⟨rfl, hg2⟩; have hM2 := hM.move hg2; have t0 := hM2.tk.cell 0; have t1 := hM2.tk.cell 1; have t2 := hM2.tk.cell 2; have t3 := hM2.tk.cell 3; simp only [List.getElem?_toArray, List.getElem?_cons_zero, List.getElem?_cons_succ] at t0 t1 t2 t3; obtain ⟨j2, hP2⟩ := hg2.2; have cK := kind_walk hP2 1; rw [hk] at cK; simp only [kindV, EndsK, tokV] at cK; rw [← hy1] at cK; clear hy1 hy2)
                  | (go_at_call 56; refine cK.mono ?_; rintro e w3 ⟨rfl, hg3⟩; clear cK hP2))
                have hM3 := hM2.move hg3
                have hb33 := (Below.refl w3.heap.size w3).alloc (Nat.le_refl _) (.cells #[.int .i64 tj.kind, .string ⟨tj.says.toArray⟩, .int .i64 tj.n, .int .i64 tj.place] 95)
                have hM3' := hM3.stay hb33
                have hN3 := CellsAt.new w3 95 #[.int .i64 tj.kind, .string ⟨tj.says.toArray⟩, .int .i64 tj.n, .int .i64 tj.place]
                have hw3 : w.heap.size ≤ w3.heap.size := hM3.goes.1.size
                have hs3 : (w3.alloc (.cells #[.int .i64 tj.kind, .string ⟨tj.says.toArray⟩, .int .i64 tj.n, .int .i64 tj.place] 95)).heap.size = w3.heap.size + 1 := Array.size_push ..
                obtain ⟨tb, htb⟩ : ∃ tb, w3.heap.size = tb := ⟨_, rfl⟩
                generalize hW3 : w3.alloc (.cells #[.int .i64 tj.kind, .string ⟨tj.says.toArray⟩, .int .i64 tj.n, .int .i64 tj.place] 95) = W3 at hM3' hN3 hb33 hs3 ⊢
                rw [htb] at hN3 hw3 hs3 ⊢
                have n0 := hN3.cell 0; have n1 := hN3.cell 1; have n2 := hN3.cell 2; have n3 := hN3.cell 3; simp only [List.getElem?_toArray, List.getElem?_cons_zero, List.getElem?_cons_succ] at n0 n1 n2 n3
                have t0 := hM3'.tk.cell 0; have t1 := hM3'.tk.cell 1; have t2 := hM3'.tk.cell 2; have t3 := hM3'.tk.cell 3; simp only [List.getElem?_toArray, List.getElem?_cons_zero, List.getElem?_cons_succ] at t0 t1 t2 t3
                have hbt1 : bt ≠ tb + 1 := by have := hM3'.tk.lt; omega
                have hno1 : some (tb + 1) ≠ (Value.slice ao ms.length cp).ownBlock := by intro e; have := (hM3'.own.lt _ e.symm).2; omega
                have hb4 := (Below.refl W3.heap.size W3).alloc (Nat.le_refl _) (.cells #[.string ⟨#[]⟩, .bool false, .string ⟨#[]⟩] 75)
                have hM4 := (hM3'.stay hb4).stay (below_drew _)
                have hN4 := below_cells (below_cells hN3 hb4) (below_drew _)
                have hm4 := below_cells (CellsAt.new W3 75 #[.string ⟨#[]⟩, .bool false, .string ⟨#[]⟩]) (below_drew _)
                obtain ⟨j4, hP4⟩ := hM4.goes.2
                have cE2 := eat_walk hP4 wNe
                obtain ⟨j3, hP3⟩ := (hM3'.stay (below_drew W3)).goes.2
                have cE3 := eat_walk hP3 wNe
                rw [hne] at cE2 cE3
                have htp : tb ≠ p := by omega
                have hmp : tb + 1 ≠ p := by omega
                rw [hs3] at hm4
                clear hW3 hb33 hM3 hg3 hM2 hg2 hb4
                go_region_with (first
                  | (go_at_call 51; refine cE3.mono ?_; rintro e w5 ⟨rfl, hg5⟩; have hM5 := (hM3'.stay (below_drew W3)).move hg5; have hN5 := cells_gb (below_cells hN3 (below_drew W3)) hg5.1 htp; clear hM4 hN4 hm4 hP4 hP3 cE2 cE3 hM3' hN3; have nn := (below_cells hN5 ((Below.refl w5.heap.size w5).alloc (Nat.le_refl _) (.cells #[.string ⟨#[]⟩, .bool false, .string ⟨#[]⟩] 75))).cell 1; simp only [List.getElem?_toArray, List.getElem?_cons_zero, List.getElem?_cons_succ] at nn; have n0 := hN5.cell 0; have n1 := hN5.cell 1; have n2 := hN5.cell 2; have n3 := hN5.cell 3; simp only [List.getElem?_toArray, List.getElem?_cons_zero, List.getElem?_cons_succ] at n0 n1 n2 n3; have t0 := hM5.tk.cell 0; have t1 := hM5.tk.cell 1; have t2 := hM5.tk.cell 2; have t3 := hM5.tk.cell 3; simp only [List.getElem?_toArray, List.getElem?_cons_zero, List.getElem?_cons_succ] at t0 t1 t2 t3)
                  | (go_at_call 51; refine cE2.mono ?_; rintro e w5 ⟨rfl, hg5⟩; have hM5 := hM4.move hg5; have hN5 := cells_gb hN4 hg5.1 htp; have hm5 := cells_gb hm4 hg5.1 hmp; clear hM4 hN4 hm4 hP4 hP3 cE2 cE3 hM3' hN3; have n0 := hN5.cell 0; have n1 := hN5.cell 1; have n2 := hN5.cell 2; have n3 := hN5.cell 3; simp only [List.getElem?_toArray, List.getElem?_cons_zero, List.getElem?_cons_succ] at n0 n1 n2 n3; have t0 := hM5.tk.cell 0; have t1 := hM5.tk.cell 1; have t2 := hM5.tk.cell 2; have t3 := hM5.tk.cell 3; simp only [List.getElem?_toArray, List.getElem?_cons_zero, List.getElem?_cons_succ] at t0 t1 t2 t3; have m0 := hm5.cell 0; have m1 := hm5.cell 1; have m2 := hm5.cell 2; have x0 := hm5.frozen 0; have x1 := hm5.frozen 1; have x2 := hm5.frozen 2; simp only [List.getElem?_toArray, List.getElem?_cons_zero, List.getElem?_cons_succ] at m0 m1 m2))
                all_goals
                  have hw5 : w.heap.size ≤ w5.heap.size := hM5.goes.1.size
                  have hbp := hM5.bt
                  first
                    | (have hno := hno1; have hz := hm5
                       have hbm : bt ≠ tb + 1 := hbt1
                       have hM6 := ((hM5.put (by omega) hno hbm 0 (.string ⟨tj.says.toArray⟩)).put (by omega) hno hbm 1 (.bool false)).put (by omega) hno hbm 2 (.string ⟨#[]⟩)
                       have hm6 := cells_set3 hm5 (.string ⟨tj.says.toArray⟩) (.bool false) (.string ⟨#[]⟩)
                       have hwm : w.heap.size ≤ tb + 1 := by omega
                       have hnoX := hno1
                       have hbmX := hbt1
                       clear hN5 hm5 hM5 hg5 n0 n1 n2 n3 t0 t1 t2 t3 m0 m1 m2 x0 x1 x2
                       generalize ((w5.setCell ⟨tb + 1, 0, none⟩ (.string ⟨tj.says.toArray⟩)).setCell ⟨tb + 1, 1, none⟩ (.bool false)).setCell ⟨tb + 1, 2, none⟩ (.string ⟨#[]⟩) = W6 at hM6 hm6 ⊢
                       generalize tb + 1 = mb at hm6 hwm hmp hnoX hbmX ⊢)
                    | (have hbm := (Below.refl w5.heap.size w5).alloc (Nat.le_refl _) (.cells #[.string ⟨tj.says.toArray⟩, .bool false, .string ⟨#[]⟩] 75)
                       have hM6 := hM5.stay hbm
                       have hm6 := CellsAt.new w5 75 #[.string ⟨tj.says.toArray⟩, .bool false, .string ⟨#[]⟩]
                       have hwm := hw5
                       have hnoX : some w5.heap.size ≠ (Value.slice ao ms.length cp).ownBlock := by intro e; have := (hM5.own.lt _ e.symm).2; omega
                       have hbmX : bt ≠ w5.heap.size := by have := hM5.tk.lt; omega
                       clear hmp
                       have hmp : w5.heap.size ≠ p := by omega
                       clear hbm hN5 hM5 hg5 nn n0 n1 n2 n3 t0 t1 t2 t3
                       generalize w5.alloc (.cells #[.string ⟨tj.says.toArray⟩, .bool false, .string ⟨#[]⟩] 75) = W6 at hM6 hm6 ⊢
                       generalize w5.heap.size = mb at hm6 hwm hmp hnoX hbmX ⊢)
                all_goals
                  rw [if_neg (by simp)] at hM6
                  have m0 := hm6.cell 0; have m1 := hm6.cell 1; have m2 := hm6.cell 2; have x0 := hm6.frozen 0; have x1 := hm6.frozen 1; have x2 := hm6.frozen 2; simp only [List.getElem?_toArray, List.getElem?_cons_zero, List.getElem?_cons_succ] at m0 m1 m2
                  have t0 := hM6.tk.cell 0; have t1 := hM6.tk.cell 1; have t2 := hM6.tk.cell 2; have t3 := hM6.tk.cell 3; simp only [List.getElem?_toArray, List.getElem?_cons_zero, List.getElem?_cons_succ] at t0 t1 t2 t3
                  obtain ⟨j6, hP6⟩ := hM6.goes.2
                  have cM := must_walk hP6 wEq
                  rw [hmu] at cM
                  simp only [mustV, Ends] at cM
                  go_wp2_with (first
                    | (go_at_call 85; refine cM.mono ?_; rintro e w7 ⟨rfl, hg7⟩; have hM7 := hM6.move hg7; have hm7 := cells_gb hm6 hg7.1 hmp; have m0 := hm7.cell 0; have m1 := hm7.cell 1; have m2 := hm7.cell 2; have x0 := hm7.frozen 0; have x1 := hm7.frozen 1; have x2 := hm7.frozen 2; simp only [List.getElem?_toArray, List.getElem?_cons_zero, List.getElem?_cons_succ] at m0 m1 m2; obtain ⟨j7, hP7⟩ := hM7.goes.2; have cT := text_walk hP7; rw [hx] at cT; simp only [textV, EndsT, errV] at cT)
                    | (go_at_call 55; refine cT.mono ?_; rintro e w8 ⟨rfl, r8, hg8⟩; have hM8 := hM7.move hg8; have hm8 := cells_gb hm7 hg8.1 hmp; have m0 := hm8.cell 0; have m1 := hm8.cell 1; have m2 := hm8.cell 2; have x0 := hm8.frozen 0; have x1 := hm8.frozen 1; have x2 := hm8.frozen 2; simp only [List.getElem?_toArray, List.getElem?_cons_zero, List.getElem?_cons_succ] at m0 m1 m2))
                  refine bodyPost_ret ?_ rfl (MsPost.bad HV.out (hM8.goes.set hwm hpl 2 _))
                  simp [results, Tryz.results50, go_sem]
              | ok x =>
                have HV : Hid (matchersR f (ms ++ [⟨tj.says, false, x.1⟩]) x.2 = rr) := Lib.hid (by rw [← HROW.out, matchersR_ok (x := (⟨tj.says, false, x.1⟩, x.2)) (by rw [ht]; exact hw) h4 (by unfold matcherR; rw [hk]; dsimp only; rw [if_neg hnf, hmu]; dsimp only; rw [hx])])
                have hxl := textR_lt hx
                clear HROW
                go_wp2_with (first
                  | (go_at_call 51; refine cE.mono ?_; rintro e w2 ⟨rfl, hg2⟩; have hM2 := hM.move hg2; have t0 := hM2.tk.cell 0; have t1 := hM2.tk.cell 1; have t2 := hM2.tk.cell 2; have t3 := hM2.tk.cell 3; simp only [List.getElem?_toArray, List.getElem?_cons_zero, List.getElem?_cons_succ] at t0 t1 t2 t3; obtain ⟨j2, hP2⟩ := hg2.2; have cK := kind_walk hP2 1; rw [hk] at cK; simp only [kindV, EndsK, tokV] at cK; rw [← hy1] at cK; clear hy1 hy2)
                  | (go_at_call 56; refine cK.mono ?_; rintro e w3 ⟨rfl, hg3⟩; clear cK hP2))
                have hM3 := hM2.move hg3
                have hb33 := (Below.refl w3.heap.size w3).alloc (Nat.le_refl _) (.cells #[.int .i64 tj.kind, .string ⟨tj.says.toArray⟩, .int .i64 tj.n, .int .i64 tj.place] 95)
                have hM3' := hM3.stay hb33
                have hN3 := CellsAt.new w3 95 #[.int .i64 tj.kind, .string ⟨tj.says.toArray⟩, .int .i64 tj.n, .int .i64 tj.place]
                have hw3 : w.heap.size ≤ w3.heap.size := hM3.goes.1.size
                have hs3 : (w3.alloc (.cells #[.int .i64 tj.kind, .string ⟨tj.says.toArray⟩, .int .i64 tj.n, .int .i64 tj.place] 95)).heap.size = w3.heap.size + 1 := Array.size_push ..
                obtain ⟨tb, htb⟩ : ∃ tb, w3.heap.size = tb := ⟨_, rfl⟩
                generalize hW3 : w3.alloc (.cells #[.int .i64 tj.kind, .string ⟨tj.says.toArray⟩, .int .i64 tj.n, .int .i64 tj.place] 95) = W3 at hM3' hN3 hb33 hs3 ⊢
                rw [htb] at hN3 hw3 hs3 ⊢
                have n0 := hN3.cell 0; have n1 := hN3.cell 1; have n2 := hN3.cell 2; have n3 := hN3.cell 3; simp only [List.getElem?_toArray, List.getElem?_cons_zero, List.getElem?_cons_succ] at n0 n1 n2 n3
                have t0 := hM3'.tk.cell 0; have t1 := hM3'.tk.cell 1; have t2 := hM3'.tk.cell 2; have t3 := hM3'.tk.cell 3; simp only [List.getElem?_toArray, List.getElem?_cons_zero, List.getElem?_cons_succ] at t0 t1 t2 t3
                have hbt1 : bt ≠ tb + 1 := by have := hM3'.tk.lt; omega
                have hno1 : some (tb + 1) ≠ (Value.slice ao ms.length cp).ownBlock := by intro e; have := (hM3'.own.lt _ e.symm).2; omega
                have hb4 := (Below.refl W3.heap.size W3).alloc (Nat.le_refl _) (.cells #[.string ⟨#[]⟩, .bool false, .string ⟨#[]⟩] 75)
                have hM4 := (hM3'.stay hb4).stay (below_drew _)
                have hN4 := below_cells (below_cells hN3 hb4) (below_drew _)
                have hm4 := below_cells (CellsAt.new W3 75 #[.string ⟨#[]⟩, .bool false, .string ⟨#[]⟩]) (below_drew _)
                obtain ⟨j4, hP4⟩ := hM4.goes.2
                have cE2 := eat_walk hP4 wNe
                obtain ⟨j3, hP3⟩ := (hM3'.stay (below_drew W3)).goes.2
                have cE3 := eat_walk hP3 wNe
                rw [hne] at cE2 cE3
                have htp : tb ≠ p := by omega
                have hmp : tb + 1 ≠ p := by omega
                rw [hs3] at hm4
                clear hW3 hb33 hM3 hg3 hM2 hg2 hb4
                go_region_with (first
                  | (go_at_call 51; refine cE3.mono ?_; rintro e w5 ⟨rfl, hg5⟩; have hM5 := (hM3'.stay (below_drew W3)).move hg5; have hN5 := cells_gb (below_cells hN3 (below_drew W3)) hg5.1 htp; clear hM4 hN4 hm4 hP4 hP3 cE2 cE3 hM3' hN3; have nn := (below_cells hN5 ((Below.refl w5.heap.size w5).alloc (Nat.le_refl _) (.cells #[.string ⟨#[]⟩, .bool false, .string ⟨#[]⟩] 75))).cell 1; simp only [List.getElem?_toArray, List.getElem?_cons_zero, List.getElem?_cons_succ] at nn; have n0 := hN5.cell 0; have n1 := hN5.cell 1; have n2 := hN5.cell 2; have n3 := hN5.cell 3; simp only [List.getElem?_toArray, List.getElem?_cons_zero, List.getElem?_cons_succ] at n0 n1 n2 n3; have t0 := hM5.tk.cell 0; have t1 := hM5.tk.cell 1; have t2 := hM5.tk.cell 2; have t3 := hM5.tk.cell 3; simp only [List.getElem?_toArray, List.getElem?_cons_zero, List.getElem?_cons_succ] at t0 t1 t2 t3)
                  | (go_at_call 51; refine cE2.mono ?_; rintro e w5 ⟨rfl, hg5⟩; have hM5 := hM4.move hg5; have hN5 := cells_gb hN4 hg5.1 htp; have hm5 := cells_gb hm4 hg5.1 hmp; clear hM4 hN4 hm4 hP4 hP3 cE2 cE3 hM3' hN3; have n0 := hN5.cell 0; have n1 := hN5.cell 1; have n2 := hN5.cell 2; have n3 := hN5.cell 3; simp only [List.getElem?_toArray, List.getElem?_cons_zero, List.getElem?_cons_succ] at n0 n1 n2 n3; have t0 := hM5.tk.cell 0; have t1 := hM5.tk.cell 1; have t2 := hM5.tk.cell 2; have t3 := hM5.tk.cell 3; simp only [List.getElem?_toArray, List.getElem?_cons_zero, List.getElem?_cons_succ] at t0 t1 t2 t3; have m0 := hm5.cell 0; have m1 := hm5.cell 1; have m2 := hm5.cell 2; have x0 := hm5.frozen 0; have x1 := hm5.frozen 1; have x2 := hm5.frozen 2; simp only [List.getElem?_toArray, List.getElem?_cons_zero, List.getElem?_cons_succ] at m0 m1 m2))
                all_goals
                  have hw5 : w.heap.size ≤ w5.heap.size := hM5.goes.1.size
                  have hbp := hM5.bt
                  first
                    | (have hno := hno1; have hz := hm5
                       have hbm : bt ≠ tb + 1 := hbt1
                       have hM6 := ((hM5.put (by omega) hno hbm 0 (.string ⟨tj.says.toArray⟩)).put (by omega) hno hbm 1 (.bool false)).put (by omega) hno hbm 2 (.string ⟨#[]⟩)
                       have hm6 := cells_set3 hm5 (.string ⟨tj.says.toArray⟩) (.bool false) (.string ⟨#[]⟩)
                       have hwm : w.heap.size ≤ tb + 1 := by omega
                       have hnoX := hno1
                       have hbmX := hbt1
                       clear hN5 hm5 hM5 hg5 n0 n1 n2 n3 t0 t1 t2 t3 m0 m1 m2 x0 x1 x2
                       generalize ((w5.setCell ⟨tb + 1, 0, none⟩ (.string ⟨tj.says.toArray⟩)).setCell ⟨tb + 1, 1, none⟩ (.bool false)).setCell ⟨tb + 1, 2, none⟩ (.string ⟨#[]⟩) = W6 at hM6 hm6 ⊢
                       generalize tb + 1 = mb at hm6 hwm hmp hnoX hbmX ⊢)
                    | (have hbm := (Below.refl w5.heap.size w5).alloc (Nat.le_refl _) (.cells #[.string ⟨tj.says.toArray⟩, .bool false, .string ⟨#[]⟩] 75)
                       have hM6 := hM5.stay hbm
                       have hm6 := CellsAt.new w5 75 #[.string ⟨tj.says.toArray⟩, .bool false, .string ⟨#[]⟩]
                       have hwm := hw5
                       have hnoX : some w5.heap.size ≠ (Value.slice ao ms.length cp).ownBlock := by intro e; have := (hM5.own.lt _ e.symm).2; omega
                       have hbmX : bt ≠ w5.heap.size := by have := hM5.tk.lt; omega
                       clear hmp
                       have hmp : w5.heap.size ≠ p := by omega
                       clear hbm hN5 hM5 hg5 nn n0 n1 n2 n3 t0 t1 t2 t3
                       generalize w5.alloc (.cells #[.string ⟨tj.says.toArray⟩, .bool false, .string ⟨#[]⟩] 75) = W6 at hM6 hm6 ⊢
                       generalize w5.heap.size = mb at hm6 hwm hmp hnoX hbmX ⊢)
                all_goals
                  rw [if_neg (by simp)] at hM6
                  have m0 := hm6.cell 0; have m1 := hm6.cell 1; have m2 := hm6.cell 2; have x0 := hm6.frozen 0; have x1 := hm6.frozen 1; have x2 := hm6.frozen 2; simp only [List.getElem?_toArray, List.getElem?_cons_zero, List.getElem?_cons_succ] at m0 m1 m2
                  have t0 := hM6.tk.cell 0; have t1 := hM6.tk.cell 1; have t2 := hM6.tk.cell 2; have t3 := hM6.tk.cell 3; simp only [List.getElem?_toArray, List.getElem?_cons_zero, List.getElem?_cons_succ] at t0 t1 t2 t3
                  obtain ⟨j6, hP6⟩ := hM6.goes.2
                  have cM := must_walk hP6 wEq
                  rw [hmu] at cM
                  simp only [mustV, Ends] at cM
                  go_wp2_with (go_at_call 85; refine cM.mono ?_; rintro e w6b ⟨rfl, hg6b⟩; have hM6b := hM6.move hg6b; have hm6b := cells_gb hm6 hg6b.1 hmp; have m0 := hm6b.cell 0; have m1 := hm6b.cell 1; have m2 := hm6b.cell 2; have x0 := hm6b.frozen 0; have x1 := hm6b.frozen 1; have x2 := hm6b.frozen 2; simp only [List.getElem?_toArray, List.getElem?_cons_zero, List.getElem?_cons_succ] at m0 m1 m2; obtain ⟨j7, hP7⟩ := hM6b.goes.2; have cT := text_walk hP7; rw [hx] at cT; simp only [textV, EndsT] at cT)
                  refine cT.mono ?_
                  rintro e w7 ⟨rfl, hg7⟩
                  have hM7 := hM6b.move hg7
                  have hm7 := cells_gb hm6b hg7.1 hmp
                  have m0 := hm7.cell 0; have m1 := hm7.cell 1; have m2 := hm7.cell 2; have x0 := hm7.frozen 0; have x1 := hm7.frozen 1; have x2 := hm7.frozen 2; simp only [List.getElem?_toArray, List.getElem?_cons_zero, List.getElem?_cons_succ] at m0 m1 m2
                  have hM8 := hM7.put hwm hnoX hbmX 2 (.string ⟨x.1.toArray⟩)
                  have hm8 := hm7.set 2 (.string ⟨x.1.toArray⟩)
                  simp only [List.setIfInBounds_toArray, List.set_cons_zero, List.set_cons_succ] at hm8
                  obtain ⟨W8, hW8⟩ : ∃ W8, w7.setCell ⟨mb, 2, none⟩ (.string ⟨x.1.toArray⟩) = W8 := ⟨_, rfl⟩
                  rw [hW8] at hM8 hm8
                  have m0 := hm8.cell 0; have m1 := hm8.cell 1; have m2 := hm8.cell 2; simp only [List.getElem?_toArray, List.getElem?_cons_zero, List.getElem?_cons_succ] at m0 m1 m2
                  have hM9 := hM8.stay ((Below.refl W8.heap.size W8).alloc (Nat.le_refl _) (.cells #[.string ⟨tj.says.toArray⟩, .bool false, .string ⟨x.1.toArray⟩] 75))
                  have hnews := news3g W8 W8.heap.size rfl 75 (.string ⟨tj.says.toArray⟩) (.bool false) (.string ⟨x.1.toArray⟩)
                  have hz8 : w.heap.size ≤ W8.heap.size := hM8.goes.1.size
                  obtain ⟨W9, hW9⟩ : ∃ W9, W8.alloc (.cells #[.string ⟨tj.says.toArray⟩, .bool false, .string ⟨x.1.toArray⟩] 75) = W9 := ⟨_, rfl⟩
                  have hz9 : w.heap.size ≤ W9.heap.size := by rw [← hW9]; exact Nat.le_trans hz8 (by simp)
                  rw [hW9] at hM9 hnews
                  go_wp2_with (at_builtin; go_loud (refine wpList_append_own_at _ rfl _ _ 23 rfl (w.heap.size) 75 i0 _ 3 40 Tryz.underlying23 hi hz0 hz1 hz2 rfl (by decide) _ _ _ rfl hM9.own ⟨W8.heap.size, 0, none⟩ 1 1 [.string ⟨tj.says.toArray⟩, .bool false, .string ⟨x.1.toArray⟩] rfl rfl hnews (ones_m _ _ _) (by unfold maxLen; omega) (by omega) (by omega) ?_; intro v3 w10 hown3 hgr3 _ hat3; have hM10 := hM9.snoc ⟨tj.says, false, x.1⟩ hown3 hgr3; have t0 := hM10.tk.cell 0; have t1 := hM10.tk.cell 1; have t2 := hM10.tk.cell 2; have t3 := hM10.tk.cell 3; simp only [List.getElem?_toArray, List.getElem?_cons_zero, List.getElem?_cons_succ] at t0 t1 t2 t3; have hM11 := hM10.token t; obtain ⟨W11, hW11⟩ : ∃ W11, w10.alloc (.cells #[.int .i64 t.kind, .string ⟨t.says.toArray⟩, .int .i64 t.n, .int .i64 t.place] 95) = W11 := ⟨_, rfl⟩; rw [hW11] at hM11; obtain ⟨nb, hnb⟩ : ∃ nb, w10.heap.size = nb := ⟨_, rfl⟩; rw [hnb] at hM11; obtain ⟨j11, hP11⟩ := hM11.goes.2; have cP := peek_walk hP11; obtain ⟨tn, htn⟩ : ∃ tn, hdT x.2 = tn := ⟨_, rfl⟩; rw [htn] at cP; simp only [tokV] at cP; have HTN := Lib.hid htn; clear htn))
                  go_wp2_with (go_at_call 83; refine cP.mono ?_; rintro e w12 ⟨rfl, hb12⟩; have hM12 := hM11.stay hb12; have y0 := hM12.tk.frozen 0; have y1 := hM12.tk.frozen 1; have y2 := hM12.tk.frozen 2; have y3 := hM12.tk.frozen 3; have c0 := hM12.tk.cell 0; have c1 := hM12.tk.cell 1; have c2 := hM12.tk.cell 2; have c3 := hM12.tk.cell 3; simp only [List.getElem?_toArray, List.getElem?_cons_zero, List.getElem?_cons_succ] at c0 c1 c2 c3)
                  have hM13 := hM12.four tn
                  go_roundw
                  case rel => exact ⟨ms ++ [⟨tj.says, false, x.1⟩], x.2, f, nb, tn, rfl, hM13, HTN.out, HV.out, by omega, by rw [List.length_append, List.length_singleton]; omega⟩
                  case measure => rw [hM13.back, hleft]; omega
end Go.Proofs.YtebblpmocheelaaGreatDoor
