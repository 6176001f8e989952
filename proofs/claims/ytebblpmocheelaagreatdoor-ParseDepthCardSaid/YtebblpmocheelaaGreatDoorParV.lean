/- The walk of the parser's query. -/
import Derived.Test.YtebblpmocheelaaGreatDoorParN
namespace Go.Proofs.YtebblpmocheelaaGreatDoor
open Go.RowKit Go.Lib

theorem CellsAt.ten {W : World} {B : Nat} {t : TypeId} {a0 a1 a2 a3 a4 a5 a6 a7 a8 a9 : Value} (h : CellsAt W B t #[a0, a1, a2, a3, a4, a5, a6, a7, a8, a9]) :
    W.cell? ⟨B, 0, none⟩ = some a0 ∧ W.cell? ⟨B, 1, none⟩ = some a1 ∧ W.cell? ⟨B, 2, none⟩ = some a2 ∧ W.cell? ⟨B, 3, none⟩ = some a3 ∧ W.cell? ⟨B, 4, none⟩ = some a4 ∧ W.cell? ⟨B, 5, none⟩ = some a5 ∧ W.cell? ⟨B, 6, none⟩ = some a6 ∧ W.cell? ⟨B, 7, none⟩ = some a7 ∧ W.cell? ⟨B, 8, none⟩ = some a8 ∧ W.cell? ⟨B, 9, none⟩ = some a9 :=
  ⟨by have := h.cell 0; simpa using this, by have := h.cell 1; simpa using this, by have := h.cell 2; simpa using this, by have := h.cell 3; simpa using this, by have := h.cell 4; simpa using this, by have := h.cell 5; simpa using this, by have := h.cell 6; simpa using this, by have := h.cell 7; simpa using this, by have := h.cell 8; simpa using this, by have := h.cell 9; simpa using this⟩
theorem CellsAt.tenF {W : World} {B : Nat} {t : TypeId} {xs : Array Value} (h : CellsAt W B t xs) :
    W.frozen? ⟨B, 0, none⟩ = false ∧ W.frozen? ⟨B, 1, none⟩ = false ∧ W.frozen? ⟨B, 2, none⟩ = false ∧ W.frozen? ⟨B, 3, none⟩ = false ∧ W.frozen? ⟨B, 4, none⟩ = false ∧ W.frozen? ⟨B, 5, none⟩ = false ∧ W.frozen? ⟨B, 6, none⟩ = false ∧ W.frozen? ⟨B, 7, none⟩ = false ∧ W.frozen? ⟨B, 8, none⟩ = false ∧ W.frozen? ⟨B, 9, none⟩ = false :=
  ⟨h.frozen 0, h.frozen 1, h.frozen 2, h.frozen 3, h.frozen 4, h.frozen 5, h.frozen 6, h.frozen 7, h.frozen 8, h.frozen 9⟩
theorem ten_set {W : World} {B : Nat} {t : TypeId} {a0 a1 a2 a3 a4 a5 a6 a7 a8 a9 : Value} (h : CellsAt W B t #[a0, a1, a2, a3, a4, a5, a6, a7, a8, a9]) (x0 x1 x2 x3 x4 x5 x6 x7 x8 x9 : Value) :
    CellsAt ((((((((((W.setCell ⟨B, 0, none⟩ x0).setCell ⟨B, 1, none⟩ x1).setCell ⟨B, 2, none⟩ x2).setCell ⟨B, 3, none⟩ x3).setCell ⟨B, 4, none⟩ x4).setCell ⟨B, 5, none⟩ x5).setCell ⟨B, 6, none⟩ x6).setCell ⟨B, 7, none⟩ x7).setCell ⟨B, 8, none⟩ x8).setCell ⟨B, 9, none⟩ x9) B t #[x0, x1, x2, x3, x4, x5, x6, x7, x8, x9] :=
  by
  have k := (((((((((h.set 0 x0).set 1 x1).set 2 x2).set 3 x3).set 4 x4).set 5 x5).set 6 x6).set 7 x7).set 8 x8).set 9 x9
  simpa only [List.setIfInBounds_toArray, List.set_cons_zero, List.set_cons_succ] using k
theorem Goes.ten {w W : World} {p g cap : Nat} {l ts : List Tok} {d B : Nat} (h : Goes w p g cap l ts d W) (hb : w.heap.size ≤ B) (hp : p < w.heap.size) (x0 x1 x2 x3 x4 x5 x6 x7 x8 x9 : Value) :
    Goes w p g cap l ts d ((((((((((W.setCell ⟨B, 0, none⟩ x0).setCell ⟨B, 1, none⟩ x1).setCell ⟨B, 2, none⟩ x2).setCell ⟨B, 3, none⟩ x3).setCell ⟨B, 4, none⟩ x4).setCell ⟨B, 5, none⟩ x5).setCell ⟨B, 6, none⟩ x6).setCell ⟨B, 7, none⟩ x7).setCell ⟨B, 8, none⟩ x8).setCell ⟨B, 9, none⟩ x9) :=
  (((((((((h.set hb hp 0 x0).set hb hp 1 x1).set hb hp 2 x2).set hb hp 3 x3).set hb hp 4 x4).set hb hp 5 x5).set hb hp 6 x6).set hb hp 7 x7).set hb hp 8 x8).set hb hp 9 x9
theorem own_ten {W : World} {lo size n B : Nat} {e : TypeId} {v : Value} {ys : List Value} (h : W.ownsRow lo e size v n ys) (hb : B < lo) (x0 x1 x2 x3 x4 x5 x6 x7 x8 x9 : Value) :
    ((((((((((W.setCell ⟨B, 0, none⟩ x0).setCell ⟨B, 1, none⟩ x1).setCell ⟨B, 2, none⟩ x2).setCell ⟨B, 3, none⟩ x3).setCell ⟨B, 4, none⟩ x4).setCell ⟨B, 5, none⟩ x5).setCell ⟨B, 6, none⟩ x6).setCell ⟨B, 7, none⟩ x7).setCell ⟨B, 8, none⟩ x8).setCell ⟨B, 9, none⟩ x9).ownsRow lo e size v n ys :=
  own_set (own_set (own_set (own_set (own_set (own_set (own_set (own_set (own_set (own_set h hb 0 x0) hb 1 x1) hb 2 x2) hb 3 x3) hb 4 x4) hb 5 x5) hb 6 x6) hb 7 x7) hb 8 x8) hb 9 x9
theorem FVal.ten {W : World} {lo B : Nat} {x : V4} {f : F} (h : FVal W (fun b => lo ≤ b) x f) (hb : B < lo) (x0 x1 x2 x3 x4 x5 x6 x7 x8 x9 : Value) :
    FVal ((((((((((W.setCell ⟨B, 0, none⟩ x0).setCell ⟨B, 1, none⟩ x1).setCell ⟨B, 2, none⟩ x2).setCell ⟨B, 3, none⟩ x3).setCell ⟨B, 4, none⟩ x4).setCell ⟨B, 5, none⟩ x5).setCell ⟨B, 6, none⟩ x6).setCell ⟨B, 7, none⟩ x7).setCell ⟨B, 8, none⟩ x8).setCell ⟨B, 9, none⟩ x9) (fun b => lo ≤ b) x f :=
  (((((((((h.setb hb 0 x0).setb hb 1 x1).setb hb 2 x2).setb hb 3 x3).setb hb 4 x4).setb hb 5 x5).setb hb 6 x6).setb hb 7 x7).setb hb 8 x8).setb hb 9 x9

/-- What query hands back. -/
def QPost (r : Except Err Q) (w : World) (p g cap : Nat) (l : List Tok) (d : Nat) (e : Ending) (w' : World) : Prop := match r with
  | .ok q => ∃ mv fx, e = .returned (.tuple #[.agg #[.int .i64 q.since, .int .i64 q.till, mv, fx.a, fx.b, fx.c, fx.k, .bool q.desc, .int .i64 q.limit, .string ⟨q.page.toArray⟩], .nilIface]) ∧
      w'.ownsRow w.heap.size 75 3 mv q.ms.length (q.ms.flatMap mCells) ∧ FVal w' (fun b => w.heap.size ≤ b) fx q.filter ∧ ∃ ts, Goes w p g cap l ts d w'
  | .error x => ∃ a b ao n c op nm tx ao2 n2 c2 ds lim pg, e = .returned (.tuple #[.agg #[.int .i64 a, .int .i64 b, .slice ao n c, .int .i64 op, .string nm, .string tx, .slice ao2 n2 c2, .bool ds, .int .i64 lim, .string pg], errV x]) ∧ ∃ ts, Goes w p g cap l ts d w'
theorem QPost.bad {r : Except Err Q} {w w' : World} {p g cap d : Nat} {l ts : List Tok} {x : Err} {a b op lim : Int} {ao ao2 : Option Addr} {n c n2 c2 : Nat} {nm tx pg : ByteArray} {ds : Bool} (h : r = .error x) (hg : Goes w p g cap l ts d w') :
    QPost r w p g cap l d (.returned (.tuple #[.agg #[.int .i64 a, .int .i64 b, .slice ao n c, .int .i64 op, .string nm, .string tx, .slice ao2 n2 c2, .bool ds, .int .i64 lim, .string pg], .iface 64 (.agg #[.int .i64 x.1, .int .i64 x.2])])) w' := by
  subst h; exact ⟨a, b, ao, n, c, op, nm, tx, ao2, n2, c2, ds, lim, pg, rfl, ts, hg⟩
theorem QPost.good {r : Except Err Q} {w w' : World} {p g cap d : Nat} {l ts : List Tok} {q : Q} {mv a b c k : Value} (h : r = .ok q) (ho : w'.ownsRow w.heap.size 75 3 mv q.ms.length (q.ms.flatMap mCells)) (hf : FVal w' (fun b => w.heap.size ≤ b) ⟨a, b, c, k⟩ q.filter) (hg : Goes w p g cap l ts d w') :
    QPost r w p g cap l d (.returned (.tuple #[.agg #[.int .i64 q.since, .int .i64 q.till, mv, a, b, c, k, .bool q.desc, .int .i64 q.limit, .string ⟨q.page.toArray⟩], .nilIface])) w' := by
  subst h; exact ⟨mv, ⟨a, b, c, k⟩, rfl, ho, hf, ts, hg⟩

theorem times_bad {r : Except Err (Int × Int × List Tok)} {w w' : World} {p g cap d qb : Nat} {l : List Tok} {x : Err} {qs : Array Value} {e : Ending} (h : r = .error x) (hp : TimesPost r w p g cap l d qb qs e w') :
    e = .returned (.iface 64 (.agg #[.int .i64 x.1, .int .i64 x.2])) ∧ ∃ ts a b, QS w w' p g cap l ts d qb ((qs.setIfInBounds 0 (.int .i64 a)).setIfInBounds 1 (.int .i64 b)) := by subst h; exact hp
theorem times_good {r : Except Err (Int × Int × List Tok)} {w w' : World} {p g cap d qb : Nat} {l : List Tok} {x : Int × Int × List Tok} {qs : Array Value} {e : Ending} (h : r = .ok x) (hp : TimesPost r w p g cap l d qb qs e w') :
    e = .returned .nilIface ∧ QS w w' p g cap l x.2.2 d qb ((qs.setIfInBounds 0 (.int .i64 x.1)).setIfInBounds 1 (.int .i64 x.2.1)) := by subst h; exact hp
theorem ms_bad {r : Except Err (List M × List Tok)} {w w' : World} {p g cap d : Nat} {l : List Tok} {x : Err} {e : Ending} (h : r = .error x) (hp : MsPost r w p g cap l d e w') :
    e = .returned (.tuple #[.slice none 0 0, .iface 64 (.agg #[.int .i64 x.1, .int .i64 x.2])]) ∧ ∃ ts, Goes w p g cap l ts d w' := by subst h; exact hp
theorem ms_good {r : Except Err (List M × List Tok)} {w w' : World} {p g cap d : Nat} {l : List Tok} {x : List M × List Tok} {e : Ending} (h : r = .ok x) (hp : MsPost r w p g cap l d e w') :
    ∃ ao n c, e = .returned (.tuple #[.slice ao n c, .nilIface]) ∧ w'.ownsRow w.heap.size 75 3 (.slice ao n c) x.1.length (x.1.flatMap mCells) ∧ Goes w p g cap l x.2 d w' := by
  subst h
  obtain ⟨v, he, ho, hg⟩ := hp
  obtain ⟨ao, cp, rfl⟩ := own_slice ho
  exact ⟨_, _, _, he, ho, hg⟩
theorem f_bad {r : Except Err (F × List Tok)} {w w' : World} {p g cap d : Nat} {l : List Tok} {x : Err} {e : Ending} (h : r = .error x) (hp : FPost r w p g cap l d e w') :
    ∃ op nm tx ao n c, e = .returned (.tuple #[.agg #[.int .i64 op, .string nm, .string tx, .slice ao n c], .iface 64 (.agg #[.int .i64 x.1, .int .i64 x.2])]) ∧ ∃ ts, Goes w p g cap l ts d w' := by subst h; exact hp
theorem f_good {r : Except Err (F × List Tok)} {w w' : World} {p g cap d : Nat} {l : List Tok} {x : F × List Tok} {e : Ending} (h : r = .ok x) (hp : FPost r w p g cap l d e w') :
    ∃ op nm tx ao n c, e = .returned (.tuple #[.agg #[.int .i64 op, .string nm, .string tx, .slice ao n c], .nilIface]) ∧ FVal w' (fun b => w.heap.size ≤ b) ⟨.int .i64 op, .string nm, .string tx, .slice ao n c⟩ x.1 ∧ Goes w p g cap l x.2 d w' := by
  subst h
  obtain ⟨v, he, hf, hg⟩ := hp
  obtain ⟨op, nm, tx, ao, n, c, rfl⟩ := hf.shape
  exact ⟨op, nm, tx, ao, n, c, he, hf, hg⟩

theorem QS.four {w W : World} {p g cap : Nat} {l ts : List Tok} {d qb : Nat} {qs : Array Value} (h : QS w W p g cap l ts d qb qs) (a b c k : Value) :
    QS w ((((W.setCell ⟨qb, 3, none⟩ a).setCell ⟨qb, 4, none⟩ b).setCell ⟨qb, 5, none⟩ c).setCell ⟨qb, 6, none⟩ k) p g cap l ts d qb ((((qs.setIfInBounds 3 a).setIfInBounds 4 b).setIfInBounds 5 c).setIfInBounds 6 k) :=
  (((h.setq 3 a).setq 4 b).setq 5 c).setq 6 k

theorem Goes.base {w w1 W : World} {p g cap : Nat} {l ts : List Tok} {d : Nat} (hgw : w.grownBy w1 (some p)) (h : Goes w1 p g cap l ts d W) : Goes w p g cap l ts d W := ⟨gb_trans hgw h.1, h.2⟩

theorem query_start {w : World} {p g cap : Nat} {l ts : List Tok} {i : Nat} (h : PS w p g cap l ts i 0) : ∃ w1, w.grownBy w1 (some p) ∧ CellsAt w1 w.heap.size 28 #[.int .i64 0, .int .i64 0, .slice none 0 0, .int .i64 0, .string ⟨#[]⟩, .string ⟨#[]⟩, .slice none 0 0, .bool false, .int .i64 0, .string ⟨#[]⟩] ∧ w1.heap.size ≤ w.heap.size + 1 ∧ w.heap.size + 1 ≤ w1.heap.size ∧
    QS w1 ((w.alloc (.cells #[.int .i64 0, .int .i64 0, .slice none 0 0, .int .i64 0, .string ⟨#[]⟩, .string ⟨#[]⟩, .slice none 0 0, .bool false, .int .i64 0, .string ⟨#[]⟩] 28)).alloc (.cells #[.int .i64 0, .int .i64 0, .slice none 0 0, .int .i64 1, .string ⟨#[]⟩, .string ⟨#[]⟩, .slice none 0 0, .bool false, .int .i64 0, .string ⟨#[]⟩] 28)) p g cap l ts 0 (w.heap.size + 1) #[.int .i64 0, .int .i64 0, .slice none 0 0, .int .i64 1, .string ⟨#[]⟩, .string ⟨#[]⟩, .slice none 0 0, .bool false, .int .i64 0, .string ⟨#[]⟩] := by
  have hpl := h.par.lt
  have hBa := (Below.refl w.heap.size w).alloc (Nat.le_refl _) (.cells #[.int .i64 0, .int .i64 0, .slice none 0 0, .int .i64 0, .string ⟨#[]⟩, .string ⟨#[]⟩, .slice none 0 0, .bool false, .int .i64 0, .string ⟨#[]⟩] 28)
  have hR1 := CellsAt.new w 28 #[.int .i64 0, .int .i64 0, .slice none 0 0, .int .i64 0, .string ⟨#[]⟩, .string ⟨#[]⟩, .slice none 0 0, .bool false, .int .i64 0, .string ⟨#[]⟩]
  have h1 := h.kept hBa
  have hz1 : (w.alloc (.cells #[.int .i64 0, .int .i64 0, .slice none 0 0, .int .i64 0, .string ⟨#[]⟩, .string ⟨#[]⟩, .slice none 0 0, .bool false, .int .i64 0, .string ⟨#[]⟩] 28)).heap.size = w.heap.size + 1 := by simp
  have hN2 := CellsAt.new (w.alloc (.cells #[.int .i64 0, .int .i64 0, .slice none 0 0, .int .i64 0, .string ⟨#[]⟩, .string ⟨#[]⟩, .slice none 0 0, .bool false, .int .i64 0, .string ⟨#[]⟩] 28)) 28 #[.int .i64 0, .int .i64 0, .slice none 0 0, .int .i64 1, .string ⟨#[]⟩, .string ⟨#[]⟩, .slice none 0 0, .bool false, .int .i64 0, .string ⟨#[]⟩]
  rw [hz1] at hN2
  exact ⟨_, gb_below hBa (some p), hR1, by omega, by omega, ⟨Goes.of h1 ((Below.refl _ _).alloc (Nat.le_refl _) _), hN2, by omega, by omega⟩⟩

set_option maxHeartbeats 32000000 in
set_option maxRecDepth 1000000 in
theorem query_walk {w : World} {p g cap : Nat} {l ts : List Tok} {i : Nat} (h : PS w p g cap l ts i 0) (hll : l.length ≤ 65536) :
    Calls Tryz.prog 23 #[.pointer (some ⟨p, 0, none⟩)] w (QPost (queryR ts) w p g cap l 0) := by
  have hpl := h.par.lt
  have hmf := hmf
  obtain ⟨w1, hgw, hR1, hz1, hz1b, hQ2⟩ := query_start h
  have hrp : w.heap.size ≠ p := by omega
  have cT := times_walk hQ2
  have hsz2 : w.heap.size + 1 < ((w.alloc (.cells #[.int .i64 0, .int .i64 0, .slice none 0 0, .int .i64 0, .string ⟨#[]⟩, .string ⟨#[]⟩, .slice none 0 0, .bool false, .int .i64 0, .string ⟨#[]⟩] 28)).alloc (.cells #[.int .i64 0, .int .i64 0, .slice none 0 0, .int .i64 1, .string ⟨#[]⟩, .string ⟨#[]⟩, .slice none 0 0, .bool false, .int .i64 0, .string ⟨#[]⟩] 28)).heap.size := hQ2.q.lt
  obtain ⟨rr, hrr⟩ : ∃ rr, queryR ts = rr := ⟨_, rfl⟩
  have HRR := Lib.hid hrr
  rw [hrr]
  clear hrr h
  go_enter Tryz.func23, Tryz.ntmps23
  go_wp2_with fail
  refine cT.mono ?_
  clear cT
  cases hT : timesR ts with
  | error x =>
    have HV := Lib.hid (HRR.out.symm.trans (by unfold queryR; rw [hT]) : rr = .error x)
    clear HRR
    intro e w3 hpost
    obtain ⟨rfl, ts3, a3, b3, hQ3⟩ := times_bad rfl hpost
    clear hpost
    simp only [List.setIfInBounds_toArray, List.set_cons_zero, List.set_cons_succ] at hQ3
    obtain ⟨q0, q1, q2, q3, q4, q5, q6, q7, q8, q9⟩ := hQ3.q.ten
    have hR := cells_gb hR1 hQ3.goes.1 hrp; obtain ⟨r0, r1, r2, r3, r4, r5, r6, r7, r8, r9⟩ := hR.ten; obtain ⟨z0, z1, z2, z3, z4, z5, z6, z7, z8, z9⟩ := hR.tenF
    go_wp2
    exact bodyPost_ret (v := .tuple #[.agg #[.int .i64 a3, .int .i64 b3, .slice none 0 0, .int .i64 1, .string ⟨#[]⟩, .string ⟨#[]⟩, .slice none 0 0, .bool false, .int .i64 0, .string ⟨#[]⟩], .iface 64 (.agg #[.int .i64 x.1, .int .i64 x.2])]) (by
      have R := ten_set hR (.int .i64 a3) (.int .i64 b3) (.slice none 0 0) (.int .i64 1) (.string ⟨#[]⟩) (.string ⟨#[]⟩) (.slice none 0 0) (.bool false) (.int .i64 0) (.string ⟨#[]⟩)
      obtain ⟨r0, r1, r2, r3, r4, r5, r6, r7, r8, r9⟩ := R.ten
      simp [results, Tryz.results23, go_sem, r0, r1, r2, r3, r4, r5, r6, r7, r8, r9]) rfl (QPost.bad HV.out (((Goes.base hgw hQ3.goes).ten (Nat.le_refl _) hpl (.int .i64 a3) (.int .i64 b3) (.slice none 0 0) (.int .i64 1) (.string ⟨#[]⟩) (.string ⟨#[]⟩) (.slice none 0 0) (.bool false) (.int .i64 0) (.string ⟨#[]⟩))))
  | ok tm =>
    obtain ⟨ta, tb, ts3⟩ := tm
    intro e w3 hpost
    obtain ⟨rfl, hQ3⟩ := times_good rfl hpost
    clear hpost
    simp only [List.setIfInBounds_toArray, List.set_cons_zero, List.set_cons_succ] at hQ3
    try dsimp only at hQ3
    obtain ⟨j3, hP3⟩ := hQ3.goes.2
    have cM := matchers_walk hP3
    have hs3 : w.heap.size + 2 ≤ w3.heap.size := hQ3.q.lt
    clear hQ2 hsz2
    go_wp2_with fail
    refine cM.mono ?_
    clear cM hP3
    cases hM : matchersR (ts3.length + 1) [] ts3 with
    | error x =>
      have HV := Lib.hid (HRR.out.symm.trans (by unfold queryR; rw [hT]; dsimp only; rw [hM]) : rr = .error x)
      clear HRR
      intro e w4 hpost
      obtain ⟨rfl, ts4, hg4⟩ := ms_bad rfl hpost
      clear hpost
      have hQ4 := hQ3.move hg4
      obtain ⟨v0, v1, v2, v3, v4, v5, v6, v7, v8, v9⟩ := hQ4.q.tenF
      obtain ⟨q0, q1, q2, q3, q4, q5, q6, q7, q8, q9⟩ := hQ4.q.ten
      have hQ5 := hQ4.setq 2 (.slice none 0 0)
      simp only [List.setIfInBounds_toArray, List.set_cons_zero, List.set_cons_succ] at hQ5
      obtain ⟨W5, hW5⟩ : ∃ W5, w4.setCell ⟨w.heap.size + 1, 2, none⟩ (.slice none 0 0) = W5 := ⟨_, rfl⟩
      rw [hW5] at hQ5
      clear q0 q1 q3 q4 q5 q6 q7 q8 q9
      have q2a := q2; clear q2
      obtain ⟨q0, q1, q2, q3, q4, q5, q6, q7, q8, q9⟩ := hQ5.q.ten
      have hR := cells_gb hR1 hQ5.goes.1 hrp; obtain ⟨r0, r1, r2, r3, r4, r5, r6, r7, r8, r9⟩ := hR.ten; obtain ⟨z0, z1, z2, z3, z4, z5, z6, z7, z8, z9⟩ := hR.tenF
      go_wp2
      exact bodyPost_ret (v := .tuple #[.agg #[.int .i64 ta, .int .i64 tb, .slice none 0 0, .int .i64 1, .string ⟨#[]⟩, .string ⟨#[]⟩, .slice none 0 0, .bool false, .int .i64 0, .string ⟨#[]⟩], .iface 64 (.agg #[.int .i64 x.1, .int .i64 x.2])]) (by
        have R := ten_set hR (.int .i64 ta) (.int .i64 tb) (.slice none 0 0) (.int .i64 1) (.string ⟨#[]⟩) (.string ⟨#[]⟩) (.slice none 0 0) (.bool false) (.int .i64 0) (.string ⟨#[]⟩)
        obtain ⟨r0, r1, r2, r3, r4, r5, r6, r7, r8, r9⟩ := R.ten
        simp [results, Tryz.results23, go_sem, r0, r1, r2, r3, r4, r5, r6, r7, r8, r9]) rfl (QPost.bad HV.out (((Goes.base hgw hQ5.goes).ten (Nat.le_refl _) hpl (.int .i64 ta) (.int .i64 tb) (.slice none 0 0) (.int .i64 1) (.string ⟨#[]⟩) (.string ⟨#[]⟩) (.slice none 0 0) (.bool false) (.int .i64 0) (.string ⟨#[]⟩))))
    | ok mm =>
      obtain ⟨ms, ts4⟩ := mm
      intro e w4 hpost
      obtain ⟨ao, an, ac, rfl, hO4, hg4⟩ := ms_good rfl hpost
      clear hpost
      dsimp only at hO4 hg4
      have hQ4 := hQ3.move hg4
      obtain ⟨v0, v1, v2, v3, v4, v5, v6, v7, v8, v9⟩ := hQ4.q.tenF
      obtain ⟨q0, q1, q2, q3, q4, q5, q6, q7, q8, q9⟩ := hQ4.q.ten
      have hQ5 := hQ4.setq 2 (.slice ao an ac)
      simp only [List.setIfInBounds_toArray, List.set_cons_zero, List.set_cons_succ] at hQ5
      have hO5 := own_set (own_base hO4 hs3) (show w.heap.size + 1 < w.heap.size + 2 by omega) 2 (.slice ao an ac)
      obtain ⟨W5, hW5⟩ : ∃ W5, w4.setCell ⟨w.heap.size + 1, 2, none⟩ (.slice ao an ac) = W5 := ⟨_, rfl⟩
      rw [hW5] at hQ5 hO5
      obtain ⟨j5, hP5⟩ := hQ5.goes.2
      have cE := eat_walk hP5 wFind
      clear hQ3 hQ4 hO4 hg4 hP5
      clear q0 q1 q3 q4 q5 q6 q7 q8 q9
      go_wp2_with fail
      refine cE.mono ?_
      clear cE q2 v0 v1 v2 v3 v4 v5 v6 v7 v8 v9
      cases hfi : isIt (hdT ts4) wFind with
      | true =>
        rintro e w6 ⟨rfl, hg6⟩
        rw [if_pos rfl] at hg6
        have hQ6 := hQ5.move hg6
        have hO6 := own_gb hO5 (by omega) hg6.1
        have hs6 : w.heap.size + 2 ≤ w6.heap.size := hQ6.q.lt
        obtain ⟨j6, hP6⟩ := hQ6.goes.2
        have cO := or_atoms hP6 (atomR (ts4.length + 1) 0) (atomR_takes _ _) hll (fun W ts' j hW hl => atom_walk (ts4.length + 1) hW hll (by omega) (by have := isIt_lt hfi; omega))
        clear hQ5 hO5 hg6 hP6 hW5
        go_wp2_with fail
        refine cO.mono ?_
        clear cO
        cases hor : orR (atomR (ts4.length + 1) 0) (nextR ts4) with
        | error x =>
          have HV := Lib.hid (HRR.out.symm.trans (by unfold queryR; rw [hT]; dsimp only; rw [hM]; dsimp only; rw [findR, if_pos hfi, hor]) : rr = .error x)
          clear HRR
          intro e w7 hpost
          obtain ⟨op, nm, tx, fo, fn, fc, rfl, ts7, hg7⟩ := f_bad rfl hpost
          clear hpost
          have hQ7 := hQ6.move hg7
          obtain ⟨v0, v1, v2, v3, v4, v5, v6, v7, v8, v9⟩ := hQ7.q.tenF
          obtain ⟨q0, q1, q2, q3, q4, q5, q6, q7, q8, q9⟩ := hQ7.q.ten
          have hQ8 := hQ7.four (.int .i64 op) (.string nm) (.string tx) (.slice fo fn fc)
          simp only [List.setIfInBounds_toArray, List.set_cons_zero, List.set_cons_succ] at hQ8
          obtain ⟨W8, hW8⟩ : ∃ W8, (((w7.setCell ⟨w.heap.size + 1, 3, none⟩ (.int .i64 op)).setCell ⟨w.heap.size + 1, 4, none⟩ (.string nm)).setCell ⟨w.heap.size + 1, 5, none⟩ (.string tx)).setCell ⟨w.heap.size + 1, 6, none⟩ (.slice fo fn fc) = W8 := ⟨_, rfl⟩
          rw [hW8] at hQ8
          clear q0 q1 q2 q7 q8 q9
          have k3 := q3; have k4 := q4; have k5 := q5; have k6 := q6; clear q3 q4 q5 q6
          obtain ⟨q0, q1, q2, q3, q4, q5, q6, q7, q8, q9⟩ := hQ8.q.ten
          have hR := cells_gb hR1 hQ8.goes.1 hrp; obtain ⟨r0, r1, r2, r3, r4, r5, r6, r7, r8, r9⟩ := hR.ten; obtain ⟨z0, z1, z2, z3, z4, z5, z6, z7, z8, z9⟩ := hR.tenF
          go_wp2
          exact bodyPost_ret (v := .tuple #[.agg #[.int .i64 ta, .int .i64 tb, .slice ao an ac, .int .i64 op, .string nm, .string tx, .slice fo fn fc, .bool false, .int .i64 0, .string ⟨#[]⟩], .iface 64 (.agg #[.int .i64 x.1, .int .i64 x.2])]) (by
            have R := ten_set hR (.int .i64 ta) (.int .i64 tb) (.slice ao an ac) (.int .i64 op) (.string nm) (.string tx) (.slice fo fn fc) (.bool false) (.int .i64 0) (.string ⟨#[]⟩)
            obtain ⟨r0, r1, r2, r3, r4, r5, r6, r7, r8, r9⟩ := R.ten
            simp [results, Tryz.results23, go_sem, r0, r1, r2, r3, r4, r5, r6, r7, r8, r9]) rfl (QPost.bad HV.out (((Goes.base hgw hQ8.goes).ten (Nat.le_refl _) hpl (.int .i64 ta) (.int .i64 tb) (.slice ao an ac) (.int .i64 op) (.string nm) (.string tx) (.slice fo fn fc) (.bool false) (.int .i64 0) (.string ⟨#[]⟩))))
        | ok fr =>
          obtain ⟨f, ts7⟩ := fr
          have HF := Lib.hid (by rw [findR, if_pos hfi, hor] : findR ts4 = .ok (f, ts7))
          intro e w7 hpost
          obtain ⟨op, nm, tx, fo, fn, fc, rfl, hF7, hg7⟩ := f_good rfl hpost
          clear hpost
          dsimp only at hF7 hg7
          have hQ7 := hQ6.move hg7
          have hO7 := own_gb hO6 (by omega) hg7.1
          obtain ⟨v0, v1, v2, v3, v4, v5, v6, v7, v8, v9⟩ := hQ7.q.tenF
          obtain ⟨q0, q1, q2, q3, q4, q5, q6, q7, q8, q9⟩ := hQ7.q.ten
          have hQ8 := hQ7.four (.int .i64 op) (.string nm) (.string tx) (.slice fo fn fc)
          simp only [List.setIfInBounds_toArray, List.set_cons_zero, List.set_cons_succ] at hQ8
          have hO8 := own_set (own_set (own_set (own_set hO7 (show w.heap.size + 1 < w.heap.size + 2 by omega) 3 (.int .i64 op)) (show w.heap.size + 1 < w.heap.size + 2 by omega) 4 (.string nm)) (show w.heap.size + 1 < w.heap.size + 2 by omega) 5 (.string tx)) (show w.heap.size + 1 < w.heap.size + 2 by omega) 6 (.slice fo fn fc)
          have hF8 := ((((hF7.low hs6).setb (b0 := w.heap.size + 1) (by omega) 3 (.int .i64 op)).setb (b0 := w.heap.size + 1) (by omega) 4 (.string nm)).setb (b0 := w.heap.size + 1) (by omega) 5 (.string tx)).setb (b0 := w.heap.size + 1) (by omega) 6 (.slice fo fn fc)
          obtain ⟨W8, hW8⟩ : ∃ W8, (((w7.setCell ⟨w.heap.size + 1, 3, none⟩ (.int .i64 op)).setCell ⟨w.heap.size + 1, 4, none⟩ (.string nm)).setCell ⟨w.heap.size + 1, 5, none⟩ (.string tx)).setCell ⟨w.heap.size + 1, 6, none⟩ (.slice fo fn fc) = W8 := ⟨_, rfl⟩
          rw [hW8] at hQ8 hO8 hF8
          clear hor hfi hQ6 hO6 hQ7 hO7 hF7 hg7 hs6
          clear q0 q1 q2 q7 q8 q9
          obtain ⟨j8, hP8⟩ := hQ8.goes.2
          have cE := eat_walk hP8 wDesc
          clear hP8
          go_wp2_with fail
          refine cE.mono ?_
          clear cE q3 q4 q5 q6 v0 v1 v2 v3 v4 v5 v6 v7 v8 v9
          obtain ⟨de, hde⟩ : ∃ de, isIt (hdT ts7) wDesc = de := ⟨_, rfl⟩
          rw [hde]
          rintro e w9 ⟨rfl, hg9⟩
          rw [← hde] at hg9
          have hg9 : Goes W8 p g cap l (descR ts7) 0 w9 := hg9
          have hQ9 := hQ8.move hg9
          have hO9 := own_gb hO8 (by omega) hg9.1
          have hF9 := hF8.gb (by omega) hg9.1
          obtain ⟨v0, v1, v2, v3, v4, v5, v6, v7, v8, v9⟩ := hQ9.q.tenF
          obtain ⟨q0, q1, q2, q3, q4, q5, q6, q7, q8, q9⟩ := hQ9.q.ten
          have hQ10 := hQ9.setq 7 (.bool de)
          simp only [List.setIfInBounds_toArray, List.set_cons_zero, List.set_cons_succ] at hQ10
          have hO10 := own_set hO9 (show w.heap.size + 1 < w.heap.size + 2 by omega) 7 (.bool de)
          have hF10 := hF9.setb (b0 := w.heap.size + 1) (by omega) 7 (.bool de)
          obtain ⟨W10, hW10⟩ : ∃ W10, w9.setCell ⟨w.heap.size + 1, 7, none⟩ (.bool de) = W10 := ⟨_, rfl⟩
          rw [hW10] at hQ10 hO10 hF10
          have HDE := Lib.hid hde
          clear hde hg9 hQ9 hO9 hF9 hQ8 hO8 hF8
          clear q0 q1 q2 q3 q4 q5 q6 q8 q9
          obtain ⟨j10, hP10⟩ := hQ10.goes.2
          have cN := number_limit hP10 wLimit
          clear hP10
          go_wp2_with fail
          refine cN.mono ?_
          clear cN q7 v0 v1 v2 v3 v4 v5 v6 v7 v8 v9
          cases hli : numberR (descR ts7) wLimit limitOk with
          | error x =>
            have HV := Lib.hid (HRR.out.symm.trans (by unfold queryR; rw [hT]; dsimp only; rw [hM]; dsimp only; rw [HF.out]; dsimp only; rw [hli]) : rr = .error x)
            clear HRR
            intro e w11 hpost
            obtain ⟨nv, rfl, ts11, hg11⟩ := num_err rfl hpost
            clear hpost
            have hQ11 := hQ10.move hg11
            obtain ⟨v0, v1, v2, v3, v4, v5, v6, v7, v8, v9⟩ := hQ11.q.tenF
            obtain ⟨q0, q1, q2, q3, q4, q5, q6, q7, q8, q9⟩ := hQ11.q.ten
            have hQ12 := hQ11.setq 8 (.int .i64 nv)
            simp only [List.setIfInBounds_toArray, List.set_cons_zero, List.set_cons_succ] at hQ12
            obtain ⟨W12, hW12⟩ : ∃ W12, w11.setCell ⟨w.heap.size + 1, 8, none⟩ (.int .i64 nv) = W12 := ⟨_, rfl⟩
            rw [hW12] at hQ12
            clear q0 q1 q2 q3 q4 q5 q6 q7 q9
            have k8 := q8; clear q8
            obtain ⟨q0, q1, q2, q3, q4, q5, q6, q7, q8, q9⟩ := hQ12.q.ten
            have hR := cells_gb hR1 hQ12.goes.1 hrp; obtain ⟨r0, r1, r2, r3, r4, r5, r6, r7, r8, r9⟩ := hR.ten; obtain ⟨z0, z1, z2, z3, z4, z5, z6, z7, z8, z9⟩ := hR.tenF
            go_wp2
            exact bodyPost_ret (v := .tuple #[.agg #[.int .i64 ta, .int .i64 tb, .slice ao an ac, .int .i64 op, .string nm, .string tx, .slice fo fn fc, .bool de, .int .i64 nv, .string ⟨#[]⟩], .iface 64 (.agg #[.int .i64 x.1, .int .i64 x.2])]) (by
              have R := ten_set hR (.int .i64 ta) (.int .i64 tb) (.slice ao an ac) (.int .i64 op) (.string nm) (.string tx) (.slice fo fn fc) (.bool de) (.int .i64 nv) (.string ⟨#[]⟩)
              obtain ⟨r0, r1, r2, r3, r4, r5, r6, r7, r8, r9⟩ := R.ten
              simp [results, Tryz.results23, go_sem, r0, r1, r2, r3, r4, r5, r6, r7, r8, r9]) rfl (QPost.bad HV.out (((Goes.base hgw hQ12.goes).ten (Nat.le_refl _) hpl (.int .i64 ta) (.int .i64 tb) (.slice ao an ac) (.int .i64 op) (.string nm) (.string tx) (.slice fo fn fc) (.bool de) (.int .i64 nv) (.string ⟨#[]⟩))))
          | ok li =>
            obtain ⟨lim, ts11⟩ := li
            intro e w11 hpost
            obtain ⟨rfl, hg11⟩ := num_ok rfl hpost
            clear hpost
            dsimp only at hg11
            have hQ11 := hQ10.move hg11
            have hO11 := own_gb hO10 (by omega) hg11.1
            have hF11 := hF10.gb (by omega) hg11.1
            obtain ⟨v0, v1, v2, v3, v4, v5, v6, v7, v8, v9⟩ := hQ11.q.tenF
            obtain ⟨q0, q1, q2, q3, q4, q5, q6, q7, q8, q9⟩ := hQ11.q.ten
            have hQ12 := hQ11.setq 8 (.int .i64 lim)
            simp only [List.setIfInBounds_toArray, List.set_cons_zero, List.set_cons_succ] at hQ12
            have hO12 := own_set hO11 (show w.heap.size + 1 < w.heap.size + 2 by omega) 8 (.int .i64 lim)
            have hF12 := hF11.setb (b0 := w.heap.size + 1) (by omega) 8 (.int .i64 lim)
            obtain ⟨W12, hW12⟩ : ∃ W12, w11.setCell ⟨w.heap.size + 1, 8, none⟩ (.int .i64 lim) = W12 := ⟨_, rfl⟩
            rw [hW12] at hQ12 hO12 hF12
            clear hg11 hQ11 hO11 hF11 hQ10 hO10 hF10
            clear q0 q1 q2 q3 q4 q5 q6 q7 q9
            obtain ⟨j12, hP12⟩ := hQ12.goes.2
            have cE := eat_walk hP12 wPage
            clear hP12
            go_wp2_with fail
            refine cE.mono ?_
            clear cE q8 v0 v1 v2 v3 v4 v5 v6 v7 v8 v9
            cases hpa : isIt (hdT ts11) wPage with
            | true =>
              rintro e w13 ⟨rfl, hg13⟩
              rw [if_pos rfl] at hg13
              have hQ13 := hQ12.move hg13
              have hO13 := own_gb hO12 (by omega) hg13.1
              have hF13 := hF12.gb (by omega) hg13.1
              obtain ⟨j13, hP13⟩ := hQ13.goes.2
              have cX := text_walk hP13
              clear hP13 hg13 hQ12 hO12 hF12
              go_wp2_with fail
              cases hte : textR (nextR ts11) with
              | error x =>
                have HV := Lib.hid (HRR.out.symm.trans (by unfold queryR; rw [hT]; dsimp only; rw [hM]; dsimp only; rw [HF.out]; dsimp only; rw [hli]; dsimp only; rw [pageR, if_pos hpa, hte]) : rr = .error x)
                clear HRR
                rw [hte] at cX
                simp only [textV, EndsT, errV] at cX
                refine cX.mono ?_
                clear cX
                rintro e w14 ⟨rfl, ts14, hg14⟩
                obtain ⟨sy, hsy⟩ : ∃ sy : ByteArray, ⟨(hdT (nextR ts11)).says.toArray⟩ = sy := ⟨_, rfl⟩
                rw [hsy]
                clear hsy
                have hQ14 := hQ13.move hg14
                obtain ⟨v0, v1, v2, v3, v4, v5, v6, v7, v8, v9⟩ := hQ14.q.tenF
                obtain ⟨q0, q1, q2, q3, q4, q5, q6, q7, q8, q9⟩ := hQ14.q.ten
                have hQ15 := hQ14.setq 9 (.string sy)
                simp only [List.setIfInBounds_toArray, List.set_cons_zero, List.set_cons_succ] at hQ15
                obtain ⟨W15, hW15⟩ : ∃ W15, w14.setCell ⟨w.heap.size + 1, 9, none⟩ (.string sy) = W15 := ⟨_, rfl⟩
                rw [hW15] at hQ15
                clear q0 q1 q2 q3 q4 q5 q6 q7 q8
                have k9 := q9; clear q9
                obtain ⟨q0, q1, q2, q3, q4, q5, q6, q7, q8, q9⟩ := hQ15.q.ten
                have hR := cells_gb hR1 hQ15.goes.1 hrp; obtain ⟨r0, r1, r2, r3, r4, r5, r6, r7, r8, r9⟩ := hR.ten; obtain ⟨z0, z1, z2, z3, z4, z5, z6, z7, z8, z9⟩ := hR.tenF
                go_wp2
                exact bodyPost_ret (v := .tuple #[.agg #[.int .i64 ta, .int .i64 tb, .slice ao an ac, .int .i64 op, .string nm, .string tx, .slice fo fn fc, .bool de, .int .i64 lim, .string sy], .iface 64 (.agg #[.int .i64 x.1, .int .i64 x.2])]) (by
                  have R := ten_set hR (.int .i64 ta) (.int .i64 tb) (.slice ao an ac) (.int .i64 op) (.string nm) (.string tx) (.slice fo fn fc) (.bool de) (.int .i64 lim) (.string sy)
                  obtain ⟨r0, r1, r2, r3, r4, r5, r6, r7, r8, r9⟩ := R.ten
                  simp [results, Tryz.results23, go_sem, r0, r1, r2, r3, r4, r5, r6, r7, r8, r9]) rfl (QPost.bad HV.out (((Goes.base hgw hQ15.goes).ten (Nat.le_refl _) hpl (.int .i64 ta) (.int .i64 tb) (.slice ao an ac) (.int .i64 op) (.string nm) (.string tx) (.slice fo fn fc) (.bool de) (.int .i64 lim) (.string sy))))
              | ok tx9 =>
                obtain ⟨pg, ts14⟩ := tx9
                have HP := Lib.hid (by rw [pageR, if_pos hpa, hte] : pageR ts11 = .ok (pg, ts14))
                rw [hte] at cX
                simp only [textV, EndsT] at cX
                refine cX.mono ?_
                clear cX
                rintro e w14 ⟨rfl, hg14⟩
                have hQ14 := hQ13.move hg14
                have hO14 := own_gb hO13 (by omega) hg14.1
                have hF14 := hF13.gb (by omega) hg14.1
                obtain ⟨v0, v1, v2, v3, v4, v5, v6, v7, v8, v9⟩ := hQ14.q.tenF
                obtain ⟨q0, q1, q2, q3, q4, q5, q6, q7, q8, q9⟩ := hQ14.q.ten
                have hQ15 := hQ14.setq 9 (.string ⟨pg.toArray⟩)
                simp only [List.setIfInBounds_toArray, List.set_cons_zero, List.set_cons_succ] at hQ15
                have hO15 := own_set hO14 (show w.heap.size + 1 < w.heap.size + 2 by omega) 9 (.string ⟨pg.toArray⟩)
                have hF15 := hF14.setb (b0 := w.heap.size + 1) (by omega) 9 (.string ⟨pg.toArray⟩)
                obtain ⟨W15, hW15⟩ : ∃ W15, w14.setCell ⟨w.heap.size + 1, 9, none⟩ (.string ⟨pg.toArray⟩) = W15 := ⟨_, rfl⟩
                rw [hW15] at hQ15 hO15 hF15
                clear hg14 hQ14 hO14 hF14 hQ13 hO13 hF13 hpa hte
                clear q0 q1 q2 q3 q4 q5 q6 q7 q8
                obtain ⟨j15, hP15⟩ := hQ15.goes.2
                have cK := kind_walk hP15 0
                clear hP15
                go_wp2_with fail
                clear q9 v0 v1 v2 v3 v4 v5 v6 v7 v8 v9
                cases hki : kindR ts14 0 with
                | error x =>
                  have HV := Lib.hid (HRR.out.symm.trans (by unfold queryR; rw [hT]; dsimp only; rw [hM]; dsimp only; rw [HF.out]; dsimp only; rw [hli]; dsimp only; rw [HP.out]; dsimp only; rw [hki]) : rr = .error x)
                  clear HRR
                  rw [hki] at cK
                  simp only [kindV, EndsK, tokV, errV] at cK
                  refine cK.mono ?_
                  clear cK
                  rintro e w16 ⟨rfl, ts16, hg16⟩
                  have hQ16 := hQ15.move hg16
                  obtain ⟨q0, q1, q2, q3, q4, q5, q6, q7, q8, q9⟩ := hQ16.q.ten
                  have hR := cells_gb hR1 hQ16.goes.1 hrp; obtain ⟨r0, r1, r2, r3, r4, r5, r6, r7, r8, r9⟩ := hR.ten; obtain ⟨z0, z1, z2, z3, z4, z5, z6, z7, z8, z9⟩ := hR.tenF
                  go_wp2
                  exact bodyPost_ret (v := .tuple #[.agg #[.int .i64 ta, .int .i64 tb, .slice ao an ac, .int .i64 op, .string nm, .string tx, .slice fo fn fc, .bool de, .int .i64 lim, .string ⟨pg.toArray⟩], .iface 64 (.agg #[.int .i64 x.1, .int .i64 x.2])]) (by
                    have R := ten_set hR (.int .i64 ta) (.int .i64 tb) (.slice ao an ac) (.int .i64 op) (.string nm) (.string tx) (.slice fo fn fc) (.bool de) (.int .i64 lim) (.string ⟨pg.toArray⟩)
                    obtain ⟨r0, r1, r2, r3, r4, r5, r6, r7, r8, r9⟩ := R.ten
                    simp [results, Tryz.results23, go_sem, r0, r1, r2, r3, r4, r5, r6, r7, r8, r9]) rfl (QPost.bad HV.out (((Goes.base hgw hQ16.goes).ten (Nat.le_refl _) hpl (.int .i64 ta) (.int .i64 tb) (.slice ao an ac) (.int .i64 op) (.string nm) (.string tx) (.slice fo fn fc) (.bool de) (.int .i64 lim) (.string ⟨pg.toArray⟩))))
                | ok ke =>
                  have HV := Lib.hid (HRR.out.symm.trans (by unfold queryR; rw [hT]; dsimp only; rw [hM]; dsimp only; rw [HF.out]; dsimp only; rw [hli]; dsimp only; rw [HP.out]; dsimp only; rw [hki, HDE.out]) : rr = .ok ⟨ta, tb, ms, f, de, lim, pg⟩)
                  clear HRR
                  rw [hki] at cK
                  simp only [kindV, EndsK, tokV] at cK
                  refine cK.mono ?_
                  clear cK
                  rintro e w16 ⟨rfl, hg16⟩
                  have hQ16 := hQ15.move hg16
                  have hO16 := own_gb hO15 (by omega) hg16.1
                  have hF16 := hF15.gb (by omega) hg16.1
                  obtain ⟨q0, q1, q2, q3, q4, q5, q6, q7, q8, q9⟩ := hQ16.q.ten
                  have hR := cells_gb hR1 hQ16.goes.1 hrp; obtain ⟨r0, r1, r2, r3, r4, r5, r6, r7, r8, r9⟩ := hR.ten; obtain ⟨z0, z1, z2, z3, z4, z5, z6, z7, z8, z9⟩ := hR.tenF
                  go_wp2
                  exact bodyPost_ret (v := .tuple #[.agg #[.int .i64 ta, .int .i64 tb, .slice ao an ac, .int .i64 op, .string nm, .string tx, .slice fo fn fc, .bool de, .int .i64 lim, .string ⟨pg.toArray⟩], .nilIface]) (by
                    have R := ten_set hR (.int .i64 ta) (.int .i64 tb) (.slice ao an ac) (.int .i64 op) (.string nm) (.string tx) (.slice fo fn fc) (.bool de) (.int .i64 lim) (.string ⟨pg.toArray⟩)
                    obtain ⟨r0, r1, r2, r3, r4, r5, r6, r7, r8, r9⟩ := R.ten
                    simp [results, Tryz.results23, go_sem, r0, r1, r2, r3, r4, r5, r6, r7, r8, r9]) rfl (QPost.good (q := ⟨ta, tb, ms, f, de, lim, pg⟩) HV.out (own_base (own_ten hO16 (show w.heap.size < w.heap.size + 2 by omega) (.int .i64 ta) (.int .i64 tb) (.slice ao an ac) (.int .i64 op) (.string nm) (.string tx) (.slice fo fn fc) (.bool de) (.int .i64 lim) (.string ⟨pg.toArray⟩)) (by omega)) ((hF16.ten (B := w.heap.size) (by omega) (.int .i64 ta) (.int .i64 tb) (.slice ao an ac) (.int .i64 op) (.string nm) (.string tx) (.slice fo fn fc) (.bool de) (.int .i64 lim) (.string ⟨pg.toArray⟩)).low (by omega)) ((Goes.base hgw hQ16.goes).ten (Nat.le_refl _) hpl (.int .i64 ta) (.int .i64 tb) (.slice ao an ac) (.int .i64 op) (.string nm) (.string tx) (.slice fo fn fc) (.bool de) (.int .i64 lim) (.string ⟨pg.toArray⟩)))
            | false =>
              have HP := Lib.hid (by rw [pageR, if_neg (by rw [hpa]; decide)] : pageR ts11 = .ok ([], ts11))
              rintro e w13 ⟨rfl, hg13⟩
              rw [if_neg (by decide)] at hg13
              have hQ15 := hQ12.move hg13
              have hO15 := own_gb hO12 (by omega) hg13.1
              have hF15 := hF12.gb (by omega) hg13.1
              obtain ⟨j15, hP15⟩ := hQ15.goes.2
              have cK := kind_walk hP15 0
              clear hP15 hg13 hQ12 hO12 hF12 hpa
              go_wp2_with fail
              cases hki : kindR ts11 0 with
              | error x =>
                have HV := Lib.hid (HRR.out.symm.trans (by unfold queryR; rw [hT]; dsimp only; rw [hM]; dsimp only; rw [HF.out]; dsimp only; rw [hli]; dsimp only; rw [HP.out]; dsimp only; rw [hki]) : rr = .error x)
                clear HRR
                rw [hki] at cK
                simp only [kindV, EndsK, tokV, errV] at cK
                refine cK.mono ?_
                clear cK
                rintro e w16 ⟨rfl, ts16, hg16⟩
                have hQ16 := hQ15.move hg16
                obtain ⟨q0, q1, q2, q3, q4, q5, q6, q7, q8, q9⟩ := hQ16.q.ten
                have hR := cells_gb hR1 hQ16.goes.1 hrp; obtain ⟨r0, r1, r2, r3, r4, r5, r6, r7, r8, r9⟩ := hR.ten; obtain ⟨z0, z1, z2, z3, z4, z5, z6, z7, z8, z9⟩ := hR.tenF
                go_wp2
                exact bodyPost_ret (v := .tuple #[.agg #[.int .i64 ta, .int .i64 tb, .slice ao an ac, .int .i64 op, .string nm, .string tx, .slice fo fn fc, .bool de, .int .i64 lim, .string ⟨#[]⟩], .iface 64 (.agg #[.int .i64 x.1, .int .i64 x.2])]) (by
                  have R := ten_set hR (.int .i64 ta) (.int .i64 tb) (.slice ao an ac) (.int .i64 op) (.string nm) (.string tx) (.slice fo fn fc) (.bool de) (.int .i64 lim) (.string ⟨#[]⟩)
                  obtain ⟨r0, r1, r2, r3, r4, r5, r6, r7, r8, r9⟩ := R.ten
                  simp [results, Tryz.results23, go_sem, r0, r1, r2, r3, r4, r5, r6, r7, r8, r9]) rfl (QPost.bad HV.out (((Goes.base hgw hQ16.goes).ten (Nat.le_refl _) hpl (.int .i64 ta) (.int .i64 tb) (.slice ao an ac) (.int .i64 op) (.string nm) (.string tx) (.slice fo fn fc) (.bool de) (.int .i64 lim) (.string ⟨#[]⟩))))
              | ok ke =>
                have HV := Lib.hid (HRR.out.symm.trans (by unfold queryR; rw [hT]; dsimp only; rw [hM]; dsimp only; rw [HF.out]; dsimp only; rw [hli]; dsimp only; rw [HP.out]; dsimp only; rw [hki, HDE.out]) : rr = .ok ⟨ta, tb, ms, f, de, lim, []⟩)
                clear HRR
                rw [hki] at cK
                simp only [kindV, EndsK, tokV] at cK
                refine cK.mono ?_
                clear cK
                rintro e w16 ⟨rfl, hg16⟩
                have hQ16 := hQ15.move hg16
                have hO16 := own_gb hO15 (by omega) hg16.1
                have hF16 := hF15.gb (by omega) hg16.1
                obtain ⟨q0, q1, q2, q3, q4, q5, q6, q7, q8, q9⟩ := hQ16.q.ten
                have hR := cells_gb hR1 hQ16.goes.1 hrp; obtain ⟨r0, r1, r2, r3, r4, r5, r6, r7, r8, r9⟩ := hR.ten; obtain ⟨z0, z1, z2, z3, z4, z5, z6, z7, z8, z9⟩ := hR.tenF
                go_wp2
                exact bodyPost_ret (v := .tuple #[.agg #[.int .i64 ta, .int .i64 tb, .slice ao an ac, .int .i64 op, .string nm, .string tx, .slice fo fn fc, .bool de, .int .i64 lim, .string ⟨#[]⟩], .nilIface]) (by
                  have R := ten_set hR (.int .i64 ta) (.int .i64 tb) (.slice ao an ac) (.int .i64 op) (.string nm) (.string tx) (.slice fo fn fc) (.bool de) (.int .i64 lim) (.string ⟨#[]⟩)
                  obtain ⟨r0, r1, r2, r3, r4, r5, r6, r7, r8, r9⟩ := R.ten
                  simp [results, Tryz.results23, go_sem, r0, r1, r2, r3, r4, r5, r6, r7, r8, r9]) rfl (QPost.good (q := ⟨ta, tb, ms, f, de, lim, []⟩) HV.out (own_base (own_ten hO16 (show w.heap.size < w.heap.size + 2 by omega) (.int .i64 ta) (.int .i64 tb) (.slice ao an ac) (.int .i64 op) (.string nm) (.string tx) (.slice fo fn fc) (.bool de) (.int .i64 lim) (.string ⟨#[]⟩)) (by omega)) ((hF16.ten (B := w.heap.size) (by omega) (.int .i64 ta) (.int .i64 tb) (.slice ao an ac) (.int .i64 op) (.string nm) (.string tx) (.slice fo fn fc) (.bool de) (.int .i64 lim) (.string ⟨#[]⟩)).low (by omega)) ((Goes.base hgw hQ16.goes).ten (Nat.le_refl _) hpl (.int .i64 ta) (.int .i64 tb) (.slice ao an ac) (.int .i64 op) (.string nm) (.string tx) (.slice fo fn fc) (.bool de) (.int .i64 lim) (.string ⟨#[]⟩)))
      | false =>
        rintro e w6 ⟨rfl, hg6⟩
        rw [if_neg (by decide)] at hg6
        have HF := Lib.hid (by rw [findR, if_neg (by rw [hfi]; decide)] : findR ts4 = .ok (F.mk 1 [] [] [], ts4))
        have hQ8 := hQ5.move hg6
        have hO8 := own_gb hO5 (by omega) hg6.1
        have hF8 : FVal w6 (fun b => w.heap.size + 2 ≤ b) ⟨.int .i64 1, .string ⟨#[]⟩, .string ⟨#[]⟩, .slice none 0 0⟩ (F.mk 1 [] [] []) := .leaf 1 [] []
        obtain ⟨j8, hP8⟩ := hQ8.goes.2
        have cE := eat_walk hP8 wDesc
        clear hP8 hg6 hQ5 hO5 hfi hW5
        go_wp2_with fail
        refine cE.mono ?_
        clear cE
        obtain ⟨de, hde⟩ : ∃ de, isIt (hdT ts4) wDesc = de := ⟨_, rfl⟩
        rw [hde]
        rintro e w9 ⟨rfl, hg9⟩
        rw [← hde] at hg9
        have hg9 : Goes w6 p g cap l (descR ts4) 0 w9 := hg9
        have hQ9 := hQ8.move hg9
        have hO9 := own_gb hO8 (by omega) hg9.1
        have hF9 := hF8.gb (by omega) hg9.1
        obtain ⟨v0, v1, v2, v3, v4, v5, v6, v7, v8, v9⟩ := hQ9.q.tenF
        obtain ⟨q0, q1, q2, q3, q4, q5, q6, q7, q8, q9⟩ := hQ9.q.ten
        have hQ10 := hQ9.setq 7 (.bool de)
        simp only [List.setIfInBounds_toArray, List.set_cons_zero, List.set_cons_succ] at hQ10
        have hO10 := own_set hO9 (show w.heap.size + 1 < w.heap.size + 2 by omega) 7 (.bool de)
        have hF10 := hF9.setb (b0 := w.heap.size + 1) (by omega) 7 (.bool de)
        obtain ⟨W10, hW10⟩ : ∃ W10, w9.setCell ⟨w.heap.size + 1, 7, none⟩ (.bool de) = W10 := ⟨_, rfl⟩
        rw [hW10] at hQ10 hO10 hF10
        have HDE := Lib.hid hde
        clear hde hg9 hQ9 hO9 hF9 hQ8 hO8 hF8
        clear q0 q1 q2 q3 q4 q5 q6 q8 q9
        obtain ⟨j10, hP10⟩ := hQ10.goes.2
        have cN := number_limit hP10 wLimit
        clear hP10
        go_wp2_with fail
        refine cN.mono ?_
        clear cN q7 v0 v1 v2 v3 v4 v5 v6 v7 v8 v9
        cases hli : numberR (descR ts4) wLimit limitOk with
        | error x =>
          have HV := Lib.hid (HRR.out.symm.trans (by unfold queryR; rw [hT]; dsimp only; rw [hM]; dsimp only; rw [HF.out]; dsimp only; rw [hli]) : rr = .error x)
          clear HRR
          intro e w11 hpost
          obtain ⟨nv, rfl, ts11, hg11⟩ := num_err rfl hpost
          clear hpost
          have hQ11 := hQ10.move hg11
          obtain ⟨v0, v1, v2, v3, v4, v5, v6, v7, v8, v9⟩ := hQ11.q.tenF
          obtain ⟨q0, q1, q2, q3, q4, q5, q6, q7, q8, q9⟩ := hQ11.q.ten
          have hQ12 := hQ11.setq 8 (.int .i64 nv)
          simp only [List.setIfInBounds_toArray, List.set_cons_zero, List.set_cons_succ] at hQ12
          obtain ⟨W12, hW12⟩ : ∃ W12, w11.setCell ⟨w.heap.size + 1, 8, none⟩ (.int .i64 nv) = W12 := ⟨_, rfl⟩
          rw [hW12] at hQ12
          clear q0 q1 q2 q3 q4 q5 q6 q7 q9
          have k8 := q8; clear q8
          obtain ⟨q0, q1, q2, q3, q4, q5, q6, q7, q8, q9⟩ := hQ12.q.ten
          have hR := cells_gb hR1 hQ12.goes.1 hrp; obtain ⟨r0, r1, r2, r3, r4, r5, r6, r7, r8, r9⟩ := hR.ten; obtain ⟨z0, z1, z2, z3, z4, z5, z6, z7, z8, z9⟩ := hR.tenF
          go_wp2
          exact bodyPost_ret (v := .tuple #[.agg #[.int .i64 ta, .int .i64 tb, .slice ao an ac, .int .i64 1, .string ⟨#[]⟩, .string ⟨#[]⟩, .slice none 0 0, .bool de, .int .i64 nv, .string ⟨#[]⟩], .iface 64 (.agg #[.int .i64 x.1, .int .i64 x.2])]) (by
            have R := ten_set hR (.int .i64 ta) (.int .i64 tb) (.slice ao an ac) (.int .i64 1) (.string ⟨#[]⟩) (.string ⟨#[]⟩) (.slice none 0 0) (.bool de) (.int .i64 nv) (.string ⟨#[]⟩)
            obtain ⟨r0, r1, r2, r3, r4, r5, r6, r7, r8, r9⟩ := R.ten
            simp [results, Tryz.results23, go_sem, r0, r1, r2, r3, r4, r5, r6, r7, r8, r9]) rfl (QPost.bad HV.out (((Goes.base hgw hQ12.goes).ten (Nat.le_refl _) hpl (.int .i64 ta) (.int .i64 tb) (.slice ao an ac) (.int .i64 1) (.string ⟨#[]⟩) (.string ⟨#[]⟩) (.slice none 0 0) (.bool de) (.int .i64 nv) (.string ⟨#[]⟩))))
        | ok li =>
          obtain ⟨lim, ts11⟩ := li
          intro e w11 hpost
          obtain ⟨rfl, hg11⟩ := num_ok rfl hpost
          clear hpost
          dsimp only at hg11
          have hQ11 := hQ10.move hg11
          have hO11 := own_gb hO10 (by omega) hg11.1
          have hF11 := hF10.gb (by omega) hg11.1
          obtain ⟨v0, v1, v2, v3, v4, v5, v6, v7, v8, v9⟩ := hQ11.q.tenF
          obtain ⟨q0, q1, q2, q3, q4, q5, q6, q7, q8, q9⟩ := hQ11.q.ten
          have hQ12 := hQ11.setq 8 (.int .i64 lim)
          simp only [List.setIfInBounds_toArray, List.set_cons_zero, List.set_cons_succ] at hQ12
          have hO12 := own_set hO11 (show w.heap.size + 1 < w.heap.size + 2 by omega) 8 (.int .i64 lim)
          have hF12 := hF11.setb (b0 := w.heap.size + 1) (by omega) 8 (.int .i64 lim)
          obtain ⟨W12, hW12⟩ : ∃ W12, w11.setCell ⟨w.heap.size + 1, 8, none⟩ (.int .i64 lim) = W12 := ⟨_, rfl⟩
          rw [hW12] at hQ12 hO12 hF12
          clear hg11 hQ11 hO11 hF11 hQ10 hO10 hF10
          clear q0 q1 q2 q3 q4 q5 q6 q7 q9
          obtain ⟨j12, hP12⟩ := hQ12.goes.2
          have cE := eat_walk hP12 wPage
          clear hP12
          go_wp2_with fail
          refine cE.mono ?_
          clear cE q8 v0 v1 v2 v3 v4 v5 v6 v7 v8 v9
          cases hpa : isIt (hdT ts11) wPage with
          | true =>
            rintro e w13 ⟨rfl, hg13⟩
            rw [if_pos rfl] at hg13
            have hQ13 := hQ12.move hg13
            have hO13 := own_gb hO12 (by omega) hg13.1
            have hF13 := hF12.gb (by omega) hg13.1
            obtain ⟨j13, hP13⟩ := hQ13.goes.2
            have cX := text_walk hP13
            clear hP13 hg13 hQ12 hO12 hF12
            go_wp2_with fail
            cases hte : textR (nextR ts11) with
            | error x =>
              have HV := Lib.hid (HRR.out.symm.trans (by unfold queryR; rw [hT]; dsimp only; rw [hM]; dsimp only; rw [HF.out]; dsimp only; rw [hli]; dsimp only; rw [pageR, if_pos hpa, hte]) : rr = .error x)
              clear HRR
              rw [hte] at cX
              simp only [textV, EndsT, errV] at cX
              refine cX.mono ?_
              clear cX
              rintro e w14 ⟨rfl, ts14, hg14⟩
              obtain ⟨sy, hsy⟩ : ∃ sy : ByteArray, ⟨(hdT (nextR ts11)).says.toArray⟩ = sy := ⟨_, rfl⟩
              rw [hsy]
              clear hsy
              have hQ14 := hQ13.move hg14
              obtain ⟨v0, v1, v2, v3, v4, v5, v6, v7, v8, v9⟩ := hQ14.q.tenF
              obtain ⟨q0, q1, q2, q3, q4, q5, q6, q7, q8, q9⟩ := hQ14.q.ten
              have hQ15 := hQ14.setq 9 (.string sy)
              simp only [List.setIfInBounds_toArray, List.set_cons_zero, List.set_cons_succ] at hQ15
              obtain ⟨W15, hW15⟩ : ∃ W15, w14.setCell ⟨w.heap.size + 1, 9, none⟩ (.string sy) = W15 := ⟨_, rfl⟩
              rw [hW15] at hQ15
              clear q0 q1 q2 q3 q4 q5 q6 q7 q8
              have k9 := q9; clear q9
              obtain ⟨q0, q1, q2, q3, q4, q5, q6, q7, q8, q9⟩ := hQ15.q.ten
              have hR := cells_gb hR1 hQ15.goes.1 hrp; obtain ⟨r0, r1, r2, r3, r4, r5, r6, r7, r8, r9⟩ := hR.ten; obtain ⟨z0, z1, z2, z3, z4, z5, z6, z7, z8, z9⟩ := hR.tenF
              go_wp2
              exact bodyPost_ret (v := .tuple #[.agg #[.int .i64 ta, .int .i64 tb, .slice ao an ac, .int .i64 1, .string ⟨#[]⟩, .string ⟨#[]⟩, .slice none 0 0, .bool de, .int .i64 lim, .string sy], .iface 64 (.agg #[.int .i64 x.1, .int .i64 x.2])]) (by
                have R := ten_set hR (.int .i64 ta) (.int .i64 tb) (.slice ao an ac) (.int .i64 1) (.string ⟨#[]⟩) (.string ⟨#[]⟩) (.slice none 0 0) (.bool de) (.int .i64 lim) (.string sy)
                obtain ⟨r0, r1, r2, r3, r4, r5, r6, r7, r8, r9⟩ := R.ten
                simp [results, Tryz.results23, go_sem, r0, r1, r2, r3, r4, r5, r6, r7, r8, r9]) rfl (QPost.bad HV.out (((Goes.base hgw hQ15.goes).ten (Nat.le_refl _) hpl (.int .i64 ta) (.int .i64 tb) (.slice ao an ac) (.int .i64 1) (.string ⟨#[]⟩) (.string ⟨#[]⟩) (.slice none 0 0) (.bool de) (.int .i64 lim) (.string sy))))
            | ok tx9 =>
              obtain ⟨pg, ts14⟩ := tx9
              have HP := Lib.hid (by rw [pageR, if_pos hpa, hte] : pageR ts11 = .ok (pg, ts14))
              rw [hte] at cX
              simp only [textV, EndsT] at cX
              refine cX.mono ?_
              clear cX
              rintro e w14 ⟨rfl, hg14⟩
              have hQ14 := hQ13.move hg14
              have hO14 := own_gb hO13 (by omega) hg14.1
              have hF14 := hF13.gb (by omega) hg14.1
              obtain ⟨v0, v1, v2, v3, v4, v5, v6, v7, v8, v9⟩ := hQ14.q.tenF
              obtain ⟨q0, q1, q2, q3, q4, q5, q6, q7, q8, q9⟩ := hQ14.q.ten
              have hQ15 := hQ14.setq 9 (.string ⟨pg.toArray⟩)
              simp only [List.setIfInBounds_toArray, List.set_cons_zero, List.set_cons_succ] at hQ15
              have hO15 := own_set hO14 (show w.heap.size + 1 < w.heap.size + 2 by omega) 9 (.string ⟨pg.toArray⟩)
              have hF15 := hF14.setb (b0 := w.heap.size + 1) (by omega) 9 (.string ⟨pg.toArray⟩)
              obtain ⟨W15, hW15⟩ : ∃ W15, w14.setCell ⟨w.heap.size + 1, 9, none⟩ (.string ⟨pg.toArray⟩) = W15 := ⟨_, rfl⟩
              rw [hW15] at hQ15 hO15 hF15
              clear hg14 hQ14 hO14 hF14 hQ13 hO13 hF13 hpa hte
              clear q0 q1 q2 q3 q4 q5 q6 q7 q8
              obtain ⟨j15, hP15⟩ := hQ15.goes.2
              have cK := kind_walk hP15 0
              clear hP15
              go_wp2_with fail
              clear q9 v0 v1 v2 v3 v4 v5 v6 v7 v8 v9
              cases hki : kindR ts14 0 with
              | error x =>
                have HV := Lib.hid (HRR.out.symm.trans (by unfold queryR; rw [hT]; dsimp only; rw [hM]; dsimp only; rw [HF.out]; dsimp only; rw [hli]; dsimp only; rw [HP.out]; dsimp only; rw [hki]) : rr = .error x)
                clear HRR
                rw [hki] at cK
                simp only [kindV, EndsK, tokV, errV] at cK
                refine cK.mono ?_
                clear cK
                rintro e w16 ⟨rfl, ts16, hg16⟩
                have hQ16 := hQ15.move hg16
                obtain ⟨q0, q1, q2, q3, q4, q5, q6, q7, q8, q9⟩ := hQ16.q.ten
                have hR := cells_gb hR1 hQ16.goes.1 hrp; obtain ⟨r0, r1, r2, r3, r4, r5, r6, r7, r8, r9⟩ := hR.ten; obtain ⟨z0, z1, z2, z3, z4, z5, z6, z7, z8, z9⟩ := hR.tenF
                go_wp2
                exact bodyPost_ret (v := .tuple #[.agg #[.int .i64 ta, .int .i64 tb, .slice ao an ac, .int .i64 1, .string ⟨#[]⟩, .string ⟨#[]⟩, .slice none 0 0, .bool de, .int .i64 lim, .string ⟨pg.toArray⟩], .iface 64 (.agg #[.int .i64 x.1, .int .i64 x.2])]) (by
                  have R := ten_set hR (.int .i64 ta) (.int .i64 tb) (.slice ao an ac) (.int .i64 1) (.string ⟨#[]⟩) (.string ⟨#[]⟩) (.slice none 0 0) (.bool de) (.int .i64 lim) (.string ⟨pg.toArray⟩)
                  obtain ⟨r0, r1, r2, r3, r4, r5, r6, r7, r8, r9⟩ := R.ten
                  simp [results, Tryz.results23, go_sem, r0, r1, r2, r3, r4, r5, r6, r7, r8, r9]) rfl (QPost.bad HV.out (((Goes.base hgw hQ16.goes).ten (Nat.le_refl _) hpl (.int .i64 ta) (.int .i64 tb) (.slice ao an ac) (.int .i64 1) (.string ⟨#[]⟩) (.string ⟨#[]⟩) (.slice none 0 0) (.bool de) (.int .i64 lim) (.string ⟨pg.toArray⟩))))
              | ok ke =>
                have HV := Lib.hid (HRR.out.symm.trans (by unfold queryR; rw [hT]; dsimp only; rw [hM]; dsimp only; rw [HF.out]; dsimp only; rw [hli]; dsimp only; rw [HP.out]; dsimp only; rw [hki, HDE.out]) : rr = .ok ⟨ta, tb, ms, F.mk 1 [] [] [], de, lim, pg⟩)
                clear HRR
                rw [hki] at cK
                simp only [kindV, EndsK, tokV] at cK
                refine cK.mono ?_
                clear cK
                rintro e w16 ⟨rfl, hg16⟩
                have hQ16 := hQ15.move hg16
                have hO16 := own_gb hO15 (by omega) hg16.1
                have hF16 := hF15.gb (by omega) hg16.1
                obtain ⟨q0, q1, q2, q3, q4, q5, q6, q7, q8, q9⟩ := hQ16.q.ten
                have hR := cells_gb hR1 hQ16.goes.1 hrp; obtain ⟨r0, r1, r2, r3, r4, r5, r6, r7, r8, r9⟩ := hR.ten; obtain ⟨z0, z1, z2, z3, z4, z5, z6, z7, z8, z9⟩ := hR.tenF
                go_wp2
                exact bodyPost_ret (v := .tuple #[.agg #[.int .i64 ta, .int .i64 tb, .slice ao an ac, .int .i64 1, .string ⟨#[]⟩, .string ⟨#[]⟩, .slice none 0 0, .bool de, .int .i64 lim, .string ⟨pg.toArray⟩], .nilIface]) (by
                  have R := ten_set hR (.int .i64 ta) (.int .i64 tb) (.slice ao an ac) (.int .i64 1) (.string ⟨#[]⟩) (.string ⟨#[]⟩) (.slice none 0 0) (.bool de) (.int .i64 lim) (.string ⟨pg.toArray⟩)
                  obtain ⟨r0, r1, r2, r3, r4, r5, r6, r7, r8, r9⟩ := R.ten
                  simp [results, Tryz.results23, go_sem, r0, r1, r2, r3, r4, r5, r6, r7, r8, r9]) rfl (QPost.good (q := ⟨ta, tb, ms, F.mk 1 [] [] [], de, lim, pg⟩) HV.out (own_base (own_ten hO16 (show w.heap.size < w.heap.size + 2 by omega) (.int .i64 ta) (.int .i64 tb) (.slice ao an ac) (.int .i64 1) (.string ⟨#[]⟩) (.string ⟨#[]⟩) (.slice none 0 0) (.bool de) (.int .i64 lim) (.string ⟨pg.toArray⟩)) (by omega)) ((hF16.ten (B := w.heap.size) (by omega) (.int .i64 ta) (.int .i64 tb) (.slice ao an ac) (.int .i64 1) (.string ⟨#[]⟩) (.string ⟨#[]⟩) (.slice none 0 0) (.bool de) (.int .i64 lim) (.string ⟨pg.toArray⟩)).low (by omega)) ((Goes.base hgw hQ16.goes).ten (Nat.le_refl _) hpl (.int .i64 ta) (.int .i64 tb) (.slice ao an ac) (.int .i64 1) (.string ⟨#[]⟩) (.string ⟨#[]⟩) (.slice none 0 0) (.bool de) (.int .i64 lim) (.string ⟨pg.toArray⟩)))
          | false =>
            have HP := Lib.hid (by rw [pageR, if_neg (by rw [hpa]; decide)] : pageR ts11 = .ok ([], ts11))
            rintro e w13 ⟨rfl, hg13⟩
            rw [if_neg (by decide)] at hg13
            have hQ15 := hQ12.move hg13
            have hO15 := own_gb hO12 (by omega) hg13.1
            have hF15 := hF12.gb (by omega) hg13.1
            obtain ⟨j15, hP15⟩ := hQ15.goes.2
            have cK := kind_walk hP15 0
            clear hP15 hg13 hQ12 hO12 hF12 hpa
            go_wp2_with fail
            cases hki : kindR ts11 0 with
            | error x =>
              have HV := Lib.hid (HRR.out.symm.trans (by unfold queryR; rw [hT]; dsimp only; rw [hM]; dsimp only; rw [HF.out]; dsimp only; rw [hli]; dsimp only; rw [HP.out]; dsimp only; rw [hki]) : rr = .error x)
              clear HRR
              rw [hki] at cK
              simp only [kindV, EndsK, tokV, errV] at cK
              refine cK.mono ?_
              clear cK
              rintro e w16 ⟨rfl, ts16, hg16⟩
              have hQ16 := hQ15.move hg16
              obtain ⟨q0, q1, q2, q3, q4, q5, q6, q7, q8, q9⟩ := hQ16.q.ten
              have hR := cells_gb hR1 hQ16.goes.1 hrp; obtain ⟨r0, r1, r2, r3, r4, r5, r6, r7, r8, r9⟩ := hR.ten; obtain ⟨z0, z1, z2, z3, z4, z5, z6, z7, z8, z9⟩ := hR.tenF
              go_wp2
              exact bodyPost_ret (v := .tuple #[.agg #[.int .i64 ta, .int .i64 tb, .slice ao an ac, .int .i64 1, .string ⟨#[]⟩, .string ⟨#[]⟩, .slice none 0 0, .bool de, .int .i64 lim, .string ⟨#[]⟩], .iface 64 (.agg #[.int .i64 x.1, .int .i64 x.2])]) (by
                have R := ten_set hR (.int .i64 ta) (.int .i64 tb) (.slice ao an ac) (.int .i64 1) (.string ⟨#[]⟩) (.string ⟨#[]⟩) (.slice none 0 0) (.bool de) (.int .i64 lim) (.string ⟨#[]⟩)
                obtain ⟨r0, r1, r2, r3, r4, r5, r6, r7, r8, r9⟩ := R.ten
                simp [results, Tryz.results23, go_sem, r0, r1, r2, r3, r4, r5, r6, r7, r8, r9]) rfl (QPost.bad HV.out (((Goes.base hgw hQ16.goes).ten (Nat.le_refl _) hpl (.int .i64 ta) (.int .i64 tb) (.slice ao an ac) (.int .i64 1) (.string ⟨#[]⟩) (.string ⟨#[]⟩) (.slice none 0 0) (.bool de) (.int .i64 lim) (.string ⟨#[]⟩))))
            | ok ke =>
              have HV := Lib.hid (HRR.out.symm.trans (by unfold queryR; rw [hT]; dsimp only; rw [hM]; dsimp only; rw [HF.out]; dsimp only; rw [hli]; dsimp only; rw [HP.out]; dsimp only; rw [hki, HDE.out]) : rr = .ok ⟨ta, tb, ms, F.mk 1 [] [] [], de, lim, []⟩)
              clear HRR
              rw [hki] at cK
              simp only [kindV, EndsK, tokV] at cK
              refine cK.mono ?_
              clear cK
              rintro e w16 ⟨rfl, hg16⟩
              have hQ16 := hQ15.move hg16
              have hO16 := own_gb hO15 (by omega) hg16.1
              have hF16 := hF15.gb (by omega) hg16.1
              obtain ⟨q0, q1, q2, q3, q4, q5, q6, q7, q8, q9⟩ := hQ16.q.ten
              have hR := cells_gb hR1 hQ16.goes.1 hrp; obtain ⟨r0, r1, r2, r3, r4, r5, r6, r7, r8, r9⟩ := hR.ten; obtain ⟨z0, z1, z2, z3, z4, z5, z6, z7, z8, z9⟩ := hR.tenF
              go_wp2
              exact bodyPost_ret (v := .tuple #[.agg #[.int .i64 ta, .int .i64 tb, .slice ao an ac, .int .i64 1, .string ⟨#[]⟩, .string ⟨#[]⟩, .slice none 0 0, .bool de, .int .i64 lim, .string ⟨#[]⟩], .nilIface]) (by
                have R := ten_set hR (.int .i64 ta) (.int .i64 tb) (.slice ao an ac) (.int .i64 1) (.string ⟨#[]⟩) (.string ⟨#[]⟩) (.slice none 0 0) (.bool de) (.int .i64 lim) (.string ⟨#[]⟩)
                obtain ⟨r0, r1, r2, r3, r4, r5, r6, r7, r8, r9⟩ := R.ten
                simp [results, Tryz.results23, go_sem, r0, r1, r2, r3, r4, r5, r6, r7, r8, r9]) rfl (QPost.good (q := ⟨ta, tb, ms, F.mk 1 [] [] [], de, lim, []⟩) HV.out (own_base (own_ten hO16 (show w.heap.size < w.heap.size + 2 by omega) (.int .i64 ta) (.int .i64 tb) (.slice ao an ac) (.int .i64 1) (.string ⟨#[]⟩) (.string ⟨#[]⟩) (.slice none 0 0) (.bool de) (.int .i64 lim) (.string ⟨#[]⟩)) (by omega)) ((hF16.ten (B := w.heap.size) (by omega) (.int .i64 ta) (.int .i64 tb) (.slice ao an ac) (.int .i64 1) (.string ⟨#[]⟩) (.string ⟨#[]⟩) (.slice none 0 0) (.bool de) (.int .i64 lim) (.string ⟨#[]⟩)).low (by omega)) ((Goes.base hgw hQ16.goes).ten (Nat.le_refl _) hpl (.int .i64 ta) (.int .i64 tb) (.slice ao an ac) (.int .i64 1) (.string ⟨#[]⟩) (.string ⟨#[]⟩) (.slice none 0 0) (.bool de) (.int .i64 lim) (.string ⟨#[]⟩)))
end Go.Proofs.YtebblpmocheelaaGreatDoor
