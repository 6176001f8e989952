/- The walks of the parser's times. -/
import Derived.Test.YtebblpmocheelaaGreatDoorParT
namespace Go.Proofs.YtebblpmocheelaaGreatDoor
open Go.RowKit Go.Lib

/-- Where query stands, whose call began at w: the parser, and the query that is filled in. -/
structure QS (w W : World) (p g cap : Nat) (l ts : List Tok) (d : Nat) (qb : Nat) (qs : Array Value) : Prop where
  goes : Goes w p g cap l ts d W
  q : CellsAt W qb 28 qs
  qb : w.heap.size ≤ qb
  pl : p < w.heap.size
theorem QS.move {w W W' : World} {p g cap : Nat} {l ts ts' : List Tok} {d qb : Nat} {qs : Array Value} (h : QS w W p g cap l ts d qb qs) (hg : Goes W p g cap l ts' d W') : QS w W' p g cap l ts' d qb qs :=
  ⟨h.goes.trans hg, cells_gb h.q hg.1 (by have := h.pl; have := h.qb; omega), h.qb, h.pl⟩
theorem QS.stay {w W W' : World} {p g cap : Nat} {l ts : List Tok} {d qb : Nat} {qs : Array Value} (h : QS w W p g cap l ts d qb qs) (hb : Below W.heap.size W W') : QS w W' p g cap l ts d qb qs :=
  ⟨h.goes.below hb, below_cells h.q hb, h.qb, h.pl⟩
theorem QS.setq {w W : World} {p g cap : Nat} {l ts : List Tok} {d qb : Nat} {qs : Array Value} (h : QS w W p g cap l ts d qb qs) (i : Nat) (v : Value) : QS w (W.setCell ⟨qb, i, none⟩ v) p g cap l ts d qb (qs.setIfInBounds i v) :=
  ⟨h.goes.set h.qb h.pl i v, h.q.set i v, h.qb, h.pl⟩

theorem below_qs {w W : World} {p g cap : Nat} {l ts : List Tok} {d qb : Nat} {qs : Array Value} (h : QS w W p g cap l ts d qb qs) (n : Nat) : QS w (W.drewN n) p g cap l ts d qb qs := h.stay (below_drewN (Below.refl _ _) n)

/-- What times hands back. -/
def TimesPost (r : Except Err (Int × Int × List Tok)) (w : World) (p g cap : Nat) (l : List Tok) (d qb : Nat) (qs : Array Value) (e : Ending) (w' : World) : Prop := match r with
  | .ok x => e = .returned .nilIface ∧ QS w w' p g cap l x.2.2 d qb ((qs.setIfInBounds 0 (.int .i64 x.1)).setIfInBounds 1 (.int .i64 x.2.1))
  | .error x => e = .returned (errV x) ∧ ∃ ts a b, QS w w' p g cap l ts d qb ((qs.setIfInBounds 0 (.int .i64 a)).setIfInBounds 1 (.int .i64 b))

theorem num_err {r : Except Err (Int × List Tok)} {w w' : World} {p g cap d : Nat} {l : List Tok} {x : Err} {e : Ending} (h : r = .error x) (hp : NumPost r w p g cap l d e w') : ∃ v, e = .returned (.tuple #[.int .i64 v, .iface 64 (.agg #[.int .i64 x.1, .int .i64 x.2])]) ∧ ∃ ts, Goes w p g cap l ts d w' := by subst h; exact hp
theorem num_ok {r : Except Err (Int × List Tok)} {w w' : World} {p g cap d : Nat} {l : List Tok} {x : Int × List Tok} {e : Ending} (h : r = .ok x) (hp : NumPost r w p g cap l d e w') : e = .returned (.tuple #[.int .i64 x.1, .nilIface]) ∧ Goes w p g cap l x.2 d w' := by subst h; exact hp

set_option maxHeartbeats 16000000 in
set_option maxRecDepth 1000000 in
theorem times_walk {w W : World} {p g cap : Nat} {l ts : List Tok} {d qb : Nat} {s2 s3 s4 s5 s6 s7 s8 s9 : Value} (h : QS w W p g cap l ts d qb #[.int .i64 0, .int .i64 0, s2, s3, s4, s5, s6, s7, s8, s9]) :
    Calls Tryz.prog 49 #[.pointer (some ⟨p, 0, none⟩), .pointer (some ⟨qb, 0, none⟩)] W (TimesPost (timesR ts) w p g cap l d qb #[.int .i64 0, .int .i64 0, s2, s3, s4, s5, s6, s7, s8, s9]) := by
  obtain ⟨i, hp⟩ := h.goes.2
  have c1 := number_time hp wFrom
  have hqb := h.qb
  have hpl := h.pl
  cases h1 : numberR ts wFrom timeOk with
  | error x =>
    have hr : timesR ts = .error x := by unfold timesR; rw [h1]
    have HV := Lib.hid hr
    clear hr
    go_enter Tryz.func49, Tryz.ntmps49
    go_wp2_with (go_at_call 53; refine c1.mono ?_; rintro e w1 hpost; obtain ⟨v, rfl, r1, hg1⟩ := num_err h1 hpost; clear hpost; have A := h.move hg1; have q0f := A.q.cell 0; have q1f := A.q.cell 1; have u0 := A.q.frozen 0; have u1 := A.q.frozen 1; simp only [List.getElem?_toArray, List.getElem?_cons_zero, List.getElem?_cons_succ] at q0f q1f)
    go_ret
    rw [HV.out]
    exact ⟨rfl, r1, v, 0, by simpa using A.setq 0 (.int .i64 v)⟩
  | ok x =>
    obtain ⟨tk, htk⟩ : ∃ tk, hdT x.2 = tk := ⟨_, rfl⟩
    cases h2 : numberR x.2 wTo timeOk with
    | error y =>
      have HV := Lib.hid (by unfold timesR; rw [h1]; dsimp only; rw [h2] : timesR ts = .error y)
      go_enter Tryz.func49, Tryz.ntmps49
      go_wp2_with (first
        | (go_at_call 53; refine c1.mono ?_; rintro e w1 hpost; obtain ⟨rfl, hg1⟩ := num_ok h1 hpost; clear hpost c1; have A := h.move hg1; have q0f := A.q.cell 0; have q1f := A.q.cell 1; have u0 := A.q.frozen 0; have u1 := A.q.frozen 1; simp only [List.getElem?_toArray, List.getElem?_cons_zero, List.getElem?_cons_succ] at q0f q1f; have A1 := A.setq 0 (.int .i64 x.1); obtain ⟨i1, p1⟩ := A1.goes.2; have cP := peek_walk p1; rw [htk] at cP; simp only [tokV] at cP)
        | (go_at_call 83; refine cP.mono ?_; rintro e w2 ⟨rfl, hb2⟩; have A2 := A1.stay hb2; have hb3 := (Below.refl w2.heap.size w2).alloc (Nat.le_refl _) (.cells #[.int .i64 tk.kind, .string ⟨tk.says.toArray⟩, .int .i64 tk.n, .int .i64 tk.place] 95); have A3 := A2.stay hb3; have hN := CellsAt.new w2 95 #[.int .i64 tk.kind, .string ⟨tk.says.toArray⟩, .int .i64 tk.n, .int .i64 tk.place]; have hnp : w2.heap.size ≠ p := (by have := A2.q.lt; have := A2.goes.1.size; omega); have hnq : w2.heap.size ≠ qb := (by have := A2.q.lt; omega); obtain ⟨i3, p3⟩ := A3.goes.2; have c2 := number_time p3 wTo; clear cP p1)
        | (go_at_call 53; refine c2.mono ?_; rintro e w4 hpost; obtain ⟨v, rfl, r4, hg4⟩ := num_err h2 hpost; clear hpost c2 p3; have A4 := A3.move hg4; have q0f := A4.q.cell 0; have q1f := A4.q.cell 1; have u0 := A4.q.frozen 0; have u1 := A4.q.frozen 1; simp only [List.setIfInBounds_toArray, List.set_cons_zero, List.getElem?_toArray, List.getElem?_cons_zero, List.getElem?_cons_succ] at q0f q1f; have hN4 := cells_gb hN hg4.1 hnp))
      go_quiet (fail)
      go_wp2
      go_ret
      rw [HV.out]
      exact ⟨rfl, r4, x.1, v, below_qs (by simpa using A4.setq 1 (.int .i64 v)) _⟩
    | ok y =>
      by_cases hlt : y.1 < x.1
      · have HV := Lib.hid (by unfold timesR; rw [h1]; dsimp only; rw [h2]; dsimp only; rw [if_pos hlt, htk] : timesR ts = .error (7, tk.place))
        have cF := fun W => fail_walk 7 tk W
        simp only [tokV, errV] at cF
        go_enter Tryz.func49, Tryz.ntmps49
        go_wp2_with (first
          | (go_at_call 53; refine c1.mono ?_; rintro e w1 hpost; obtain ⟨rfl, hg1⟩ := num_ok h1 hpost; clear hpost c1; have A := h.move hg1; have q0f := A.q.cell 0; have q1f := A.q.cell 1; have u0 := A.q.frozen 0; have u1 := A.q.frozen 1; simp only [List.getElem?_toArray, List.getElem?_cons_zero, List.getElem?_cons_succ] at q0f q1f; have A1 := A.setq 0 (.int .i64 x.1); obtain ⟨i1, p1⟩ := A1.goes.2; have cP := peek_walk p1; rw [htk] at cP; simp only [tokV] at cP)
          | (go_at_call 83; refine cP.mono ?_; rintro e w2 ⟨rfl, hb2⟩; have A2 := A1.stay hb2; have hb3 := (Below.refl w2.heap.size w2).alloc (Nat.le_refl _) (.cells #[.int .i64 tk.kind, .string ⟨tk.says.toArray⟩, .int .i64 tk.n, .int .i64 tk.place] 95); have A3 := A2.stay hb3; have hN := CellsAt.new w2 95 #[.int .i64 tk.kind, .string ⟨tk.says.toArray⟩, .int .i64 tk.n, .int .i64 tk.place]; have hnp : w2.heap.size ≠ p := (by have := A2.q.lt; have := A2.goes.1.size; omega); have hnq : w2.heap.size ≠ qb := (by have := A2.q.lt; omega); obtain ⟨i3, p3⟩ := A3.goes.2; have c2 := number_time p3 wTo; clear cP p1)
          | (go_at_call 53; refine c2.mono ?_; rintro e w4 hpost; obtain ⟨rfl, hg4⟩ := num_ok h2 hpost; clear hpost c2 p3; have A4 := A3.move hg4; have q0f := A4.q.cell 0; have q1f := A4.q.cell 1; have u0 := A4.q.frozen 0; have u1 := A4.q.frozen 1; simp only [List.setIfInBounds_toArray, List.set_cons_zero, List.getElem?_toArray, List.getElem?_cons_zero, List.getElem?_cons_succ] at q0f q1f; have hN4 := cells_gb hN hg4.1 hnp; have n0 := hN4.cell 0; have n1 := hN4.cell 1; have n2 := hN4.cell 2; have n3 := hN4.cell 3; simp only [List.getElem?_toArray, List.getElem?_cons_zero, List.getElem?_cons_succ] at n0 n1 n2 n3))
        go_quiet (fail)
        go_wp2_with (go_at_call 84; refine (cF _).mono ?_; rintro e w5 ⟨rfl, hb5⟩)
        go_ret
        rw [HV.out]
        exact ⟨rfl, y.2, x.1, y.1, (below_qs (by simpa using A4.setq 1 (.int .i64 y.1)) _).stay hb5⟩
      · have HV := Lib.hid (by unfold timesR; rw [h1]; dsimp only; rw [h2]; dsimp only; rw [if_neg hlt] : timesR ts = .ok (x.1, y.1, y.2))
        go_enter Tryz.func49, Tryz.ntmps49
        go_wp2_with (first
          | (go_at_call 53; refine c1.mono ?_; rintro e w1 hpost; obtain ⟨rfl, hg1⟩ := num_ok h1 hpost; clear hpost c1; have A := h.move hg1; have q0f := A.q.cell 0; have q1f := A.q.cell 1; have u0 := A.q.frozen 0; have u1 := A.q.frozen 1; simp only [List.getElem?_toArray, List.getElem?_cons_zero, List.getElem?_cons_succ] at q0f q1f; have A1 := A.setq 0 (.int .i64 x.1); obtain ⟨i1, p1⟩ := A1.goes.2; have cP := peek_walk p1; rw [htk] at cP; simp only [tokV] at cP)
          | (go_at_call 83; refine cP.mono ?_; rintro e w2 ⟨rfl, hb2⟩; have A2 := A1.stay hb2; have hb3 := (Below.refl w2.heap.size w2).alloc (Nat.le_refl _) (.cells #[.int .i64 tk.kind, .string ⟨tk.says.toArray⟩, .int .i64 tk.n, .int .i64 tk.place] 95); have A3 := A2.stay hb3; have hN := CellsAt.new w2 95 #[.int .i64 tk.kind, .string ⟨tk.says.toArray⟩, .int .i64 tk.n, .int .i64 tk.place]; have hnp : w2.heap.size ≠ p := (by have := A2.q.lt; have := A2.goes.1.size; omega); have hnq : w2.heap.size ≠ qb := (by have := A2.q.lt; omega); obtain ⟨i3, p3⟩ := A3.goes.2; have c2 := number_time p3 wTo; clear cP p1)
          | (go_at_call 53; refine c2.mono ?_; rintro e w4 hpost; obtain ⟨rfl, hg4⟩ := num_ok h2 hpost; clear hpost c2 p3; have A4 := A3.move hg4; have q0f := A4.q.cell 0; have q1f := A4.q.cell 1; have u0 := A4.q.frozen 0; have u1 := A4.q.frozen 1; simp only [List.setIfInBounds_toArray, List.set_cons_zero, List.getElem?_toArray, List.getElem?_cons_zero, List.getElem?_cons_succ] at q0f q1f; have hN4 := cells_gb hN hg4.1 hnp; have n0 := hN4.cell 0; have n1 := hN4.cell 1; have n2 := hN4.cell 2; have n3 := hN4.cell 3; simp only [List.getElem?_toArray, List.getElem?_cons_zero, List.getElem?_cons_succ] at n0 n1 n2 n3))
        go_quiet (fail)
        go_wp2
        go_ret
        rw [HV.out]
        exact ⟨rfl, below_qs (by simpa using A4.setq 1 (.int .i64 y.1)) _⟩
end Go.Proofs.YtebblpmocheelaaGreatDoor
