/- The walks of the parser's and, or, atom. -/
import Derived.Test.YtebblpmocheelaaGreatDoorParR
namespace Go.Proofs.YtebblpmocheelaaGreatDoor
open Go.RowKit Go.Lib

set_option maxHeartbeats 8000000 in
set_option maxRecDepth 1000000 in
theorem and_walk {w : World} {p g cap : Nat} {l ts : List Tok} {i d : Nat} (h : PS w p g cap l ts i d) (next : List Tok → Except Err (F × List Tok)) (ht : Takes next) (hll : l.length ≤ 65536)
    (hnx : ∀ (W : World) (ts' : List Tok) (j : Nat), PS W p g cap l ts' j d → ts'.length ≤ ts.length → Calls Tryz.prog 110 #[.pointer (some ⟨p, 0, none⟩)] W (FPost (next ts') W p g cap l d)) :
    Calls Tryz.prog 88 #[.pointer (some ⟨p, 0, none⟩)] w (FPost (rowR 7 wAnd next (ts.length + 1) [] ts) w p g cap l d) := by
  have hmf := hmf
  have hB0 := (Below.refl w.heap.size w).alloc (Nat.le_refl _) (.cells #[.int .i64 0, .string ⟨#[]⟩, .string ⟨#[]⟩, .slice none 0 0] 26)
  have h0 := h.kept hB0
  have g0 := Goes.of h hB0
  have hR0 := CellsAt.new w 26 #[.int .i64 0, .string ⟨#[]⟩, .string ⟨#[]⟩, .slice none 0 0]
  have hpl := h.par.lt
  have cR := row_atom h0 7 wAnd next ht hll hnx
  generalize rowR 7 wAnd next (ts.length + 1) [] ts = r at cR ⊢
  go_enter Tryz.func88, Tryz.ntmps88
  go_wp2_with fail
  cases r with
  | error x =>
    refine cR.mono ?_
    rintro e w1 ⟨o1, nm, tx, ao, n1, c1, he, ts5, hg⟩
    simp only [errV] at he
    subst he
    have hR1 := cells_gb hR0 hg.1 (by omega)
    have r0 := hR1.cell 0; have r1 := hR1.cell 1; have r2 := hR1.cell 2; have r3 := hR1.cell 3; have z0 := hR1.frozen 0; have z1 := hR1.frozen 1; have z2 := hR1.frozen 2; have z3 := hR1.frozen 3
    simp only [List.getElem?_toArray, List.getElem?_cons_zero, List.getElem?_cons_succ] at r0 r1 r2 r3
    go_wp2
    have g7 := Goes.four (g0.trans hg) (b := w.heap.size) (Nat.le_refl _) hpl (.int .i64 o1) (.string nm) (.string tx) (.slice ao n1 c1)
    exact bodyPost_ret (v := .tuple #[.agg #[.int .i64 o1, .string nm, .string tx, .slice ao n1 c1], .iface 64 (.agg #[.int .i64 x.1, .int .i64 x.2])]) (by
      have R := four_set hR1 (.int .i64 o1) (.string nm) (.string tx) (.slice ao n1 c1)
      have r0 := R.cell 0; have r1 := R.cell 1; have r2 := R.cell 2; have r3 := R.cell 3
      simp only [List.getElem?_toArray, List.getElem?_cons_zero, List.getElem?_cons_succ] at r0 r1 r2 r3
      simp [results, Tryz.results88, go_sem, r0, r1, r2, r3]) rfl (FPost.bad rfl g7)
  | ok x =>
    refine cR.mono ?_
    rintro e w1 ⟨fv, he, hF, hg⟩
    obtain ⟨o1, nm, tx, ao, n1, c1, rfl⟩ := hF.shape
    simp only [V4.agg] at he
    subst he
    have hR1 := cells_gb hR0 hg.1 (by omega)
    have r0 := hR1.cell 0; have r1 := hR1.cell 1; have r2 := hR1.cell 2; have r3 := hR1.cell 3; have z0 := hR1.frozen 0; have z1 := hR1.frozen 1; have z2 := hR1.frozen 2; have z3 := hR1.frozen 3
    simp only [List.getElem?_toArray, List.getElem?_cons_zero, List.getElem?_cons_succ] at r0 r1 r2 r3
    go_wp2
    have g7 := Goes.four (g0.trans hg) (b := w.heap.size) (Nat.le_refl _) hpl (.int .i64 o1) (.string nm) (.string tx) (.slice ao n1 c1)
    exact bodyPost_ret (v := .tuple #[.agg #[.int .i64 o1, .string nm, .string tx, .slice ao n1 c1], .nilIface]) (by
      have R := four_set hR1 (.int .i64 o1) (.string nm) (.string tx) (.slice ao n1 c1)
      have r0 := R.cell 0; have r1 := R.cell 1; have r2 := R.cell 2; have r3 := R.cell 3
      simp only [List.getElem?_toArray, List.getElem?_cons_zero, List.getElem?_cons_succ] at r0 r1 r2 r3
      simp [results, Tryz.results88, go_sem, r0, r1, r2, r3]) rfl (FPost.good (v := ⟨.int .i64 o1, .string nm, .string tx, .slice ao n1 c1⟩) rfl ((hF.four (b0 := w.heap.size) (by simp) _ _ _ _).low (by simp)) g7)

set_option maxHeartbeats 8000000 in
set_option maxRecDepth 1000000 in
theorem or_walk {w : World} {p g cap : Nat} {l ts : List Tok} {i d : Nat} (h : PS w p g cap l ts i d) (next : List Tok → Except Err (F × List Tok)) (ht : Takes next) (hll : l.length ≤ 65536)
    (hnx : ∀ (W : World) (ts' : List Tok) (j : Nat), PS W p g cap l ts' j d → ts'.length ≤ ts.length → Calls Tryz.prog 88 #[.pointer (some ⟨p, 0, none⟩)] W (FPost (next ts') W p g cap l d)) :
    Calls Tryz.prog 52 #[.pointer (some ⟨p, 0, none⟩)] w (FPost (rowR 8 wOr next (ts.length + 1) [] ts) w p g cap l d) := by
  have hmf := hmf
  have hB0 := (Below.refl w.heap.size w).alloc (Nat.le_refl _) (.cells #[.int .i64 0, .string ⟨#[]⟩, .string ⟨#[]⟩, .slice none 0 0] 26)
  have h0 := h.kept hB0
  have g0 := Goes.of h hB0
  have hR0 := CellsAt.new w 26 #[.int .i64 0, .string ⟨#[]⟩, .string ⟨#[]⟩, .slice none 0 0]
  have hpl := h.par.lt
  have cR := row_and h0 8 wOr next ht hll hnx
  generalize rowR 8 wOr next (ts.length + 1) [] ts = r at cR ⊢
  go_enter Tryz.func52, Tryz.ntmps52
  go_wp2_with fail
  cases r with
  | error x =>
    refine cR.mono ?_
    rintro e w1 ⟨o1, nm, tx, ao, n1, c1, he, ts5, hg⟩
    simp only [errV] at he
    subst he
    have hR1 := cells_gb hR0 hg.1 (by omega)
    have r0 := hR1.cell 0; have r1 := hR1.cell 1; have r2 := hR1.cell 2; have r3 := hR1.cell 3; have z0 := hR1.frozen 0; have z1 := hR1.frozen 1; have z2 := hR1.frozen 2; have z3 := hR1.frozen 3
    simp only [List.getElem?_toArray, List.getElem?_cons_zero, List.getElem?_cons_succ] at r0 r1 r2 r3
    go_wp2
    have g7 := Goes.four (g0.trans hg) (b := w.heap.size) (Nat.le_refl _) hpl (.int .i64 o1) (.string nm) (.string tx) (.slice ao n1 c1)
    exact bodyPost_ret (v := .tuple #[.agg #[.int .i64 o1, .string nm, .string tx, .slice ao n1 c1], .iface 64 (.agg #[.int .i64 x.1, .int .i64 x.2])]) (by
      have R := four_set hR1 (.int .i64 o1) (.string nm) (.string tx) (.slice ao n1 c1)
      have r0 := R.cell 0; have r1 := R.cell 1; have r2 := R.cell 2; have r3 := R.cell 3
      simp only [List.getElem?_toArray, List.getElem?_cons_zero, List.getElem?_cons_succ] at r0 r1 r2 r3
      simp [results, Tryz.results52, go_sem, r0, r1, r2, r3]) rfl (FPost.bad rfl g7)
  | ok x =>
    refine cR.mono ?_
    rintro e w1 ⟨fv, he, hF, hg⟩
    obtain ⟨o1, nm, tx, ao, n1, c1, rfl⟩ := hF.shape
    simp only [V4.agg] at he
    subst he
    have hR1 := cells_gb hR0 hg.1 (by omega)
    have r0 := hR1.cell 0; have r1 := hR1.cell 1; have r2 := hR1.cell 2; have r3 := hR1.cell 3; have z0 := hR1.frozen 0; have z1 := hR1.frozen 1; have z2 := hR1.frozen 2; have z3 := hR1.frozen 3
    simp only [List.getElem?_toArray, List.getElem?_cons_zero, List.getElem?_cons_succ] at r0 r1 r2 r3
    go_wp2
    have g7 := Goes.four (g0.trans hg) (b := w.heap.size) (Nat.le_refl _) hpl (.int .i64 o1) (.string nm) (.string tx) (.slice ao n1 c1)
    exact bodyPost_ret (v := .tuple #[.agg #[.int .i64 o1, .string nm, .string tx, .slice ao n1 c1], .nilIface]) (by
      have R := four_set hR1 (.int .i64 o1) (.string nm) (.string tx) (.slice ao n1 c1)
      have r0 := R.cell 0; have r1 := R.cell 1; have r2 := R.cell 2; have r3 := R.cell 3
      simp only [List.getElem?_toArray, List.getElem?_cons_zero, List.getElem?_cons_succ] at r0 r1 r2 r3
      simp [results, Tryz.results52, go_sem, r0, r1, r2, r3]) rfl (FPost.good (v := ⟨.int .i64 o1, .string nm, .string tx, .slice ao n1 c1⟩) rfl ((hF.four (b0 := w.heap.size) (by simp) _ _ _ _).low (by simp)) g7)

/-- or, out of atoms. -/
theorem or_atoms {w : World} {p g cap : Nat} {l ts : List Tok} {i d : Nat} (h : PS w p g cap l ts i d) (atom : List Tok → Except Err (F × List Tok)) (ht : Takes atom) (hll : l.length ≤ 65536)
    (hat : ∀ (W : World) (ts' : List Tok) (j : Nat), PS W p g cap l ts' j d → ts'.length ≤ ts.length → Calls Tryz.prog 110 #[.pointer (some ⟨p, 0, none⟩)] W (FPost (atom ts') W p g cap l d)) :
    Calls Tryz.prog 52 #[.pointer (some ⟨p, 0, none⟩)] w (FPost (orR atom ts) w p g cap l d) :=
  or_walk h (andR atom) (andR_takes ht) hll (fun _ _ _ hW hl => and_walk hW atom ht hll (fun W2 ts2 j2 hW2 hl2 => hat W2 ts2 j2 hW2 (Nat.le_trans hl2 hl)))
end Go.Proofs.YtebblpmocheelaaGreatDoor
