/- Filters in memory; the walks of the parser's within, atom, row, and, or. -/
import Derived.Test.YtebblpmocheelaaGreatDoorParW
import Derived.Defers
import Derived.Maps.AppendAt
namespace Go.Proofs.YtebblpmocheelaaGreatDoor
open Go.RowKit Go.Lib

/-! ### Filters in memory -/
/-- A filter's four cells, as a row has them. -/
structure V4 where
  a : Value
  b : Value
  c : Value
  k : Value
def V4.agg (x : V4) : Value := .agg #[x.a, x.b, x.c, x.k]
def V4.cells (x : V4) : List Value := [x.a, x.b, x.c, x.k]
structure FCells (W : World) (g i : Nat) (x : V4) : Prop where
  c0 : W.cell? ⟨g, i * 4, none⟩ = some x.a
  c1 : W.cell? ⟨g, i * 4 + 1, none⟩ = some x.b
  c2 : W.cell? ⟨g, i * 4 + 2, none⟩ = some x.c
  c3 : W.cell? ⟨g, i * 4 + 3, none⟩ = some x.k
/-- A value is a filter, whose kids lie in blocks of which S is true. -/
inductive FVal (W : World) (S : Nat → Prop) : V4 → F → Prop
  | leaf (op : Int) (nm tx : List UInt8) : FVal W S ⟨.int .i64 op, .string ⟨nm.toArray⟩, .string ⟨tx.toArray⟩, .slice none 0 0⟩ (F.mk op nm tx [])
  | node (op : Int) (nm tx : List UInt8) (g cap : Nat) (ks : List F) (vs : List V4) : S g → g < W.heap.size → ks.length ≤ cap → cap ≤ maxLen → vs.length = ks.length → 0 < ks.length →
      (∀ (i : Nat) (x : V4), vs[i]? = some x → FCells W g i x) → (∀ (i : Nat) (x : V4) (f : F), vs[i]? = some x → ks[i]? = some f → FVal W S x f) →
      FVal W S ⟨.int .i64 op, .string ⟨nm.toArray⟩, .string ⟨tx.toArray⟩, .slice (some ⟨g, 0, none⟩) ks.length cap⟩ (F.mk op nm tx ks)

theorem FCells.kept {W W' : World} {g i : Nat} {x : V4} (h : FCells W g i x) (hb : W'.heap[g]? = W.heap[g]?) : FCells W' g i x := by
  have e : ∀ o, W'.cell? ⟨g, o, none⟩ = W.cell? ⟨g, o, none⟩ := fun o => World.cell?_of_block (a := ⟨g, o, none⟩) hb
  exact ⟨(e _).trans h.c0, (e _).trans h.c1, (e _).trans h.c2, (e _).trans h.c3⟩
theorem FVal.kept {W W' : World} {S S' : Nat → Prop} {x : V4} {f : F} (h : FVal W S x f) (hz : W.heap.size ≤ W'.heap.size) (hb : ∀ b, S b → b < W.heap.size → W'.heap[b]? = W.heap[b]? ∧ S' b) : FVal W' S' x f := by
  induction h with
  | leaf op nm tx => exact .leaf op nm tx
  | node op nm tx g cap ks vs h1 h2 h3 h4 h5 h6 h7 _ ih =>
    exact .node op nm tx g cap ks vs (hb g h1 h2).2 (Nat.lt_of_lt_of_le h2 hz) h3 h4 h5 h6 (fun i x hx => (h7 i x hx).kept (hb g h1 h2).1) ih
theorem FVal.stay {W W' : World} {S : Nat → Prop} {x : V4} {f : F} (h : FVal W S x f) (hb : Below W.heap.size W W') : FVal W' S x f :=
  h.kept hb.size (fun b hs hl => ⟨hb.block b hl, hs⟩)
theorem FVal.gb {W W' : World} {lo p : Nat} {x : V4} {f : F} (h : FVal W (fun b => lo ≤ b) x f) (hp : p < lo) (hb : W.grownBy W' (some p)) : FVal W' (fun b => lo ≤ b) x f :=
  h.kept hb.size (fun b hs hl => ⟨hb.block b hl (fun e => by injection e with e; omega), hs⟩)
theorem FVal.low {W : World} {lo lo2 : Nat} {x : V4} {f : F} (h : FVal W (fun b => lo ≤ b) x f) (hl : lo2 ≤ lo) : FVal W (fun b => lo2 ≤ b) x f :=
  h.kept (Nat.le_refl _) (fun b hs _ => ⟨rfl, by omega⟩)
theorem FVal.setb {W : World} {lo b0 : Nat} {x : V4} {f : F} (h : FVal W (fun b => lo ≤ b) x f) (hb : b0 < lo) (i : Nat) (v : Value) : FVal (W.setCell ⟨b0, i, none⟩ v) (fun b => lo ≤ b) x f :=
  h.kept (grown_setCell W b0 i v).size (fun b hs hl => ⟨(grown_setCell W b0 i v).block b hl (fun e => by injection e with e; omega), hs⟩)
theorem FVal.four {W : World} {lo b0 : Nat} {x : V4} {f : F} (h : FVal W (fun b => lo ≤ b) x f) (hb : b0 < lo) (x0 x1 x2 x3 : Value) :
    FVal ((((W.setCell ⟨b0, 0, none⟩ x0).setCell ⟨b0, 1, none⟩ x1).setCell ⟨b0, 2, none⟩ x2).setCell ⟨b0, 3, none⟩ x3) (fun b => lo ≤ b) x f := (((h.setb hb 0 x0).setb hb 1 x1).setb hb 2 x2).setb hb 3 x3
theorem FVal.shape {W : World} {S : Nat → Prop} {x : V4} {f : F} (h : FVal W S x f) : ∃ op nm tx ao n c, x = ⟨.int .i64 op, .string nm, .string tx, .slice ao n c⟩ := by
  cases h with
  | leaf op nm tx => exact ⟨_, _, _, _, _, _, rfl⟩
  | node op nm tx g cap ks vs => exact ⟨_, _, _, _, _, _, rfl⟩

/-- What atom, row, and, or hand back. -/
def FPost (r : Except Err (F × List Tok)) (w : World) (p g cap : Nat) (l : List Tok) (d : Nat) (e : Ending) (w' : World) : Prop := match r with
  | .ok x => ∃ v, e = .returned (.tuple #[V4.agg v, .nilIface]) ∧ FVal w' (fun b => w.heap.size ≤ b) v x.1 ∧ Goes w p g cap l x.2 d w'
  | .error x => ∃ op nm tx ao n c, e = .returned (.tuple #[.agg #[.int .i64 op, .string nm, .string tx, .slice ao n c], errV x]) ∧ ∃ r, Goes w p g cap l r d w'

theorem PS.deep {W : World} {p g cap : Nat} {l ts : List Tok} {i d : Nat} (h : PS W p g cap l ts i d) (d2 : Nat) : PS (W.setCell ⟨p, 1, none⟩ (.int .i64 d2)) p g cap l ts i d2 :=
  { h with
    par := by have := h.par.set 1 (.int .i64 d2); simpa using this
    row := h.row.kept (grown_setCell W p 1 _) (by have := h.gp; simp; omega) }

theorem CellsAt.set_other {W : World} {B B' : Nat} {t : TypeId} {xs : Array Value} (h : CellsAt W B t xs) (hne : B ≠ B') (i : Nat) (v : Value) : CellsAt (W.setCell ⟨B', i, none⟩ v) B t xs :=
  ((grown_setCell W B' i v).block B h.lt (fun e => hne (by injection e))).trans h
theorem hmf : ∀ (fn : Fn) (first cap : Array Value) (w : World), (Instr.makeFunc fn first cap).run Tryz.prog w = .ok (.func fn first cap) w := fun _ _ _ _ => rfl

/-- The deferred closure of within: one less deep. -/
theorem undeep (b : Addr) (p : Nat) (d : Int) (u : FrameMode) (w : World) (hb : w.cell? b = some (.pointer (some ⟨p, 0, none⟩))) (hc : w.cell? ⟨p, 1, none⟩ = some (.int .i64 d)) (hz : w.frozen? ⟨p, 1, none⟩ = false) (h0 : 1 ≤ d) (h1 : d ≤ 100) :
    CallsD Tryz.prog 141 #[.pointer (some b)] u w fun e u' w' => u' = u ∧ e = .returned (.tuple #[]) ∧ w' = w.setCell ⟨p, 1, none⟩ (.int .i64 (d - 1)) := by
  go_enter_d Tryz.func141, Tryz.ntmps141
  go_wp2
  go_end0
  exact ⟨rfl, rfl⟩

set_option maxHeartbeats 8000000 in
set_option maxRecDepth 1000000 in
theorem within_atom {w : World} {p g cap : Nat} {l ts : List Tok} {i d : Nat} (h : PS w p g cap l ts i d) (t : Tok) (r : Except Err (F × List Tok)) (hd : d ≤ 8)
    (hof : d < 8 → ∀ (W : World) (j : Nat), PS W p g cap l ts j (d + 1) → Calls Tryz.prog 110 #[.pointer (some ⟨p, 0, none⟩)] W (FPost r W p g cap l (d + 1))) :
    Calls Tryz.prog 126 #[.pointer (some ⟨p, 0, none⟩), tokV t, .func (.func 110) #[.pointer (some ⟨p, 0, none⟩)] #[]] w (FPost (if 8 ≤ d then .error (6, t.place) else r) w p g cap l d) := by
  have hmf := hmf
  simp only [tokV]
  have hB3 := (((Below.refl w.heap.size w).alloc (Nat.le_refl _) (.cells #[.pointer (some ⟨p, 0, none⟩)] 60)).alloc (by simp) (.cells #[.int .i64 t.kind, .string ⟨t.says.toArray⟩, .int .i64 t.n, .int .i64 t.place] 95)).alloc (by simp; omega) (.cells #[.int .i64 0, .string ⟨#[]⟩, .string ⟨#[]⟩, .slice none 0 0] 26)
  have h3 := h.kept hB3
  have p1 := h3.par.cell 1
  have f1 := h3.par.frozen 1
  have hpl := h.par.lt
  have b0 := ((CellsAt.new w 60 #[.pointer (some ⟨p, 0, none⟩)]).alloc (.cells #[.int .i64 t.kind, .string ⟨t.says.toArray⟩, .int .i64 t.n, .int .i64 t.place] 95)).alloc (.cells #[.int .i64 0, .string ⟨#[]⟩, .string ⟨#[]⟩, .slice none 0 0] 26)
  have bt := (CellsAt.new (w.alloc (.cells #[.pointer (some ⟨p, 0, none⟩)] 60)) 95 #[.int .i64 t.kind, .string ⟨t.says.toArray⟩, .int .i64 t.n, .int .i64 t.place]).alloc (.cells #[.int .i64 0, .string ⟨#[]⟩, .string ⟨#[]⟩, .slice none 0 0] 26)
  have bf := CellsAt.new ((w.alloc (.cells #[.pointer (some ⟨p, 0, none⟩)] 60)).alloc (.cells #[.int .i64 t.kind, .string ⟨t.says.toArray⟩, .int .i64 t.n, .int .i64 t.place] 95)) 26 #[.int .i64 0, .string ⟨#[]⟩, .string ⟨#[]⟩, .slice none 0 0]
  simp only [World.size_alloc] at bt bf
  simp only [List.getElem?_toArray, List.getElem?_cons_zero, List.getElem?_cons_succ] at p1
  have hsz : (((w.alloc (.cells #[.pointer (some ⟨p, 0, none⟩)] 60)).alloc (.cells #[.int .i64 t.kind, .string ⟨t.says.toArray⟩, .int .i64 t.n, .int .i64 t.place] 95)).alloc (.cells #[.int .i64 0, .string ⟨#[]⟩, .string ⟨#[]⟩, .slice none 0 0] 26)).heap.size = w.heap.size + 3 := by simp
  by_cases h8 : 8 ≤ d
  · rw [if_pos h8]
    have cF := fun W => fail_walk 6 t W
    simp only [tokV, errV] at cF
    clear hof
    go_enter_defers Tryz.func126, Tryz.ntmps126
    go_wp2_with (go_at_call 84; refine (cF _).mono ?_; rintro e w3 ⟨rfl, hb3⟩; have bf3 := below_cells bf hb3; have f0 := bf3.frozen 0; have f1 := bf3.frozen 1; have f2 := bf3.frozen 2; have f3 := bf3.frozen 3; have r0 := bf3.cell 0; have r1 := bf3.cell 1; have r2 := bf3.cell 2; have r3 := bf3.cell 3; simp only [List.getElem?_toArray, List.getElem?_cons_zero, List.getElem?_cons_succ] at r0 r1 r2 r3)
    refine ⟨.tuple #[.agg #[.int .i64 0, .string ⟨#[]⟩, .string ⟨#[]⟩, .slice none 0 0], errV (6, t.place)], by
      have R := four_set bf3 (.int .i64 0) (.string ⟨#[]⟩) (.string ⟨#[]⟩) (.slice none 0 0)
      have r0 := R.cell 0; have r1 := R.cell 1; have r2 := R.cell 2; have r3 := R.cell 3
      simp at r0 r1 r2 r3
      simp [results, Tryz.results126, go_sem, errV, r0, r1, r2, r3], ?_⟩
    exact ⟨0, ⟨#[]⟩, ⟨#[]⟩, none, 0, 0, rfl, _, ((Goes.of h hB3).below hb3).four (by omega) hpl _ _ _ _⟩
  · rw [if_neg h8]
    have h4 := h3.deep (d + 1)
    have cO := hof (by omega) _ _ h4
    have g4 : w.grownBy ((((w.alloc (.cells #[.pointer (some ⟨p, 0, none⟩)] 60)).alloc (.cells #[.int .i64 t.kind, .string ⟨t.says.toArray⟩, .int .i64 t.n, .int .i64 t.place] 95)).alloc (.cells #[.int .i64 0, .string ⟨#[]⟩, .string ⟨#[]⟩, .slice none 0 0] 26)).setCell ⟨p, 1, none⟩ (.int .i64 (d + 1 : Nat))) (some p) := gb_trans (gb_below hB3 _) (grown_setCell _ p 1 _)
    clear hof
    go_enter_defers Tryz.func126, Tryz.ntmps126
    have hps : p < w.heap.size := hpl
    have bfD := bf.set_other (B' := p) (by omega) 1 (.int .i64 (d + 1 : Nat))
    have b0D := b0.set_other (B' := p) (by omega) 1 (.int .i64 (d + 1 : Nat))
    cases r with
    | error x =>
      go_wp2_with fail
      refine cO.mono ?_
      rintro e w5 ⟨op, nm, tx, ao, n, c, he, ts5, hg⟩
      simp only [errV] at he
      subst he
      have bf4 := cells_gb bfD hg.1 (by omega)
      have bp4 := cells_gb b0D hg.1 (by omega)
      have fz0 := bf4.frozen 0
      have fz1 := bf4.frozen 1
      have fz2 := bf4.frozen 2
      have fz3 := bf4.frozen 3
      have r0 := bf4.cell 0
      have r1 := bf4.cell 1
      have r2 := bf4.cell 2
      have r3 := bf4.cell 3
      simp only [List.getElem?_toArray, List.getElem?_cons_zero, List.getElem?_cons_succ] at r0 r1 r2 r3
      go_wp2
      have R := four_set bf4 (.int .i64 op) (.string nm) (.string tx) (.slice ao n c)
      have g5 : Goes w p g cap l ts5 (d + 1) w5 := ⟨gb_trans g4 hg.1, hg.2⟩
      have g6 := Goes.four g5 (b := w.heap.size + 1 + 1) (by omega) hps (.int .i64 op) (.string nm) (.string tx) (.slice ao n c)
      have bx6 := (((bp4.set_other (B' := w.heap.size + 1 + 1) (by omega) 0 (.int .i64 op)).set_other (B' := w.heap.size + 1 + 1) (by omega) 1 (.string nm)).set_other (B' := w.heap.size + 1 + 1) (by omega) 2 (.string tx)).set_other (B' := w.heap.size + 1 + 1) (by omega) 3 (.slice ao n c)
      obtain ⟨gb6, j6, ps6⟩ := g6
      have q1 := ps6.par.cell 1
      have z1 := ps6.par.frozen 1
      have x0 := bx6.cell 0
      simp only [List.getElem?_toArray, List.getElem?_cons_zero, List.getElem?_cons_succ] at q1 x0
      refine leaves_cons (f := 141) (args := #[.pointer (some ⟨w.heap.size, 0, none⟩)]) (by simp) (by simp [go_sem]) ?_
      refine (undeep ⟨w.heap.size, 0, none⟩ p ((d + 1 : Nat) : Int) .returning _ x0 q1 z1 (by omega) (by omega)).mono ?_
      rintro e u' w7 ⟨rfl, rfl, rfl⟩
      have ed : ((d + 1 : Nat) : Int) - 1 = (d : Int) := by omega
      rw [ed]
      have R7 := R.set_other (B' := p) (by omega) 1 (.int .i64 d)
      have r0 := R7.cell 0; have r1 := R7.cell 1; have r2 := R7.cell 2; have r3 := R7.cell 3
      simp only [List.getElem?_toArray, List.getElem?_cons_zero, List.getElem?_cons_succ] at r0 r1 r2 r3
      refine ⟨.tuple #[.agg #[.int .i64 op, .string nm, .string tx, .slice ao n c], errV x], by simp [results, Tryz.results126, go_sem, errV, r0, r1, r2, r3], ?_⟩
      exact ⟨op, nm, tx, ao, n, c, rfl, ts5, gb_trans gb6 (grown_setCell _ p 1 _), j6, ps6.deep d⟩
    | ok x =>
      go_wp2_with fail
      refine cO.mono ?_
      rintro e w5 ⟨fv, he, hF, hg⟩
      obtain ⟨op, nm, tx, ao, n, c, rfl⟩ := hF.shape
      simp only [V4.agg] at he
      subst he
      have bf4 := cells_gb bfD hg.1 (by omega)
      have bp4 := cells_gb b0D hg.1 (by omega)
      have fz0 := bf4.frozen 0
      have fz1 := bf4.frozen 1
      have fz2 := bf4.frozen 2
      have fz3 := bf4.frozen 3
      have r0 := bf4.cell 0
      have r1 := bf4.cell 1
      have r2 := bf4.cell 2
      have r3 := bf4.cell 3
      simp only [List.getElem?_toArray, List.getElem?_cons_zero, List.getElem?_cons_succ] at r0 r1 r2 r3
      go_wp2
      have R := four_set bf4 (.int .i64 op) (.string nm) (.string tx) (.slice ao n c)
      have g5 : Goes w p g cap l x.2 (d + 1) w5 := ⟨gb_trans g4 hg.1, hg.2⟩
      have g6 := Goes.four g5 (b := w.heap.size + 1 + 1) (by omega) hps (.int .i64 op) (.string nm) (.string tx) (.slice ao n c)
      have bx6 := (((bp4.set_other (B' := w.heap.size + 1 + 1) (by omega) 0 (.int .i64 op)).set_other (B' := w.heap.size + 1 + 1) (by omega) 1 (.string nm)).set_other (B' := w.heap.size + 1 + 1) (by omega) 2 (.string tx)).set_other (B' := w.heap.size + 1 + 1) (by omega) 3 (.slice ao n c)
      obtain ⟨gb6, j6, ps6⟩ := g6
      have q1 := ps6.par.cell 1
      have z1 := ps6.par.frozen 1
      have x0 := bx6.cell 0
      simp only [List.getElem?_toArray, List.getElem?_cons_zero, List.getElem?_cons_succ] at q1 x0
      refine leaves_cons (f := 141) (args := #[.pointer (some ⟨w.heap.size, 0, none⟩)]) (by simp) (by simp [go_sem]) ?_
      refine (undeep ⟨w.heap.size, 0, none⟩ p ((d + 1 : Nat) : Int) .returning _ x0 q1 z1 (by omega) (by omega)).mono ?_
      rintro e u' w7 ⟨rfl, rfl, rfl⟩
      have ed : ((d + 1 : Nat) : Int) - 1 = (d : Int) := by omega
      rw [ed]
      have R7 := R.set_other (B' := p) (by omega) 1 (.int .i64 d)
      have r0 := R7.cell 0; have r1 := R7.cell 1; have r2 := R7.cell 2; have r3 := R7.cell 3
      simp only [List.getElem?_toArray, List.getElem?_cons_zero, List.getElem?_cons_succ] at r0 r1 r2 r3
      refine ⟨.tuple #[.agg #[.int .i64 op, .string nm, .string tx, .slice ao n c], .nilIface], by simp [results, Tryz.results126, go_sem, r0, r1, r2, r3], ?_⟩
      refine ⟨⟨.int .i64 op, .string nm, .string tx, .slice ao n c⟩, rfl, ?_, gb_trans gb6 (grown_setCell _ p 1 _), j6, ps6.deep d⟩
      have hsz4 : w.heap.size + 3 ≤ ((((w.alloc (.cells #[.pointer (some ⟨p, 0, none⟩)] 60)).alloc (.cells #[.int .i64 t.kind, .string ⟨t.says.toArray⟩, .int .i64 t.n, .int .i64 t.place] 95)).alloc (.cells #[.int .i64 0, .string ⟨#[]⟩, .string ⟨#[]⟩, .slice none 0 0] 26)).setCell ⟨p, 1, none⟩ (.int .i64 (d + 1 : Nat))).heap.size := Nat.le_trans (Nat.le_of_eq hsz.symm) (grown_setCell _ p 1 _).size
      exact (((hF.low hsz4).four (by omega) _ _ _ _).setb (by omega) 1 _).low (by omega)

set_option maxHeartbeats 8000000 in
set_option maxRecDepth 1000000 in
theorem within_or {w : World} {p g cap : Nat} {l ts : List Tok} {i d : Nat} (h : PS w p g cap l ts i d) (t : Tok) (r : Except Err (F × List Tok)) (hd : d ≤ 8)
    (hof : d < 8 → ∀ (W : World) (j : Nat), PS W p g cap l ts j (d + 1) → Calls Tryz.prog 52 #[.pointer (some ⟨p, 0, none⟩)] W (FPost r W p g cap l (d + 1))) :
    Calls Tryz.prog 126 #[.pointer (some ⟨p, 0, none⟩), tokV t, .func (.func 52) #[.pointer (some ⟨p, 0, none⟩)] #[]] w (FPost (if 8 ≤ d then .error (6, t.place) else r) w p g cap l d) := by
  have hmf := hmf
  simp only [tokV]
  have hB3 := (((Below.refl w.heap.size w).alloc (Nat.le_refl _) (.cells #[.pointer (some ⟨p, 0, none⟩)] 60)).alloc (by simp) (.cells #[.int .i64 t.kind, .string ⟨t.says.toArray⟩, .int .i64 t.n, .int .i64 t.place] 95)).alloc (by simp; omega) (.cells #[.int .i64 0, .string ⟨#[]⟩, .string ⟨#[]⟩, .slice none 0 0] 26)
  have h3 := h.kept hB3
  have p1 := h3.par.cell 1
  have f1 := h3.par.frozen 1
  have hpl := h.par.lt
  have b0 := ((CellsAt.new w 60 #[.pointer (some ⟨p, 0, none⟩)]).alloc (.cells #[.int .i64 t.kind, .string ⟨t.says.toArray⟩, .int .i64 t.n, .int .i64 t.place] 95)).alloc (.cells #[.int .i64 0, .string ⟨#[]⟩, .string ⟨#[]⟩, .slice none 0 0] 26)
  have bt := (CellsAt.new (w.alloc (.cells #[.pointer (some ⟨p, 0, none⟩)] 60)) 95 #[.int .i64 t.kind, .string ⟨t.says.toArray⟩, .int .i64 t.n, .int .i64 t.place]).alloc (.cells #[.int .i64 0, .string ⟨#[]⟩, .string ⟨#[]⟩, .slice none 0 0] 26)
  have bf := CellsAt.new ((w.alloc (.cells #[.pointer (some ⟨p, 0, none⟩)] 60)).alloc (.cells #[.int .i64 t.kind, .string ⟨t.says.toArray⟩, .int .i64 t.n, .int .i64 t.place] 95)) 26 #[.int .i64 0, .string ⟨#[]⟩, .string ⟨#[]⟩, .slice none 0 0]
  simp only [World.size_alloc] at bt bf
  simp only [List.getElem?_toArray, List.getElem?_cons_zero, List.getElem?_cons_succ] at p1
  have hsz : (((w.alloc (.cells #[.pointer (some ⟨p, 0, none⟩)] 60)).alloc (.cells #[.int .i64 t.kind, .string ⟨t.says.toArray⟩, .int .i64 t.n, .int .i64 t.place] 95)).alloc (.cells #[.int .i64 0, .string ⟨#[]⟩, .string ⟨#[]⟩, .slice none 0 0] 26)).heap.size = w.heap.size + 3 := by simp
  by_cases h8 : 8 ≤ d
  · rw [if_pos h8]
    have cF := fun W => fail_walk 6 t W
    simp only [tokV, errV] at cF
    clear hof
    go_enter_defers Tryz.func126, Tryz.ntmps126
    go_wp2_with (go_at_call 84; refine (cF _).mono ?_; rintro e w3 ⟨rfl, hb3⟩; have bf3 := below_cells bf hb3; have f0 := bf3.frozen 0; have f1 := bf3.frozen 1; have f2 := bf3.frozen 2; have f3 := bf3.frozen 3; have r0 := bf3.cell 0; have r1 := bf3.cell 1; have r2 := bf3.cell 2; have r3 := bf3.cell 3; simp only [List.getElem?_toArray, List.getElem?_cons_zero, List.getElem?_cons_succ] at r0 r1 r2 r3)
    refine ⟨.tuple #[.agg #[.int .i64 0, .string ⟨#[]⟩, .string ⟨#[]⟩, .slice none 0 0], errV (6, t.place)], by
      have R := four_set bf3 (.int .i64 0) (.string ⟨#[]⟩) (.string ⟨#[]⟩) (.slice none 0 0)
      have r0 := R.cell 0; have r1 := R.cell 1; have r2 := R.cell 2; have r3 := R.cell 3
      simp at r0 r1 r2 r3
      simp [results, Tryz.results126, go_sem, errV, r0, r1, r2, r3], ?_⟩
    exact ⟨0, ⟨#[]⟩, ⟨#[]⟩, none, 0, 0, rfl, _, ((Goes.of h hB3).below hb3).four (by omega) hpl _ _ _ _⟩
  · rw [if_neg h8]
    have h4 := h3.deep (d + 1)
    have cO := hof (by omega) _ _ h4
    have g4 : w.grownBy ((((w.alloc (.cells #[.pointer (some ⟨p, 0, none⟩)] 60)).alloc (.cells #[.int .i64 t.kind, .string ⟨t.says.toArray⟩, .int .i64 t.n, .int .i64 t.place] 95)).alloc (.cells #[.int .i64 0, .string ⟨#[]⟩, .string ⟨#[]⟩, .slice none 0 0] 26)).setCell ⟨p, 1, none⟩ (.int .i64 (d + 1 : Nat))) (some p) := gb_trans (gb_below hB3 _) (grown_setCell _ p 1 _)
    clear hof
    go_enter_defers Tryz.func126, Tryz.ntmps126
    have hps : p < w.heap.size := hpl
    have bfD := bf.set_other (B' := p) (by omega) 1 (.int .i64 (d + 1 : Nat))
    have b0D := b0.set_other (B' := p) (by omega) 1 (.int .i64 (d + 1 : Nat))
    cases r with
    | error x =>
      go_wp2_with fail
      refine cO.mono ?_
      rintro e w5 ⟨op, nm, tx, ao, n, c, he, ts5, hg⟩
      simp only [errV] at he
      subst he
      have bf4 := cells_gb bfD hg.1 (by omega)
      have bp4 := cells_gb b0D hg.1 (by omega)
      have fz0 := bf4.frozen 0
      have fz1 := bf4.frozen 1
      have fz2 := bf4.frozen 2
      have fz3 := bf4.frozen 3
      have r0 := bf4.cell 0
      have r1 := bf4.cell 1
      have r2 := bf4.cell 2
      have r3 := bf4.cell 3
      simp only [List.getElem?_toArray, List.getElem?_cons_zero, List.getElem?_cons_succ] at r0 r1 r2 r3
      go_wp2
      have R := four_set bf4 (.int .i64 op) (.string nm) (.string tx) (.slice ao n c)
      have g5 : Goes w p g cap l ts5 (d + 1) w5 := ⟨gb_trans g4 hg.1, hg.2⟩
      have g6 := Goes.four g5 (b := w.heap.size + 1 + 1) (by omega) hps (.int .i64 op) (.string nm) (.string tx) (.slice ao n c)
      have bx6 := (((bp4.set_other (B' := w.heap.size + 1 + 1) (by omega) 0 (.int .i64 op)).set_other (B' := w.heap.size + 1 + 1) (by omega) 1 (.string nm)).set_other (B' := w.heap.size + 1 + 1) (by omega) 2 (.string tx)).set_other (B' := w.heap.size + 1 + 1) (by omega) 3 (.slice ao n c)
      obtain ⟨gb6, j6, ps6⟩ := g6
      have q1 := ps6.par.cell 1
      have z1 := ps6.par.frozen 1
      have x0 := bx6.cell 0
      simp only [List.getElem?_toArray, List.getElem?_cons_zero, List.getElem?_cons_succ] at q1 x0
      refine leaves_cons (f := 141) (args := #[.pointer (some ⟨w.heap.size, 0, none⟩)]) (by simp) (by simp [go_sem]) ?_
      refine (undeep ⟨w.heap.size, 0, none⟩ p ((d + 1 : Nat) : Int) .returning _ x0 q1 z1 (by omega) (by omega)).mono ?_
      rintro e u' w7 ⟨rfl, rfl, rfl⟩
      have ed : ((d + 1 : Nat) : Int) - 1 = (d : Int) := by omega
      rw [ed]
      have R7 := R.set_other (B' := p) (by omega) 1 (.int .i64 d)
      have r0 := R7.cell 0; have r1 := R7.cell 1; have r2 := R7.cell 2; have r3 := R7.cell 3
      simp only [List.getElem?_toArray, List.getElem?_cons_zero, List.getElem?_cons_succ] at r0 r1 r2 r3
      refine ⟨.tuple #[.agg #[.int .i64 op, .string nm, .string tx, .slice ao n c], errV x], by simp [results, Tryz.results126, go_sem, errV, r0, r1, r2, r3], ?_⟩
      exact ⟨op, nm, tx, ao, n, c, rfl, ts5, gb_trans gb6 (grown_setCell _ p 1 _), j6, ps6.deep d⟩
    | ok x =>
      go_wp2_with fail
      refine cO.mono ?_
      rintro e w5 ⟨fv, he, hF, hg⟩
      obtain ⟨op, nm, tx, ao, n, c, rfl⟩ := hF.shape
      simp only [V4.agg] at he
      subst he
      have bf4 := cells_gb bfD hg.1 (by omega)
      have bp4 := cells_gb b0D hg.1 (by omega)
      have fz0 := bf4.frozen 0
      have fz1 := bf4.frozen 1
      have fz2 := bf4.frozen 2
      have fz3 := bf4.frozen 3
      have r0 := bf4.cell 0
      have r1 := bf4.cell 1
      have r2 := bf4.cell 2
      have r3 := bf4.cell 3
      simp only [List.getElem?_toArray, List.getElem?_cons_zero, List.getElem?_cons_succ] at r0 r1 r2 r3
      go_wp2
      have R := four_set bf4 (.int .i64 op) (.string nm) (.string tx) (.slice ao n c)
      have g5 : Goes w p g cap l x.2 (d + 1) w5 := ⟨gb_trans g4 hg.1, hg.2⟩
      have g6 := Goes.four g5 (b := w.heap.size + 1 + 1) (by omega) hps (.int .i64 op) (.string nm) (.string tx) (.slice ao n c)
      have bx6 := (((bp4.set_other (B' := w.heap.size + 1 + 1) (by omega) 0 (.int .i64 op)).set_other (B' := w.heap.size + 1 + 1) (by omega) 1 (.string nm)).set_other (B' := w.heap.size + 1 + 1) (by omega) 2 (.string tx)).set_other (B' := w.heap.size + 1 + 1) (by omega) 3 (.slice ao n c)
      obtain ⟨gb6, j6, ps6⟩ := g6
      have q1 := ps6.par.cell 1
      have z1 := ps6.par.frozen 1
      have x0 := bx6.cell 0
      simp only [List.getElem?_toArray, List.getElem?_cons_zero, List.getElem?_cons_succ] at q1 x0
      refine leaves_cons (f := 141) (args := #[.pointer (some ⟨w.heap.size, 0, none⟩)]) (by simp) (by simp [go_sem]) ?_
      refine (undeep ⟨w.heap.size, 0, none⟩ p ((d + 1 : Nat) : Int) .returning _ x0 q1 z1 (by omega) (by omega)).mono ?_
      rintro e u' w7 ⟨rfl, rfl, rfl⟩
      have ed : ((d + 1 : Nat) : Int) - 1 = (d : Int) := by omega
      rw [ed]
      have R7 := R.set_other (B' := p) (by omega) 1 (.int .i64 d)
      have r0 := R7.cell 0; have r1 := R7.cell 1; have r2 := R7.cell 2; have r3 := R7.cell 3
      simp only [List.getElem?_toArray, List.getElem?_cons_zero, List.getElem?_cons_succ] at r0 r1 r2 r3
      refine ⟨.tuple #[.agg #[.int .i64 op, .string nm, .string tx, .slice ao n c], .nilIface], by simp [results, Tryz.results126, go_sem, r0, r1, r2, r3], ?_⟩
      refine ⟨⟨.int .i64 op, .string nm, .string tx, .slice ao n c⟩, rfl, ?_, gb_trans gb6 (grown_setCell _ p 1 _), j6, ps6.deep d⟩
      have hsz4 : w.heap.size + 3 ≤ ((((w.alloc (.cells #[.pointer (some ⟨p, 0, none⟩)] 60)).alloc (.cells #[.int .i64 t.kind, .string ⟨t.says.toArray⟩, .int .i64 t.n, .int .i64 t.place] 95)).alloc (.cells #[.int .i64 0, .string ⟨#[]⟩, .string ⟨#[]⟩, .slice none 0 0] 26)).setCell ⟨p, 1, none⟩ (.int .i64 (d + 1 : Nat))).heap.size := Nat.le_trans (Nat.le_of_eq hsz.symm) (grown_setCell _ p 1 _).size
      exact (((hF.low hsz4).four (by omega) _ _ _ _).setb (by omega) 1 _).low (by omega)
end Go.Proofs.YtebblpmocheelaaGreatDoor
