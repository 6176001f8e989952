/- The walk of the parser's atom. -/
import Derived.Test.YtebblpmocheelaaGreatDoorParA
namespace Go.Proofs.YtebblpmocheelaaGreatDoor
open Go.RowKit Go.Lib

/-- Where atom stands: the parser, its result, its filter, its token. -/
structure AS (w W : World) (p g cap : Nat) (l ts : List Tok) (d : Nat) (t : Tok) (bt : Nat) (fs : Array Value) : Prop where
  goes : Goes w p g cap l ts d W
  R : CellsAt W w.heap.size 26 #[.int .i64 0, .string ⟨#[]⟩, .string ⟨#[]⟩, .slice none 0 0]
  f : CellsAt W (w.heap.size + 1) 26 fs
  tk : CellsAt W bt 95 #[.int .i64 t.kind, .string ⟨t.says.toArray⟩, .int .i64 t.n, .int .i64 t.place]
  bt : w.heap.size + 2 ≤ bt
  pl : p < w.heap.size
theorem AS.move {w W W' : World} {p g cap : Nat} {l ts ts' : List Tok} {d : Nat} {t : Tok} {bt : Nat} {fs : Array Value} (h : AS w W p g cap l ts d t bt fs) (hg : Goes W p g cap l ts' d W') : AS w W' p g cap l ts' d t bt fs :=
  ⟨h.goes.trans hg, cells_gb h.R hg.1 (by have := h.pl; omega), cells_gb h.f hg.1 (by have := h.pl; omega), cells_gb h.tk hg.1 (by have := h.pl; have := h.bt; omega), h.bt, h.pl⟩
theorem AS.stay {w W W' : World} {p g cap : Nat} {l ts : List Tok} {d : Nat} {t : Tok} {bt : Nat} {fs : Array Value} (h : AS w W p g cap l ts d t bt fs) (hb : Below W.heap.size W W') : AS w W' p g cap l ts d t bt fs :=
  ⟨h.goes.below hb, below_cells h.R hb, below_cells h.f hb, below_cells h.tk hb, h.bt, h.pl⟩
theorem AS.setf {w W : World} {p g cap : Nat} {l ts : List Tok} {d : Nat} {t : Tok} {bt : Nat} {fs : Array Value} (h : AS w W p g cap l ts d t bt fs) (i : Nat) (v : Value) : AS w (W.setCell ⟨w.heap.size + 1, i, none⟩ v) p g cap l ts d t bt (fs.setIfInBounds i v) :=
  ⟨h.goes.set (by omega) h.pl i v, h.R.set_other (by omega) i v, h.f.set i v, h.tk.set_other (by have := h.bt; omega) i v, h.bt, h.pl⟩
theorem AS.lt {w W : World} {p g cap : Nat} {l ts : List Tok} {d : Nat} {t : Tok} {bt : Nat} {fs : Array Value} (h : AS w W p g cap l ts d t bt fs) : w.heap.size + 1 < W.heap.size := h.f.lt

set_option maxHeartbeats 16000000 in
set_option maxRecDepth 1000000 in
theorem atom_walk (n : Nat) : ∀ {w : World} {p g cap : Nat} {l ts : List Tok} {i d : Nat} (_h : PS w p g cap l ts i d) (_hll : l.length ≤ 65536) (_hd : d ≤ 8) (_hn : ts.length ≤ n),
    Calls Tryz.prog 110 #[.pointer (some ⟨p, 0, none⟩)] w (FPost (atomR n d ts) w p g cap l d) := by
  induction n with
  | zero =>
    intro w p g cap l ts i d h hll hd hn
    have := h.len
    have := h.lt
    omega
  | succ n ih =>
    intro w p g cap l ts i d h hll hd hn
    have hmf := hmf
    have hpl := h.par.lt
    have hB2 := ((Below.refl w.heap.size w).alloc (Nat.le_refl _) (.cells #[.int .i64 0, .string ⟨#[]⟩, .string ⟨#[]⟩, .slice none 0 0] 26)).alloc (by simp) (.cells #[.int .i64 0, .string ⟨#[]⟩, .string ⟨#[]⟩, .slice none 0 0] 26)
    have h2 := h.kept hB2
    have g2 := Goes.of h hB2
    have hR2 := (CellsAt.new w 26 #[.int .i64 0, .string ⟨#[]⟩, .string ⟨#[]⟩, .slice none 0 0]).alloc (.cells #[.int .i64 0, .string ⟨#[]⟩, .string ⟨#[]⟩, .slice none 0 0] 26)
    have hf2 := CellsAt.new (w.alloc (.cells #[.int .i64 0, .string ⟨#[]⟩, .string ⟨#[]⟩, .slice none 0 0] 26)) 26 #[.int .i64 0, .string ⟨#[]⟩, .string ⟨#[]⟩, .slice none 0 0]
    simp only [World.size_alloc] at hf2
    have cP := peek_walk h2
    have cE := fun {W : World} {ts' : List Tok} {j : Nat} (hW : PS W p g cap l ts' j d) (s : List UInt8) => eat_walk hW s
    obtain ⟨W2, hW2⟩ : ∃ W2, (w.alloc (.cells #[.int .i64 0, .string ⟨#[]⟩, .string ⟨#[]⟩, .slice none 0 0] 26)).alloc (.cells #[.int .i64 0, .string ⟨#[]⟩, .string ⟨#[]⟩, .slice none 0 0] 26) = W2 := ⟨_, rfl⟩
    have hz2 : W2.heap.size = w.heap.size + 2 := by rw [← hW2]; simp
    rw [hW2] at hB2 h2 g2 hR2 hf2 cP
    obtain ⟨r, hr⟩ : ∃ r, atomR (n + 1) d ts = r := ⟨_, rfl⟩
    have HRR := Lib.hid hr
    rw [hr]
    clear hr
    obtain ⟨t, ht⟩ : ∃ t, hdT ts = t := ⟨_, rfl⟩
    rw [ht] at cP
    simp only [tokV] at cP
    go_enter Tryz.func110, Tryz.ntmps110
    go_wp2_with fail
    refine cP.mono ?_
    rintro e w3 ⟨rfl, hb3⟩
    have hz3 : w.heap.size + 2 ≤ w3.heap.size := by have := hb3.size; omega
    have hbt := (Below.refl w3.heap.size w3).alloc (Nat.le_refl _) (.cells #[.int .i64 t.kind, .string ⟨t.says.toArray⟩, .int .i64 t.n, .int .i64 t.place] 95)
    have h4 := (h2.kept hb3).kept hbt
    have g4 := (g2.below hb3).below hbt
    have hR4 := below_cells (below_cells hR2 hb3) hbt
    have hf4 := below_cells (below_cells hf2 hb3) hbt
    have ht4 := CellsAt.new w3 95 #[.int .i64 t.kind, .string ⟨t.says.toArray⟩, .int .i64 t.n, .int .i64 t.place]
    obtain ⟨W4, hW4⟩ : ∃ W4, w3.alloc (.cells #[.int .i64 t.kind, .string ⟨t.says.toArray⟩, .int .i64 t.n, .int .i64 t.place] 95) = W4 := ⟨_, rfl⟩
    have hz4 : W4.heap.size = w3.heap.size + 1 := by rw [← hW4]; simp
    rw [hW4] at hbt h4 g4 hR4 hf4 ht4
    have hA4 : AS w W4 p g cap l ts d t w3.heap.size #[.int .i64 0, .string ⟨#[]⟩, .string ⟨#[]⟩, .slice none 0 0] := ⟨⟨g4.1, i, h4⟩, hR4, hf4, ht4, hz3, hpl⟩
    clear hbt h4 g4 hR4 hf4 ht4 hB2 h2 g2 hR2 hf2 cP hb3 h
    obtain ⟨j0, ps0⟩ := hA4.goes.2
    have cE0 := cE ps0 wNot
    rw [ht] at cE0
    cases hb0 : isIt t wNot with
    | true =>
      have hil := isIt_lt (ts := ts) (s := wNot) (by rw [ht]; exact hb0)
      rw [hb0, if_pos rfl] at cE0
      have HV := Lib.hid (by rw [← HRR.out, atomR, if_pos (by rw [ht]; exact hb0)] : r = _)
      clear HRR hb0
      go_wp2_with fail
      refine cE0.mono ?_
      rintro e V0 ⟨rfl, hg0⟩
      have hA0t := hA4.move hg0
      clear cE0 ps0 hg0 hA4
      have f0 := hA0t.f.cell 0; have f1 := hA0t.f.cell 1; have f2 := hA0t.f.cell 2; have f3 := hA0t.f.cell 3; have y0 := hA0t.f.frozen 0; have y1 := hA0t.f.frozen 1; have y2 := hA0t.f.frozen 2; have y3 := hA0t.f.frozen 3; have r0 := hA0t.R.cell 0; have r1 := hA0t.R.cell 1; have r2 := hA0t.R.cell 2; have r3 := hA0t.R.cell 3; have z0 := hA0t.R.frozen 0; have z1 := hA0t.R.frozen 1; have z2 := hA0t.R.frozen 2; have z3 := hA0t.R.frozen 3; have t0 := hA0t.tk.cell 0; have t1 := hA0t.tk.cell 1; have t2 := hA0t.tk.cell 2; have t3 := hA0t.tk.cell 3; have hlt := hA0t.lt; have hbtl := hA0t.tk.lt; simp only [List.getElem?_toArray, List.getElem?_cons_zero, List.getElem?_cons_succ] at f0 f1 f2 f3 r0 r1 r2 r3 t0 t1 t2 t3
      have B := hA0t.setf 0 (.int .i64 6)
      obtain ⟨jb, psb⟩ := B.goes.2
      have hW1 : w.heap.size + 1 < V0.heap.size := hA0t.lt
      have hof : d < 8 → ∀ (W : World) (j : Nat), PS W p g cap l (nextR ts) j (d + 1) → Calls Tryz.prog 110 #[.pointer (some ⟨p, 0, none⟩)] W (FPost (atomR n (d + 1) (nextR ts)) W p g cap l (d + 1)) := fun h8 W j hW => ih hW hll (by omega) (by omega)
      have cW := within_atom psb t (atomR n (d + 1) (nextR ts)) hd hof
      have HV1 : Hid (r = notR (if 8 ≤ d then .error (6, t.place) else atomR n (d + 1) (nextR ts))) := Lib.hid (by
        rw [HV.out, ht]
        by_cases h8 : 8 ≤ d
        · rw [if_pos h8, if_pos h8]; rfl
        · rw [if_neg h8, if_neg h8])
      clear hof HV
      generalize (if 8 ≤ d then Except.error (6, t.place) else atomR n (d + 1) (nextR ts) : Except Err (F × List Tok)) = q at cW HV1
      simp only [tokV] at cW
      cases q with
      | error x =>
        go_wp2_with (go_at_call 126; refine cW.mono ?_; rintro e w9 ⟨o1, nm, tx, ao, n1, c1, he, r9, hg9⟩; simp only [errV] at he; subst he; have hA9 := B.move hg9; have hb99 := ((Below.refl w9.heap.size w9).alloc (Nat.le_refl _) (.cells #[.int .i64 o1, .string nm, .string tx, .slice ao n1 c1] 26)).alloc (by simp) (.cells #[.int .i64 o1, .string nm, .string tx, .slice ao n1 c1] 26); have D9 := hA9.stay hb99; have hN9 := CellsAt.new (w9.alloc (.cells #[.int .i64 o1, .string nm, .string tx, .slice ao n1 c1] 26)) 26 #[.int .i64 o1, .string nm, .string tx, .slice ao n1 c1]; simp only [World.size_alloc] at hN9; have hz9 : ((w9.alloc (.cells #[.int .i64 o1, .string nm, .string tx, .slice ao n1 c1] 26)).alloc (.cells #[.int .i64 o1, .string nm, .string tx, .slice ao n1 c1] 26)).heap.size = w9.heap.size + 2 := (by simp); have hl9 := hA9.lt; generalize hW9 : (w9.alloc (.cells #[.int .i64 o1, .string nm, .string tx, .slice ao n1 c1] 26)).alloc (.cells #[.int .i64 o1, .string nm, .string tx, .slice ao n1 c1] 26) = W9 at D9 hN9 hz9 hb99; have f0 := D9.f.cell 0; have f1 := D9.f.cell 1; have f2 := D9.f.cell 2; have f3 := D9.f.cell 3; have y0 := D9.f.frozen 0; have y1 := D9.f.frozen 1; have y2 := D9.f.frozen 2; have y3 := D9.f.frozen 3; have r0 := D9.R.cell 0; have r1 := D9.R.cell 1; have r2 := D9.R.cell 2; have r3 := D9.R.cell 3; have z0 := D9.R.frozen 0; have z1 := D9.R.frozen 1; have z2 := D9.R.frozen 2; have z3 := D9.R.frozen 3; have t0 := D9.tk.cell 0; have t1 := D9.tk.cell 1; have t2 := D9.tk.cell 2; have t3 := D9.tk.cell 3; have hlt := D9.lt; have hbtl := D9.tk.lt; simp only [List.setIfInBounds_toArray, List.set_cons_zero, List.getElem?_toArray, List.getElem?_cons_zero, List.getElem?_cons_succ] at f0 f1 f2 f3 r0 r1 r2 r3 t0 t1 t2 t3; clear cW psb)
        have C := D9.setf 3 (.slice (some ⟨w9.heap.size + 1, 0, none⟩) 1 1)
        have g6 := Goes.four C.goes (b := w.heap.size) (Nat.le_refl _) hpl (.int .i64 6) (.string ⟨#[]⟩) (.string ⟨#[]⟩) (.slice (some ⟨w9.heap.size + 1, 0, none⟩) 1 1)
        have g7 := g6
        exact bodyPost_ret (v := .tuple #[.agg #[.int .i64 6, .string ⟨#[]⟩, .string ⟨#[]⟩, .slice (some ⟨w9.heap.size + 1, 0, none⟩) 1 1], .iface 64 (.agg #[.int .i64 x.1, .int .i64 x.2])]) (by
          have R := four_set C.R (.int .i64 6) (.string ⟨#[]⟩) (.string ⟨#[]⟩) (.slice (some ⟨w9.heap.size + 1, 0, none⟩) 1 1)
          have r0 := R.cell 0; have r1 := R.cell 1; have r2 := R.cell 2; have r3 := R.cell 3
          simp only [List.getElem?_toArray, List.getElem?_cons_zero, List.getElem?_cons_succ] at r0 r1 r2 r3
          simp [results, Tryz.results110, go_sem, r0, r1, r2, r3]) rfl (FPost.bad HV1.out g7)
      | ok x =>
        go_wp2_with (go_at_call 126; refine cW.mono ?_; rintro e w9 ⟨fv, he, hF, hg9⟩; obtain ⟨o1, nm, tx, ao, n1, c1, rfl⟩ := hF.shape; simp only [V4.agg] at he; subst he; have hA9 := B.move hg9; have hb99 := ((Below.refl w9.heap.size w9).alloc (Nat.le_refl _) (.cells #[.int .i64 o1, .string nm, .string tx, .slice ao n1 c1] 26)).alloc (by simp) (.cells #[.int .i64 o1, .string nm, .string tx, .slice ao n1 c1] 26); have D9 := hA9.stay hb99; have hN9 := CellsAt.new (w9.alloc (.cells #[.int .i64 o1, .string nm, .string tx, .slice ao n1 c1] 26)) 26 #[.int .i64 o1, .string nm, .string tx, .slice ao n1 c1]; simp only [World.size_alloc] at hN9; have hz9 : ((w9.alloc (.cells #[.int .i64 o1, .string nm, .string tx, .slice ao n1 c1] 26)).alloc (.cells #[.int .i64 o1, .string nm, .string tx, .slice ao n1 c1] 26)).heap.size = w9.heap.size + 2 := (by simp); have hl9 := hA9.lt; generalize hW9 : (w9.alloc (.cells #[.int .i64 o1, .string nm, .string tx, .slice ao n1 c1] 26)).alloc (.cells #[.int .i64 o1, .string nm, .string tx, .slice ao n1 c1] 26) = W9 at D9 hN9 hz9 hb99; have f0 := D9.f.cell 0; have f1 := D9.f.cell 1; have f2 := D9.f.cell 2; have f3 := D9.f.cell 3; have y0 := D9.f.frozen 0; have y1 := D9.f.frozen 1; have y2 := D9.f.frozen 2; have y3 := D9.f.frozen 3; have r0 := D9.R.cell 0; have r1 := D9.R.cell 1; have r2 := D9.R.cell 2; have r3 := D9.R.cell 3; have z0 := D9.R.frozen 0; have z1 := D9.R.frozen 1; have z2 := D9.R.frozen 2; have z3 := D9.R.frozen 3; have t0 := D9.tk.cell 0; have t1 := D9.tk.cell 1; have t2 := D9.tk.cell 2; have t3 := D9.tk.cell 3; have hlt := D9.lt; have hbtl := D9.tk.lt; simp only [List.setIfInBounds_toArray, List.set_cons_zero, List.getElem?_toArray, List.getElem?_cons_zero, List.getElem?_cons_succ] at f0 f1 f2 f3 r0 r1 r2 r3 t0 t1 t2 t3; clear cW psb)
        have C := D9.setf 3 (.slice (some ⟨w9.heap.size + 1, 0, none⟩) 1 1)
        have hF9 := hF.stay hb99
        have hFr : FVal W9 (fun b => w.heap.size + 2 ≤ b) ⟨.int .i64 6, .string ⟨#[]⟩, .string ⟨#[]⟩, .slice (some ⟨w9.heap.size + 1, 0, none⟩) 1 1⟩ (F.mk 6 [] [] [x.1]) := by
          refine .node 6 [] [] (w9.heap.size + 1) 1 [x.1] [⟨.int .i64 o1, .string nm, .string tx, .slice ao n1 c1⟩] ?_ ?_ (by simp) (by unfold maxLen; omega) rfl (by simp) ?_ ?_
          · show w.heap.size + 2 ≤ w9.heap.size + 1; omega
          · omega
          · intro i y hy
            cases i with
            | succ i => simp at hy
            | zero =>
              simp at hy; subst hy
              exact ⟨hN9.cell 0, hN9.cell 1, hN9.cell 2, hN9.cell 3⟩
          · intro i y f hy hf
            cases i with
            | succ i => simp at hy
            | zero =>
              simp at hy hf; subst hy hf
              exact hF9.low (lo2 := w.heap.size + 2) (by have := (grown_setCell V0 (w.heap.size + 1) 0 (.int .i64 6)).size; omega)
        have g6 := Goes.four C.goes (b := w.heap.size) (Nat.le_refl _) hpl (.int .i64 6) (.string ⟨#[]⟩) (.string ⟨#[]⟩) (.slice (some ⟨w9.heap.size + 1, 0, none⟩) 1 1)
        have g7 := g6
        exact bodyPost_ret (v := .tuple #[.agg #[.int .i64 6, .string ⟨#[]⟩, .string ⟨#[]⟩, .slice (some ⟨w9.heap.size + 1, 0, none⟩) 1 1], .nilIface]) (by
          have R := four_set C.R (.int .i64 6) (.string ⟨#[]⟩) (.string ⟨#[]⟩) (.slice (some ⟨w9.heap.size + 1, 0, none⟩) 1 1)
          have r0 := R.cell 0; have r1 := R.cell 1; have r2 := R.cell 2; have r3 := R.cell 3
          simp only [List.getElem?_toArray, List.getElem?_cons_zero, List.getElem?_cons_succ] at r0 r1 r2 r3
          simp [results, Tryz.results110, go_sem, r0, r1, r2, r3]) rfl (FPost.good (v := ⟨.int .i64 6, .string ⟨#[]⟩, .string ⟨#[]⟩, .slice (some ⟨w9.heap.size + 1, 0, none⟩) 1 1⟩) HV1.out (((hFr.setb (b0 := w.heap.size + 1) (by omega) 3 _).four (b0 := w.heap.size) (by omega) _ _ _ _).low (by omega)) g7)
    | false =>
      rw [hb0, if_neg (by simp)] at cE0
      go_wp2_with fail
      refine cE0.mono ?_
      rintro e V0 ⟨rfl, hg0⟩
      have hA0f := hA4.move hg0
      clear cE0 ps0 hg0 hA4
      obtain ⟨j1, ps1⟩ := hA0f.goes.2
      have cE1 := cE ps1 wOpen
      rw [ht] at cE1
      cases hb1 : isIt t wOpen with
      | true =>
        have hil := isIt_lt (ts := ts) (s := wOpen) (by rw [ht]; exact hb1)
        rw [hb1, if_pos rfl] at cE1
        have HV := Lib.hid (by rw [← HRR.out, atomR, if_neg (by rw [ht, hb0]; simp), if_pos (by rw [ht]; exact hb1)] : r = _)
        clear HRR hb0 hb1
        go_wp2_with fail
        refine cE1.mono ?_
        rintro e V1 ⟨rfl, hg1⟩
        have hA1t := hA0f.move hg1
        clear cE1 ps1 hg1 hA0f
        have f0 := hA1t.f.cell 0; have f1 := hA1t.f.cell 1; have f2 := hA1t.f.cell 2; have f3 := hA1t.f.cell 3; have y0 := hA1t.f.frozen 0; have y1 := hA1t.f.frozen 1; have y2 := hA1t.f.frozen 2; have y3 := hA1t.f.frozen 3; have r0 := hA1t.R.cell 0; have r1 := hA1t.R.cell 1; have r2 := hA1t.R.cell 2; have r3 := hA1t.R.cell 3; have z0 := hA1t.R.frozen 0; have z1 := hA1t.R.frozen 1; have z2 := hA1t.R.frozen 2; have z3 := hA1t.R.frozen 3; have t0 := hA1t.tk.cell 0; have t1 := hA1t.tk.cell 1; have t2 := hA1t.tk.cell 2; have t3 := hA1t.tk.cell 3; have hlt := hA1t.lt; have hbtl := hA1t.tk.lt; simp only [List.getElem?_toArray, List.getElem?_cons_zero, List.getElem?_cons_succ] at f0 f1 f2 f3 r0 r1 r2 r3 t0 t1 t2 t3
        obtain ⟨jb, psb⟩ := hA1t.goes.2
        have hW1 : w.heap.size + 1 < V1.heap.size := hA1t.lt
        have hof : d < 8 → ∀ (W : World) (j : Nat), PS W p g cap l (nextR ts) j (d + 1) → Calls Tryz.prog 52 #[.pointer (some ⟨p, 0, none⟩)] W (FPost (orR (atomR n (d + 1)) (nextR ts)) W p g cap l (d + 1)) := fun h8 W j hW => or_atoms hW (atomR n (d + 1)) (atomR_takes n (d + 1)) hll (fun W2 ts2 j2 h2 hl2 => ih h2 hll (by omega) (by omega))
        have cW := within_or psb t (orR (atomR n (d + 1)) (nextR ts)) hd hof
        have HV1 : Hid (r = shutR (if 8 ≤ d then .error (6, t.place) else orR (atomR n (d + 1)) (nextR ts))) := Lib.hid (by
          rw [HV.out, ht]
          by_cases h8 : 8 ≤ d
          · rw [if_pos h8, if_pos h8]; rfl
          · rw [if_neg h8, if_neg h8])
        clear hof HV
        generalize (if 8 ≤ d then Except.error (6, t.place) else orR (atomR n (d + 1)) (nextR ts) : Except Err (F × List Tok)) = q at cW HV1
        simp only [tokV] at cW
        cases q with
        | error x =>
          go_wp2_with (go_at_call 126; refine cW.mono ?_; rintro e w9 ⟨o1, nm, tx, ao, n1, c1, he, r9, hg9⟩; simp only [errV] at he; subst he; have hA9 := hA1t.move hg9; have f0 := hA9.f.cell 0; have f1 := hA9.f.cell 1; have f2 := hA9.f.cell 2; have f3 := hA9.f.cell 3; have y0 := hA9.f.frozen 0; have y1 := hA9.f.frozen 1; have y2 := hA9.f.frozen 2; have y3 := hA9.f.frozen 3; have r0 := hA9.R.cell 0; have r1 := hA9.R.cell 1; have r2 := hA9.R.cell 2; have r3 := hA9.R.cell 3; have z0 := hA9.R.frozen 0; have z1 := hA9.R.frozen 1; have z2 := hA9.R.frozen 2; have z3 := hA9.R.frozen 3; have t0 := hA9.tk.cell 0; have t1 := hA9.tk.cell 1; have t2 := hA9.tk.cell 2; have t3 := hA9.tk.cell 3; have hlt := hA9.lt; have hbtl := hA9.tk.lt; simp only [List.getElem?_toArray, List.getElem?_cons_zero, List.getElem?_cons_succ] at f0 f1 f2 f3 r0 r1 r2 r3 t0 t1 t2 t3; clear cW psb)
          have C := (((hA9.setf 0 (.int .i64 o1)).setf 1 (.string nm)).setf 2 (.string tx)).setf 3 (.slice ao n1 c1)
          have g6 := Goes.four C.goes (b := w.heap.size) (Nat.le_refl _) hpl (.int .i64 o1) (.string nm) (.string tx) (.slice ao n1 c1)
          have g7 := g6
          exact bodyPost_ret (v := .tuple #[.agg #[.int .i64 o1, .string nm, .string tx, .slice ao n1 c1], .iface 64 (.agg #[.int .i64 x.1, .int .i64 x.2])]) (by
            have R := four_set C.R (.int .i64 o1) (.string nm) (.string tx) (.slice ao n1 c1)
            have r0 := R.cell 0; have r1 := R.cell 1; have r2 := R.cell 2; have r3 := R.cell 3
            simp only [List.getElem?_toArray, List.getElem?_cons_zero, List.getElem?_cons_succ] at r0 r1 r2 r3
            simp [results, Tryz.results110, go_sem, r0, r1, r2, r3]) rfl (FPost.bad HV1.out g7)
        | ok x =>
          go_wp2_with (go_at_call 126; refine cW.mono ?_; rintro e w9 ⟨fv, he, hF, hg9⟩; obtain ⟨o1, nm, tx, ao, n1, c1, rfl⟩ := hF.shape; simp only [V4.agg] at he; subst he; have hA9 := hA1t.move hg9; have f0 := hA9.f.cell 0; have f1 := hA9.f.cell 1; have f2 := hA9.f.cell 2; have f3 := hA9.f.cell 3; have y0 := hA9.f.frozen 0; have y1 := hA9.f.frozen 1; have y2 := hA9.f.frozen 2; have y3 := hA9.f.frozen 3; have r0 := hA9.R.cell 0; have r1 := hA9.R.cell 1; have r2 := hA9.R.cell 2; have r3 := hA9.R.cell 3; have z0 := hA9.R.frozen 0; have z1 := hA9.R.frozen 1; have z2 := hA9.R.frozen 2; have z3 := hA9.R.frozen 3; have t0 := hA9.tk.cell 0; have t1 := hA9.tk.cell 1; have t2 := hA9.tk.cell 2; have t3 := hA9.tk.cell 3; have hlt := hA9.lt; have hbtl := hA9.tk.lt; simp only [List.getElem?_toArray, List.getElem?_cons_zero, List.getElem?_cons_succ] at f0 f1 f2 f3 r0 r1 r2 r3 t0 t1 t2 t3; clear cW psb)
          have C := (((hA9.setf 0 (.int .i64 o1)).setf 1 (.string nm)).setf 2 (.string tx)).setf 3 (.slice ao n1 c1)
          have hlo := hg9.1.size
          have hF9 := (hF.four (b0 := w.heap.size + 1) (by omega) (.int .i64 o1) (.string nm) (.string tx) (.slice ao n1 c1))
          generalize hW9 : (((w9.setCell ⟨w.heap.size + 1, 0, none⟩ (.int .i64 o1)).setCell ⟨w.heap.size + 1, 1, none⟩ (.string nm)).setCell ⟨w.heap.size + 1, 2, none⟩ (.string tx)).setCell ⟨w.heap.size + 1, 3, none⟩ (.slice ao n1 c1) = W9 at C hF9 ⊢
          have f0 := C.f.cell 0; have f1 := C.f.cell 1; have f2 := C.f.cell 2; have f3 := C.f.cell 3; have y0 := C.f.frozen 0; have y1 := C.f.frozen 1; have y2 := C.f.frozen 2; have y3 := C.f.frozen 3; have r0 := C.R.cell 0; have r1 := C.R.cell 1; have r2 := C.R.cell 2; have r3 := C.R.cell 3; have z0 := C.R.frozen 0; have z1 := C.R.frozen 1; have z2 := C.R.frozen 2; have z3 := C.R.frozen 3; have t0 := C.tk.cell 0; have t1 := C.tk.cell 1; have t2 := C.tk.cell 2; have t3 := C.tk.cell 3; have hlt := C.lt; have hbtl := C.tk.lt; simp only [List.setIfInBounds_toArray, List.set_cons_zero, List.set_cons_succ, List.getElem?_toArray, List.getElem?_cons_zero, List.getElem?_cons_succ] at f0 f1 f2 f3 r0 r1 r2 r3 t0 t1 t2 t3
          obtain ⟨jc, psc⟩ := C.goes.2
          have cM := must_walk (psc.kept (below_drew W9)) wShut
          have hpV : p < V1.heap.size := by omega
          cases hm : mustR x.2 wShut with
          | error y =>
            have HV2 := Lib.hid (HV1.out.trans (by unfold shutR; dsimp only; rw [hm] : _ = .error y))
            rw [hm] at cM
            simp only [mustV, Ends, errV] at cM
            clear hm hW9
            go_region_with (go_at_call 85; refine cM.mono ?_; rintro e w10 ⟨rfl, r10, hg10⟩; have hA10 := (C.stay (below_drew W9)).move hg10; have f0 := hA10.f.cell 0; have f1 := hA10.f.cell 1; have f2 := hA10.f.cell 2; have f3 := hA10.f.cell 3; have y0 := hA10.f.frozen 0; have y1 := hA10.f.frozen 1; have y2 := hA10.f.frozen 2; have y3 := hA10.f.frozen 3; have r0 := hA10.R.cell 0; have r1 := hA10.R.cell 1; have r2 := hA10.R.cell 2; have r3 := hA10.R.cell 3; have z0 := hA10.R.frozen 0; have z1 := hA10.R.frozen 1; have z2 := hA10.R.frozen 2; have z3 := hA10.R.frozen 3; have t0 := hA10.tk.cell 0; have t1 := hA10.tk.cell 1; have t2 := hA10.tk.cell 2; have t3 := hA10.tk.cell 3; have hlt := hA10.lt; have hbtl := hA10.tk.lt; simp only [List.setIfInBounds_toArray, List.set_cons_zero, List.set_cons_succ, List.getElem?_toArray, List.getElem?_cons_zero, List.getElem?_cons_succ] at f0 f1 f2 f3 r0 r1 r2 r3 t0 t1 t2 t3)
            all_goals
              go_wp2
              have g6 := Goes.four hA10.goes (b := w.heap.size) (Nat.le_refl _) hpl (.int .i64 o1) (.string nm) (.string tx) (.slice ao n1 c1)
              have g7 := g6
              exact bodyPost_ret (v := .tuple #[.agg #[.int .i64 o1, .string nm, .string tx, .slice ao n1 c1], .iface 64 (.agg #[.int .i64 y.1, .int .i64 y.2])]) (by
                have R := four_set hA10.R (.int .i64 o1) (.string nm) (.string tx) (.slice ao n1 c1)
                have r0 := R.cell 0; have r1 := R.cell 1; have r2 := R.cell 2; have r3 := R.cell 3
                simp only [List.getElem?_toArray, List.getElem?_cons_zero, List.getElem?_cons_succ] at r0 r1 r2 r3
                simp [results, Tryz.results110, go_sem, r0, r1, r2, r3]) rfl (FPost.bad HV2.out g7)
          | ok r2 =>
            have HV2 := Lib.hid (HV1.out.trans (by unfold shutR; dsimp only; rw [hm] : _ = .ok (x.1, r2)))
            rw [hm] at cM
            simp only [mustV, Ends] at cM
            clear hm hW9
            go_region_with (go_at_call 85; refine cM.mono ?_; rintro e w10 ⟨rfl, hg10⟩; have hA10 := (C.stay (below_drew W9)).move hg10; have f0 := hA10.f.cell 0; have f1 := hA10.f.cell 1; have f2 := hA10.f.cell 2; have f3 := hA10.f.cell 3; have y0 := hA10.f.frozen 0; have y1 := hA10.f.frozen 1; have y2 := hA10.f.frozen 2; have y3 := hA10.f.frozen 3; have r0 := hA10.R.cell 0; have r1 := hA10.R.cell 1; have r2 := hA10.R.cell 2; have r3 := hA10.R.cell 3; have z0 := hA10.R.frozen 0; have z1 := hA10.R.frozen 1; have z2 := hA10.R.frozen 2; have z3 := hA10.R.frozen 3; have t0 := hA10.tk.cell 0; have t1 := hA10.tk.cell 1; have t2 := hA10.tk.cell 2; have t3 := hA10.tk.cell 3; have hlt := hA10.lt; have hbtl := hA10.tk.lt; simp only [List.setIfInBounds_toArray, List.set_cons_zero, List.set_cons_succ, List.getElem?_toArray, List.getElem?_cons_zero, List.getElem?_cons_succ] at f0 f1 f2 f3 r0 r1 r2 r3 t0 t1 t2 t3)
            all_goals
              go_wp2
              have hF10 := (hF9.stay (below_drew W9)).gb hpV hg10.1
              have g6 := Goes.four hA10.goes (b := w.heap.size) (Nat.le_refl _) hpl (.int .i64 o1) (.string nm) (.string tx) (.slice ao n1 c1)
              have g7 := g6
              exact bodyPost_ret (v := .tuple #[.agg #[.int .i64 o1, .string nm, .string tx, .slice ao n1 c1], .nilIface]) (by
                have R := four_set hA10.R (.int .i64 o1) (.string nm) (.string tx) (.slice ao n1 c1)
                have r0 := R.cell 0; have r1 := R.cell 1; have r2 := R.cell 2; have r3 := R.cell 3
                simp only [List.getElem?_toArray, List.getElem?_cons_zero, List.getElem?_cons_succ] at r0 r1 r2 r3
                simp [results, Tryz.results110, go_sem, r0, r1, r2, r3]) rfl (FPost.good (v := ⟨.int .i64 o1, .string nm, .string tx, .slice ao n1 c1⟩) HV2.out ((hF10.four (b0 := w.heap.size) (by omega) _ _ _ _).low (by omega)) g7)
      | false =>
        rw [hb1, if_neg (by simp)] at cE1
        go_wp2_with fail
        refine cE1.mono ?_
        rintro e V1 ⟨rfl, hg1⟩
        have hA1f := hA0f.move hg1
        clear cE1 ps1 hg1 hA0f
        obtain ⟨j2, ps2⟩ := hA1f.goes.2
        have cE2 := cE ps2 wTrue
        rw [ht] at cE2
        cases hb2 : isIt t wTrue with
        | true =>
          have hil := isIt_lt (ts := ts) (s := wTrue) (by rw [ht]; exact hb2)
          rw [hb2, if_pos rfl] at cE2
          have HV := Lib.hid (by rw [← HRR.out, atomR, if_neg (by rw [ht, hb0]; simp), if_neg (by rw [ht, hb1]; simp), if_pos (by rw [ht]; exact hb2)] : r = _)
          clear HRR hb0 hb1 hb2
          go_wp2_with fail
          refine cE2.mono ?_
          rintro e V2 ⟨rfl, hg2⟩
          have hA2t := hA1f.move hg2
          clear cE2 ps2 hg2 hA1f
          have f0 := hA2t.f.cell 0; have f1 := hA2t.f.cell 1; have f2 := hA2t.f.cell 2; have f3 := hA2t.f.cell 3; have y0 := hA2t.f.frozen 0; have y1 := hA2t.f.frozen 1; have y2 := hA2t.f.frozen 2; have y3 := hA2t.f.frozen 3; have r0 := hA2t.R.cell 0; have r1 := hA2t.R.cell 1; have r2 := hA2t.R.cell 2; have r3 := hA2t.R.cell 3; have z0 := hA2t.R.frozen 0; have z1 := hA2t.R.frozen 1; have z2 := hA2t.R.frozen 2; have z3 := hA2t.R.frozen 3; have t0 := hA2t.tk.cell 0; have t1 := hA2t.tk.cell 1; have t2 := hA2t.tk.cell 2; have t3 := hA2t.tk.cell 3; have hlt := hA2t.lt; have hbtl := hA2t.tk.lt; simp only [List.getElem?_toArray, List.getElem?_cons_zero, List.getElem?_cons_succ] at f0 f1 f2 f3 r0 r1 r2 r3 t0 t1 t2 t3
          go_wp2
          have B := (hA2t.setf 0 (.int .i64 1))
          have g7 := Goes.four B.goes (b := w.heap.size) (Nat.le_refl _) hpl (.int .i64 1) (.string ⟨#[]⟩) (.string ⟨#[]⟩) (.slice none 0 0)
          exact bodyPost_ret (v := .tuple #[.agg #[.int .i64 1, .string ⟨#[]⟩, .string ⟨#[]⟩, .slice none 0 0], .nilIface]) (by
            have R := four_set B.R (.int .i64 1) (.string ⟨#[]⟩) (.string ⟨#[]⟩) (.slice none 0 0)
            have r0 := R.cell 0; have r1 := R.cell 1; have r2 := R.cell 2; have r3 := R.cell 3
            simp only [List.getElem?_toArray, List.getElem?_cons_zero, List.getElem?_cons_succ] at r0 r1 r2 r3
            simp [results, Tryz.results110, go_sem, r0, r1, r2, r3]) rfl (FPost.good (v := ⟨.int .i64 1, .string ⟨#[]⟩, .string ⟨#[]⟩, .slice none 0 0⟩) HV.out (.leaf 1 [] []) g7)
        | false =>
          rw [hb2, if_neg (by simp)] at cE2
          go_wp2_with fail
          refine cE2.mono ?_
          rintro e V2 ⟨rfl, hg2⟩
          have hA2f := hA1f.move hg2
          clear cE2 ps2 hg2 hA1f
          obtain ⟨j3, ps3⟩ := hA2f.goes.2
          have cE3 := cE ps3 wFalse
          rw [ht] at cE3
          cases hb3 : isIt t wFalse with
          | true =>
            have hil := isIt_lt (ts := ts) (s := wFalse) (by rw [ht]; exact hb3)
            rw [hb3, if_pos rfl] at cE3
            have HV := Lib.hid (by rw [← HRR.out, atomR, if_neg (by rw [ht, hb0]; simp), if_neg (by rw [ht, hb1]; simp), if_neg (by rw [ht, hb2]; simp), if_pos (by rw [ht]; exact hb3)] : r = _)
            clear HRR hb0 hb1 hb2 hb3
            go_wp2_with fail
            refine cE3.mono ?_
            rintro e V3 ⟨rfl, hg3⟩
            have hA3t := hA2f.move hg3
            clear cE3 ps3 hg3 hA2f
            have f0 := hA3t.f.cell 0; have f1 := hA3t.f.cell 1; have f2 := hA3t.f.cell 2; have f3 := hA3t.f.cell 3; have y0 := hA3t.f.frozen 0; have y1 := hA3t.f.frozen 1; have y2 := hA3t.f.frozen 2; have y3 := hA3t.f.frozen 3; have r0 := hA3t.R.cell 0; have r1 := hA3t.R.cell 1; have r2 := hA3t.R.cell 2; have r3 := hA3t.R.cell 3; have z0 := hA3t.R.frozen 0; have z1 := hA3t.R.frozen 1; have z2 := hA3t.R.frozen 2; have z3 := hA3t.R.frozen 3; have t0 := hA3t.tk.cell 0; have t1 := hA3t.tk.cell 1; have t2 := hA3t.tk.cell 2; have t3 := hA3t.tk.cell 3; have hlt := hA3t.lt; have hbtl := hA3t.tk.lt; simp only [List.getElem?_toArray, List.getElem?_cons_zero, List.getElem?_cons_succ] at f0 f1 f2 f3 r0 r1 r2 r3 t0 t1 t2 t3
            go_wp2
            have B := (hA3t.setf 0 (.int .i64 2))
            have g7 := Goes.four B.goes (b := w.heap.size) (Nat.le_refl _) hpl (.int .i64 2) (.string ⟨#[]⟩) (.string ⟨#[]⟩) (.slice none 0 0)
            exact bodyPost_ret (v := .tuple #[.agg #[.int .i64 2, .string ⟨#[]⟩, .string ⟨#[]⟩, .slice none 0 0], .nilIface]) (by
              have R := four_set B.R (.int .i64 2) (.string ⟨#[]⟩) (.string ⟨#[]⟩) (.slice none 0 0)
              have r0 := R.cell 0; have r1 := R.cell 1; have r2 := R.cell 2; have r3 := R.cell 3
              simp only [List.getElem?_toArray, List.getElem?_cons_zero, List.getElem?_cons_succ] at r0 r1 r2 r3
              simp [results, Tryz.results110, go_sem, r0, r1, r2, r3]) rfl (FPost.good (v := ⟨.int .i64 2, .string ⟨#[]⟩, .string ⟨#[]⟩, .slice none 0 0⟩) HV.out (.leaf 2 [] []) g7)
          | false =>
            rw [hb3, if_neg (by simp)] at cE3
            go_wp2_with fail
            refine cE3.mono ?_
            rintro e V3 ⟨rfl, hg3⟩
            have hA3f := hA2f.move hg3
            clear cE3 ps3 hg3 hA2f
            obtain ⟨j4, ps4⟩ := hA3f.goes.2
            have cE4 := cE ps4 wWord
            rw [ht] at cE4
            cases hb4 : isIt t wWord with
            | true =>
              have hil := isIt_lt (ts := ts) (s := wWord) (by rw [ht]; exact hb4)
              rw [hb4, if_pos rfl] at cE4
              have HV := Lib.hid (by rw [← HRR.out, atomR, if_neg (by rw [ht, hb0]; simp), if_neg (by rw [ht, hb1]; simp), if_neg (by rw [ht, hb2]; simp), if_neg (by rw [ht, hb3]; simp), if_pos (by rw [ht]; exact hb4)] : r = _)
              clear HRR hb0 hb1 hb2 hb3 hb4
              go_wp2_with fail
              refine cE4.mono ?_
              rintro e V4 ⟨rfl, hg4⟩
              have hA4t := hA3f.move hg4
              clear cE4 ps4 hg4 hA3f
              have f0 := hA4t.f.cell 0; have f1 := hA4t.f.cell 1; have f2 := hA4t.f.cell 2; have f3 := hA4t.f.cell 3; have y0 := hA4t.f.frozen 0; have y1 := hA4t.f.frozen 1; have y2 := hA4t.f.frozen 2; have y3 := hA4t.f.frozen 3; have r0 := hA4t.R.cell 0; have r1 := hA4t.R.cell 1; have r2 := hA4t.R.cell 2; have r3 := hA4t.R.cell 3; have z0 := hA4t.R.frozen 0; have z1 := hA4t.R.frozen 1; have z2 := hA4t.R.frozen 2; have z3 := hA4t.R.frozen 3; have t0 := hA4t.tk.cell 0; have t1 := hA4t.tk.cell 1; have t2 := hA4t.tk.cell 2; have t3 := hA4t.tk.cell 3; have hlt := hA4t.lt; have hbtl := hA4t.tk.lt; simp only [List.getElem?_toArray, List.getElem?_cons_zero, List.getElem?_cons_succ] at f0 f1 f2 f3 r0 r1 r2 r3 t0 t1 t2 t3
              have B := hA4t.setf 0 (.int .i64 3)
              obtain ⟨jb, psb⟩ := B.goes.2
              have cT := text_walk psb
              cases hx : textR (nextR ts) with
              | error x =>
                have HV2 := Lib.hid (HV.out.trans (by unfold leafR; rw [hx] : _ = .error x))
                rw [hx] at cT
                simp only [textV, EndsT, errV] at cT
                clear hx HV
                generalize hdT (nextR ts) = tj at cT
                go_wp2_with (go_at_call 55; refine cT.mono ?_; rintro e w9 ⟨rfl, r9, hg9⟩; have hA9 := B.move hg9; have f0 := hA9.f.cell 0; have f1 := hA9.f.cell 1; have f2 := hA9.f.cell 2; have f3 := hA9.f.cell 3; have y0 := hA9.f.frozen 0; have y1 := hA9.f.frozen 1; have y2 := hA9.f.frozen 2; have y3 := hA9.f.frozen 3; have r0 := hA9.R.cell 0; have r1 := hA9.R.cell 1; have r2 := hA9.R.cell 2; have r3 := hA9.R.cell 3; have z0 := hA9.R.frozen 0; have z1 := hA9.R.frozen 1; have z2 := hA9.R.frozen 2; have z3 := hA9.R.frozen 3; have t0 := hA9.tk.cell 0; have t1 := hA9.tk.cell 1; have t2 := hA9.tk.cell 2; have t3 := hA9.tk.cell 3; have hlt := hA9.lt; have hbtl := hA9.tk.lt; simp only [List.setIfInBounds_toArray, List.set_cons_zero, List.getElem?_toArray, List.getElem?_cons_zero, List.getElem?_cons_succ] at f0 f1 f2 f3 r0 r1 r2 r3 t0 t1 t2 t3; clear cT psb)
                have C := hA9.setf 2 (.string ⟨tj.says.toArray⟩)
                have g7 := Goes.four C.goes (b := w.heap.size) (Nat.le_refl _) hpl (.int .i64 3) (.string ⟨#[]⟩) (.string ⟨tj.says.toArray⟩) (.slice none 0 0)
                exact bodyPost_ret (v := .tuple #[.agg #[.int .i64 3, .string ⟨#[]⟩, .string ⟨tj.says.toArray⟩, .slice none 0 0], .iface 64 (.agg #[.int .i64 x.1, .int .i64 x.2])]) (by
                  have R := four_set C.R (.int .i64 3) (.string ⟨#[]⟩) (.string ⟨tj.says.toArray⟩) (.slice none 0 0)
                  have r0 := R.cell 0; have r1 := R.cell 1; have r2 := R.cell 2; have r3 := R.cell 3
                  simp only [List.getElem?_toArray, List.getElem?_cons_zero, List.getElem?_cons_succ] at r0 r1 r2 r3
                  simp [results, Tryz.results110, go_sem, r0, r1, r2, r3]) rfl (FPost.bad HV2.out g7)
              | ok x =>
                have HV2 := Lib.hid (HV.out.trans (by unfold leafR; rw [hx] : _ = .ok (F.mk 3 [] x.1 [], x.2)))
                rw [hx] at cT
                simp only [textV, EndsT] at cT
                clear hx HV
                go_wp2_with (go_at_call 55; refine cT.mono ?_; rintro e w9 ⟨rfl, hg9⟩; have hA9 := B.move hg9; have f0 := hA9.f.cell 0; have f1 := hA9.f.cell 1; have f2 := hA9.f.cell 2; have f3 := hA9.f.cell 3; have y0 := hA9.f.frozen 0; have y1 := hA9.f.frozen 1; have y2 := hA9.f.frozen 2; have y3 := hA9.f.frozen 3; have r0 := hA9.R.cell 0; have r1 := hA9.R.cell 1; have r2 := hA9.R.cell 2; have r3 := hA9.R.cell 3; have z0 := hA9.R.frozen 0; have z1 := hA9.R.frozen 1; have z2 := hA9.R.frozen 2; have z3 := hA9.R.frozen 3; have t0 := hA9.tk.cell 0; have t1 := hA9.tk.cell 1; have t2 := hA9.tk.cell 2; have t3 := hA9.tk.cell 3; have hlt := hA9.lt; have hbtl := hA9.tk.lt; simp only [List.setIfInBounds_toArray, List.set_cons_zero, List.getElem?_toArray, List.getElem?_cons_zero, List.getElem?_cons_succ] at f0 f1 f2 f3 r0 r1 r2 r3 t0 t1 t2 t3; clear cT psb)
                have C := hA9.setf 2 (.string ⟨x.1.toArray⟩)
                have g7 := Goes.four C.goes (b := w.heap.size) (Nat.le_refl _) hpl (.int .i64 3) (.string ⟨#[]⟩) (.string ⟨x.1.toArray⟩) (.slice none 0 0)
                exact bodyPost_ret (v := .tuple #[.agg #[.int .i64 3, .string ⟨#[]⟩, .string ⟨x.1.toArray⟩, .slice none 0 0], .nilIface]) (by
                  have R := four_set C.R (.int .i64 3) (.string ⟨#[]⟩) (.string ⟨x.1.toArray⟩) (.slice none 0 0)
                  have r0 := R.cell 0; have r1 := R.cell 1; have r2 := R.cell 2; have r3 := R.cell 3
                  simp only [List.getElem?_toArray, List.getElem?_cons_zero, List.getElem?_cons_succ] at r0 r1 r2 r3
                  simp [results, Tryz.results110, go_sem, r0, r1, r2, r3]) rfl (FPost.good (v := ⟨.int .i64 3, .string ⟨#[]⟩, .string ⟨x.1.toArray⟩, .slice none 0 0⟩) HV2.out (.leaf 3 [] x.1) g7)
            | false =>
              rw [hb4, if_neg (by simp)] at cE4
              go_wp2_with fail
              refine cE4.mono ?_
              rintro e V4 ⟨rfl, hg4⟩
              have hA4f := hA3f.move hg4
              clear cE4 ps4 hg4 hA3f
              obtain ⟨j5, ps5⟩ := hA4f.goes.2
              have cE5 := cE ps5 wHas
              rw [ht] at cE5
              cases hb5 : isIt t wHas with
              | true =>
                have hil := isIt_lt (ts := ts) (s := wHas) (by rw [ht]; exact hb5)
                rw [hb5, if_pos rfl] at cE5
                have HV := Lib.hid (by rw [← HRR.out, atomR, if_neg (by rw [ht, hb0]; simp), if_neg (by rw [ht, hb1]; simp), if_neg (by rw [ht, hb2]; simp), if_neg (by rw [ht, hb3]; simp), if_neg (by rw [ht, hb4]; simp), if_pos (by rw [ht]; exact hb5)] : r = _)
                clear HRR hb0 hb1 hb2 hb3 hb4 hb5
                go_wp2_with fail
                refine cE5.mono ?_
                rintro e V5 ⟨rfl, hg5⟩
                have hA5t := hA4f.move hg5
                clear cE5 ps5 hg5 hA4f
                have f0 := hA5t.f.cell 0; have f1 := hA5t.f.cell 1; have f2 := hA5t.f.cell 2; have f3 := hA5t.f.cell 3; have y0 := hA5t.f.frozen 0; have y1 := hA5t.f.frozen 1; have y2 := hA5t.f.frozen 2; have y3 := hA5t.f.frozen 3; have r0 := hA5t.R.cell 0; have r1 := hA5t.R.cell 1; have r2 := hA5t.R.cell 2; have r3 := hA5t.R.cell 3; have z0 := hA5t.R.frozen 0; have z1 := hA5t.R.frozen 1; have z2 := hA5t.R.frozen 2; have z3 := hA5t.R.frozen 3; have t0 := hA5t.tk.cell 0; have t1 := hA5t.tk.cell 1; have t2 := hA5t.tk.cell 2; have t3 := hA5t.tk.cell 3; have hlt := hA5t.lt; have hbtl := hA5t.tk.lt; simp only [List.getElem?_toArray, List.getElem?_cons_zero, List.getElem?_cons_succ] at f0 f1 f2 f3 r0 r1 r2 r3 t0 t1 t2 t3
                have B := hA5t.setf 0 (.int .i64 4)
                obtain ⟨jb, psb⟩ := B.goes.2
                have cT := text_walk psb
                cases hx : textR (nextR ts) with
                | error x =>
                  have HV2 := Lib.hid (HV.out.trans (by unfold leafR; rw [hx] : _ = .error x))
                  rw [hx] at cT
                  simp only [textV, EndsT, errV] at cT
                  clear hx HV
                  generalize hdT (nextR ts) = tj at cT
                  go_wp2_with (go_at_call 55; refine cT.mono ?_; rintro e w9 ⟨rfl, r9, hg9⟩; have hA9 := B.move hg9; have f0 := hA9.f.cell 0; have f1 := hA9.f.cell 1; have f2 := hA9.f.cell 2; have f3 := hA9.f.cell 3; have y0 := hA9.f.frozen 0; have y1 := hA9.f.frozen 1; have y2 := hA9.f.frozen 2; have y3 := hA9.f.frozen 3; have r0 := hA9.R.cell 0; have r1 := hA9.R.cell 1; have r2 := hA9.R.cell 2; have r3 := hA9.R.cell 3; have z0 := hA9.R.frozen 0; have z1 := hA9.R.frozen 1; have z2 := hA9.R.frozen 2; have z3 := hA9.R.frozen 3; have t0 := hA9.tk.cell 0; have t1 := hA9.tk.cell 1; have t2 := hA9.tk.cell 2; have t3 := hA9.tk.cell 3; have hlt := hA9.lt; have hbtl := hA9.tk.lt; simp only [List.setIfInBounds_toArray, List.set_cons_zero, List.getElem?_toArray, List.getElem?_cons_zero, List.getElem?_cons_succ] at f0 f1 f2 f3 r0 r1 r2 r3 t0 t1 t2 t3; clear cT psb)
                  have C := hA9.setf 2 (.string ⟨tj.says.toArray⟩)
                  have g7 := Goes.four C.goes (b := w.heap.size) (Nat.le_refl _) hpl (.int .i64 4) (.string ⟨#[]⟩) (.string ⟨tj.says.toArray⟩) (.slice none 0 0)
                  exact bodyPost_ret (v := .tuple #[.agg #[.int .i64 4, .string ⟨#[]⟩, .string ⟨tj.says.toArray⟩, .slice none 0 0], .iface 64 (.agg #[.int .i64 x.1, .int .i64 x.2])]) (by
                    have R := four_set C.R (.int .i64 4) (.string ⟨#[]⟩) (.string ⟨tj.says.toArray⟩) (.slice none 0 0)
                    have r0 := R.cell 0; have r1 := R.cell 1; have r2 := R.cell 2; have r3 := R.cell 3
                    simp only [List.getElem?_toArray, List.getElem?_cons_zero, List.getElem?_cons_succ] at r0 r1 r2 r3
                    simp [results, Tryz.results110, go_sem, r0, r1, r2, r3]) rfl (FPost.bad HV2.out g7)
                | ok x =>
                  have HV2 := Lib.hid (HV.out.trans (by unfold leafR; rw [hx] : _ = .ok (F.mk 4 [] x.1 [], x.2)))
                  rw [hx] at cT
                  simp only [textV, EndsT] at cT
                  clear hx HV
                  go_wp2_with (go_at_call 55; refine cT.mono ?_; rintro e w9 ⟨rfl, hg9⟩; have hA9 := B.move hg9; have f0 := hA9.f.cell 0; have f1 := hA9.f.cell 1; have f2 := hA9.f.cell 2; have f3 := hA9.f.cell 3; have y0 := hA9.f.frozen 0; have y1 := hA9.f.frozen 1; have y2 := hA9.f.frozen 2; have y3 := hA9.f.frozen 3; have r0 := hA9.R.cell 0; have r1 := hA9.R.cell 1; have r2 := hA9.R.cell 2; have r3 := hA9.R.cell 3; have z0 := hA9.R.frozen 0; have z1 := hA9.R.frozen 1; have z2 := hA9.R.frozen 2; have z3 := hA9.R.frozen 3; have t0 := hA9.tk.cell 0; have t1 := hA9.tk.cell 1; have t2 := hA9.tk.cell 2; have t3 := hA9.tk.cell 3; have hlt := hA9.lt; have hbtl := hA9.tk.lt; simp only [List.setIfInBounds_toArray, List.set_cons_zero, List.getElem?_toArray, List.getElem?_cons_zero, List.getElem?_cons_succ] at f0 f1 f2 f3 r0 r1 r2 r3 t0 t1 t2 t3; clear cT psb)
                  have C := hA9.setf 2 (.string ⟨x.1.toArray⟩)
                  have g7 := Goes.four C.goes (b := w.heap.size) (Nat.le_refl _) hpl (.int .i64 4) (.string ⟨#[]⟩) (.string ⟨x.1.toArray⟩) (.slice none 0 0)
                  exact bodyPost_ret (v := .tuple #[.agg #[.int .i64 4, .string ⟨#[]⟩, .string ⟨x.1.toArray⟩, .slice none 0 0], .nilIface]) (by
                    have R := four_set C.R (.int .i64 4) (.string ⟨#[]⟩) (.string ⟨x.1.toArray⟩) (.slice none 0 0)
                    have r0 := R.cell 0; have r1 := R.cell 1; have r2 := R.cell 2; have r3 := R.cell 3
                    simp only [List.getElem?_toArray, List.getElem?_cons_zero, List.getElem?_cons_succ] at r0 r1 r2 r3
                    simp [results, Tryz.results110, go_sem, r0, r1, r2, r3]) rfl (FPost.good (v := ⟨.int .i64 4, .string ⟨#[]⟩, .string ⟨x.1.toArray⟩, .slice none 0 0⟩) HV2.out (.leaf 4 [] x.1) g7)
              | false =>
                rw [hb5, if_neg (by simp)] at cE5
                go_wp2_with fail
                refine cE5.mono ?_
                rintro e V5 ⟨rfl, hg5⟩
                have hA5f := hA4f.move hg5
                clear cE5 ps5 hg5 hA4f
                obtain ⟨j6, ps6⟩ := hA5f.goes.2
                have cE6 := cE ps6 wField
                rw [ht] at cE6
                cases hb6 : isIt t wField with
                | true =>
                  have hil := isIt_lt (ts := ts) (s := wField) (by rw [ht]; exact hb6)
                  rw [hb6, if_pos rfl] at cE6
                  have HV := Lib.hid (by rw [← HRR.out, atomR, if_neg (by rw [ht, hb0]; simp), if_neg (by rw [ht, hb1]; simp), if_neg (by rw [ht, hb2]; simp), if_neg (by rw [ht, hb3]; simp), if_neg (by rw [ht, hb4]; simp), if_neg (by rw [ht, hb5]; simp), if_pos (by rw [ht]; exact hb6)] : r = _)
                  clear HRR hb0 hb1 hb2 hb3 hb4 hb5 hb6
                  go_wp2_with fail
                  refine cE6.mono ?_
                  rintro e V6 ⟨rfl, hg6⟩
                  have hA6t := hA5f.move hg6
                  clear cE6 ps6 hg6 hA5f
                  have f0 := hA6t.f.cell 0; have f1 := hA6t.f.cell 1; have f2 := hA6t.f.cell 2; have f3 := hA6t.f.cell 3; have y0 := hA6t.f.frozen 0; have y1 := hA6t.f.frozen 1; have y2 := hA6t.f.frozen 2; have y3 := hA6t.f.frozen 3; have r0 := hA6t.R.cell 0; have r1 := hA6t.R.cell 1; have r2 := hA6t.R.cell 2; have r3 := hA6t.R.cell 3; have z0 := hA6t.R.frozen 0; have z1 := hA6t.R.frozen 1; have z2 := hA6t.R.frozen 2; have z3 := hA6t.R.frozen 3; have t0 := hA6t.tk.cell 0; have t1 := hA6t.tk.cell 1; have t2 := hA6t.tk.cell 2; have t3 := hA6t.tk.cell 3; have hlt := hA6t.lt; have hbtl := hA6t.tk.lt; simp only [List.getElem?_toArray, List.getElem?_cons_zero, List.getElem?_cons_succ] at f0 f1 f2 f3 r0 r1 r2 r3 t0 t1 t2 t3
                  have B := hA6t.setf 0 (.int .i64 5)
                  obtain ⟨jb, psb⟩ := B.goes.2
                  have cK := kind_walk psb 1
                  cases hk : kindR (nextR ts) 1 with
                  | error x =>
                    have HV2 := Lib.hid (HV.out.trans (by unfold fieldR; rw [hk] : _ = .error x))
                    rw [hk] at cK
                    simp only [kindV, EndsK, tokV, errV] at cK
                    clear hk HV
                    generalize hdT (nextR ts) = tj at cK
                    go_wp2_with (go_at_call 56; refine cK.mono ?_; rintro e w9 ⟨rfl, r9, hg9⟩; have hA9 := B.move hg9; have hb99 := (Below.refl w9.heap.size w9).alloc (Nat.le_refl _) (.cells #[.int .i64 tj.kind, .string ⟨tj.says.toArray⟩, .int .i64 tj.n, .int .i64 tj.place] 95); have D9 := hA9.stay hb99; generalize hW9 : w9.alloc (.cells #[.int .i64 tj.kind, .string ⟨tj.says.toArray⟩, .int .i64 tj.n, .int .i64 tj.place] 95) = W9 at D9 hb99; have f0 := D9.f.cell 0; have f1 := D9.f.cell 1; have f2 := D9.f.cell 2; have f3 := D9.f.cell 3; have y0 := D9.f.frozen 0; have y1 := D9.f.frozen 1; have y2 := D9.f.frozen 2; have y3 := D9.f.frozen 3; have r0 := D9.R.cell 0; have r1 := D9.R.cell 1; have r2 := D9.R.cell 2; have r3 := D9.R.cell 3; have z0 := D9.R.frozen 0; have z1 := D9.R.frozen 1; have z2 := D9.R.frozen 2; have z3 := D9.R.frozen 3; have t0 := D9.tk.cell 0; have t1 := D9.tk.cell 1; have t2 := D9.tk.cell 2; have t3 := D9.tk.cell 3; have hlt := D9.lt; have hbtl := D9.tk.lt; simp only [List.setIfInBounds_toArray, List.set_cons_zero, List.getElem?_toArray, List.getElem?_cons_zero, List.getElem?_cons_succ] at f0 f1 f2 f3 r0 r1 r2 r3 t0 t1 t2 t3; clear cK psb)
                    have g6 := Goes.four D9.goes (b := w.heap.size) (Nat.le_refl _) hpl (.int .i64 5) (.string ⟨#[]⟩) (.string ⟨#[]⟩) (.slice none 0 0)
                    have g7 := g6
                    exact bodyPost_ret (v := .tuple #[.agg #[.int .i64 5, .string ⟨#[]⟩, .string ⟨#[]⟩, .slice none 0 0], .iface 64 (.agg #[.int .i64 x.1, .int .i64 x.2])]) (by
                      have R := four_set D9.R (.int .i64 5) (.string ⟨#[]⟩) (.string ⟨#[]⟩) (.slice none 0 0)
                      have r0 := R.cell 0; have r1 := R.cell 1; have r2 := R.cell 2; have r3 := R.cell 3
                      simp only [List.getElem?_toArray, List.getElem?_cons_zero, List.getElem?_cons_succ] at r0 r1 r2 r3
                      simp [results, Tryz.results110, go_sem, r0, r1, r2, r3]) rfl (FPost.bad HV2.out g7)
                  | ok y =>
                    obtain ⟨hy1, hy2⟩ := kindR_ok hk
                    rw [hk] at cK
                    simp only [kindV, EndsK, tokV] at cK
                    rw [← hy1] at cK
                    obtain ⟨tj, rj⟩ := y
                    dsimp only at cK hk hy1 hy2
                    cases hm : mustR rj wEq with
                    | error x =>
                      have HV2 := Lib.hid (HV.out.trans (by unfold fieldR; rw [hk]; dsimp only; rw [hm] : _ = .error x))
                      clear hk HV hy1 hy2
                      go_wp2_with (first
                        | (go_at_call 56; refine cK.mono ?_; rintro e w9 ⟨rfl, hg9⟩; have hA9 := B.move hg9; have f0 := hA9.f.cell 0; have f1 := hA9.f.cell 1; have f2 := hA9.f.cell 2; have f3 := hA9.f.cell 3; have y0 := hA9.f.frozen 0; have y1 := hA9.f.frozen 1; have y2 := hA9.f.frozen 2; have y3 := hA9.f.frozen 3; have r0 := hA9.R.cell 0; have r1 := hA9.R.cell 1; have r2 := hA9.R.cell 2; have r3 := hA9.R.cell 3; have z0 := hA9.R.frozen 0; have z1 := hA9.R.frozen 1; have z2 := hA9.R.frozen 2; have z3 := hA9.R.frozen 3; have t0 := hA9.tk.cell 0; have t1 := hA9.tk.cell 1; have t2 := hA9.tk.cell 2; have t3 := hA9.tk.cell 3; have hlt := hA9.lt; have hbtl := hA9.tk.lt; simp only [List.setIfInBounds_toArray, List.set_cons_zero, List.getElem?_toArray, List.getElem?_cons_zero, List.getElem?_cons_succ] at f0 f1 f2 f3 r0 r1 r2 r3 t0 t1 t2 t3; clear cK psb; have D := hA9.stay ((Below.refl _ _).alloc (Nat.le_refl _) (.cells #[.int .i64 tj.kind, .string ⟨tj.says.toArray⟩, .int .i64 tj.n, .int .i64 tj.place] 95)); obtain ⟨jd, psd⟩ := D.goes.2; have cM := must_walk psd wEq; rw [hm] at cM; simp only [mustV, Ends, errV] at cM; clear hm)
                        | (go_at_call 85; refine cM.mono ?_; rintro e w10 ⟨rfl, r10, hg10⟩; have hA10 := D.move hg10; have f0 := hA10.f.cell 0; have f1 := hA10.f.cell 1; have f2 := hA10.f.cell 2; have f3 := hA10.f.cell 3; have y0 := hA10.f.frozen 0; have y1 := hA10.f.frozen 1; have y2 := hA10.f.frozen 2; have y3 := hA10.f.frozen 3; have r0 := hA10.R.cell 0; have r1 := hA10.R.cell 1; have r2 := hA10.R.cell 2; have r3 := hA10.R.cell 3; have z0 := hA10.R.frozen 0; have z1 := hA10.R.frozen 1; have z2 := hA10.R.frozen 2; have z3 := hA10.R.frozen 3; have t0 := hA10.tk.cell 0; have t1 := hA10.tk.cell 1; have t2 := hA10.tk.cell 2; have t3 := hA10.tk.cell 3; have hlt := hA10.lt; have hbtl := hA10.tk.lt; simp only [List.setIfInBounds_toArray, List.set_cons_zero, List.getElem?_toArray, List.getElem?_cons_zero, List.getElem?_cons_succ] at f0 f1 f2 f3 r0 r1 r2 r3 t0 t1 t2 t3))
                      have g6 := Goes.four hA10.goes (b := w.heap.size) (Nat.le_refl _) hpl (.int .i64 5) (.string ⟨#[]⟩) (.string ⟨#[]⟩) (.slice none 0 0)
                      have g7 := g6
                      exact bodyPost_ret (v := .tuple #[.agg #[.int .i64 5, .string ⟨#[]⟩, .string ⟨#[]⟩, .slice none 0 0], .iface 64 (.agg #[.int .i64 x.1, .int .i64 x.2])]) (by
                        have R := four_set hA10.R (.int .i64 5) (.string ⟨#[]⟩) (.string ⟨#[]⟩) (.slice none 0 0)
                        have r0 := R.cell 0; have r1 := R.cell 1; have r2 := R.cell 2; have r3 := R.cell 3
                        simp only [List.getElem?_toArray, List.getElem?_cons_zero, List.getElem?_cons_succ] at r0 r1 r2 r3
                        simp [results, Tryz.results110, go_sem, r0, r1, r2, r3]) rfl (FPost.bad HV2.out g7)
                    | ok rm =>
                      cases hx : textR rm with
                      | error x =>
                        have HV2 := Lib.hid (HV.out.trans (by unfold fieldR; rw [hk]; dsimp only; rw [hm]; dsimp only; rw [hx] : _ = .error x))
                        clear hk HV hy1 hy2
                        generalize htk : hdT rm = tk
                        go_wp2_with (first
                          | (go_at_call 56; refine cK.mono ?_; rintro e w9 ⟨rfl, hg9⟩; have hA9 := B.move hg9; have f0 := hA9.f.cell 0; have f1 := hA9.f.cell 1; have f2 := hA9.f.cell 2; have f3 := hA9.f.cell 3; have y0 := hA9.f.frozen 0; have y1 := hA9.f.frozen 1; have y2 := hA9.f.frozen 2; have y3 := hA9.f.frozen 3; have r0 := hA9.R.cell 0; have r1 := hA9.R.cell 1; have r2 := hA9.R.cell 2; have r3 := hA9.R.cell 3; have z0 := hA9.R.frozen 0; have z1 := hA9.R.frozen 1; have z2 := hA9.R.frozen 2; have z3 := hA9.R.frozen 3; have t0 := hA9.tk.cell 0; have t1 := hA9.tk.cell 1; have t2 := hA9.tk.cell 2; have t3 := hA9.tk.cell 3; have hlt := hA9.lt; have hbtl := hA9.tk.lt; simp only [List.setIfInBounds_toArray, List.set_cons_zero, List.getElem?_toArray, List.getElem?_cons_zero, List.getElem?_cons_succ] at f0 f1 f2 f3 r0 r1 r2 r3 t0 t1 t2 t3; clear cK psb; have D := hA9.stay ((Below.refl _ _).alloc (Nat.le_refl _) (.cells #[.int .i64 tj.kind, .string ⟨tj.says.toArray⟩, .int .i64 tj.n, .int .i64 tj.place] 95)); have hN := CellsAt.new w9 95 #[.int .i64 tj.kind, .string ⟨tj.says.toArray⟩, .int .i64 tj.n, .int .i64 tj.place]; obtain ⟨jd, psd⟩ := D.goes.2; have hnp : w9.heap.size ≠ p := (by have := hA9.lt; omega); have hnf : w9.heap.size ≠ w.heap.size + 1 := (by have := hA9.lt; omega); have cM := must_walk psd wEq; rw [hm] at cM; simp only [mustV, Ends] at cM; clear hm)
                          | (go_at_call 85; refine cM.mono ?_; rintro e w10 ⟨rfl, hg10⟩; have hA10 := D.move hg10; have hN10 := cells_gb hN hg10.1 hnp; have n1 := hN10.cell 1; simp only [List.getElem?_toArray, List.getElem?_cons_zero, List.getElem?_cons_succ] at n1; have f0 := hA10.f.cell 0; have f1 := hA10.f.cell 1; have f2 := hA10.f.cell 2; have f3 := hA10.f.cell 3; have y0 := hA10.f.frozen 0; have y1 := hA10.f.frozen 1; have y2 := hA10.f.frozen 2; have y3 := hA10.f.frozen 3; have r0 := hA10.R.cell 0; have r1 := hA10.R.cell 1; have r2 := hA10.R.cell 2; have r3 := hA10.R.cell 3; have z0 := hA10.R.frozen 0; have z1 := hA10.R.frozen 1; have z2 := hA10.R.frozen 2; have z3 := hA10.R.frozen 3; have t0 := hA10.tk.cell 0; have t1 := hA10.tk.cell 1; have t2 := hA10.tk.cell 2; have t3 := hA10.tk.cell 3; have hlt := hA10.lt; have hbtl := hA10.tk.lt; simp only [List.setIfInBounds_toArray, List.set_cons_zero, List.getElem?_toArray, List.getElem?_cons_zero, List.getElem?_cons_succ] at f0 f1 f2 f3 r0 r1 r2 r3 t0 t1 t2 t3; have E := hA10.setf 1 (.string ⟨tj.says.toArray⟩); obtain ⟨je, pse⟩ := E.goes.2; have cT := text_walk pse; rw [hx, htk] at cT; simp only [textV, EndsT, errV] at cT; clear hx)
                          | (go_at_call 55; refine cT.mono ?_; rintro e w11 ⟨rfl, r11, hg11⟩; have hA11 := E.move hg11; have f0 := hA11.f.cell 0; have f1 := hA11.f.cell 1; have f2 := hA11.f.cell 2; have f3 := hA11.f.cell 3; have y0 := hA11.f.frozen 0; have y1 := hA11.f.frozen 1; have y2 := hA11.f.frozen 2; have y3 := hA11.f.frozen 3; have r0 := hA11.R.cell 0; have r1 := hA11.R.cell 1; have r2 := hA11.R.cell 2; have r3 := hA11.R.cell 3; have z0 := hA11.R.frozen 0; have z1 := hA11.R.frozen 1; have z2 := hA11.R.frozen 2; have z3 := hA11.R.frozen 3; have t0 := hA11.tk.cell 0; have t1 := hA11.tk.cell 1; have t2 := hA11.tk.cell 2; have t3 := hA11.tk.cell 3; have hlt := hA11.lt; have hbtl := hA11.tk.lt; simp only [List.setIfInBounds_toArray, List.set_cons_zero, List.set_cons_succ, List.getElem?_toArray, List.getElem?_cons_zero, List.getElem?_cons_succ] at f0 f1 f2 f3 r0 r1 r2 r3 t0 t1 t2 t3))
                        have G := hA11.setf 2 (.string ⟨tk.says.toArray⟩)
                        have g6 := Goes.four G.goes (b := w.heap.size) (Nat.le_refl _) hpl (.int .i64 5) (.string ⟨tj.says.toArray⟩) (.string ⟨tk.says.toArray⟩) (.slice none 0 0)
                        have g7 := g6
                        exact bodyPost_ret (v := .tuple #[.agg #[.int .i64 5, .string ⟨tj.says.toArray⟩, .string ⟨tk.says.toArray⟩, .slice none 0 0], .iface 64 (.agg #[.int .i64 x.1, .int .i64 x.2])]) (by
                          have R := four_set G.R (.int .i64 5) (.string ⟨tj.says.toArray⟩) (.string ⟨tk.says.toArray⟩) (.slice none 0 0)
                          have r0 := R.cell 0; have r1 := R.cell 1; have r2 := R.cell 2; have r3 := R.cell 3
                          simp only [List.getElem?_toArray, List.getElem?_cons_zero, List.getElem?_cons_succ] at r0 r1 r2 r3
                          simp [results, Tryz.results110, go_sem, r0, r1, r2, r3]) rfl (FPost.bad HV2.out g7)
                      | ok x =>
                        have HV2 := Lib.hid (HV.out.trans (by unfold fieldR; rw [hk]; dsimp only; rw [hm]; dsimp only; rw [hx] : _ = .ok (F.mk 5 tj.says x.1 [], x.2)))
                        clear hk HV hy1 hy2
                        go_wp2_with (first
                          | (go_at_call 56; refine cK.mono ?_; rintro e w9 ⟨rfl, hg9⟩; have hA9 := B.move hg9; have f0 := hA9.f.cell 0; have f1 := hA9.f.cell 1; have f2 := hA9.f.cell 2; have f3 := hA9.f.cell 3; have y0 := hA9.f.frozen 0; have y1 := hA9.f.frozen 1; have y2 := hA9.f.frozen 2; have y3 := hA9.f.frozen 3; have r0 := hA9.R.cell 0; have r1 := hA9.R.cell 1; have r2 := hA9.R.cell 2; have r3 := hA9.R.cell 3; have z0 := hA9.R.frozen 0; have z1 := hA9.R.frozen 1; have z2 := hA9.R.frozen 2; have z3 := hA9.R.frozen 3; have t0 := hA9.tk.cell 0; have t1 := hA9.tk.cell 1; have t2 := hA9.tk.cell 2; have t3 := hA9.tk.cell 3; have hlt := hA9.lt; have hbtl := hA9.tk.lt; simp only [List.setIfInBounds_toArray, List.set_cons_zero, List.getElem?_toArray, List.getElem?_cons_zero, List.getElem?_cons_succ] at f0 f1 f2 f3 r0 r1 r2 r3 t0 t1 t2 t3; clear cK psb; have D := hA9.stay ((Below.refl _ _).alloc (Nat.le_refl _) (.cells #[.int .i64 tj.kind, .string ⟨tj.says.toArray⟩, .int .i64 tj.n, .int .i64 tj.place] 95)); have hN := CellsAt.new w9 95 #[.int .i64 tj.kind, .string ⟨tj.says.toArray⟩, .int .i64 tj.n, .int .i64 tj.place]; obtain ⟨jd, psd⟩ := D.goes.2; have hnp : w9.heap.size ≠ p := (by have := hA9.lt; omega); have hnf : w9.heap.size ≠ w.heap.size + 1 := (by have := hA9.lt; omega); have cM := must_walk psd wEq; rw [hm] at cM; simp only [mustV, Ends] at cM; clear hm)
                          | (go_at_call 85; refine cM.mono ?_; rintro e w10 ⟨rfl, hg10⟩; have hA10 := D.move hg10; have hN10 := cells_gb hN hg10.1 hnp; have n1 := hN10.cell 1; simp only [List.getElem?_toArray, List.getElem?_cons_zero, List.getElem?_cons_succ] at n1; have f0 := hA10.f.cell 0; have f1 := hA10.f.cell 1; have f2 := hA10.f.cell 2; have f3 := hA10.f.cell 3; have y0 := hA10.f.frozen 0; have y1 := hA10.f.frozen 1; have y2 := hA10.f.frozen 2; have y3 := hA10.f.frozen 3; have r0 := hA10.R.cell 0; have r1 := hA10.R.cell 1; have r2 := hA10.R.cell 2; have r3 := hA10.R.cell 3; have z0 := hA10.R.frozen 0; have z1 := hA10.R.frozen 1; have z2 := hA10.R.frozen 2; have z3 := hA10.R.frozen 3; have t0 := hA10.tk.cell 0; have t1 := hA10.tk.cell 1; have t2 := hA10.tk.cell 2; have t3 := hA10.tk.cell 3; have hlt := hA10.lt; have hbtl := hA10.tk.lt; simp only [List.setIfInBounds_toArray, List.set_cons_zero, List.getElem?_toArray, List.getElem?_cons_zero, List.getElem?_cons_succ] at f0 f1 f2 f3 r0 r1 r2 r3 t0 t1 t2 t3; have E := hA10.setf 1 (.string ⟨tj.says.toArray⟩); obtain ⟨je, pse⟩ := E.goes.2; have cT := text_walk pse; rw [hx] at cT; simp only [textV, EndsT] at cT; clear hx)
                          | (go_at_call 55; refine cT.mono ?_; rintro e w11 ⟨rfl, hg11⟩; have hA11 := E.move hg11; have f0 := hA11.f.cell 0; have f1 := hA11.f.cell 1; have f2 := hA11.f.cell 2; have f3 := hA11.f.cell 3; have y0 := hA11.f.frozen 0; have y1 := hA11.f.frozen 1; have y2 := hA11.f.frozen 2; have y3 := hA11.f.frozen 3; have r0 := hA11.R.cell 0; have r1 := hA11.R.cell 1; have r2 := hA11.R.cell 2; have r3 := hA11.R.cell 3; have z0 := hA11.R.frozen 0; have z1 := hA11.R.frozen 1; have z2 := hA11.R.frozen 2; have z3 := hA11.R.frozen 3; have t0 := hA11.tk.cell 0; have t1 := hA11.tk.cell 1; have t2 := hA11.tk.cell 2; have t3 := hA11.tk.cell 3; have hlt := hA11.lt; have hbtl := hA11.tk.lt; simp only [List.setIfInBounds_toArray, List.set_cons_zero, List.set_cons_succ, List.getElem?_toArray, List.getElem?_cons_zero, List.getElem?_cons_succ] at f0 f1 f2 f3 r0 r1 r2 r3 t0 t1 t2 t3))
                        have G := hA11.setf 2 (.string ⟨x.1.toArray⟩)
                        have g6 := Goes.four G.goes (b := w.heap.size) (Nat.le_refl _) hpl (.int .i64 5) (.string ⟨tj.says.toArray⟩) (.string ⟨x.1.toArray⟩) (.slice none 0 0)
                        have g7 := g6
                        exact bodyPost_ret (v := .tuple #[.agg #[.int .i64 5, .string ⟨tj.says.toArray⟩, .string ⟨x.1.toArray⟩, .slice none 0 0], .nilIface]) (by
                          have R := four_set G.R (.int .i64 5) (.string ⟨tj.says.toArray⟩) (.string ⟨x.1.toArray⟩) (.slice none 0 0)
                          have r0 := R.cell 0; have r1 := R.cell 1; have r2 := R.cell 2; have r3 := R.cell 3
                          simp only [List.getElem?_toArray, List.getElem?_cons_zero, List.getElem?_cons_succ] at r0 r1 r2 r3
                          simp [results, Tryz.results110, go_sem, r0, r1, r2, r3]) rfl (FPost.good (v := ⟨.int .i64 5, .string ⟨tj.says.toArray⟩, .string ⟨x.1.toArray⟩, .slice none 0 0⟩) HV2.out (.leaf 5 tj.says x.1) g7)
                | false =>
                  rw [hb6, if_neg (by simp)] at cE6
                  go_wp2_with fail
                  refine cE6.mono ?_
                  rintro e V6 ⟨rfl, hg6⟩
                  have hA6f := hA5f.move hg6
                  clear cE6 ps6 hg6 hA5f
                  have HV := Lib.hid (by rw [← HRR.out, atomR, if_neg (by rw [ht, hb0]; simp), if_neg (by rw [ht, hb1]; simp), if_neg (by rw [ht, hb2]; simp), if_neg (by rw [ht, hb3]; simp), if_neg (by rw [ht, hb4]; simp), if_neg (by rw [ht, hb5]; simp), if_neg (by rw [ht, hb6]; simp), ht] : r = .error (5, t.place))
                  clear HRR hb0 hb1 hb2 hb3 hb4 hb5 hb6
                  have cF := fun W => fail_walk 5 t W
                  simp only [tokV, errV] at cF
                  have f0 := hA6f.f.cell 0; have f1 := hA6f.f.cell 1; have f2 := hA6f.f.cell 2; have f3 := hA6f.f.cell 3; have y0 := hA6f.f.frozen 0; have y1 := hA6f.f.frozen 1; have y2 := hA6f.f.frozen 2; have y3 := hA6f.f.frozen 3; have r0 := hA6f.R.cell 0; have r1 := hA6f.R.cell 1; have r2 := hA6f.R.cell 2; have r3 := hA6f.R.cell 3; have z0 := hA6f.R.frozen 0; have z1 := hA6f.R.frozen 1; have z2 := hA6f.R.frozen 2; have z3 := hA6f.R.frozen 3; have t0 := hA6f.tk.cell 0; have t1 := hA6f.tk.cell 1; have t2 := hA6f.tk.cell 2; have t3 := hA6f.tk.cell 3; have hlt := hA6f.lt; have hbtl := hA6f.tk.lt; simp only [List.getElem?_toArray, List.getElem?_cons_zero, List.getElem?_cons_succ] at f0 f1 f2 f3 r0 r1 r2 r3 t0 t1 t2 t3
                  go_wp2_with (go_at_call 84; refine (cF _).mono ?_; rintro e w9 ⟨rfl, hb9⟩; have hA9 := hA6f.stay hb9; have f0 := hA9.f.cell 0; have f1 := hA9.f.cell 1; have f2 := hA9.f.cell 2; have f3 := hA9.f.cell 3; have y0 := hA9.f.frozen 0; have y1 := hA9.f.frozen 1; have y2 := hA9.f.frozen 2; have y3 := hA9.f.frozen 3; have r0 := hA9.R.cell 0; have r1 := hA9.R.cell 1; have r2 := hA9.R.cell 2; have r3 := hA9.R.cell 3; have z0 := hA9.R.frozen 0; have z1 := hA9.R.frozen 1; have z2 := hA9.R.frozen 2; have z3 := hA9.R.frozen 3; have t0 := hA9.tk.cell 0; have t1 := hA9.tk.cell 1; have t2 := hA9.tk.cell 2; have t3 := hA9.tk.cell 3; have hlt := hA9.lt; have hbtl := hA9.tk.lt; simp only [List.getElem?_toArray, List.getElem?_cons_zero, List.getElem?_cons_succ] at f0 f1 f2 f3 r0 r1 r2 r3 t0 t1 t2 t3)
                  have g7 := Goes.four hA9.goes (b := w.heap.size) (Nat.le_refl _) hpl (.int .i64 0) (.string ⟨#[]⟩) (.string ⟨#[]⟩) (.slice none 0 0)
                  exact bodyPost_ret (v := .tuple #[.agg #[.int .i64 0, .string ⟨#[]⟩, .string ⟨#[]⟩, .slice none 0 0], .iface 64 (.agg #[.int .i64 5, .int .i64 t.place])]) (by
                    have R := four_set hA9.R (.int .i64 0) (.string ⟨#[]⟩) (.string ⟨#[]⟩) (.slice none 0 0)
                    have r0 := R.cell 0; have r1 := R.cell 1; have r2 := R.cell 2; have r3 := R.cell 3
                    simp only [List.getElem?_toArray, List.getElem?_cons_zero, List.getElem?_cons_succ] at r0 r1 r2 r3
                    simp [results, Tryz.results110, go_sem, r0, r1, r2, r3]) rfl (FPost.bad (x := (5, t.place)) HV.out g7)
end Go.Proofs.YtebblpmocheelaaGreatDoor
