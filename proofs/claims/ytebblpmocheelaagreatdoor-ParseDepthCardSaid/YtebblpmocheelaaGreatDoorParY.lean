/- The walk of parse.Parse. -/
import Derived.Test.YtebblpmocheelaaGreatDoorParX
import Derived.Test.YtebblpmocheelaaGreatDoorParL
import Derived.RegionTactic
import Derived.BigRegion
namespace Go.Proofs.YtebblpmocheelaaGreatDoor
open Go.RowKit Go.Lib

def faultV (a b : Int) : Value := .agg #[.int .i64 a, .int .i64 b]
def queryV (q : Q) (mv : Value) (fx : V4) : Value := .agg #[.int .i64 q.since, .int .i64 q.till, mv, fx.a, fx.b, fx.c, fx.k, .bool q.desc, .int .i64 q.limit, .string ⟨q.page.toArray⟩]
def noQuery : Value := .agg #[.int .i64 0, .int .i64 0, .slice none 0 0, .int .i64 0, .string ⟨#[]⟩, .string ⟨#[]⟩, .slice none 0 0, .bool false, .int .i64 0, .string ⟨#[]⟩]
/-- What Parse hands back. -/
def ParsePost (r : Except Err Q) (w : World) (e : Ending) (w' : World) : Prop := Below w.heap.size w w' ∧ match r with
  | .ok q => ∃ mv fx, e = .returned (.tuple #[queryV q mv fx, faultV 0 0]) ∧ w'.ownsRow w.heap.size 75 3 mv q.ms.length (q.ms.flatMap mCells) ∧ FVal w' (fun b => w.heap.size ≤ b) fx q.filter
  | .error x => e = .returned (.tuple #[noQuery, faultV x.1 x.2])
theorem ParsePost.bad {r : Except Err Q} {w w' : World} {x : Err} (h : r = .error x) (hb : Below w.heap.size w w') : ParsePost r w (.returned (.tuple #[.agg #[.int .i64 0, .int .i64 0, .slice none 0 0, .int .i64 0, .string ⟨#[]⟩, .string ⟨#[]⟩, .slice none 0 0, .bool false, .int .i64 0, .string ⟨#[]⟩], .agg #[.int .i64 x.1, .int .i64 x.2]])) w' := by
  subst h; exact ⟨hb, rfl⟩
theorem ParsePost.good {r : Except Err Q} {w w' : World} {q : Q} {mv a b c k : Value} (h : r = .ok q) (hb : Below w.heap.size w w') (ho : w'.ownsRow w.heap.size 75 3 mv q.ms.length (q.ms.flatMap mCells)) (hf : FVal w' (fun b => w.heap.size ≤ b) ⟨a, b, c, k⟩ q.filter) :
    ParsePost r w (.returned (.tuple #[.agg #[.int .i64 q.since, .int .i64 q.till, mv, a, b, c, k, .bool q.desc, .int .i64 q.limit, .string ⟨q.page.toArray⟩], .agg #[.int .i64 0, .int .i64 0]])) w' := by
  subst h; exact ⟨hb, mv, ⟨a, b, c, k⟩, rfl, ho, hf⟩

/-- Where Parse stands: its results' blocks, and the fault that lex told. -/
structure YS (w W : World) (q0 q1 q2 : Array Value) : Prop where
  b : Below w.heap.size w W
  rq : CellsAt W w.heap.size 28 q0
  rf : CellsAt W (w.heap.size + 1) 31 q1
theorem fin_below {w W : World} {B : Nat} (h : Below w.heap.size w W) (hB : w.heap.size ≤ B) (x0 x1 x2 x3 x4 x5 x6 x7 x8 x9 y0 y1 : Value) : Below w.heap.size w ((((((((((((W.setCell ⟨B, 0, none⟩ x0).setCell ⟨B, 1, none⟩ x1).setCell ⟨B, 2, none⟩ x2).setCell ⟨B, 3, none⟩ x3).setCell ⟨B, 4, none⟩ x4).setCell ⟨B, 5, none⟩ x5).setCell ⟨B, 6, none⟩ x6).setCell ⟨B, 7, none⟩ x7).setCell ⟨B, 8, none⟩ x8).setCell ⟨B, 9, none⟩ x9).setCell ⟨(B + 1), 0, none⟩ y0).setCell ⟨(B + 1), 1, none⟩ y1) :=
  (((((((((((h.setCell (p := ⟨B, 0, none⟩) hB x0).setCell (p := ⟨B, 1, none⟩) hB x1).setCell (p := ⟨B, 2, none⟩) hB x2).setCell (p := ⟨B, 3, none⟩) hB x3).setCell (p := ⟨B, 4, none⟩) hB x4).setCell (p := ⟨B, 5, none⟩) hB x5).setCell (p := ⟨B, 6, none⟩) hB x6).setCell (p := ⟨B, 7, none⟩) hB x7).setCell (p := ⟨B, 8, none⟩) hB x8).setCell (p := ⟨B, 9, none⟩) hB x9).setCell (p := ⟨B + 1, 0, none⟩) (Nat.le_succ_of_le hB) y0).setCell (p := ⟨B + 1, 1, none⟩) (Nat.le_succ_of_le hB) y1
theorem fin_q {W : World} {B : Nat} {a0 a1 a2 a3 a4 a5 a6 a7 a8 a9 : Value} (h : CellsAt W B 28 #[a0, a1, a2, a3, a4, a5, a6, a7, a8, a9]) (x0 x1 x2 x3 x4 x5 x6 x7 x8 x9 y0 y1 : Value) : CellsAt ((((((((((((W.setCell ⟨B, 0, none⟩ x0).setCell ⟨B, 1, none⟩ x1).setCell ⟨B, 2, none⟩ x2).setCell ⟨B, 3, none⟩ x3).setCell ⟨B, 4, none⟩ x4).setCell ⟨B, 5, none⟩ x5).setCell ⟨B, 6, none⟩ x6).setCell ⟨B, 7, none⟩ x7).setCell ⟨B, 8, none⟩ x8).setCell ⟨B, 9, none⟩ x9).setCell ⟨(B + 1), 0, none⟩ y0).setCell ⟨(B + 1), 1, none⟩ y1) B 28 #[x0, x1, x2, x3, x4, x5, x6, x7, x8, x9] :=
  ((ten_set h x0 x1 x2 x3 x4 x5 x6 x7 x8 x9).set_other (by omega) 0 y0).set_other (by omega) 1 y1
theorem fin_f {W : World} {B : Nat} {b0 b1 : Value} (h : CellsAt W (B + 1) 31 #[b0, b1]) (x0 x1 x2 x3 x4 x5 x6 x7 x8 x9 y0 y1 : Value) : CellsAt ((((((((((((W.setCell ⟨B, 0, none⟩ x0).setCell ⟨B, 1, none⟩ x1).setCell ⟨B, 2, none⟩ x2).setCell ⟨B, 3, none⟩ x3).setCell ⟨B, 4, none⟩ x4).setCell ⟨B, 5, none⟩ x5).setCell ⟨B, 6, none⟩ x6).setCell ⟨B, 7, none⟩ x7).setCell ⟨B, 8, none⟩ x8).setCell ⟨B, 9, none⟩ x9).setCell ⟨(B + 1), 0, none⟩ y0).setCell ⟨(B + 1), 1, none⟩ y1) (B + 1) 31 #[y0, y1] := by
  have k := (((((((((((h.set_other (show B + 1 ≠ B by omega) 0 x0).set_other (show B + 1 ≠ B by omega) 1 x1).set_other (show B + 1 ≠ B by omega) 2 x2).set_other (show B + 1 ≠ B by omega) 3 x3).set_other (show B + 1 ≠ B by omega) 4 x4).set_other (show B + 1 ≠ B by omega) 5 x5).set_other (show B + 1 ≠ B by omega) 6 x6).set_other (show B + 1 ≠ B by omega) 7 x7).set_other (show B + 1 ≠ B by omega) 8 x8).set_other (show B + 1 ≠ B by omega) 9 x9).set 0 y0).set 1 y1
  simpa only [List.setIfInBounds_toArray, List.set_cons_zero, List.set_cons_succ] using k
theorem fin_own {W : World} {lo size n B : Nat} {e : TypeId} {v : Value} {ys : List Value} (h : W.ownsRow lo e size v n ys) (hb : B + 1 < lo) (x0 x1 x2 x3 x4 x5 x6 x7 x8 x9 y0 y1 : Value) : ((((((((((((W.setCell ⟨B, 0, none⟩ x0).setCell ⟨B, 1, none⟩ x1).setCell ⟨B, 2, none⟩ x2).setCell ⟨B, 3, none⟩ x3).setCell ⟨B, 4, none⟩ x4).setCell ⟨B, 5, none⟩ x5).setCell ⟨B, 6, none⟩ x6).setCell ⟨B, 7, none⟩ x7).setCell ⟨B, 8, none⟩ x8).setCell ⟨B, 9, none⟩ x9).setCell ⟨(B + 1), 0, none⟩ y0).setCell ⟨(B + 1), 1, none⟩ y1).ownsRow lo e size v n ys :=
  own_set (own_set (own_ten h (by omega) x0 x1 x2 x3 x4 x5 x6 x7 x8 x9) hb 0 y0) hb 1 y1
theorem fin_fil {W : World} {lo B : Nat} {x : V4} {f : F} (h : FVal W (fun b => lo ≤ b) x f) (hb : B + 1 < lo) (x0 x1 x2 x3 x4 x5 x6 x7 x8 x9 y0 y1 : Value) : FVal ((((((((((((W.setCell ⟨B, 0, none⟩ x0).setCell ⟨B, 1, none⟩ x1).setCell ⟨B, 2, none⟩ x2).setCell ⟨B, 3, none⟩ x3).setCell ⟨B, 4, none⟩ x4).setCell ⟨B, 5, none⟩ x5).setCell ⟨B, 6, none⟩ x6).setCell ⟨B, 7, none⟩ x7).setCell ⟨B, 8, none⟩ x8).setCell ⟨B, 9, none⟩ x9).setCell ⟨(B + 1), 0, none⟩ y0).setCell ⟨(B + 1), 1, none⟩ y1) (fun b => lo ≤ b) x f :=
  ((h.ten (by omega) x0 x1 x2 x3 x4 x5 x6 x7 x8 x9).setb hb 0 y0).setb hb 1 y1
theorem CellsAt.drew {W : World} {B : Nat} {t : TypeId} {xs : Array Value} (h : CellsAt W B t xs) : CellsAt W.drew B t xs := h

structure PEnv (w : World) : Prop where
  env : Env w
  et : w.cell? ⟨0, 0, none⟩ = some (.iface 158 (.agg #[.pointer (some ⟨9, 58, none⟩)]))
theorem PEnv.below {w w' : World} (h : PEnv w) (hb : Below w.heap.size w w') : PEnv w' := ⟨h.env.below hb, (hb.cell (cell_lt h.et)).trans h.et⟩

theorem ps_start {W : World} {lo g cap : Nat} {l : List Tok} {s : ByteArray} (hl : lexA s = .ok l) (h : W.ownsRow lo 95 4 (.slice (some ⟨g, 0, none⟩) l.length cap) l.length (l.flatMap tokCells)) (hg : g < W.heap.size) (hc : l.length ≤ cap) (hm : cap ≤ maxLen) :
    PS (W.alloc (.cells #[.slice (some ⟨g, 0, none⟩) l.length cap, .int .i64 0] 62)) W.heap.size g cap l l 0 0 := by
  have hA := own_below h ((Below.refl _ _).alloc (Nat.le_refl _) (.cells #[.slice (some ⟨g, 0, none⟩) l.length cap, .int .i64 0] 62))
  obtain ⟨toks, p, he, hall⟩ := lexA_struct hl
  exact {
    drop := rfl
    lt := by rw [he]; simp
    par := by simpa using CellsAt.new W 62 #[.slice (some ⟨g, 0, none⟩) l.length cap, .int .i64 0]
    row := Row.of hA (by simp; omega)
    gp := hg
    cp := hc
    cm := hm
    ended := ⟨toks, p, he, fun t ht => tokOk_kind (hall t ht)⟩ }

theorem errA {s : ByteArray} {x : Int × Int} (h : lexA s = .error x) : x.1 ≠ 0 := by
  unfold lexA at h
  split at h
  · injection h with h; subst h; show (6 : Int) ≠ 0; decide
  · split at h
    · injection h with h; subst h; show (4 : Int) ≠ 0; decide
    · split at h
      · cases h
      · injection h with h; subst h; show (4 : Int) ≠ 0; decide

set_option maxHeartbeats 16000000 in
set_option maxRecDepth 1000000 in
theorem parse_bad (s : ByteArray) (x : Int × Int) (w : World) (hE : Env w) (hs : s.size ≤ 65536) (hl : lexA s = .error x) :
    Calls Tryz.prog 11 #[.string s] w (ParsePost (parseA s) w) := by
  have hB0 := ((Below.refl w.heap.size w).alloc (Nat.le_refl _) (.cells #[.int .i64 0, .int .i64 0, .slice none 0 0, .int .i64 0, .string ⟨#[]⟩, .string ⟨#[]⟩, .slice none 0 0, .bool false, .int .i64 0, .string ⟨#[]⟩] 28)).alloc (by simp) (.cells #[.int .i64 0, .int .i64 0] 31)
  have hRq0 := (CellsAt.new w 28 #[.int .i64 0, .int .i64 0, .slice none 0 0, .int .i64 0, .string ⟨#[]⟩, .string ⟨#[]⟩, .slice none 0 0, .bool false, .int .i64 0, .string ⟨#[]⟩]).alloc (.cells #[.int .i64 0, .int .i64 0] 31)
  have hRf0 := CellsAt.new (w.alloc (.cells #[.int .i64 0, .int .i64 0, .slice none 0 0, .int .i64 0, .string ⟨#[]⟩, .string ⟨#[]⟩, .slice none 0 0, .bool false, .int .i64 0, .string ⟨#[]⟩] 28)) 31 #[.int .i64 0, .int .i64 0]
  have hsz : (w.alloc (.cells #[.int .i64 0, .int .i64 0, .slice none 0 0, .int .i64 0, .string ⟨#[]⟩, .string ⟨#[]⟩, .slice none 0 0, .bool false, .int .i64 0, .string ⟨#[]⟩] 28)).heap.size = w.heap.size + 1 := by simp
  rw [hsz] at hRf0
  have cL := lex_walk s ((w.alloc (.cells #[.int .i64 0, .int .i64 0, .slice none 0 0, .int .i64 0, .string ⟨#[]⟩, .string ⟨#[]⟩, .slice none 0 0, .bool false, .int .i64 0, .string ⟨#[]⟩] 28)).alloc (.cells #[.int .i64 0, .int .i64 0] 31)) (hE.below hB0) hs
  have HV := Lib.hid (by unfold parseA; rw [hl] : parseA s = .error x)
  have hx := errA hl
  have hxb : (x.1 == 0) = false := by rw [beq_eq_false_iff_ne]; exact hx
  have hxn : (x.1 != 0) = true := by rw [bne_iff_ne]; exact hx
  rw [hl] at cL
  clear hsz hl
  go_enter Tryz.func11, Tryz.ntmps11
  go_wp2_with fail
  refine cL.mono ?_
  clear cL
  rintro e w1 ⟨hb1, rfl⟩
  have hB1 := hB0.trans (hb1.mono (by simp; omega))
  have hRq1 := below_cells hRq0 hb1
  have hRf1 := below_cells hRf0 hb1
  have hb2 := (Below.refl w1.heap.size w1).alloc (Nat.le_refl _) (.cells #[.int .i64 x.1, .int .i64 x.2] 31)
  have hB2 := hB1.trans (hb2.mono hB1.size)
  have hRq2 := below_cells hRq1 hb2
  have hRf2 := below_cells hRf1 hb2
  have hF2 := CellsAt.new w1 31 #[.int .i64 x.1, .int .i64 x.2]
  have hs1 := hRf1.lt
  clear hb1 hb2 hB0 hB1 hRq0 hRf0 hRq1 hRf1
  go_wp2_with fail
  generalize hW2 : w1.alloc (.cells #[.int .i64 x.1, .int .i64 x.2] 31) = W2 at hB2 hRq2 hRf2 hF2 ⊢
  clear hW2
  generalize w1.heap.size = fb at hF2 hs1 ⊢
  have f0 := hF2.cell 0; have f1 := hF2.cell 1
  obtain ⟨r0, r1, r2, r3, r4, r5, r6, r7, r8, r9⟩ := hRq2.ten; obtain ⟨z0, z1, z2, z3, z4, z5, z6, z7, z8, z9⟩ := hRq2.tenF
  have e0 := hRf2.cell 0; have e1 := hRf2.cell 1; have y0 := hRf2.frozen 0; have y1 := hRf2.frozen 1
  simp only [List.getElem?_toArray, List.getElem?_cons_zero, List.getElem?_cons_succ] at f0 f1 e0 e1
  go_region
  go_wp2
  exact bodyPost_ret (v := .tuple #[.agg #[.int .i64 0, .int .i64 0, .slice none 0 0, .int .i64 0, .string ⟨#[]⟩, .string ⟨#[]⟩, .slice none 0 0, .bool false, .int .i64 0, .string ⟨#[]⟩], .agg #[.int .i64 x.1, .int .i64 x.2]]) (by
    have R := (fin_q hRq2 (.int .i64 0) (.int .i64 0) (.slice none 0 0) (.int .i64 0) (.string ⟨#[]⟩) (.string ⟨#[]⟩) (.slice none 0 0) (.bool false) (.int .i64 0) (.string ⟨#[]⟩) (.int .i64 x.1) (.int .i64 x.2)).drew
    have S := (fin_f hRf2 (.int .i64 0) (.int .i64 0) (.slice none 0 0) (.int .i64 0) (.string ⟨#[]⟩) (.string ⟨#[]⟩) (.slice none 0 0) (.bool false) (.int .i64 0) (.string ⟨#[]⟩) (.int .i64 x.1) (.int .i64 x.2)).drew
    obtain ⟨r0, r1, r2, r3, r4, r5, r6, r7, r8, r9⟩ := R.ten
    have s0 := S.cell 0; have s1 := S.cell 1
    simp only [List.getElem?_toArray, List.getElem?_cons_zero, List.getElem?_cons_succ] at s0 s1
    simp [results, Tryz.results11, go_sem, r0, r1, r2, r3, r4, r5, r6, r7, r8, r9, s0, s1]) rfl (ParsePost.bad HV.out (fin_below hB2 (Nat.le_refl _) (.int .i64 0) (.int .i64 0) (.slice none 0 0) (.int .i64 0) (.string ⟨#[]⟩) (.string ⟨#[]⟩) (.slice none 0 0) (.bool false) (.int .i64 0) (.string ⟨#[]⟩) (.int .i64 x.1) (.int .i64 x.2)).drew)
end Go.Proofs.YtebblpmocheelaaGreatDoor
