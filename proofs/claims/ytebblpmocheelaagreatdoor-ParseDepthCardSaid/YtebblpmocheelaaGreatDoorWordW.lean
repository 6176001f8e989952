/- The walks of word.Letter, word.spans and its closure. -/
import Derived.Test.YtebblpmocheelaaGreatDoorLexW2
import Derived.Test.YtebblpmocheelaaGreatDoorWordP
import Derived.RangeFuncNested
import Derived.RangeFuncBound
import Derived.RangeFuncCalls
import Derived.RangeFuncLeaves
import Derived.RangeFuncBox
import Derived.Shelf.Abstract
import Derived.OwnWalkIn
import Derived.TacticsInMore
import Derived.LoopNIn
import Derived.LoopIn
namespace Go.Proofs.YtebblpmocheelaaGreatDoor
open Go.RowKit Go.Shelf
attribute [local go_sem] Oper.semAt_some

set_option maxHeartbeats 4000000 in
theorem letter_walk (c : Nat) (w : World) (hc : c ≤ 2147483647) :
    Calls Tryz.prog 148 #[.int .i32 c] w fun e w' => e = .returned (.bool (wordR c)) ∧ w' = w := by
  have key : ∀ b, wordR c = b → Calls Tryz.prog 148 #[.int .i32 c] w fun e w' => e = .returned (.bool b) ∧ w' = w := by
    intro b hb
    have e95 : ((c : Int) == 95) = decide (c = 95) := by rw [Bool.eq_iff_iff, beq_iff_eq, decide_eq_true_eq]; omega
    have eFF : ((c : Int) != 65533) = decide (c ≠ 65533) := by rw [Bool.eq_iff_iff, bne_iff_ne, decide_eq_true_eq]; omega
    by_cases h95 : c = 95
    · subst h95
      have hb' : b = true := by rw [← hb]; decide
      subst hb'
      clear hb e95 eFF
      go_enter Tryz.func148, Tryz.ntmps148
      go_wp2
      go_ret
      exact ⟨rfl, rfl⟩
    · rw [decide_eq_false h95] at e95
      by_cases hF : c = 65533
      · subst hF
        have hb' : b = false := by rw [← hb]; decide
        subst hb'
        clear hb e95 eFF
        go_enter Tryz.func148, Tryz.ntmps148
        go_wp2
        go_ret
        exact ⟨rfl, rfl⟩
      · rw [decide_eq_true hF] at eFF
        rcases (show (c < 48) ∨ (57 < c ∧ c < 65) ∨ (90 < c ∧ c < 97) ∨ (122 < c ∧ c < 128) ∨ (48 ≤ c ∧ c ≤ 57) ∨ (65 ≤ c ∧ c ≤ 90) ∨ (97 ≤ c ∧ c ≤ 122) ∨ 128 ≤ c by omega) with h | ⟨h1, h2⟩ | ⟨h1, h2⟩ | ⟨h1, h2⟩ | ⟨h1, h2⟩ | ⟨h1, h2⟩ | ⟨h1, h2⟩ | h
        · have hb' : b = false := by rw [← hb]; simp [wordR]; omega
          subst hb'
          clear hb hF h95
          go_enter Tryz.func148, Tryz.ntmps148
          go_wp2
          go_ret
          exact ⟨rfl, rfl⟩
        · have hb' : b = false := by rw [← hb]; simp [wordR]; omega
          subst hb'
          clear hb hF h95
          go_enter Tryz.func148, Tryz.ntmps148
          go_wp2
          go_ret
          exact ⟨rfl, rfl⟩
        · have hb' : b = false := by rw [← hb]; simp [wordR]; omega
          subst hb'
          clear hb hF h95
          go_enter Tryz.func148, Tryz.ntmps148
          go_wp2
          go_ret
          exact ⟨rfl, rfl⟩
        · have hb' : b = false := by rw [← hb]; simp [wordR]; omega
          subst hb'
          clear hb hF h95
          go_enter Tryz.func148, Tryz.ntmps148
          go_wp2
          go_ret
          exact ⟨rfl, rfl⟩
        · have hb' : b = true := by rw [← hb]; simp [wordR]; omega
          subst hb'
          clear hb hF h95
          go_enter Tryz.func148, Tryz.ntmps148
          go_wp2
          go_ret
          exact ⟨rfl, rfl⟩
        · have hb' : b = true := by rw [← hb]; simp [wordR]; omega
          subst hb'
          clear hb hF h95
          go_enter Tryz.func148, Tryz.ntmps148
          go_wp2
          go_ret
          exact ⟨rfl, rfl⟩
        · have hb' : b = true := by rw [← hb]; simp [wordR]; omega
          subst hb'
          clear hb hF h95
          go_enter Tryz.func148, Tryz.ntmps148
          go_wp2
          go_ret
          exact ⟨rfl, rfl⟩
        · have hb' : b = true := by rw [← hb]; simp [wordR]; omega
          subst hb'
          clear hb hF h95
          go_enter Tryz.func148, Tryz.ntmps148
          go_wp2
          go_ret
          exact ⟨rfl, rfl⟩
  exact key _ rfl

/-! ### word.spans -/
def KpC (b : Nat) (s : ByteArray) (W W' : World) : Prop := KeepsWalks W W' ∧ (W.cell? ⟨b, 0, none⟩ = some (.string s) → W'.cell? ⟨b, 0, none⟩ = some (.string s))
def encSp (x : Nat × Nat) : Array Value := #[.agg #[.int .i64 x.1, .int .i64 x.2]]
def frV : Option Nat → Value
  | none => .int .i64 (-1)
  | some a => .int .i64 a

theorem grownBy_iterAt (W : World) (k : Nat) (s : ByteArray) (p : Nat) : W.grownBy (W.iterAt k s p) (some k) :=
  ⟨rfl, rfl, rfl, by rw [Lib.iterAt_size]; exact Nat.le_refl _, fun i _ hne => Lib.iterAt_other W k i s p (fun e => hne (by rw [e]))⟩

theorem spansFrom_step (s : ByteArray) (f pos : Nat) (fr : Option Nat) (c wd : Nat) (hp : pos < s.size) (hc : (Utf8.decode s pos).1 = c) (hw : (Utf8.decode s pos).2 = wd) :
    spansFrom s (f + 1) pos fr = if wordR c = true then spansFrom s f (pos + wd) (some (fr.getD pos)) else spansCut fr pos ++ spansFrom s f (pos + wd) none := by
  rw [spansFrom, if_pos hp, hc, hw]

set_option maxHeartbeats 8000000 in
set_option maxRecDepth 1000000 in
theorem spans1_in (n : Nat) (l b : Nat) (s : ByteArray) (hs : s.size ≤ 65536) (J Jx : List (Nat × Nat) → World → Prop) (W : World) (hJ : AbidesFrom W.heap.size J)
    (hY : ∀ pre x W1, J pre W1 → pre.length < s.size + 1 → YieldAt Fence.wide (n - 1) Tryz.prog l (encSp x) W1 fun e W' =>
      (e = .returned (.bool true) ∧ J (pre ++ [x]) W' ∧ KpC b s W1 W') ∨ (e = .returned (.bool false) ∧ Jx (pre ++ [x]) W'))
    (hb : W.cell? ⟨b, 0, none⟩ = some (.string s)) (h0 : J [] W) :
    CallsIn Fence.wide n Tryz.prog 147 #[.func (.yield l) #[] #[], .pointer (some ⟨b, 0, none⟩)] W fun e W' => (∃ v, e = .returned v) ∧
      ((∃ xs, xs = spansA s ∧ J xs W') ∨ (∃ pre, pre <+: spansA s ∧ Jx pre W')) := by
  refine callsIn_of_wp Tryz.func147 rfl trivial ?_ rfl
  simp only [Tryz.ntmps147, List.size_toArray, List.length_cons, List.length_nil, Nat.reduceAdd, Nat.reduceSub, Array.replicate_succ, Array.replicate_zero, List.push_toArray, List.append_toArray, List.nil_append, List.cons_append]
  gi_wp2
  gi_loopw [3] (fun fr wr => ∃ (pos fuel : Nat) (fo : Option Nat) (pre : List (Nat × Nat)), fr = frV fo ∧ wr.heap[W.heap.size]? = some (.stringIter s pos) ∧ wr.cell? ⟨b, 0, none⟩ = some (.string s) ∧ J pre wr ∧ pre ++ spansFrom s fuel pos fo = spansA s ∧ s.size ≤ pos + fuel ∧ pos ≤ s.size ∧ pre.length ≤ pos) (fun _ wr => s.size - wr.iterPos W.heap.size)
  case atStart =>
    have hi := World.iter_heap W s 0
    refine ⟨0, s.size, none, [], rfl, hi, ?_, hJ _ _ _ none h0 (World.grownBy_alloc W _ none) (fun r e => by cases e), rfl, by omega, by omega, by simp⟩
    exact cell_kept hb (World.grownBy_alloc W (.stringIter s 0) none) (fun r e => by cases e)
  case round =>
    obtain ⟨pos, fuel, fo, pre, rfl, hit, hcb, hJs, hacc, hfu, hpl, hpr⟩ := hrel
    by_cases hp : pos < s.size
    · have hnx : ∀ ty, (Instr.next (.pointer (some ⟨W.heap.size, 0, none⟩)) true ty).run Tryz.prog wr = _ := fun ty => Lib.run_next_any_at wr W.heap.size s pos ty hit hp
      have hwd := width_pos s pos hp
      have hwl := width_le s pos hp
      have hd1 := decode_le s pos
      obtain ⟨f, rfl⟩ : ∃ f, fuel = f + 1 := ⟨fuel - 1, by omega⟩
      obtain ⟨c, hc⟩ : ∃ c, (Utf8.decode s pos).1 = c := ⟨_, rfl⟩
      obtain ⟨wd, hwde⟩ : ∃ wd, (Utf8.decode s pos).2 = wd := ⟨_, rfl⟩
      have hq := spansFrom_step s f pos fo c wd hp hc hwde
      rw [hc, hwde] at hnx
      rw [hwde] at hwd hwl
      rw [hc] at hd1
      have hit2 := Lib.iterAt_heap wr W.heap.size s pos (pos + wd) hit
      have hJ2 := hJ _ _ _ _ hJs (grownBy_iterAt wr W.heap.size s (pos + wd)) (fun r e => by cases e; exact ⟨Nat.le_refl _, _, hit, rfl⟩)
      have hcb2 := cell_kept hcb (grownBy_iterAt wr W.heap.size s (pos + wd)) (fun r e => by cases e; exact ⟨_, hit, rfl⟩)
      rw [hq] at hacc
      have HA := Lib.hid hacc
      clear hacc hq hc hwde
      have cL := callsIn_wide (n := n - 1) |>.2 (letter_walk c (wr.iterAt W.heap.size s (pos + wd)) hd1)
      cases hwr : wordR c with
      | true =>
        rw [hwr] at cL HA
        rw [if_pos rfl] at HA
        clear hwr
        cases fo with
        | none =>
          simp only [frV]
          gi_wp2_with (refine ⟨trivial, fun h => (by cases h), ?_⟩; gi_at_call 148; refine cL.mono ?_; rintro e w' ⟨rfl, rfl⟩)
          go_roundw
          case rel => exact ⟨pos + wd, f, some pos, pre, rfl, hit2, hcb2, hJ2, HA.out, by omega, by omega, by omega⟩
          case measure =>
            simp only [World.iterPos, hit2, hit]
            omega
        | some a =>
          simp only [frV]
          have ha0 : ¬ ((a : Int) < 0) := by omega
          gi_wp2_with (refine ⟨trivial, fun h => (by cases h), ?_⟩; gi_at_call 148; refine cL.mono ?_; rintro e w' ⟨rfl, rfl⟩)
          go_roundw
          case rel => exact ⟨pos + wd, f, some a, pre, rfl, hit2, hcb2, hJ2, HA.out, by omega, by omega, by omega⟩
          case measure =>
            simp only [World.iterPos, hit2, hit]
            omega
      | false =>
        rw [hwr] at cL HA
        rw [if_neg (by simp)] at HA
        clear hwr
        cases fo with
        | none =>
          simp only [frV]
          gi_wp2_with (refine ⟨trivial, fun h => (by cases h), ?_⟩; gi_at_call 148; refine cL.mono ?_; rintro e w' ⟨rfl, rfl⟩)
          go_roundw
          case rel => exact ⟨pos + wd, f, none, pre, rfl, hit2, hcb2, hJ2, HA.out, by omega, by omega, by omega⟩
          case measure =>
            simp only [World.iterPos, hit2, hit]
            omega
        | some a =>
          simp only [frV]
          have ha0 : ¬ ((a : Int) < 0) := by omega
          obtain ⟨fn, tmps, assign, body, hy, hR⟩ := hY pre (a, pos) _ hJ2 (by omega)
          simp only [encSp] at hy
          gi_wp2_with (refine ⟨trivial, fun h => (by cases h), ?_⟩; gi_at_call 148; refine cL.mono ?_; rintro e w' ⟨rfl, rfl⟩)
          refine ⟨fun h => (by cases h), ?_⟩
          refine hR.mono ?_
          rintro e W3 (⟨rfl, hJ3, hk3⟩ | ⟨rfl, hJx3⟩)
          · have hi3 := hk3.1.same _ _ hit2 rfl
            have hcb3 := hk3.2 hcb2
            clear hk3 hR hy
            gi_wp2
            go_roundw
            case rel => exact ⟨pos + wd, f, none, pre ++ [(a, pos)], rfl, hi3, hcb3, hJ3, by rw [List.append_assoc]; exact HA.out, by omega, by omega, by simp only [List.length_append, List.length_singleton]; omega⟩
            case measure =>
              simp only [World.iterPos, hi3, hit]
              omega
          · clear hR hy
            gi_wp2
            refine bodyPost_ret (results_none rfl _ _ _) rfl ?_
            exact ⟨⟨_, rfl⟩, .inr ⟨pre ++ [(a, pos)], ⟨spansFrom s f (pos + wd) none, by rw [List.append_assoc]; exact HA.out⟩, hJx3⟩⟩
    · have hnx : ∀ ty, (Instr.next (.pointer (some ⟨W.heap.size, 0, none⟩)) true ty).run Tryz.prog wr = _ := fun ty => Lib.run_next_end_at wr W.heap.size s pos ty hit hp
      have he : spansFrom s fuel pos fo = spansEnd s fo := by cases fuel <;> simp [spansFrom, hp]
      rw [he] at hacc
      have HA := Lib.hid hacc
      clear hacc he
      cases fo with
      | none =>
        simp only [frV]
        gi_wp2
        go_end0
        exact ⟨⟨_, rfl⟩, .inl ⟨pre, by rw [← HA.out]; simp [spansEnd], hJs⟩⟩
      | some a =>
        simp only [frV]
        have ha0 : ¬ ((a : Int) < 0) := by omega
        obtain ⟨fn, tmps, assign, body, hy, hR⟩ := hY pre (a, s.size) _ hJs (by omega)
        simp only [encSp] at hy
        gi_wp2
        refine ⟨fun h => (by cases h), ?_⟩
        refine hR.mono ?_
        rintro e W3 (⟨rfl, hJ3, hk3⟩ | ⟨rfl, hJx3⟩)
        · clear hk3 hR hy
          gi_wp2
          go_end0
          exact ⟨⟨_, rfl⟩, .inl ⟨pre ++ [(a, s.size)], HA.out, hJ3⟩⟩
        · clear hR hy
          gi_wp2
          go_end0
          exact ⟨⟨_, rfl⟩, .inr ⟨pre ++ [(a, s.size)], ⟨[], by rw [List.append_nil]; exact HA.out⟩, hJx3⟩⟩

theorem spans_stops (n : Nat) (b : Nat) (s : ByteArray) (hs : s.size ≤ 65536) (w : World) (hc : w.cell? ⟨b, 0, none⟩ = some (.string s)) :
    SeqStopsK Fence.wide n Tryz.prog 147 #[.pointer (some ⟨b, 0, none⟩)] encSp (KpC b s) (fun xs => xs = spansA s) (fun pre => pre <+: spansA s) (s.size + 1) w := fun l J Jx W hW hJ _ hY h0 =>
  spans1_in n l b s hs J Jx W hJ hY ((hW.cell (p := ⟨b, 0, none⟩) (cell_lt hc)).trans hc) h0

theorem spans_walk (s : ByteArray) (w : World) :
    Calls Tryz.prog 140 #[.string s] w fun e w' => e = .returned (.func (.func 147) #[] #[.pointer (some ⟨w.heap.size, 0, none⟩)]) ∧ w' = w.alloc (.cells #[.string s] 9) := by
  go_enter Tryz.func140, Tryz.ntmps140
  go_wp2
  go_ret
  exact ⟨rfl, rfl⟩

theorem kpC_t {b : Nat} {s : ByteArray} {A B C : World} (h : KpC b s A B) (k : KpC b s B C) : KpC b s A C := ⟨h.1.trans k.1, fun hc => k.2 (h.2 hc)⟩
theorem kpC_b {b : Nat} {s : ByteArray} {w : World} (W : World) (l : Nat) (o o' : Obj) (_ : w.heap.size ≤ l) (h : W.heap[l]? = some o) (hc : o.isCells = false) (hw : o.isWalk = false) : KpC b s W (W.putObj l o') :=
  ⟨KeepsWalks.putObj _ h hw, fun hcell => cell_kept hcell (grownBy_putObj' W l o') (fun r e => by cases e; exact ⟨o, h, hc⟩)⟩
theorem kpC_alloc (b : Nat) (s : ByteArray) (W : World) (o : Obj) : KpC b s W (W.alloc o) := ⟨KeepsWalks.alloc W o, fun hc => cell_kept hc (World.grownBy_alloc W o none) (fun r e => by cases e)⟩

/-- A block of cells is kept over what is no cells. -/
def CellsAt (W : World) (B : Nat) (t : TypeId) (xs : Array Value) : Prop := W.heap[B]? = some (.cells xs t (0, 0))
theorem CellsAt.own {β : Type} (B : Nat) (t : TypeId) (f : β → Array Value) : Own (fun s W => CellsAt W B t (f s)) := fun s X Y row hs hg hrow => by
  refine (hg.block B (Array.getElem?_eq_some_iff.1 hs).1 (fun e' => ?_)).trans hs
  obtain ⟨o, ho, hc⟩ := hrow B e'.symm
  rw [show X.heap[B]? = _ from hs] at ho; cases ho; cases hc
theorem CellsAt.new (W : World) (t : TypeId) (xs : Array Value) : CellsAt (W.alloc (.cells xs t)) W.heap.size t xs := World.alloc_heap_new W _
theorem CellsAt.alloc {W : World} {B : Nat} {t : TypeId} {xs : Array Value} (h : CellsAt W B t xs) (o : Obj) : CellsAt (W.alloc o) B t xs := (Below.heap_alloc W o B (Array.getElem?_eq_some_iff.1 h).1).trans h
theorem CellsAt.cell {W : World} {B : Nat} {t : TypeId} {xs : Array Value} (h : CellsAt W B t xs) (i : Nat) : W.cell? ⟨B, i, none⟩ = xs[i]? := cell_of_row W B i xs t (0, 0) h
theorem CellsAt.frozen {W : World} {B : Nat} {t : TypeId} {xs : Array Value} (h : CellsAt W B t xs) (i : Nat) : W.frozen? ⟨B, i, none⟩ = false := by
  unfold CellsAt at h
  simp [World.frozen?, h]
theorem CellsAt.set {W : World} {B : Nat} {t : TypeId} {xs : Array Value} (h : CellsAt W B t xs) (i : Nat) (u : Value) : CellsAt (W.setCell ⟨B, i, none⟩ u) B t (xs.setIfInBounds i u) := by
  unfold CellsAt at h ⊢
  simp [World.setCell, Array.getElem?_modify, h]
theorem CellsAt.putObj {W : World} {B : Nat} {t : TypeId} {xs : Array Value} (h : CellsAt W B t xs) {l : Nat} {o : Obj} (o' : Obj) (hl : W.heap[l]? = some o) (hc : o.isCells = false) : CellsAt (W.putObj l o') B t xs :=
  (CellsAt.own B t (fun (_ : Unit) => xs)) () W _ (some l) h (grownBy_putObj' W l o') (fun r e => by cases e; exact ⟨o, hl, hc⟩)
theorem CellsAt.lt {W : World} {B : Nat} {t : TypeId} {xs : Array Value} (h : CellsAt W B t xs) : B < W.heap.size := (Array.getElem?_eq_some_iff.1 h).1

set_option maxHeartbeats 8000000 in
set_option maxRecDepth 1000000 in
theorem is_in (s : ByteArray) (w : World) (hs : s.size ≤ 65536) :
    CallsIn Fence.wide 9 Tryz.prog 125 #[.string s] w fun e w' => e = .returned (.bool (isA s)) ∧ Below w.heap.size w w' := by
  refine callsIn_of_wp_marks Tryz.func125 rfl trivial ?_ rfl
  simp only [Tryz.ntmps125, List.size_toArray, List.length_cons, List.length_nil, Nat.reduceAdd, Nat.reduceSub, Array.replicate_succ, Array.replicate_zero, List.push_toArray, List.append_toArray, List.nil_append, List.cons_append]
  gi_wp2_with (refine ⟨trivial, ?_⟩; gi_at_call 140; refine ((callsIn_wide (n := 8)).2 (spans_walk s _)).mono ?_; rintro e w' ⟨rfl, rfl⟩)
  have hB0 : Below w.heap.size w (((w.alloc (.cells #[.string s] 9)).alloc (.cells #[.bool false] 4)).alloc (.cells #[.string s] 9)) := (((Below.refl _ w).alloc (Nat.le_refl _) _).alloc (by simp) _).alloc (by simp; omega) _
  have b0 := ((CellsAt.new w 9 #[.string s]).alloc (.cells #[.bool false] 4)).alloc (.cells #[.string s] 9)
  have b1 := (CellsAt.new (w.alloc (.cells #[.string s] 9)) 4 #[.bool false]).alloc (.cells #[.string s] 9)
  have b2 := CellsAt.new ((w.alloc (.cells #[.string s] 9)).alloc (.cells #[.bool false] 4)) 9 #[.string s]
  simp only [World.size_alloc] at b1 b2
  have hsz : (((w.alloc (.cells #[.string s] 9)).alloc (.cells #[.bool false] 4)).alloc (.cells #[.string s] 9)).heap.size = w.heap.size + 3 := by simp
  obtain ⟨W0, hW0⟩ : ∃ W0, ((w.alloc (.cells #[.string s] 9)).alloc (.cells #[.bool false] 4)).alloc (.cells #[.string s] 9) = W0 := ⟨_, rfl⟩
  rw [hW0] at hB0 b0 b1 b2 hsz ⊢
  clear hW0
  refine wpIn_rangeFunc_ownH rfl (by omega) (gf := 147) (lb := #[.pointer (some ⟨w.heap.size + 1 + 1, 0, none⟩)]) rfl trivial (enters_of Tryz.func147 (by kernel_rfl) rfl)
    (spans_stops 8 (w.heap.size + 1 + 1) s hs W0 (b2.cell 0)) kpC_t (kpC_b (w := W0)) (Below.refl _ _) (fun _ => rfl)
    (fun pre W => (pre = [] ∧ CellsAt W w.heap.size 9 #[.string s] ∧ CellsAt W (w.heap.size + 1) 4 #[.bool false]) ∧ Below w.heap.size w W)
    (fun c pre W => (c = .ret ∧ ∃ x : Nat × Nat, pre = [x] ∧ CellsAt W (w.heap.size + 1) 4 #[.bool (decide (x.1 = 0) && decide (x.2 = s.size))]) ∧ Below w.heap.size w W)
    (OwnFrom.and (fun st X Y row hst hg hr => ⟨hst.1, (CellsAt.own _ _ (fun (_ : Unit) => _)).from W0.heap.size () X Y row hst.2.1 hg hr, (CellsAt.own _ _ (fun (_ : Unit) => _)).from W0.heap.size () X Y row hst.2.2 hg hr⟩) (ownFrom_below (Nat.le_refl _) (by omega)))
    (fun c => OwnFrom.and (fun st X Y row hst hg hr => by obtain ⟨h1, x, h2, h3⟩ := hst; exact ⟨h1, x, h2, (CellsAt.own _ _ (fun (_ : Unit) => _)).from W0.heap.size () X Y row h3 hg hr⟩) (ownFrom_below (Nat.le_refl _) (by omega)))
    ⟨⟨rfl, b0, b1⟩, hB0⟩
    (fun x a' W => ∃ Bx, w.heap.size + 1 < Bx ∧ CellsAt W Bx 211 #[.int .i64 x.1, .int .i64 x.2] ∧ a' = { tmps := #[.string s, .pointer (some ⟨w.heap.size, 0, none⟩), .pointer (some ⟨w.heap.size + 1, 0, none⟩), .pointer (some ⟨Bx, 0, none⟩), .string s, .func (.func 147) #[] #[.pointer (some ⟨w.heap.size + 1 + 1, 0, none⟩)], .agg #[.int .i64 x.1, .int .i64 x.2], undef, undef, undef, undef, undef, undef, undef, undef, undef, undef], defers := [] })
    (fun x a' _ X Y row hst hg hr => by obtain ⟨Bx, h1, h2, h3⟩ := hst; exact ⟨Bx, h1, (CellsAt.own _ _ (fun (_ : Unit) => _)).from W0.heap.size () X Y row h2 hg hr, h3⟩)
    ?assign ?body ?done ?stop
  case assign =>
    rintro l pre x W K ⟨⟨hp, c0, c1⟩, hB1⟩ hK
    simp only [encSp]
    gi_wp2
    exact hK _ _ ((KeepsOthers.alloc _ _).from _) (kpC_alloc _ _ _ _) ⟨⟨hp, c0.alloc _, c1.alloc _⟩, hB1.alloc hB1.size _⟩ ⟨W.heap.size, c1.lt, CellsAt.new W _ _, rfl⟩
  case body =>
    rintro l pre x a' W hl ⟨r, hr⟩ ⟨⟨rfl, c0, c1⟩, hB1⟩ ⟨Bx, hBx, cX, rfl⟩ hlt
    have e0 := c0.cell 0
    have f1 := c1.frozen 0
    have e1 := c1.cell 0
    have x0 := cX.cell 0
    have x1 := cX.cell 1
    simp at e0 e1 x0 x1
    by_cases h0 : x.1 = 0
    · have d0 : ((x.1 : Int) == 0) = true := by rw [beq_iff_eq]; omega
      have d1 : ((x.2 : Int) == (s.size : Int)) = decide (x.2 = s.size) := by rw [Bool.eq_iff_iff, beq_iff_eq, decide_eq_true_eq]; omega
      have hv : (decide (x.1 = 0) && decide (x.2 = s.size)) = decide (x.2 = s.size) := by simp [h0]
      have HV := Lib.hid hv
      clear hv h0
      gi_wp2
      exact ⟨(KeepsOthers.setCell _ _ _).from _, ⟨rfl, x, rfl, by rw [HV.out]; exact c1.set 0 _⟩, hB1.setCell (p := ⟨w.heap.size + 1, 0, none⟩) (by simp) _⟩
    · have d0 : ((x.1 : Int) == 0) = false := by rw [beq_eq_false_iff_ne]; omega
      have hv : (decide (x.1 = 0) && decide (x.2 = s.size)) = false := by simp [h0]
      have HV := Lib.hid hv
      clear hv h0
      gi_wp2
      exact ⟨(KeepsOthers.setCell _ _ _).from _, ⟨rfl, x, rfl, by rw [HV.out]; exact c1.set 0 _⟩, hB1.setCell (p := ⟨w.heap.size + 1, 0, none⟩) (by simp) _⟩
  case done =>
    rintro D ys W hD rfl ⟨⟨hnil, c0, c1⟩, hB⟩ hK
    have hv : isA s = false := by unfold isA; rw [hnil]; rfl
    have HV := Lib.hid hv
    have e1 := c1.cell 0
    have f1 := c1.frozen 0
    simp at e1
    clear hv hnil
    gi_wp2
    have hK' := (KeepsOthers.setCell W ⟨w.heap.size + 1, 0, none⟩ (.bool false)).same D _ hK rfl
    refine ⟨by simp, .inl ⟨_, _, rfl, run_takeDeferred hK', ?_⟩⟩
    have hc5 := ((c1.set 0 (.bool false)).putObj (.deferred none) hK' rfl).cell 0
    refine ⟨.bool false, ?_, by rw [HV.out], (hB.setCell (p := ⟨w.heap.size + 1, 0, none⟩) (by simp) _).trans (belowK_b (w := w) (Nat.le_refl _) _ D _ _ (by omega) hK' rfl rfl)⟩
    simp at hc5
    simp [results, Tryz.f125, go_sem, hc5]
  case stop =>
    rintro D c pre W hD hpre ⟨⟨rfl, x, rfl, c1⟩, hB⟩ hK
    have hv : isA s = (decide (x.1 = 0) && decide (x.2 = s.size)) := by
      obtain ⟨r, hr⟩ := hpre
      unfold isA; rw [← hr]; rfl
    generalize (decide (x.1 = 0) && decide (x.2 = s.size)) = v at c1 hv
    have HV := Lib.hid hv
    clear hv hpre
    gi_wp2
    refine ⟨by simp, .inl ⟨_, _, rfl, run_takeDeferred hK, ?_⟩⟩
    have hc5 := (c1.putObj (.deferred none) hK rfl).cell 0
    refine ⟨.bool v, ?_, by rw [HV.out], hB.trans (belowK_b (w := w) (Nat.le_refl _) _ D _ _ (by omega) hK rfl rfl)⟩
    simp at hc5
    simp [results, Tryz.f125, go_sem, hc5]

theorem is_walk (s : ByteArray) (w : World) (hs : s.size ≤ 65536) :
    Calls Tryz.prog 125 #[.string s] w fun e w' => e = .returned (.bool (isA s)) ∧ Below w.heap.size w w' := callsIn_wide.1 (is_in s w hs)
end Go.Proofs.YtebblpmocheelaaGreatDoor
