/- The walks of lex.quoted and lex.run. -/
import Derived.Test.YtebblpmocheelaaGreatDoorLexE
namespace Go.Proofs.YtebblpmocheelaaGreatDoor
open Go.RowKit

theorem width_pos (s : ByteArray) (pos : Nat) (h : pos < s.size) : 1 ≤ (Utf8.decode s pos).2 := by
  by_cases ha : (s[pos]'h).toNat < 128
  · rw [decode_ascii s pos h ha]
    exact Nat.le_refl _
  · exact (decode_high s pos h (by omega)).2

/-- What lex.quoted hands back. -/
def quotedV : Option (List UInt8 × Nat) → Value
  | some x => .tuple #[.string ⟨x.1.toArray⟩, .int .i64 x.2, .bool true]
  | none => .tuple #[.string ⟨#[]⟩, .int .i64 0, .bool false]

def stI (b : Bool) : Int := if b then 1 else 0

theorem qf_step (t : ByteArray) (f pos : Nat) (st : Bool) (acc : List UInt8) (c wd : Nat) (hp : pos < t.size) (hc : (Utf8.decode t pos).1 = c) (hw : (Utf8.decode t pos).2 = wd) :
    quotedFrom t (f + 1) pos st acc = if c = 10 then none
      else if st = true ∧ c ≠ 34 ∧ c ≠ 92 then none
      else if st = false ∧ c = 34 then some (acc, pos + 2)
      else if st = false ∧ c = 92 then quotedFrom t f (pos + wd) true acc
      else quotedFrom t f (pos + wd) false (acc ++ Lib.encodeRune (c : Int)) := by
  rw [quotedFrom, if_pos hp, hc, hw]

set_option maxHeartbeats 4000000 in
set_option maxRecDepth 1000000 in
theorem quoted_core (s t : ByteArray) (w : World) (ht : s.extract 1 s.size = t) (hs : t.size ≤ 65536) (h0 : 1 ≤ s.size) (hs2 : s.size ≤ 65536) :
    Calls Tryz.prog 79 #[.string s] w fun e w' => e = .returned (quotedV (quotedFrom t t.size 0 false [])) ∧ Below w.heap.size w w' := by
  go_enter Tryz.func79, Tryz.ntmps79
  go_wp2
  clear ht
  go_loopw [6] (fun a wr => ∃ (pos fuel : Nat) (st : Bool) (acc : List UInt8), ((a = .int .i64 0 ∧ st = false) ∨ (a = .int .i64 1 ∧ st = true)) ∧ Lib.IsBuilderF 138 5 w.heap.size w.heap.size (Lib.byteCells acc) wr ∧ wr.heap[w.heap.size + 1]? = some (.stringIter t pos) ∧ Below w.heap.size w wr ∧ quotedFrom t fuel pos st acc = quotedFrom t t.size 0 false [] ∧ t.size ≤ pos + fuel ∧ acc.length ≤ 4 * pos) (fun _ wr => t.size - wr.iterPos (w.heap.size + 1))
  case atStart =>
    refine ⟨0, t.size, false, [], .inl ⟨rfl, rfl⟩, (Lib.IsBuilderF.of (Lib.fresh_isBuilder 138 5 w)).alloc _, ?_, ((Below.refl _ w).alloc (Nat.le_refl _) _).alloc (by simp) _, rfl, by omega, by simp⟩
    have := World.iter_heap (w.alloc (.cells #[.pointer none, .slice none 0 0] 138)) t 0
    simpa using this
  case round =>
    obtain ⟨pos, fuel, st, acc, ha, hI, hit, hbw, hacc, hfu, hal⟩ := hrel
    have hsz : w.heap.size + 1 < wr.heap.size := (Array.getElem?_eq_some_iff.1 hit).1
    by_cases hp : pos < t.size
    · have hnx : ∀ ty, (Instr.next (.pointer (some ⟨w.heap.size + 1, 0, none⟩)) true ty).run Tryz.prog wr = _ := fun ty => Lib.run_next_any_at wr (w.heap.size + 1) t pos ty hit hp
      have hwd := width_pos t pos hp
      have hd1 := decode_le t pos
      obtain ⟨f, rfl⟩ : ∃ f, fuel = f + 1 := ⟨fuel - 1, by omega⟩
      obtain ⟨c, hc⟩ : ∃ c, (Utf8.decode t pos).1 = c := ⟨_, rfl⟩
      obtain ⟨wd, hwde⟩ : ∃ wd, (Utf8.decode t pos).2 = wd := ⟨_, rfl⟩
      have hq := qf_step t f pos st acc c wd hp hc hwde
      rw [hc, hwde] at hnx
      rw [hwde] at hwd
      rw [hc] at hd1
      have hI2 := hI.iterAt hit (pos + wd)
      have hit2 := Lib.iterAt_heap wr (w.heap.size + 1) t pos (pos + wd) hit
      have hbw2 := Lib.below_iterAt hbw (k := w.heap.size + 1) (by omega) t (pos + wd)
      have hsz2 : w.heap.size ≤ (wr.iterAt (w.heap.size + 1) t (pos + wd)).heap.size := by rw [Lib.iterAt_size]; omega
      have HQ := Lib.hid hq; have HA := Lib.hid hacc; have HC := Lib.hid hc; have HW := Lib.hid hwde
      clear hq hacc hc hwde
      have hbc : (Lib.byteCells acc).length ≤ 4 * 65536 := by rw [Lib.byteCells_length]; omega
      by_cases c10 : c = 10
      · subst c10
        rcases ha with ⟨rfl, rfl⟩ | ⟨rfl, rfl⟩
        all_goals
          go_wp2
          go_ret3
          refine ⟨?_, hbw2⟩
          rw [← HA.out, HQ.out]; rfl
      · by_cases c34 : c = 34
        · subst c34
          rcases ha with ⟨rfl, rfl⟩ | ⟨rfl, rfl⟩
          · go_wp2_with (go_at_call 73; refine (Tryz.Builder_String_any_k w.heap.size w.heap.size acc _ hI2 hsz2).mono ?_; rintro e W1 ⟨rfl, h1, b1, k1⟩)
            go_ret3
            refine ⟨?_, hbw2.trans b1⟩
            rw [← HA.out, HQ.out]; rfl
          · go_wp2_with (go_at_call 72; refine (Tryz.Builder_WriteRune_k w.heap.size w.heap.size _ _ (by omega) (by omega) _ hI2 (by omega) hsz2).mono ?_; rintro e W1 ⟨rfl, h1, b1, k1⟩)
            go_roundw
            case rel =>
              have hl4 := Lib.runeCells_le ((34 : Nat) : Int)
              rw [Lib.runeCells_length] at hl4
              refine ⟨pos + wd, f, false, acc ++ Lib.encodeRune ((34 : Nat) : Int), .inl ⟨rfl, rfl⟩, ?_, k1.iter hit2 (by omega), hbw2.trans b1, ?_, by omega, by simp only [List.length_append]; omega⟩
              · rw [Lib.byteCells_append, Lib.byteCells_encodeRune]; exact Or.inr h1
              · rw [← HA.out, HQ.out]; rfl
            case measure =>
              simp only [World.iterPos, k1.iter hit2 (by omega), hit]
              omega
        · by_cases c92 : c = 92
          · subst c92
            rcases ha with ⟨rfl, rfl⟩ | ⟨rfl, rfl⟩
            · go_wp2
              go_roundw
              case rel => exact ⟨pos + wd, f, true, acc, .inr ⟨rfl, rfl⟩, hI2, hit2, hbw2, by rw [← HA.out, HQ.out]; rfl, by omega, by omega⟩
              case measure =>
                simp only [World.iterPos, hit2, hit]
                omega
            · go_wp2_with (go_at_call 72; refine (Tryz.Builder_WriteRune_k w.heap.size w.heap.size _ _ (by omega) (by omega) _ hI2 (by omega) hsz2).mono ?_; rintro e W1 ⟨rfl, h1, b1, k1⟩)
              go_roundw
              case rel =>
                have hl4 := Lib.runeCells_le ((92 : Nat) : Int)
                rw [Lib.runeCells_length] at hl4
                refine ⟨pos + wd, f, false, acc ++ Lib.encodeRune ((92 : Nat) : Int), .inl ⟨rfl, rfl⟩, ?_, k1.iter hit2 (by omega), hbw2.trans b1, ?_, by omega, by simp only [List.length_append]; omega⟩
                · rw [Lib.byteCells_append, Lib.byteCells_encodeRune]; exact Or.inr h1
                · rw [← HA.out, HQ.out]; rfl
              case measure =>
                simp only [World.iterPos, k1.iter hit2 (by omega), hit]
                omega
          · rcases ha with ⟨rfl, rfl⟩ | ⟨rfl, rfl⟩
            · go_wp2_with (go_at_call 72; refine (Tryz.Builder_WriteRune_k w.heap.size w.heap.size _ _ (by omega) (by omega) _ hI2 (by omega) hsz2).mono ?_; rintro e W1 ⟨rfl, h1, b1, k1⟩)
              go_roundw
              case rel =>
                have hl4 := Lib.runeCells_le (c : Int)
                rw [Lib.runeCells_length] at hl4
                refine ⟨pos + wd, f, false, acc ++ Lib.encodeRune (c : Int), .inl ⟨rfl, rfl⟩, ?_, k1.iter hit2 (by omega), hbw2.trans b1, ?_, by omega, by simp only [List.length_append]; omega⟩
                · rw [Lib.byteCells_append, Lib.byteCells_encodeRune]; exact Or.inr h1
                · rw [← HA.out, HQ.out, if_neg c10, if_neg (by simp), if_neg (by simp [c34]), if_neg (by simp [c92])]
              case measure =>
                simp only [World.iterPos, k1.iter hit2 (by omega), hit]
                omega
            · have n34 : ((c : Int) != 34) = true := by rw [bne_iff_ne]; omega
              have n92 : ((c : Int) != 92) = true := by rw [bne_iff_ne]; omega
              have hfin : quotedFrom t (f + 1) pos true acc = none := by rw [HQ.out, if_neg c10, if_pos ⟨rfl, c34, c92⟩]
              have HF := Lib.hid hfin
              clear hfin
              go_wp2
              go_ret3
              refine ⟨?_, hbw2⟩
              rw [← HA.out, HF.out]; rfl
    · have hnx : ∀ ty, (Instr.next (.pointer (some ⟨w.heap.size + 1, 0, none⟩)) true ty).run Tryz.prog wr = _ := fun ty => Lib.run_next_end_at wr (w.heap.size + 1) t pos ty hit hp
      go_wp2
      go_ret3
      refine ⟨?_, hbw⟩
      rw [← hacc]
      cases fuel <;> simp [quotedFrom, hp, quotedV]

theorem quoted_walk (s : ByteArray) (w : World) (hs : s.size ≤ 65536) (h0 : 1 ≤ s.size) :
    Calls Tryz.prog 79 #[.string s] w fun e w' => e = .returned (quotedV (quotedA s)) ∧ Below w.heap.size w w' :=
  quoted_core s _ w rfl (by simp; omega) h0 hs

/-! ### lex.IsText, lex.IsWord -/
set_option maxHeartbeats 1000000 in
theorem isText_walk (s : ByteArray) (w : World) (hE : Env w) (hs : s.size ≤ 65536) :
    Calls Tryz.prog 70 #[.string s] w fun e w' => e = .returned (.bool (isTextL s.data.toList)) ∧ Below w.heap.size w w' := by
  have cV := hE.valid s (by omega)
  unfold isTextL
  cases hv : Lib.validD s.data.toList with
  | true =>
    rw [hv] at cV
    rw [Bool.true_and]
    have HV := Lib.hid hv; clear hv
    have HcV := Lib.hid cV; clear cV
    go_enter Tryz.func70, Tryz.ntmps70
    go_wp2_with (first
      | (go_at_call 101; refine HcV.out.mono ?_; rintro e w' ⟨rfl, hb⟩)
      | (go_at_call 102; refine ((hE.below hb).contains s ⟨#[10]⟩ (by omega)).mono ?_; rintro e w' ⟨rfl, rfl⟩))
    go_ret
    exact ⟨rfl, hb⟩
  | false =>
    rw [hv] at cV
    rw [Bool.false_and]
    have HcV := Lib.hid cV; clear cV hv
    go_enter Tryz.func70, Tryz.ntmps70
    go_wp2_with (go_at_call 101; refine HcV.out.mono ?_; rintro e w' ⟨rfl, hb⟩)
    go_ret
    exact ⟨rfl, hb⟩

set_option maxHeartbeats 1000000 in
theorem isWord_walk (s : ByteArray) (w : World) (hE : Env w) (hs : s.size ≤ 65536) :
    Calls Tryz.prog 108 #[.string s] w fun e w' => e = .returned (.bool (isWordL s.data.toList)) ∧ w' = w := by
  have c1 := hE.contains s ⟨#[32]⟩ (by omega)
  by_cases h0 : s.toList = []
  · have h0' : isWordL s.data.toList = false := by
      have : s.data.toList = [] := (ByteArray.toList_eq s).symm.trans h0
      simp [isWordL, this]
    rw [h0']
    clear c1 h0'
    go_enter Tryz.func108, Tryz.ntmps108
    go_wp2
    go_ret
    exact ⟨rfl, rfl⟩
  · cases h1 : Lib.contains s.data.toList [32] with
    | true =>
      have h1' : isWordL s.data.toList = false := by simp [isWordL, h1]
      rw [h1']
      rw [show (⟨#[32]⟩ : ByteArray).data.toList = [32] from rfl, h1] at c1
      have C1 := Lib.hid c1
      clear c1 h1 h1'
      go_enter Tryz.func108, Tryz.ntmps108
      go_wp2_with fail
      refine C1.out.mono ?_
      rintro e w' ⟨rfl, rfl⟩
      go_wp2
      go_ret
      exact ⟨rfl, rfl⟩
    | false =>
      rw [show (⟨#[32]⟩ : ByteArray).data.toList = [32] from rfl, h1] at c1
      have C1 := Lib.hid c1
      have H1 := Lib.hid h1
      clear c1 h1
      go_enter Tryz.func108, Tryz.ntmps108
      go_wp2_with fail
      refine C1.out.mono ?_
      rintro e w' ⟨rfl, rfl⟩
      go_wp2_with fail
      refine (hE.contains _ _ ?_).mono ?_
      · decide
      rintro e w' ⟨rfl, rfl⟩
      go_wp2
      go_ret
      refine ⟨?_, rfl⟩
      have hne : s.data.toList.isEmpty = false := by rw [← ByteArray.toList_eq]; simpa using h0
      have hne' : s.toList.isEmpty = false := by simpa using h0
      unfold isWordL wordsL
      rw [H1.out, hne]
      simp [hne']
end Go.Proofs.YtebblpmocheelaaGreatDoor
