/- The walks of lex.Quote and lex.run. -/
import Derived.Test.YtebblpmocheelaaGreatDoorLexW1
namespace Go.Proofs.YtebblpmocheelaaGreatDoor
open Go.RowKit

theorem width_le (s : ByteArray) (pos : Nat) (h : pos < s.size) : pos + (Utf8.decode s pos).2 ≤ s.size := by
  have h1 := Lib.decodeL_le (s.data.toList.drop pos) (by
    intro e
    have := congrArg List.length e
    simp at this
    have hz : s.size = s.data.size := rfl
    omega)
  rw [Lib.decodeL_drop] at h1
  simp at h1
  have hz : s.size = s.data.size := rfl
  omega

theorem esc_end (s : ByteArray) (f pos : Nat) (h : ¬ pos < s.size) : escFrom s f pos = [] := by
  cases f with
  | zero => rfl
  | succ f => simp [escFrom, h]

theorem esc_step (s : ByteArray) (f pos c wd : Nat) (hp : pos < s.size) (hc : (Utf8.decode s pos).1 = c) (hw : (Utf8.decode s pos).2 = wd) :
    escFrom s (f + 1) pos = (if c = 34 ∨ c = 92 then [92] else []) ++ Lib.encodeRune (c : Int) ++ escFrom s f (pos + wd) := by
  rw [escFrom, if_pos hp, hc, hw]

theorem quote_in (s : ByteArray) (h : isTextL s.data.toList = true) : quoteA s = 34 :: (escFrom s s.size 0 ++ [34]) := by rw [quoteA, if_pos h]

set_option maxHeartbeats 4000000 in
set_option maxRecDepth 1000000 in
theorem quote_walk (s : ByteArray) (w : World) (hE : Env w) (hs : s.size ≤ 65536) :
    Calls Tryz.prog 45 #[.string s] w fun e w' => e = .returned (.string ⟨(quoteA s).toArray⟩) ∧ Below w.heap.size w w' := by
  have cT := isText_walk s w hE hs
  cases ht : isTextL s.data.toList with
  | false =>
    rw [ht] at cT
    have hq : quoteA s = [] := by rw [quoteA, ht]; rfl
    rw [hq]
    have C1 := Lib.hid cT
    clear cT hq ht
    go_enter Tryz.func45, Tryz.ntmps45
    go_wp2_with (go_at_call 70; refine C1.out.mono ?_; rintro e w' ⟨rfl, hb⟩)
    go_ret
    exact ⟨rfl, hb⟩
  | true =>
    rw [ht] at cT
    have C1 := Lib.hid cT
    have HQ := Lib.hid (quote_in s ht)
    clear cT ht
    go_enter Tryz.func45, Tryz.ntmps45
    go_wp2_with (go_at_call 70; refine C1.out.mono ?_; rintro e w1 ⟨rfl, hb1⟩)
    have hz1 := hb1.size
    refine (Tryz.Builder_WriteByte_k w1.heap.size w1.heap.size [] 34 _ (Lib.IsBuilderF.of (Lib.fresh_isBuilder 138 5 w1)) (by simp) (by simp)).mono ?_
    rintro e w2 ⟨rfl, h2, b2, k2⟩
    have hz2 : w1.heap.size + 1 ≤ w2.heap.size := by have := b2.size; simpa using this
    go_wp2
    have hI0 : Lib.IsBuilderF 138 5 w1.heap.size w1.heap.size (Lib.byteCells [34]) w2 := Or.inr h2
    have hB0 : Below w.heap.size w w2 := hb1.trans (((Below.refl _ w1).alloc (Nat.le_refl _) _).trans b2 |>.mono hz1)
    go_loopw [] (fun wr => ∃ (pos fuel : Nat) (acc : List UInt8), Lib.IsBuilderF 138 5 w1.heap.size w1.heap.size (Lib.byteCells acc) wr ∧ wr.heap[w2.heap.size]? = some (.stringIter s pos) ∧ Below w.heap.size w wr ∧ acc ++ escFrom s fuel pos = 34 :: escFrom s s.size 0 ∧ s.size ≤ pos + fuel ∧ acc.length ≤ 8 * pos + 1 ∧ pos ≤ s.size) (fun wr => s.size - wr.iterPos w2.heap.size)
    case atStart =>
      refine ⟨0, s.size, [34], hI0.alloc _, ?_, hB0.alloc (by omega) _, rfl, by omega, by simp, by omega⟩
      have := World.iter_heap w2 s 0
      simpa using this
    case round =>
      obtain ⟨pos, fuel, acc, hI, hit, hbw, hacc, hfu, hal, hpl⟩ := hrel
      have hsz : w2.heap.size < wr.heap.size := (Array.getElem?_eq_some_iff.1 hit).1
      have hbc : (Lib.byteCells acc).length ≤ 9 * 65536 ∨ ¬ pos < s.size := by rw [Lib.byteCells_length]; omega
      by_cases hp : pos < s.size
      · have hnx : ∀ ty, (Instr.next (.pointer (some ⟨w2.heap.size, 0, none⟩)) true ty).run Tryz.prog wr = _ := fun ty => Lib.run_next_any_at wr w2.heap.size s pos ty hit hp
        have hbc : (Lib.byteCells acc).length ≤ 9 * 65536 := by omega
        have hwd := width_pos s pos hp
        have hwl := width_le s pos hp
        have hd1 := decode_le s pos
        obtain ⟨f, rfl⟩ : ∃ f, fuel = f + 1 := ⟨fuel - 1, by omega⟩
        obtain ⟨c, hc⟩ : ∃ c, (Utf8.decode s pos).1 = c := ⟨_, rfl⟩
        obtain ⟨wd, hwde⟩ : ∃ wd, (Utf8.decode s pos).2 = wd := ⟨_, rfl⟩
        have hq := esc_step s f pos c wd hp hc hwde
        rw [hc, hwde] at hnx
        rw [hwde] at hwd hwl
        rw [hc] at hd1
        rw [hq] at hacc
        have hI2 := hI.iterAt hit (pos + wd)
        have hit2 := Lib.iterAt_heap wr w2.heap.size s pos (pos + wd) hit
        have hbw2 := Lib.below_iterAt hbw (k := w2.heap.size) (by omega) s (pos + wd)
        have hsz2 : w1.heap.size ≤ (wr.iterAt w2.heap.size s (pos + wd)).heap.size := by rw [Lib.iterAt_size]; omega
        have hl4 := Lib.runeCells_le (c : Int)
        rw [Lib.runeCells_length] at hl4
        have HA := Lib.hid hacc
        clear hacc hc hwde hq
        by_cases cs : c = 34 ∨ c = 92
        · rw [if_pos cs] at HA
          have hWB := Tryz.Builder_WriteByte_k w1.heap.size w1.heap.size _ 92 _ hI2 (by omega) hsz2
          have HWB := Lib.hid hWB; clear hWB
          have fin : ∀ W2 : World, Lib.BuilderAtF 138 5 w1.heap.size w1.heap.size (.pointer (some ⟨w1.heap.size, 0, none⟩)) (Lib.byteCells acc ++ [.int .u8 92] ++ Lib.runeCells (c : Int)) W2 → Lib.IsBuilderF 138 5 w1.heap.size w1.heap.size (Lib.byteCells (acc ++ [92] ++ Lib.encodeRune (c : Int))) W2 := fun W2 h => by
            rw [Lib.byteCells_append, Lib.byteCells_append, Lib.byteCells_encodeRune]; exact Or.inr h
          rcases cs with rfl | rfl
          all_goals
            go_wp2_with (first
              | (go_at_call 71; refine HWB.out.mono ?_; rintro e W1 ⟨rfl, h1, b1, k1⟩)
              | (go_at_call 72; refine (Tryz.Builder_WriteRune_k w1.heap.size w1.heap.size _ _ (by omega) (by omega) _ (Or.inr h1) (by simp only [List.length_append, List.length_singleton]; omega) (Nat.le_trans hsz2 b1.size)).mono ?_; rintro e W2 ⟨rfl, h3, b3, k3⟩))
            have hi3 := k3.iter (k1.iter hit2 (by omega)) (by omega)
            go_roundw
            case rel =>
              refine ⟨pos + wd, f, _, fin _ h3, hi3, hbw2.trans ((b1.trans b3).mono hz1), ?_, by omega, by simp only [List.length_append, List.length_singleton]; omega, by omega⟩
              rw [← HA.out]; simp
            case measure =>
              simp only [World.iterPos, hi3, hit]
              omega
        · rw [if_neg cs] at HA
          have n1 : ¬ c = 34 := fun h => cs (.inl h)
          have n2 : ¬ c = 92 := fun h => cs (.inr h)
          clear cs
          have e34 : ((c : Int) == 34) = false := by rw [beq_eq_false_iff_ne]; omega
          have e92 : ((c : Int) == 92) = false := by rw [beq_eq_false_iff_ne]; omega
          go_wp2_with (go_at_call 72; refine (Tryz.Builder_WriteRune_k w1.heap.size w1.heap.size _ _ (by omega) (by omega) _ hI2 (by omega) hsz2).mono ?_; rintro e W2 ⟨rfl, h3, b3, k3⟩)
          have hi3 := k3.iter hit2 (by omega)
          go_roundw
          case rel =>
            refine ⟨pos + wd, f, acc ++ Lib.encodeRune (c : Int), ?_, hi3, hbw2.trans (b3.mono hz1), ?_, by omega, by simp only [List.length_append]; omega, by omega⟩
            · rw [Lib.byteCells_append, Lib.byteCells_encodeRune]; exact Or.inr h3
            · rw [← HA.out]; simp
          case measure =>
            simp only [World.iterPos, hi3, hit]
            omega
      · have hnx : ∀ ty, (Instr.next (.pointer (some ⟨w2.heap.size, 0, none⟩)) true ty).run Tryz.prog wr = _ := fun ty => Lib.run_next_end_at wr w2.heap.size s pos ty hit hp
        rw [esc_end s fuel pos hp, List.append_nil] at hacc
        subst hacc
        have hbd : (Lib.byteCells (34 :: escFrom s s.size 0)).length ≤ 140737488355000 := by rw [Lib.byteCells_length]; omega
        go_wp2_with (first
          | (go_at_call 71; refine (Tryz.Builder_WriteByte_k w1.heap.size w1.heap.size _ 34 _ hI (by omega) (by omega)).mono ?_; rintro e W1 ⟨rfl, h1, b1, k1⟩)
          | (go_at_call 73; refine (Tryz.Builder_String_any_k w1.heap.size w1.heap.size (34 :: escFrom s s.size 0 ++ [34]) _ (by rw [Lib.byteCells_append]; exact Or.inr h1) (by have := b1.size; omega)).mono ?_; rintro e W2 ⟨rfl, _, b3, _⟩))
        go_ret
        exact ⟨by rw [HQ.out]; rfl, hbw.trans ((b1.trans b3).mono hz1)⟩

/-! ### lex.run -/
/-- lex.run, from a place on. -/
def runAt (l : List UInt8) : Nat → Nat
  | 0 => runL l
  | k + 1 => k + 1 + ((l.drop (k + 1)).takeWhile letB).length

def goodR (b : UInt8) (pos : Nat) : Bool := letB b || (decide (b.toNat = 45) && decide (pos = 0))

theorem runAt_good (l : List UInt8) (pos : Nat) (h : pos < l.length) (hg : goodR (l[pos]'h) pos = true) : runAt l (pos + 1) = runAt l pos := by
  cases pos with
  | zero =>
    cases l with
    | nil => simp at h
    | cons c r =>
      have hg' : (letB c || decide (c.toNat = 45)) = true := by simpa [goodR] using hg
      simp only [runAt, runL, hg', if_true, List.drop_succ_cons, List.drop_zero]
  | succ k =>
    have hg' : letB (l[k + 1]'h) = true := by simpa [goodR] using hg
    have hd : l.drop (k + 1) = l[k + 1]'h :: l.drop (k + 1 + 1) := List.drop_eq_getElem_cons h
    simp only [runAt]
    rw [hd, List.takeWhile_cons, if_pos hg']
    simp; omega

theorem runAt_bad (l : List UInt8) (pos : Nat) (h : pos < l.length) (hg : goodR (l[pos]'h) pos = false) : runAt l pos = pos := by
  cases pos with
  | zero =>
    cases l with
    | nil => simp at h
    | cons c r =>
      have hg' : (letB c || decide (c.toNat = 45)) = false := by simpa [goodR] using hg
      simp only [runAt, runL, hg']
      rfl
  | succ k =>
    have hg' : letB (l[k + 1]'h) = false := by simpa [goodR] using hg
    have hd : l.drop (k + 1) = l[k + 1]'h :: l.drop (k + 1 + 1) := List.drop_eq_getElem_cons h
    simp only [runAt]
    rw [hd, List.takeWhile_cons, hg']
    simp

theorem runAt_end (l : List UInt8) (pos : Nat) (h : ¬ pos < l.length) (hp : pos ≤ l.length) : runAt l pos = l.length := by
  have e : pos = l.length := by omega
  cases pos with
  | zero =>
    have : l = [] := List.eq_nil_of_length_eq_zero e.symm
    subst this; rfl
  | succ k =>
    simp only [runAt]
    rw [e, List.drop_length]; simp

theorem letB_iff (b : UInt8) : letB b = true ↔ (97 ≤ b.toNat ∧ b.toNat ≤ 122) ∨ (65 ≤ b.toNat ∧ b.toNat ≤ 90) ∨ (48 ≤ b.toNat ∧ b.toNat ≤ 57) ∨ b.toNat = 95 := by
  simp [letB, or_assoc]

set_option maxHeartbeats 4000000 in
set_option maxRecDepth 1000000 in
theorem run_walk (s : ByteArray) (w : World) (hs : s.size ≤ 65536) :
    Calls Tryz.prog 80 #[.string s] w fun e w' => e = .returned (.int .i64 (runL s.data.toList)) ∧ Below w.heap.size w w' := by
  have hsz : s.size = s.data.toList.length := Lib.size_eq s
  have HS := Lib.hid hsz
  clear hsz
  go_enter Tryz.func80, Tryz.ntmps80
  go_wp2
  go_loopw [] (fun wr => ∃ pos : Nat, wr.heap[w.heap.size]? = some (.stringIter s pos) ∧ Below w.heap.size w wr ∧ runAt s.data.toList pos = runL s.data.toList ∧ pos ≤ s.size) (fun wr => s.size - wr.iterPos w.heap.size)
  case atStart =>
    refine ⟨0, ?_, (Below.refl _ w).alloc (Nat.le_refl _) _, rfl, by omega⟩
    have := World.iter_heap w s 0
    simpa using this
  case round =>
    obtain ⟨pos, hit, hbw, hacc, hpl⟩ := hrel
    have HA := Lib.hid hacc
    clear hacc
    by_cases hp : pos < s.size
    · have hnx : ∀ ty, (Instr.next (.pointer (some ⟨w.heap.size, 0, none⟩)) true ty).run Tryz.prog wr = _ := fun ty => Lib.run_next_any_at wr w.heap.size s pos ty hit hp
      have hwd := width_pos s pos hp
      have hd1 := decode_le s pos
      have hp' : pos < s.data.toList.length := by rw [← HS.out]; exact hp
      have hbyte : s.data.toList[pos]'hp' = s[pos]'hp := by simp; rfl
      have hit2 := fun n => Lib.iterAt_heap wr w.heap.size s pos n hit
      have hbw2 := fun n => Lib.below_iterAt hbw (k := w.heap.size) (Nat.le_refl _) s n
      by_cases ha : (s[pos]'hp).toNat < 128
      · rw [decode_ascii s pos hp ha] at hnx hwd hd1
        cases hg : goodR (s[pos]'hp) pos with
        | true =>
          have hr := runAt_good s.data.toList pos hp' (by rw [hbyte]; exact hg)
          have HR := Lib.hid hr
          have hg2 := hg
          rw [goodR, Bool.or_eq_true, letB_iff, Bool.and_eq_true, decide_eq_true_eq, decide_eq_true_eq] at hg2
          obtain ⟨c, hc⟩ : ∃ c, (s[pos]'hp).toNat = c := ⟨_, rfl⟩
          rw [hc] at hg2 hnx
          dsimp only at hnx
          clear hr hg hbyte hwd hd1 ha hc
          have fin : (∃ p : Nat, (wr.iterAt w.heap.size s (pos + 1)).heap[w.heap.size]? = some (.stringIter s p) ∧ Below w.heap.size w (wr.iterAt w.heap.size s (pos + 1)) ∧ runAt s.data.toList p = runL s.data.toList ∧ p ≤ s.size) :=
            ⟨pos + 1, hit2 _, hbw2 _, HR.out.trans HA.out, by omega⟩
          have FIN := Lib.hid fin
          clear fin
          rcases hg2 with (⟨h1, h2⟩ | ⟨h1, h2⟩ | ⟨h1, h2⟩ | rfl) | ⟨rfl, rfl⟩
          all_goals
            go_wp2
            go_roundw
            case rel => exact FIN.out
            case measure =>
              simp only [World.iterPos, hit2, hit]
              omega
        | false =>
          have hr := runAt_bad s.data.toList pos hp' (by rw [hbyte]; exact hg)
          have HR := Lib.hid (hr.symm.trans HA.out)
          have hg2 : ¬ goodR (s[pos]'hp) pos = true := by rw [hg]; simp
          rw [goodR, Bool.or_eq_true, letB_iff, Bool.and_eq_true, decide_eq_true_eq, decide_eq_true_eq] at hg2
          obtain ⟨c, hc⟩ : ∃ c, (s[pos]'hp).toNat = c := ⟨_, rfl⟩
          rw [hc] at hg2 hnx
          dsimp only at hnx
          clear hr hg hbyte hwd hd1 ha hc
          by_cases c45 : c = 45
          · subst c45
            have e0 : ((pos : Int) == 0) = false := by rw [beq_eq_false_iff_ne]; omega
            clear hg2
            go_wp2
            go_ret
            exact ⟨congrArg (fun n : Nat => Ending.returned (.int .i64 n)) HR.out, hbw2 _⟩
          · have e45 : ((c : Int) == 45) = false := by rw [beq_eq_false_iff_ne]; omega
            have e95 : ((c : Int) == 95) = false := by rw [beq_eq_false_iff_ne]; omega
            rcases (show (c < 48) ∨ (57 < c ∧ c < 65) ∨ (90 < c ∧ c < 97) ∨ 122 < c by omega) with h | ⟨h1, h2⟩ | ⟨h1, h2⟩ | h
            all_goals
              clear hg2 c45
              go_wp2
              all_goals first
                | (go_ret; exact ⟨congrArg (fun n : Nat => Ending.returned (.int .i64 n)) HR.out, hbw2 _⟩)
                | (exfalso; rename_i hx; revert hx; simp; omega)
      · have hd2 := (decode_high s pos hp (by omega)).1
        have hg : goodR (s[pos]'hp) pos = false := by
          rw [← Bool.not_eq_true, goodR, Bool.or_eq_true, letB_iff, Bool.and_eq_true, decide_eq_true_eq, decide_eq_true_eq]
          omega
        have hr := runAt_bad s.data.toList pos hp' (by rw [hbyte]; exact hg)
        have HR := Lib.hid (hr.symm.trans HA.out)
        obtain ⟨c, hc⟩ : ∃ c, (Utf8.decode s pos).1 = c := ⟨_, rfl⟩
        obtain ⟨wd, hwde⟩ : ∃ wd, (Utf8.decode s pos).2 = wd := ⟨_, rfl⟩
        rw [hc, hwde] at hnx
        rw [hc] at hd2
        clear hr hg hbyte hwd hd1 ha hc hwde
        have e45 : ((c : Int) == 45) = false := by rw [beq_eq_false_iff_ne]; omega
        have e95 : ((c : Int) == 95) = false := by rw [beq_eq_false_iff_ne]; omega
        go_wp2
        all_goals first
          | (go_ret; exact ⟨congrArg (fun n : Nat => Ending.returned (.int .i64 n)) HR.out, hbw2 _⟩)
          | (exfalso; rename_i hx; revert hx; simp; omega)
    · have hnx : ∀ ty, (Instr.next (.pointer (some ⟨w.heap.size, 0, none⟩)) true ty).run Tryz.prog wr = _ := fun ty => Lib.run_next_end_at wr w.heap.size s pos ty hit hp
      have hr := runAt_end s.data.toList pos (by rw [← HS.out]; exact hp) (by rw [← HS.out]; exact hpl)
      have HR := Lib.hid (hr.symm.trans HA.out)
      clear hr
      go_wp2
      go_ret
      exact ⟨congrArg (fun n : Nat => Ending.returned (.int .i64 n)) (HS.out.trans HR.out), hbw⟩
end Go.Proofs.YtebblpmocheelaaGreatDoor
