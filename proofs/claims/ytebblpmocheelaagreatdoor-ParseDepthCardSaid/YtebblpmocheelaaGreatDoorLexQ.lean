/- Plain laws of what package lex computes: words, names, numbers, one token alone. No program in sight. -/
import Derived.Test.YtebblpmocheelaaGreatDoorLexP
import Derived.Lib.ItoaLen
import Derived.Laws.RangeString
namespace Go.Proofs.YtebblpmocheelaaGreatDoor
open Go.Lib

/-! ### Words -/
theorem contains_nil (c : UInt8) (p : List UInt8) : contains [] (c :: p) = false := rfl
theorem contains_cons (c : UInt8) (s sub : List UInt8) : contains (c :: s) sub = (hasPrefix (c :: s) sub || contains s sub) := by
  unfold contains hasPrefix
  rw [index]
  cases h : sub.isPrefixOf (c :: s) with
  | true => simp
  | false =>
    rcases index_spec s sub with ⟨h1, _⟩ | ⟨i, h1, _⟩
    · rw [h1]; simp
    · rw [h1]
      have : ((i : Int) == -1) = false := by rw [beq_eq_false_iff_ne]; omega
      simp [this]
      omega

theorem contains_one (l : List UInt8) (b : UInt8) : contains l [b] = decide (b ∈ l) := by
  induction l with
  | nil => simp [contains_nil]
  | cons c l ih =>
    rw [contains_cons, ih]
    by_cases h : b = c
    · subst h; simp [hasPrefix, List.isPrefixOf]
    · have h' : (b == c) = false := by rw [beq_eq_false_iff_ne]; exact h
      simp [hasPrefix, List.isPrefixOf, h, h']

theorem contains_skip (w t p : List UInt8) (hw : (32 : UInt8) ∉ w) : contains (w ++ t) (32 :: p) = contains t (32 :: p) := by
  induction w with
  | nil => rfl
  | cons c w ih =>
    simp only [List.mem_cons, not_or] at hw
    have h' : ((32 : UInt8) == c) = false := by rw [beq_eq_false_iff_ne]; exact hw.1
    rw [List.cons_append, contains_cons, ih hw.2]
    simp [hasPrefix, List.isPrefixOf, h']

theorem prefix_word (l : List UInt8) : ∀ (w R : List UInt8), (32 : UInt8) ∉ l → (32 : UInt8) ∉ w → (l ++ [32]).isPrefixOf (w ++ 32 :: R) = decide (l = w) := by
  induction l with
  | nil =>
    intro w R _ hw
    cases w with
    | nil => simp [List.isPrefixOf]
    | cons c w =>
      simp only [List.mem_cons, not_or] at hw
      have h' : ((32 : UInt8) == c) = false := by rw [beq_eq_false_iff_ne]; exact hw.1
      simp [List.isPrefixOf, h']
  | cons a l ih =>
    intro w R hl hw
    simp only [List.mem_cons, not_or] at hl
    cases w with
    | nil =>
      have h' : (a == (32 : UInt8)) = false := by rw [beq_eq_false_iff_ne]; exact fun e => hl.1 e.symm
      simp [List.isPrefixOf, h']
    | cons c w =>
      simp only [List.mem_cons, not_or] at hw
      rw [List.cons_append, List.cons_append, List.isPrefixOf, ih w R hl.2 hw.2]
      by_cases h : a = c
      · subst h; simp
      · have h' : (a == c) = false := by rw [beq_eq_false_iff_ne]; exact h
        simp [h, h']

theorem contains_words (l : List UInt8) (hl : (32 : UInt8) ∉ l) : ∀ ws : List (List UInt8), (∀ w ∈ ws, (32 : UInt8) ∉ w) → contains (32 :: ws.flatMap (· ++ [32])) (32 :: (l ++ [32])) = decide (l ∈ ws) := by
  intro ws
  induction ws with
  | nil =>
    intro _
    rw [List.flatMap_nil, contains_cons, contains_nil]
    simp [hasPrefix, List.isPrefixOf]
  | cons w ws ih =>
    intro hw
    have hw1 := hw w List.mem_cons_self
    have e : (32 : UInt8) :: (w :: ws).flatMap (· ++ [32]) = 32 :: (w ++ 32 :: ws.flatMap (· ++ [32])) := by simp
    rw [e, contains_cons, contains_skip w _ _ hw1, ih (fun x hx => hw x (List.mem_cons_of_mem _ hx))]
    have : hasPrefix (32 :: (w ++ 32 :: ws.flatMap (· ++ [32]))) (32 :: (l ++ [32])) = decide (l = w) := by
      unfold hasPrefix
      rw [List.isPrefixOf, prefix_word l w _ hl hw1]
      simp
    rw [this]
    by_cases h : l = w <;> simp [h]

/-- The words. -/
def wl : List (List UInt8) := [[102, 114, 111, 109], [116, 111], [119, 104, 101, 114, 101], [102, 105, 110, 100], [100, 101, 115, 99], [108, 105, 109, 105, 116], [112, 97, 103, 101], [97, 110, 100], [111, 114], [110, 111, 116], [119, 111, 114, 100], [104, 97, 115], [102, 105, 101, 108, 100], [116, 114, 117, 101], [102, 97, 108, 115, 101]]
theorem wl_flat : wordsL = 32 :: wl.flatMap (· ++ [32]) := by decide
theorem wl_noblank : ∀ w ∈ wl, (32 : UInt8) ∉ w := by decide

theorem isWordL_eq (l : List UInt8) : isWordL l = decide (l ∈ wl) := by
  unfold isWordL
  rw [contains_one]
  by_cases h : (32 : UInt8) ∈ l
  · have : l ∉ wl := fun hm => wl_noblank l hm h
    simp [h, this]
  · rw [wl_flat, contains_words l h wl wl_noblank]
    cases l with
    | nil => simp; decide
    | cons a l => simp [h]

/-! ### One word of ASCII letters -/
theorem wordR_ascii (b : UInt8) (h : b.toNat < 128) : wordR b.toNat = letB b := by
  have : decide (128 ≤ b.toNat) = false := decide_eq_false (by omega)
  simp [wordR, letB, this]

theorem spans_start (s : ByteArray) : ∀ (f pos : Nat) (fr : Option Nat) (x : Nat × Nat), (∀ a, fr = some a → a ≤ pos) → x ∈ spansFrom s f pos fr → fr.getD pos ≤ x.1 := by
  intro f
  induction f with
  | zero =>
    intro pos fr x _ hx
    cases fr with
    | none => simp [spansFrom, spansEnd] at hx
    | some a => simp [spansFrom, spansEnd] at hx; subst hx; simp
  | succ f ih =>
    intro pos fr x hfr hx
    rw [spansFrom] at hx
    split at hx
    · split at hx
      · have := ih _ _ x (by intro a ha; simp only [Option.some.injEq] at ha; cases fr with
          | none => simp at ha; omega
          | some b => simp at ha; have := hfr b rfl; omega) hx
        simpa using this
      · rw [List.mem_append] at hx
        rcases hx with hx | hx
        · cases fr with
          | none => simp [spansCut] at hx
          | some a => simp [spansCut] at hx; subst hx; simp
        · have := ih _ _ x (by intro a ha; cases ha) hx
          simp only [Option.getD_none] at this
          cases fr with
          | none => simp; omega
          | some b => simp; have := hfr b rfl; omega
    · cases fr with
      | none => simp [spansEnd] at hx
      | some a => simp [spansEnd] at hx; subst hx; simp

theorem spans_good (s : ByteArray) : ∀ (f pos : Nat) (fr : Option Nat), (∀ j (hj : j < s.size), pos ≤ j → (s[j]'hj).toNat < 128 ∧ letB (s[j]'hj) = true) → s.size ≤ pos + f → (pos < s.size ∨ fr ≠ none) → spansFrom s f pos fr = [(fr.getD pos, s.size)] := by
  intro f
  induction f with
  | zero =>
    intro pos fr hall hfu hne
    cases fr with
    | none => rcases hne with h | h; omega; exact absurd rfl h
    | some a => rfl
  | succ f ih =>
    intro pos fr hall hfu hne
    rw [spansFrom]
    by_cases hp : pos < s.size
    · obtain ⟨h1, h2⟩ := hall pos hp (Nat.le_refl _)
      rw [if_pos hp, decode_ascii s pos hp h1]
      dsimp only
      rw [wordR_ascii _ h1, if_pos h2, ih (pos + 1) _ (fun j hj hpj => hall j hj (by omega)) (by omega) (.inr (by simp))]
      simp
    · rw [if_neg hp]
      cases fr with
      | none => rcases hne with h | h; exact absurd h hp; exact absurd rfl h
      | some a => rfl

theorem spans_bad (s : ByteArray) (k : Nat) (hk : k < s.size) (hbad : (s[k]'hk).toNat < 128 ∧ letB (s[k]'hk) = false) : ∀ (f pos : Nat), pos ≤ k → (∀ j (hj : j < s.size), pos ≤ j → j < k → (s[j]'hj).toNat < 128 ∧ letB (s[j]'hj) = true) → s.size ≤ pos + f →
    ∃ r, spansFrom s f pos (some 0) = (0, k) :: r := by
  intro f
  induction f with
  | zero => intro pos hpk _ hfu; omega
  | succ f ih =>
    intro pos hpk hall hfu
    rw [spansFrom, if_pos (by omega : pos < s.size)]
    by_cases e : pos = k
    · subst e
      rw [decode_ascii s pos hk hbad.1]
      dsimp only
      rw [wordR_ascii _ hbad.1, if_neg (by rw [hbad.2]; simp)]
      exact ⟨_, rfl⟩
    · have hp : pos < s.size := by omega
      obtain ⟨h1, h2⟩ := hall pos hp (Nat.le_refl _) (by omega)
      rw [decode_ascii s pos hp h1]
      dsimp only
      rw [wordR_ascii _ h1, if_pos h2]
      exact ih (pos + 1) (by omega) (fun j hj hpj hjk => hall j hj (by omega) hjk) (by omega)

theorem least_bad {P : Nat → Prop} [DecidablePred P] : ∀ n, (∀ j, j < n → P j) ∨ ∃ k, k < n ∧ ¬ P k ∧ ∀ j, j < k → P j := by
  intro n
  induction n with
  | zero => exact .inl (fun j hj => absurd hj (by omega))
  | succ n ih =>
    rcases ih with h | ⟨k, h1, h2, h3⟩
    · by_cases hn : P n
      · exact .inl (fun j hj => by by_cases e : j = n; · subst e; exact hn
                                   · exact h j (by omega))
      · exact .inr ⟨n, by omega, hn, h⟩
    · exact .inr ⟨k, by omega, h2, h3⟩

theorem isA_ascii (s : ByteArray) (hasc : ∀ j (hj : j < s.size), (s[j]'hj).toNat < 128) : isA s = (decide (0 < s.size) && s.data.toList.all letB) := by
  have hmem : s.data.toList.all letB = true ↔ ∀ j (hj : j < s.size), letB (s[j]'hj) = true := by
    rw [List.all_eq_true]
    constructor
    · intro h j hj
      exact h _ (by have : s[j]'hj = s.data.toList[j]'(by rw [← size_eq]; exact hj) := by simp; rfl
                    rw [this]; exact List.getElem_mem _)
    · intro h b hb
      obtain ⟨j, hj, rfl⟩ := List.mem_iff_getElem.1 hb
      have := h j (by rw [size_eq]; exact hj)
      have e : s.data.toList[j]'hj = s[j]'(by rw [size_eq]; exact hj) := by simp; rfl
      rw [e]; exact this
  rcases Nat.eq_zero_or_pos s.size with h0 | h0
  · have : spansFrom s s.size 0 none = [] := by rw [h0]; rfl
    unfold isA spansA
    rw [this]
    simp [h0, firstIs]
  · rcases least_bad (P := fun j => ∀ hj : j < s.size, letB (s[j]'hj) = true) s.size with h | ⟨k, hk, hb, hg⟩
    · have : isA s = true := by
        unfold isA spansA
        rw [spans_good s s.size 0 none (fun j hj _ => ⟨hasc j hj, h j hj hj⟩) (by omega) (.inl h0)]
        simp [firstIs]
      rw [this, hmem.2 (fun j hj => h j hj hj)]
      simp [h0]
    · have hbk : letB (s[k]'hk) = false := by
        cases hx : letB (s[k]'hk) with
        | true => exact absurd (fun _ => hx) hb
        | false => rfl
      have hall : s.data.toList.all letB = false := by
        rw [← Bool.not_eq_true]
        intro h
        have := hmem.1 h k hk
        rw [hbk] at this; cases this
      rw [hall, Bool.and_false]
      unfold isA spansA
      obtain ⟨f, hf⟩ : ∃ f, s.size = f + 1 := ⟨s.size - 1, by omega⟩
      rcases Nat.eq_zero_or_pos k with hk0 | hk0
      · subst hk0
        rw [hf, spansFrom, if_pos (by omega : 0 < s.size), decode_ascii s 0 h0 (hasc 0 h0)]
        dsimp only
        rw [wordR_ascii _ (hasc 0 h0), if_neg (by rw [hbk]; simp)]
        simp only [spansCut, List.nil_append]
        cases hsp : spansFrom s f (0 + 1) none with
        | nil => rfl
        | cons x r =>
          have := spans_start s f (0 + 1) none x (by intro a ha; cases ha) (by rw [hsp]; exact List.mem_cons_self)
          simp only [Option.getD_none] at this
          have : decide (x.1 = 0) = false := decide_eq_false (by omega)
          simp [firstIs, this]
      · rw [hf, spansFrom, if_pos (by omega : 0 < s.size), decode_ascii s 0 h0 (hasc 0 h0)]
        dsimp only
        rw [wordR_ascii _ (hasc 0 h0), if_pos (hg 0 hk0 h0)]
        obtain ⟨r, hr⟩ := spans_bad s k hk ⟨hasc k hk, hbk⟩ f (0 + 1) hk0 (fun j hj _ hjk => ⟨hasc j hj, hg j hjk hj⟩) (by omega)
        simp only [Option.getD_none]
        rw [hr]
        have : decide (k = s.size) = false := decide_eq_false (by omega)
        simp only [firstIs, this, Bool.and_false]
end Go.Proofs.YtebblpmocheelaaGreatDoor
