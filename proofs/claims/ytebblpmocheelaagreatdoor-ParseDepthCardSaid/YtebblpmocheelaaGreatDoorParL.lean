/- How many tokens a text has at most. -/
import Derived.Test.YtebblpmocheelaaGreatDoorParU
namespace Go.Proofs.YtebblpmocheelaaGreatDoor
open Go.Lib

theorem quotedFrom_len (t : ByteArray) : ∀ (f pos : Nat) (st : Bool) (acc : List UInt8) (x : List UInt8 × Nat), pos ≤ t.size → quotedFrom t f pos st acc = some x → x.1.length ≤ acc.length + 4 * (t.size - pos) := by
  intro f
  induction f with
  | zero => intro pos st acc x _ h; simp [quotedFrom] at h
  | succ f ih =>
    intro pos st acc x hpl h
    rw [quotedFrom] at h
    split at h
    · rename_i hp
      have hw := width_le t pos hp
      have hw1 := width_pos t pos hp
      split at h
      · cases h
      · split at h
        · cases h
        · split at h
          · injection h with h; subst h; dsimp only; omega
          · split at h
            · have := ih _ _ _ _ (by omega) h; omega
            · have := ih _ _ _ _ (by omega) h
              rw [List.length_append] at this
              have h4 := runeCells_le ((Utf8.decode t pos).1 : Int)
              rw [runeCells_length] at h4
              omega
    · cases h

theorem oneA_len (s : ByteArray) (x : Tok × Nat) (h : oneA s = some x) : x.1.says.length ≤ 4 * s.size := by
  have hz := size_eq s
  have hb := oneA_bound s x h
  unfold oneA at h
  split at h
  · injection h with h; subst h; simp only [List.length_cons, List.length_nil]; omega
  split at h
  · injection h with h; subst h; simp only [List.length_cons, List.length_nil]; omega
  split at h
  · injection h with h; subst h; simp only [List.length_cons, List.length_nil]; omega
  split at h
  · injection h with h; subst h; simp only [List.length_cons, List.length_nil]; omega
  split at h
  · obtain ⟨y, hy, rfl⟩ := Option.map_eq_some_iff.1 h
    have := quotedFrom_len _ _ _ _ _ _ (Nat.zero_le _) hy
    have h1 : (s.extract 1 s.size).size = s.size - 1 := by simp
    simp only [List.length_nil] at this
    dsimp only; omega
  · obtain ⟨y, hy, rfl⟩ := Option.map_eq_some_iff.1 h
    dsimp only
    rw [List.length_take]; omega

theorem lexFrom_len (s : ByteArray) : ∀ (f at_ : Nat) (l : List Tok), at_ ≤ s.size → lexFrom s f at_ = .ok l → l.length + at_ ≤ s.size + 1 ∧ ∀ t ∈ l, t.says.length ≤ 4 * s.size := by
  intro f
  induction f with
  | zero => intro at_ l _ h; cases h
  | succ f ih =>
    intro at_ l hat h
    by_cases hr : trimLeftB (s.data.toList.drop at_) 32 = []
    · rw [lexFrom_stop s f at_ hr] at h
      injection h with h; subst h
      refine ⟨by simp; omega, fun t ht => ?_⟩
      rw [List.mem_singleton] at ht; subst ht
      exact Nat.zero_le _
    · cases ho : oneA ⟨(trimLeftB (s.data.toList.drop at_) 32).toArray⟩ with
      | none => rw [lexFrom_none s f at_ _ rfl hr ho] at h; cases h
      | some x =>
        obtain ⟨u, n⟩ := x
        have hb := oneA_bound _ _ ho
        have hln := oneA_len _ _ ho
        have htl := trim_le (s.data.toList.drop at_) 32
        rw [List.length_drop, ← size_eq] at htl
        rw [mk_size] at hb hln
        rw [lexFrom_some s f at_ _ u n rfl hr ho] at h
        dsimp only at hb hln
        cases hrec : lexFrom s f (s.size - (trimLeftB (s.data.toList.drop at_) 32).length + n) with
        | error e => rw [hrec] at h; cases h
        | ok l2 =>
          rw [hrec] at h
          have h' : Except.ok _ = Except.ok l := h
          injection h' with h'
          subst h'
          obtain ⟨h1, h2⟩ := ih _ _ (by omega) hrec
          refine ⟨by simp; omega, ?_⟩
          intro t ht
          rcases List.mem_cons.1 ht with rfl | ht
          · dsimp only; omega
          · exact h2 t ht

theorem lexA_len {s : ByteArray} {l : List Tok} (h : lexA s = .ok l) : l.length ≤ s.size + 1 ∧ ∀ t ∈ l, t.says.length ≤ 4 * s.size :=
  lexFrom_len s _ 0 l (Nat.zero_le _) (lexA_from h)

theorem lexA_size {s : ByteArray} {l : List Tok} (h : lexA s = .ok l) : s.size ≤ 1024 := by
  unfold lexA at h
  split at h
  · cases h
  · omega
theorem tokOk_kind {t : Tok} (h : TokOk t) : t.kind ≠ 0 := by
  rcases h with ⟨hk, _⟩ | ⟨hk, _⟩ | ⟨a, r, _, _, _, hp⟩
  · rw [hk]; decide
  · rw [hk]; decide
  · rcases plainA_kind hp with h | h | h <;> rw [h] <;> decide
end Go.Proofs.YtebblpmocheelaaGreatDoor
