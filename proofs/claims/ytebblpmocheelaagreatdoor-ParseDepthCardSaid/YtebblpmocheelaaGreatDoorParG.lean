/- Tokens' letters with gaps between them are these tokens, at their places. -/
import Derived.Test.YtebblpmocheelaaGreatDoorLexU2
import Derived.Test.YtebblpmocheelaaGreatDoorParP
namespace Go.Proofs.YtebblpmocheelaaGreatDoor
open Go.Lib

/-- Tokens, so many blanks behind each, as letters. -/
def gapT (l : List (Tok × Nat)) : List UInt8 := l.flatMap fun x => tokText x.1 ++ blanks x.2
/-- The same tokens at their places. -/
def placed : Nat → List (Tok × Nat) → List Tok
  | _, [] => []
  | p, x :: l => { x.1 with place := p } :: placed (p + (tokText x.1).length + x.2) l
/-- Is a token's end seen behind it? -/
def apart : List (Tok × Nat) → Prop
  | [] => True
  | x :: l => (1 ≤ x.2 ∨ 4 ≤ x.1.kind ∨ ∀ y ∈ l.head?, 4 ≤ y.1.kind) ∧ apart l

theorem gapT_cons (x : Tok × Nat) (l : List (Tok × Nat)) : gapT (x :: l) = tokText x.1 ++ (blanks x.2 ++ gapT l) := by
  show (tokText x.1 ++ blanks x.2) ++ gapT l = _
  rw [List.append_assoc]
theorem gapT_append (l m : List (Tok × Nat)) : gapT (l ++ m) = gapT l ++ gapT m := List.flatMap_append
theorem blanks_len (k : Nat) : (blanks k).length = k := by simp [blanks]

def cutR (R : List UInt8) : Prop := ∀ b ∈ R.head?, letB b = false
theorem takeWhile_cut (r R : List UInt8) (h : r.all letB = true) (hR : cutR R) : (r ++ R).takeWhile letB = r := by
  induction r with
  | nil =>
    cases R with
    | nil => rfl
    | cons b R => rw [List.nil_append, List.takeWhile_cons, if_neg (by rw [hR b rfl]; decide)]
  | cons b r ih =>
    rw [List.all_cons, Bool.and_eq_true] at h
    rw [List.cons_append, List.takeWhile_cons, if_pos h.1, ih h.2]

theorem oneA_cut (t : Tok) (R : List UInt8) (h : TokOk t) (hR : 4 ≤ t.kind ∨ cutR R) : oneA ⟨(tokText t ++ R).toArray⟩ = some ({ t with place := 0 }, (tokText t).length) := by
  obtain ⟨k, says, n, pl⟩ := t
  rcases h with ⟨hk, hn, hs⟩ | ⟨hk, hn, hv, h10⟩ | ⟨a, r, hs, ha, hr, hp⟩
  · dsimp only at hk hn hs
    subst hk hn
    have ht : tokText ⟨5, says, 0, pl⟩ = says := rfl
    rw [ht]
    unfold oneA
    rcases hs with rfl | rfl | rfl | rfl
    all_goals simp [hasPrefix, List.isPrefixOf]
  · dsimp only at hk hn hv h10
    subst hk hn
    have ht : tokText ⟨4, says, 0, pl⟩ = 34 :: (escB says ++ [34]) := rfl
    rw [ht]
    have := oneA_text says R hv h10
    rw [show 34 :: (escB says ++ [34]) ++ R = 34 :: (escB says ++ 34 :: R) by simp, this]
    simp
  · dsimp only at hs hp hR
    subst hs
    have hk123 := plainA_kind hp
    have hR : cutR R := by
      rcases hR with h | h
      · omega
      · exact h
    have hk4 : k ≠ 4 := by rcases hk123 with rfl | rfl | rfl <;> decide
    have ht : tokText ⟨k, a :: r, n, pl⟩ = a :: r := by unfold tokText; rw [if_neg hk4]
    rw [ht]
    have hb : (letB a || decide (a.toNat = 45)) = true := by
      rcases ha with rfl | h
      · decide
      · rw [h]; rfl
    have h1 : (a :: r ++ R).take (runL (a :: r ++ R)) = a :: r := by
      rw [List.cons_append, take_run a (r ++ R) hb, takeWhile_cut r R hr hR]
    have h2 : runL (a :: r ++ R) = (a :: r).length := by
      simp only [List.cons_append, runL, hb, if_true]
      rw [takeWhile_cut r R hr hR, List.length_cons]; omega
    rw [oneA_plain ⟨(a :: r ++ R).toArray⟩ (fun b hb => by injection hb with hb; subst hb; exact ha) (by rw [mk_size]; simp)]
    show Option.map _ (plainA ⟨((a :: r ++ R).take (runL (a :: r ++ R))).toArray⟩) = _
    rw [h1, hp]
    show some (_, runL (a :: r ++ R)) = _
    rw [h2]

theorem tokText_cut (t : Tok) (h : TokOk t) (hk : 4 ≤ t.kind) (R : List UInt8) : cutR (tokText t ++ R) := by
  obtain ⟨k, says, n, pl⟩ := t
  rcases h with ⟨hk1, hn, hs⟩ | ⟨hk1, hn, hv, h10⟩ | ⟨a, r, hs, ha, hr, hp⟩
  · dsimp only at hk1 hs
    subst hk1
    rcases hs with rfl | rfl | rfl | rfl <;> (intro b hb; injection hb with hb; subst hb; decide)
  · dsimp only at hk1
    subst hk1
    intro b hb; injection hb with hb; subst hb; decide
  · dsimp only at hp hk
    have := plainA_kind hp
    omega

theorem apart_cut (x : Tok × Nat) (l : List (Tok × Nat)) (ha : apart (x :: l)) (hok : ∀ y ∈ l, TokOk y.1) : 4 ≤ x.1.kind ∨ cutR (blanks x.2 ++ gapT l) := by
  rcases ha.1 with h | h | h
  · refine .inr ?_
    obtain ⟨k, hk⟩ : ∃ k, x.2 = k + 1 := ⟨x.2 - 1, by omega⟩
    rw [hk]
    intro b hb
    injection hb with hb; subst hb; decide
  · exact .inl h
  · refine .inr ?_
    cases hx : x.2 with
    | succ k => intro b hb; injection hb with hb; subst hb; decide
    | zero =>
      show cutR ([] ++ gapT l)
      rw [List.nil_append]
      cases l with
      | nil => intro b hb; cases hb
      | cons y r =>
        rw [gapT_cons]
        exact tokText_cut y.1 (hok y List.mem_cons_self) (h y rfl) _

theorem gapT_len (l : List (Tok × Nat)) (h : ∀ x ∈ l, TokOk x.1) : l.length ≤ (gapT l).length := by
  induction l with
  | nil => exact Nat.le_refl _
  | cons t l ih =>
    obtain ⟨b, r, hb, _⟩ := tokText_head t.1 (h t List.mem_cons_self)
    have := ih (fun x hx => h x (List.mem_cons_of_mem _ hx))
    rw [gapT_cons, hb]
    simp; omega
theorem gapT_val (l : List (Tok × Nat)) (h : ∀ x ∈ l, TokOk x.1) : Val (gapT l) := by
  induction l with
  | nil => exact .nil
  | cons t l ih =>
    rw [gapT_cons]
    exact (tokText_val t.1 (h t List.mem_cons_self)).append ((blanks_val _).append (ih (fun x hx => h x (List.mem_cons_of_mem _ hx))))

theorem lexFrom_gap (s : ByteArray) : ∀ (l : List (Tok × Nat)) (f p j : Nat), (∀ x ∈ l, TokOk x.1) → apart l → s.data.toList.drop p = blanks j ++ gapT l → p ≤ s.size → l.length < f →
    lexFrom s f p = .ok (placed (p + j + 1) l ++ [⟨0, [], 0, s.size + 1⟩]) := by
  intro l
  induction l with
  | nil =>
    intro f p j _ _ hd _ hf
    obtain ⟨f', rfl⟩ : ∃ f', f = f' + 1 := ⟨f - 1, by simp at hf; omega⟩
    have : trimLeftB (s.data.toList.drop p) 32 = [] := by
      rw [hd]
      exact trim_blanks _ _ (.inl rfl)
    rw [lexFrom_stop s f' p this]
    rfl
  | cons t l ih =>
    intro f p j hok hap hd hp hf
    obtain ⟨f', rfl⟩ : ∃ f', f = f' + 1 := ⟨f - 1, by simp at hf; omega⟩
    have ht := hok t List.mem_cons_self
    have hokl := fun x hx => hok x (List.mem_cons_of_mem _ hx)
    obtain ⟨b, r, hb, hb32⟩ := tokText_head t.1 ht
    rw [gapT_cons] at hd
    have htr : trimLeftB (s.data.toList.drop p) 32 = tokText t.1 ++ (blanks t.2 ++ gapT l) := by
      rw [hd, trim_blanks _ _ (.inr ⟨b, r ++ (blanks t.2 ++ gapT l), by rw [hb]; rfl, hb32⟩)]
    have hone := oneA_cut t.1 (blanks t.2 ++ gapT l) ht (apart_cut t l hap hokl)
    have hne : tokText t.1 ++ (blanks t.2 ++ gapT l) ≠ [] := by rw [hb]; simp
    rw [lexFrom_some s f' p _ _ _ htr hne hone]
    have hlen := congrArg List.length hd
    rw [List.length_drop, ← size_eq, List.length_append, blanks_len] at hlen
    have hlen2 : (tokText t.1 ++ (blanks t.2 ++ gapT l)).length = (tokText t.1).length + (t.2 + (gapT l).length) := by simp [blanks_len]
    have hpos : 0 < (tokText t.1).length := by rw [hb]; simp
    have hat : s.size - (tokText t.1 ++ (blanks t.2 ++ gapT l)).length + (tokText t.1).length = p + j + (tokText t.1).length := by omega
    have hpl : ((s.size : Int) - ((tokText t.1 ++ (blanks t.2 ++ gapT l)).length : Int) + 1) = ((p + j + 1 : Nat) : Int) := by omega
    have hd2 : s.data.toList.drop (p + j + (tokText t.1).length) = blanks t.2 ++ gapT l := by
      rw [← List.drop_drop, ← List.drop_drop, hd, List.drop_left' (by simp [blanks]), List.drop_left' rfl]
    rw [hat, ih f' (p + j + (tokText t.1).length) t.2 hokl hap.2 hd2 (by omega) (by simp at hf; omega)]
    show Except.ok _ = Except.ok _
    rw [hpl]
    show Except.ok (_ :: _) = Except.ok (_ :: _)
    rw [show p + j + (tokText t.1).length + t.2 + 1 = p + j + 1 + (tokText t.1).length + t.2 by omega]
    rfl

/-- Tokens' letters with gaps are these tokens. -/
theorem lexA_gap (l : List (Tok × Nat)) (hok : ∀ x ∈ l, TokOk x.1) (hap : apart l) (hs : (gapT l).length ≤ 1024) :
    lexA ⟨(gapT l).toArray⟩ = .ok (placed 1 l ++ [⟨0, [], 0, ((gapT l).length : Int) + 1⟩]) := by
  have hl := gapT_len l hok
  have h := lexFrom_gap ⟨(gapT l).toArray⟩ l ((⟨(gapT l).toArray⟩ : ByteArray).size + 1) 0 0 hok hap (by rw [List.drop_zero]; rfl) (Nat.zero_le _) (by rw [mk_size]; omega)
  rw [mk_size] at h
  refine lexA_ok (by rw [mk_size]; omega) (badFrom_valid _ _ 0 ?_) ?_
  · rw [List.drop_zero]
    exact valid_of (gapT_val l hok)
  · rw [mk_size]; exact h

/-! ### Words, numbers, signs, texts, names as tokens -/
def tokWord (w : List UInt8) : Tok := ⟨2, w, 0, 0⟩
def tokNum (n : Int) : Tok := ⟨3, itoa n, n, 0⟩
def tokSign (w : List UInt8) : Tok := ⟨5, w, 0, 0⟩
def tokTxt (w : List UInt8) : Tok := ⟨4, w, 0, 0⟩
def tokName (w : List UInt8) : Tok := ⟨1, w, 0, 0⟩

theorem ok_word {w : List UInt8} (h : w ∈ wl) : TokOk (tokWord w) := by
  have hn := letB_wl w h
  unfold nameR at hn
  simp only [Bool.and_eq_true] at hn
  obtain ⟨⟨⟨h1, _⟩, _⟩, h4⟩ := hn
  cases hw : w with
  | nil => rw [hw] at h1; simp at h1
  | cons a r =>
    rw [hw, List.all_cons, Bool.and_eq_true] at h4
    refine .inr (.inr ⟨a, r, rfl, .inr h4.1, h4.2, ?_⟩)
    unfold plainA
    rw [isWordL_eq, if_pos (by rw [← hw]; exact decide_eq_true h)]
    rfl
theorem ok_name {w : List UInt8} (h : nameR w = true) (hw : w ∉ wl) : TokOk (tokName w) := by
  have hn := h
  unfold nameR at hn
  simp only [Bool.and_eq_true] at hn
  obtain ⟨⟨⟨h1, _⟩, _⟩, h4⟩ := hn
  cases hl : w with
  | nil => rw [hl] at h1; simp at h1
  | cons a r =>
    rw [hl, List.all_cons, Bool.and_eq_true] at h4
    refine .inr (.inr ⟨a, r, rfl, .inr h4.1, h4.2, ?_⟩)
    unfold plainA
    rw [isWordL_eq, if_neg (by rw [← hl]; show ¬ decide (w ∈ wl) = true; simpa using hw), nameA_eq, if_pos (by rw [← hl]; exact h)]
    rfl
theorem ok_sign {w : List UInt8} (h : w = [33, 61] ∨ w = [61] ∨ w = [40] ∨ w = [41]) : TokOk (tokSign w) := .inl ⟨rfl, rfl, h⟩
theorem ok_txt {w : List UInt8} (h : Val w) (h10 : (10 : UInt8) ∉ w) : TokOk (tokTxt w) := .inr (.inl ⟨rfl, rfl, h, h10⟩)
theorem ok_num {n : Int} (h0 : -9223372036854775808 ≤ n) (h1 : n ≤ 9223372036854775807) : TokOk (tokNum n) := by
  have h := lexA_itoa n h0 h1
  obtain ⟨toks, p, he, hall⟩ := lexA_struct h
  cases toks with
  | nil => simp at he
  | cons t r =>
    rw [List.cons_append] at he
    injection he with he1 he2
    have := hall t List.mem_cons_self
    rw [← he1] at this
    exact this
theorem text_word (w : List UInt8) : tokText (tokWord w) = w := rfl
theorem text_num (n : Int) : tokText (tokNum n) = itoa n := rfl
theorem text_sign (w : List UInt8) : tokText (tokSign w) = w := rfl
theorem text_txt (w : List UInt8) : tokText (tokTxt w) = 34 :: (escB w ++ [34]) := rfl
theorem text_name (w : List UInt8) : tokText (tokName w) = w := rfl
end Go.Proofs.YtebblpmocheelaaGreatDoor
