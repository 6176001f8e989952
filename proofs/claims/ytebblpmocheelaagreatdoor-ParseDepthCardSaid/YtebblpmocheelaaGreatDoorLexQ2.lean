/- Plain laws of what package lex computes: names, numbers, a token that stands alone. No program in sight. -/
import Derived.Test.YtebblpmocheelaaGreatDoorLexQ
import Derived.Test.YtebblpmocheelaaGreatDoorLexW5
namespace Go.Proofs.YtebblpmocheelaaGreatDoor
open Go.Lib

/-- The document's name. -/
def nameR (l : List UInt8) : Bool := !l.isEmpty && decide (l.length ≤ 20) && !digB (l.headD 0) && l.all letB

theorem byte_at (s : ByteArray) (j : Nat) (hj : j < s.size) : s[j]'hj = s.data.toList[j]'(by rw [← size_eq]; exact hj) := by simp; rfl

theorem zipIdx_false (s : ByteArray) (j : Nat) (hj : j < s.size) (h : nameBad (s[j]'hj) j = true) : nameA s = false := by
  unfold nameA; rw [zip_not s j hj h]; rfl

theorem letB_low (b : UInt8) (h : letB b = true) : b.toNat < 128 := by
  rcases (letB_iff b).1 h with h | h | h | h <;> omega

theorem nameA_eq (s : ByteArray) : nameA s = nameR s.data.toList := by
  have hz := size_eq s
  rcases least_bad (P := fun j => ∀ hj : j < s.size, (s[j]'hj).toNat < 128) s.size with hasc | ⟨k, hk, hb, _⟩
  · have hasc' : ∀ j (hj : j < s.size), (s[j]'hj).toNat < 128 := fun j hj => hasc j hj hj
    rcases Nat.eq_zero_or_pos s.size with h0 | h0
    · have e : s.data.toList = [] := List.eq_nil_of_length_eq_zero (by omega)
      have : s = ⟨#[]⟩ := by
        apply ByteArray.ext
        apply Array.toList_inj.1
        exact e
      subst this
      decide
    · have hhead : s.data.toList.headD 0 = s[0]'h0 := by
        cases hl : s.data.toList with
        | nil => rw [hl, List.length_nil] at hz; omega
        | cons a r => rw [byte_at]; simp only [hl]; rfl
      have hne : s.data.toList.isEmpty = false := by
        cases hl : s.data.toList with
        | nil => rw [hl, List.length_nil] at hz; omega
        | cons a r => rfl
      cases hd : digB (s[0]'h0) with
      | true =>
        have : nameBad (s[0]'h0) 0 = true := by
          unfold digB at hd
          unfold nameBad
          rw [hd]; simp
        rw [zipIdx_false s 0 h0 this]
        unfold nameR
        rw [hhead, hd]; simp
      | false =>
        have hall : (s.data.toList.zipIdx.all fun x => !nameBad x.1 x.2) = true := zip_all s (fun j hj => by
          unfold nameBad
          rw [decide_eq_false (by have := hasc' j hj; omega : ¬ 128 ≤ (s[j]'hj).toNat), Bool.false_or]
          by_cases e : j = 0
          · subst e; unfold digB at hd; rw [hd]; simp
          · rw [decide_eq_false e]; rfl)
        unfold nameA nameR
        rw [hall, isA_ascii s hasc', hhead, hd, hne, hz]
        simp [h0]
  · have hge : 128 ≤ (s[k]'hk).toNat := by
      rcases Nat.lt_or_ge (s[k]'hk).toNat 128 with h | h
      · exact absurd (fun _ => h) hb
      · exact h
    rw [zipIdx_false s k hk (by unfold nameBad; simp [hge])]
    unfold nameR
    have : s.data.toList.all letB = false := by
      rw [← Bool.not_eq_true, List.all_eq_true]
      intro h
      have h1 := h (s[k]'hk) (by rw [byte_at]; exact List.getElem_mem _)
      have h2 := letB_low _ h1
      exact absurd hge (Nat.not_le.2 h2)
    rw [this, Bool.and_false]

/-! ### Runes that are valid -/
theorem enc_err : encodeRune (65533 : Int) = [239, 191, 189] := by decide

theorem badFrom_valid (s : ByteArray) : ∀ (f pos : Nat), validD (s.data.toList.drop pos) = true → badFrom s f pos = none := by
  intro f
  induction f with
  | zero => intro pos _; rfl
  | succ f ih =>
    intro pos hv
    rw [badFrom]
    by_cases hp : pos < s.size
    · rw [if_pos hp]
      have hne : s.data.toList.drop pos ≠ [] := by
        intro e
        have := congrArg List.length e
        rw [List.length_drop, ← size_eq] at this
        simp at this; omega
      rw [validD_step _ hne] at hv
      rw [← decodeL_drop]
      by_cases hb : (decodeL (s.data.toList.drop pos)).1 = 65533 ∧ (decodeL (s.data.toList.drop pos)).2 = 1
      · rw [if_pos hb] at hv; cases hv
      · rw [if_neg hb, List.drop_drop] at hv
        have he := encode_decode _ hne hb
        rw [if_neg]
        · exact ih _ hv
        · rintro ⟨h1, h2⟩
          rw [h1, show ((65533 : Nat) : Int) = 65533 from rfl, enc_err] at he
          have : hasPrefix (s.data.toList.drop pos) [239, 191, 189] = true := by
            unfold hasPrefix
            rw [List.isPrefixOf_iff_prefix, he]
            exact List.take_prefix _ _
          rw [this] at h2; cases h2
    · rw [if_neg hp]

theorem valid_ascii (l : List UInt8) (h : ∀ b ∈ l, b.toNat < 128) : validD l = true := by
  rw [validD_ascii l.length l (by rw [List.take_length]; exact h), List.drop_length, validD_nil]

/-! ### A token that stands alone -/
theorem lex_single (s : ByteArray) (t : Tok) (hs : s.size ≤ 1024) (hv : validD s.data.toList = true) (hh : s.data.toList.head? ≠ some 32) (h0 : 0 < s.size) (ho : oneA s = some (t, s.size)) :
    lexA s = .ok [{ t with place := 1 }, ⟨0, [], 0, (s.size : Int) + 1⟩] := by
  have hz := size_eq s
  have hl : s.data.toList ≠ [] := by intro e; rw [e, List.length_nil] at hz; omega
  have htr : trimLeftB (s.data.toList.drop 0) 32 = s.data.toList := by
    rw [List.drop_zero]
    cases h : s.data.toList with
    | nil => rfl
    | cons a r =>
      rw [h] at hh
      have ha : (a == 32) = false := by rw [beq_eq_false_iff_ne]; intro e; subst e; exact hh rfl
      unfold trimLeftB
      rw [List.dropWhile_cons, ha]; rfl
  have ho' : oneA ⟨s.data.toList.toArray⟩ = some (t, s.size) := by rw [Array.toArray_toList]; exact ho
  refine lexA_ok (by omega) (badFrom_valid s _ 0 (by rw [List.drop_zero]; exact hv)) ?_
  rw [lexFrom_some s s.size 0 _ t s.size htr hl ho']
  obtain ⟨f, hf⟩ : ∃ f, s.size = f + 1 := ⟨s.size - 1, by omega⟩
  have h2 : lexFrom s (f + 1) (s.size - s.data.toList.length + s.size) = .ok [⟨0, [], 0, (s.size : Int) + 1⟩] := by
    apply lexFrom_stop
    rw [List.drop_eq_nil_of_le (by rw [← hz]; omega)]
    rfl
  rw [← hf] at h2
  rw [h2, ← hz]
  show Except.ok _ = _
  simp

/-- What is no sign and no text. -/
theorem oneA_plain (s : ByteArray) (h : ∀ b, s.data.toList.head? = some b → b = 45 ∨ letB b = true) (h0 : 0 < s.size) :
    oneA s = (plainA ⟨(s.data.toList.take (runL s.data.toList)).toArray⟩).map fun x => (⟨x.1, s.data.toList.take (runL s.data.toList), x.2, 0⟩, runL s.data.toList) := by
  have hz := size_eq s
  cases hl : s.data.toList with
  | nil => rw [hl, List.length_nil] at hz; omega
  | cons a r =>
    have ha := h a (by rw [hl]; rfl)
    have hne : ∀ c : UInt8, letB c = false → c ≠ 45 → (c == a) = false := by
      intro c h1 h2
      rw [beq_eq_false_iff_ne]
      rintro rfl
      rcases ha with h | h
      · exact h2 h
      · rw [h1] at h; cases h
    unfold oneA
    rw [hl]
    have e1 := hne 33 (by decide) (by decide)
    have e2 := hne 61 (by decide) (by decide)
    have e3 := hne 40 (by decide) (by decide)
    have e4 := hne 41 (by decide) (by decide)
    have e5 := hne 34 (by decide) (by decide)
    have p1 : hasPrefix (a :: r) [33, 61] = false := by simp [hasPrefix, List.isPrefixOf, e1]
    have p2 : hasPrefix (a :: r) [61] = false := by simp [hasPrefix, List.isPrefixOf, e2]
    have p3 : hasPrefix (a :: r) [40] = false := by simp [hasPrefix, List.isPrefixOf, e3]
    have p4 : hasPrefix (a :: r) [41] = false := by simp [hasPrefix, List.isPrefixOf, e4]
    have p5 : ¬ (a :: r).head? = some 34 := by
      intro e; injection e with e; rw [e] at e5; simp at e5
    rw [if_neg (by rw [p1]; simp), if_neg (by rw [p2]; simp), if_neg (by rw [p3]; simp), if_neg (by rw [p4]; simp), if_neg p5]

theorem takeWhile_all {p : UInt8 → Bool} (l : List UInt8) (h : l.all p = true) : l.takeWhile p = l := by
  induction l with
  | nil => rfl
  | cons a l ih =>
    rw [List.all_cons, Bool.and_eq_true] at h
    rw [List.takeWhile_cons, h.1, if_pos rfl, ih h.2]

theorem runL_all (a : UInt8) (r : List UInt8) (h1 : a = 45 ∨ letB a = true) (h2 : r.all letB = true) : runL (a :: r) = (a :: r).length := by
  have : (letB a || decide (a.toNat = 45)) = true := by
    rcases h1 with rfl | h
    · decide
    · rw [h]; rfl
  simp only [runL, this, if_true, takeWhile_all r h2, List.length_cons]
  omega

/-- One token of such letters. -/
theorem one_plain (s : ByteArray) (a : UInt8) (r : List UInt8) (hl : s.data.toList = a :: r) (h1 : a = 45 ∨ letB a = true) (h2 : r.all letB = true) :
    oneA s = (plainA s).map fun x => (⟨x.1, s.data.toList, x.2, 0⟩, s.size) := by
  have hz := size_eq s
  rw [oneA_plain s (fun b hb => by rw [hl] at hb; injection hb with hb; subst hb; exact h1) (by rw [hz, hl]; simp)]
  have : runL s.data.toList = s.size := by rw [hl, runL_all a r h1 h2, hz, hl]
  rw [this, hz, List.take_length, Array.toArray_toList]

theorem lex_plain (s : ByteArray) (a : UInt8) (r : List UInt8) (x : Int × Int) (hs : s.size ≤ 1024) (hl : s.data.toList = a :: r) (h1 : a = 45 ∨ letB a = true) (h2 : r.all letB = true) (hp : plainA s = some x) :
    lexA s = .ok [⟨x.1, s.data.toList, x.2, 1⟩, ⟨0, [], 0, (s.size : Int) + 1⟩] := by
  have hz := size_eq s
  have ha : a.toNat < 128 := by
    rcases h1 with rfl | h
    · decide
    · exact letB_low a h
  have := lex_single s ⟨x.1, s.data.toList, x.2, 0⟩ hs ?_ ?_ (by rw [hz, hl]; simp) (by rw [one_plain s a r hl h1 h2, hp]; rfl)
  · exact this
  · apply valid_ascii
    intro b hb
    rw [hl] at hb
    rcases List.mem_cons.1 hb with rfl | hb
    · exact ha
    · exact letB_low b (List.all_eq_true.1 h2 b hb)
  · rw [hl]
    intro e; injection e with e; subst e
    rcases h1 with h | h
    · revert h; decide
    · revert h; decide

/-! ### Numbers -/
theorem parse_append : ∀ (l r : List UInt8) (a m : Nat), parseUint10 a l = .ok m → parseUint10 a (l ++ r) = parseUint10 m r := by
  intro l
  induction l with
  | nil => intro r a m h; simp only [parseUint10] at h; injection h with h; subst h; rfl
  | cons c l ih =>
    intro r a m h
    rw [List.cons_append]
    simp only [parseUint10] at h ⊢
    split at h
    · rename_i h1
      rw [if_pos h1]
      split at h
      · cases h
      · rename_i h2
        rw [if_neg h2]
        split at h
        · cases h
        · rename_i h3
          rw [if_neg h3]
          exact ih r _ m h
    · cases h

theorem dec_facts : ∀ u : Nat, u < 18446744073709551616 → (∀ b ∈ decDigits u, digB b = true) ∧ decDigits u ≠ [] ∧ parseUint10 0 (decDigits u) = .ok u := by
  intro u
  induction u using Nat.strongRecOn with
  | ind u ih =>
    intro hu
    have digit : ∀ d, d < 10 → (UInt8.ofNat (48 + d)).toNat = 48 + d := by
      intro d hd
      rw [UInt8.toNat_ofNat']
      omega
    by_cases h : u < 10
    · rw [decDigits, dif_pos h]
      refine ⟨?_, by simp, ?_⟩
      · intro b hb
        rw [List.mem_singleton] at hb
        subst hb
        unfold digB
        rw [digit u h]; simp; omega
      · simp only [parseUint10]
        rw [digit u h, if_pos (by omega), if_neg (by omega), if_neg (by omega)]
        congr 1; omega
    · rw [decDigits, dif_neg h]
      obtain ⟨h1, h2, h3⟩ := ih (u / 10) (by omega) (by omega)
      have hd : u % 10 < 10 := Nat.mod_lt _ (by omega)
      refine ⟨?_, by simp, ?_⟩
      · intro b hb
        rcases List.mem_append.1 hb with hb | hb
        · exact h1 b hb
        · rw [List.mem_singleton] at hb
          subst hb
          unfold digB
          rw [digit _ hd]; simp; omega
      · rw [parse_append _ _ _ _ h3]
        simp only [parseUint10]
        rw [digit _ hd, if_pos (by omega), if_neg (by omega), if_neg (by omega)]
        congr 1; omega

theorem digB_letB (b : UInt8) (h : digB b = true) : letB b = true := by
  unfold digB at h
  simp at h
  exact (letB_iff b).2 (.inr (.inr (.inl h)))

theorem atoi_itoa (n : Int) (h0 : -9223372036854775808 ≤ n) (h1 : n ≤ 9223372036854775807) : atoiAll (itoa n) = .ok n := by
  unfold itoa
  by_cases hn : n < 0
  · rw [if_pos hn]
    obtain ⟨f1, f2, f3⟩ := dec_facts n.natAbs (by omega)
    unfold atoiAll
    simp only [show (45 : UInt8).toNat = 45 from rfl, or_true, if_true]
    unfold parseMag
    rw [if_neg f2, f3]
    simp only [not_true, false_and, if_false, true_and]
    rw [if_neg (by omega)]
    simp; omega
  · rw [if_neg hn]
    obtain ⟨f1, f2, f3⟩ := dec_facts n.toNat (by omega)
    cases hd : decDigits n.toNat with
    | nil => exact absurd hd f2
    | cons c r =>
      have hc := f1 c (by rw [hd]; exact List.mem_cons_self)
      unfold digB at hc
      simp at hc
      rw [hd] at f3
      have g1 : ¬ c.toNat = 43 := by omega
      have g2 : ¬ c.toNat = 45 := by omega
      have g3 : ¬ 9223372036854775808 ≤ n.toNat := by omega
      simp only [atoiAll, g1, g2, or_false, if_false, parseMag, List.cons_ne_nil, f3, not_false_eq_true, true_and, false_and, g3]
      congr 1; omega

theorem wl_head : ∀ w ∈ wl, 97 ≤ (w.headD 0).toNat := by decide

theorem lexA_itoa (n : Int) (h0 : -9223372036854775808 ≤ n) (h1 : n ≤ 9223372036854775807) :
    lexA ⟨(itoa n).toArray⟩ = .ok [⟨3, itoa n, n, 1⟩, ⟨0, [], 0, ((itoa n).length : Int) + 1⟩] := by
  have hlen := itoa_length_le n h0 h1
  have key : ∃ a r, itoa n = a :: r ∧ (a = 45 ∨ letB a = true) ∧ r.all letB = true ∧ a.toNat < 97 ∧ nameR (itoa n) = false := by
    unfold itoa
    by_cases hn : n < 0
    · rw [if_pos hn]
      obtain ⟨f1, f2, f3⟩ := dec_facts n.natAbs (by omega)
      refine ⟨45, _, rfl, .inl rfl, List.all_eq_true.2 (fun b hb => digB_letB b (f1 b hb)), by decide, ?_⟩
      unfold nameR
      rw [List.all_cons, show letB 45 = false by decide, Bool.false_and, Bool.and_false]
    · rw [if_neg hn]
      obtain ⟨f1, f2, f3⟩ := dec_facts n.toNat (by omega)
      cases hd : decDigits n.toNat with
      | nil => exact absurd hd f2
      | cons c r =>
        rw [hd] at f1
        have hc := f1 c List.mem_cons_self
        refine ⟨c, r, rfl, .inr (digB_letB c hc), List.all_eq_true.2 (fun b hb => digB_letB b (f1 b (List.mem_cons_of_mem _ hb))), ?_, ?_⟩
        · unfold digB at hc; simp at hc; omega
        · unfold nameR
          rw [List.headD_cons, hc]; simp
  obtain ⟨a, r, hl, ha, hr, h97, hnm⟩ := key
  have hsz : (⟨(itoa n).toArray⟩ : ByteArray).size = (itoa n).length := by show (itoa n).toArray.size = _; simp
  have hp : plainA ⟨(itoa n).toArray⟩ = some (3, n) := by
    unfold plainA
    rw [nameA_eq]
    have hw : isWordL (itoa n) = false := by
      rw [isWordL_eq, decide_eq_false]
      intro hm
      have := wl_head _ hm
      rw [hl, List.headD_cons] at this
      omega
    show (if isWordL (itoa n) = true then _ else if nameR (itoa n) = true then _ else numOf (itoa n) (atoiAll (itoa n))) = _
    rw [hw, hnm, atoi_itoa n h0 h1]
    simp [numOf]
  have := lex_plain ⟨(itoa n).toArray⟩ a r (3, n) (by rw [hsz]; omega) hl ha hr hp
  rw [hsz] at this
  exact this

/-! ### Names -/
theorem letB_wl : ∀ w ∈ wl, nameR w = true := by decide

/-- What a name says, a token says. -/
theorem lexA_name (s : ByteArray) (hs : s.size ≤ 1024) (h : nameR s.data.toList = true) :
    lexA s = .ok [⟨if s.data.toList ∈ wl then 2 else 1, s.data.toList, 0, 1⟩, ⟨0, [], 0, (s.size : Int) + 1⟩] := by
  have h' := h
  unfold nameR at h'
  simp only [Bool.and_eq_true] at h'
  obtain ⟨⟨⟨h1, _⟩, _⟩, h4⟩ := h'
  cases hl : s.data.toList with
  | nil => rw [hl] at h1; simp at h1
  | cons a r =>
    rw [hl, List.all_cons, Bool.and_eq_true] at h4
    have hp : plainA s = some (if s.data.toList ∈ wl then 2 else 1, 0) := by
      unfold plainA
      rw [nameA_eq, isWordL_eq, h]
      by_cases hm : s.data.toList ∈ wl <;> simp [hm]
    have := lex_plain s a r _ hs hl (.inr h4.1) h4.2 hp
    rw [← hl]
    exact this

/-- What a token that is a name, or a word, says. -/
def tokNamed (t : Tok) : Prop := (t.kind = 1 ∨ t.kind = 2) → nameR t.says = true ∧ (t.kind = 2 → t.says ∈ wl) ∧ (t.kind = 1 → t.says ∉ wl)

theorem oneA_named (s : ByteArray) (x : Tok × Nat) (h : oneA s = some x) : tokNamed x.1 := by
  unfold oneA at h
  split at h
  · injection h with h; subst h; intro hk; rcases hk with hk | hk <;> cases hk
  split at h
  · injection h with h; subst h; intro hk; rcases hk with hk | hk <;> cases hk
  split at h
  · injection h with h; subst h; intro hk; rcases hk with hk | hk <;> cases hk
  split at h
  · injection h with h; subst h; intro hk; rcases hk with hk | hk <;> cases hk
  split at h
  · obtain ⟨y, hy, rfl⟩ := Option.map_eq_some_iff.1 h
    intro hk; rcases hk with hk | hk <;> cases hk
  · obtain ⟨y, hy, rfl⟩ := Option.map_eq_some_iff.1 h
    generalize s.data.toList.take (runL s.data.toList) = q at hy ⊢
    unfold plainA at hy
    rw [nameA_eq, isWordL_eq] at hy
    split at hy
    · rename_i hw
      injection hy with hy; subst hy
      have hw := of_decide_eq_true hw
      exact fun _ => ⟨letB_wl _ hw, fun _ => hw, fun e => by cases e⟩
    · rename_i hw
      split at hy
      · rename_i hn
        injection hy with hy; subst hy
        exact fun _ => ⟨hn, (fun e => by cases e), fun _ hm => hw (decide_eq_true hm)⟩
      · unfold numOf at hy
        split at hy
        · split at hy
          · injection hy with hy; subst hy
            intro hk; rcases hk with hk | hk <;> cases hk
          · cases hy
        · cases hy

theorem lexFrom_named (s : ByteArray) : ∀ (f at_ : Nat) (l : List Tok), lexFrom s f at_ = .ok l → ∀ t ∈ l, tokNamed t := by
  intro f
  induction f with
  | zero => intro at_ l h; cases h
  | succ f ih =>
    intro at_ l h t ht
    by_cases hr : trimLeftB (s.data.toList.drop at_) 32 = []
    · rw [lexFrom_stop s f at_ hr] at h
      injection h with h; subst h
      rw [List.mem_singleton] at ht; subst ht
      intro hk; rcases hk with hk | hk <;> cases hk
    · cases ho : oneA ⟨(trimLeftB (s.data.toList.drop at_) 32).toArray⟩ with
      | none => rw [lexFrom_none s f at_ _ rfl hr ho] at h; cases h
      | some x =>
        obtain ⟨u, n⟩ := x
        rw [lexFrom_some s f at_ _ u n rfl hr ho] at h
        cases hrec : lexFrom s f (s.size - (trimLeftB (s.data.toList.drop at_) 32).length + n) with
        | error e => rw [hrec] at h; cases h
        | ok l2 =>
          rw [hrec] at h
          have h' : Except.ok _ = Except.ok l := h
          injection h' with h'
          subst h'
          rcases List.mem_cons.1 ht with rfl | ht
          · exact oneA_named _ _ ho
          · exact ih _ _ hrec t ht

theorem lexA_named (s : ByteArray) (l : List Tok) (h : lexA s = .ok l) : ∀ t ∈ l, tokNamed t := by
  unfold lexA at h
  split at h
  · cases h
  · split at h
    · cases h
    · split at h
      · rename_i l2 hl2
        injection h with h; subst h
        exact lexFrom_named s _ _ _ hl2
      · cases h
end Go.Proofs.YtebblpmocheelaaGreatDoor
