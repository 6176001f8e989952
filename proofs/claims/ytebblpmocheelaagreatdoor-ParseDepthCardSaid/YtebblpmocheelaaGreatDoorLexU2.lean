/- Plain laws of what lex.Lex answers: of a text that is quoted; of tokens, with blanks between, that are read again. No program in sight. -/
import Derived.Test.YtebblpmocheelaaGreatDoorLexU
import Derived.Test.YtebblpmocheelaaGreatDoorLexQ2
namespace Go.Proofs.YtebblpmocheelaaGreatDoor
open Go.Lib

theorem mk_size (l : List UInt8) : (⟨l.toArray⟩ : ByteArray).size = l.length := by show l.toArray.size = _; simp
theorem mk_ext (l : List UInt8) : ((⟨l.toArray⟩ : ByteArray).extract 1 (⟨l.toArray⟩ : ByteArray).size).data.toList = l.drop 1 := by
  rw [extract_from]

/-- A quoted text at the head. -/
theorem oneA_text (l R : List UInt8) (hv : Val l) (h10 : (10 : UInt8) ∉ l) : oneA ⟨(34 :: (escB l ++ 34 :: R)).toArray⟩ = some (⟨4, l, 0, 0⟩, (escB l).length + 2) := by
  have p1 : hasPrefix (34 :: (escB l ++ 34 :: R)) [33, 61] = false := by simp [hasPrefix, List.isPrefixOf]
  have p2 : hasPrefix (34 :: (escB l ++ 34 :: R)) [61] = false := by simp [hasPrefix, List.isPrefixOf]
  have p3 : hasPrefix (34 :: (escB l ++ 34 :: R)) [40] = false := by simp [hasPrefix, List.isPrefixOf]
  have p4 : hasPrefix (34 :: (escB l ++ 34 :: R)) [41] = false := by simp [hasPrefix, List.isPrefixOf]
  have hq : quotedA ⟨(34 :: (escB l ++ 34 :: R)).toArray⟩ = some (l, (escB l).length + 2) := by
    unfold quotedA
    have hx : ((⟨(34 :: (escB l ++ 34 :: R)).toArray⟩ : ByteArray).extract 1 (⟨(34 :: (escB l ++ 34 :: R)).toArray⟩ : ByteArray).size).data.toList = escB l ++ 34 :: R := by
      rw [mk_ext]; rfl
    have hz : ((⟨(34 :: (escB l ++ 34 :: R)).toArray⟩ : ByteArray).extract 1 (⟨(34 :: (escB l ++ 34 :: R)).toArray⟩ : ByteArray).size).size = (escB l ++ 34 :: R).length := by
      rw [size_eq, hx]
    have := quoted_read hv _ (((⟨(34 :: (escB l ++ 34 :: R)).toArray⟩ : ByteArray).extract 1 (⟨(34 :: (escB l ++ 34 :: R)).toArray⟩ : ByteArray).size).size) 0 [] R h10 (by rw [List.drop_zero]; exact hx) (by rw [hz]; simp)
    rw [this]
    simp
  unfold oneA
  show (if hasPrefix (34 :: (escB l ++ 34 :: R)) [33, 61] = true then _ else if hasPrefix (34 :: (escB l ++ 34 :: R)) [61] = true then _ else if hasPrefix (34 :: (escB l ++ 34 :: R)) [40] = true then _ else if hasPrefix (34 :: (escB l ++ 34 :: R)) [41] = true then _ else if (34 :: (escB l ++ 34 :: R)).head? = some 34 then _ else _) = _
  rw [if_neg (by rw [p1]; simp), if_neg (by rw [p2]; simp), if_neg (by rw [p3]; simp), if_neg (by rw [p4]; simp), if_pos (show (34 :: (escB l ++ 34 :: R)).head? = some 34 from rfl), hq]
  rfl

theorem val_quote (l : List UInt8) (h : Val l) : Val (34 :: (escB l ++ [34])) :=
  Val.append (l := [34]) (Val.ascii [34] (by decide)) (Val.append (escB_val h) (Val.ascii [34] (by decide)))

theorem isText_parts {l : List UInt8} (h : isTextL l = true) : Val l ∧ (10 : UInt8) ∉ l := by
  unfold isTextL at h
  rw [Bool.and_eq_true, contains_one] at h
  refine ⟨val_of _ _ (Nat.le_refl _) h.1, fun hm => ?_⟩
  have := h.2
  simp [hm] at this

/-- WHAT IS QUOTED IS ONE TEXT, that says the same. -/
theorem lexA_quote (s : ByteArray) (hs : s.size ≤ 500) (h : isTextL s.data.toList = true) :
    lexA ⟨(quoteA s).toArray⟩ = .ok [⟨4, s.data.toList, 0, 1⟩, ⟨0, [], 0, ((quoteA s).length : Int) + 1⟩] := by
  obtain ⟨hv, h10⟩ := isText_parts h
  have hz := size_eq s
  have hl := escB_len s.data.toList
  rw [quoteA_eq, if_pos h]
  have hsz : (⟨(34 :: (escB s.data.toList ++ [34])).toArray⟩ : ByteArray).size = (escB s.data.toList).length + 2 := by rw [mk_size]; simp
  have := lex_single ⟨(34 :: (escB s.data.toList ++ [34])).toArray⟩ ⟨4, s.data.toList, 0, 0⟩ (by rw [hsz]; omega) (valid_of (val_quote _ hv)) (by show (34 :: (escB s.data.toList ++ [34])).head? ≠ some 32; simp) (by rw [hsz]; omega)
    (by rw [hsz]; exact oneA_text s.data.toList [] hv h10)
  rw [hsz] at this
  rw [this]
  simp; omega

/-! ### Tokens that are read again -/
def TokOk (t : Tok) : Prop :=
  (t.kind = 5 ∧ t.n = 0 ∧ (t.says = [33, 61] ∨ t.says = [61] ∨ t.says = [40] ∨ t.says = [41])) ∨ (t.kind = 4 ∧ t.n = 0 ∧ Val t.says ∧ (10 : UInt8) ∉ t.says) ∨
    (∃ a r, t.says = a :: r ∧ (a = 45 ∨ letB a = true) ∧ r.all letB = true ∧ plainA ⟨t.says.toArray⟩ = some (t.kind, t.n))

theorem plainA_kind {s : ByteArray} {k n : Int} (h : plainA s = some (k, n)) : k = 1 ∨ k = 2 ∨ k = 3 := by
  unfold plainA at h
  split at h
  · injection h with h; injection h with h1 _; exact .inr (.inl h1.symm)
  · split at h
    · injection h with h; injection h with h1 _; exact .inl h1.symm
    · unfold numOf at h
      split at h
      · split at h
        · injection h with h; injection h with h1 _; exact .inr (.inr h1.symm)
        · cases h
      · cases h

/-- A token's letters. -/
def tokText (t : Tok) : List UInt8 := if t.kind = 4 then 34 :: (escB t.says ++ [34]) else t.says

theorem take_run (a : UInt8) (r : List UInt8) (h : (letB a || decide (a.toNat = 45)) = true) : (a :: r).take (runL (a :: r)) = a :: r.takeWhile letB := by
  simp only [runL, h, if_true]
  rw [Nat.add_comm, List.take_succ_cons]
  congr 1
  induction r with
  | nil => rfl
  | cons b r ih =>
    rw [List.takeWhile_cons]
    split
    · rw [List.length_cons, List.take_succ_cons, ih]
    · rfl

theorem takeWhile_good (l : List UInt8) : (l.takeWhile letB).all letB = true := by
  induction l with
  | nil => rfl
  | cons b l ih =>
    rw [List.takeWhile_cons]
    split
    · rename_i h; rw [List.all_cons, h, ih]; rfl
    · rfl

theorem oneA_tok (s : ByteArray) (x : Tok × Nat) (h : oneA s = some x) : TokOk x.1 := by
  unfold oneA at h
  split at h
  · injection h with h; subst h; exact .inl ⟨rfl, rfl, .inl rfl⟩
  split at h
  · injection h with h; subst h; exact .inl ⟨rfl, rfl, .inr (.inl rfl)⟩
  split at h
  · injection h with h; subst h; exact .inl ⟨rfl, rfl, .inr (.inr (.inl rfl))⟩
  split at h
  · injection h with h; subst h; exact .inl ⟨rfl, rfl, .inr (.inr (.inr rfl))⟩
  split at h
  · obtain ⟨y, hy, rfl⟩ := Option.map_eq_some_iff.1 h
    have := quotedFrom_text _ _ _ _ _ _ Val.nil (by simp) hy
    exact .inr (.inl ⟨rfl, rfl, this.1, this.2⟩)
  · obtain ⟨y, hy, rfl⟩ := Option.map_eq_some_iff.1 h
    refine .inr (.inr ?_)
    cases hl : s.data.toList with
    | nil =>
      rw [hl] at hy
      have hy' : plainA ⟨#[]⟩ = some y := hy
      rw [plainA_nil] at hy'; cases hy'
    | cons a r =>
      rw [hl] at hy
      cases hc : (letB a || decide (a.toNat = 45)) with
      | false =>
        have hr : runL (a :: r) = 0 := by simp only [runL, hc]; rfl
        rw [hr, List.take_zero] at hy
        have hy' : plainA ⟨#[]⟩ = some y := hy
        rw [plainA_nil] at hy'; cases hy'
      | true =>
        have ht := take_run a r hc
        rw [ht] at hy ⊢
        refine ⟨a, r.takeWhile letB, rfl, ?_, takeWhile_good r, hy⟩
        rw [Bool.or_eq_true, decide_eq_true_eq] at hc
        rcases hc with h | h
        · exact .inr h
        · exact .inl (UInt8.toNat_inj.1 h)

theorem takeWhile_stop (r R : List UInt8) (h : r.all letB = true) (hR : R = [] ∨ R.head? = some 32) : (r ++ R).takeWhile letB = r := by
  induction r with
  | nil =>
    rcases hR with rfl | hR
    · rfl
    · cases R with
      | nil => rfl
      | cons b R => injection hR with hR; subst hR; rw [List.nil_append, List.takeWhile_cons, if_neg (by decide)]
  | cons b r ih =>
    rw [List.all_cons, Bool.and_eq_true] at h
    rw [List.cons_append, List.takeWhile_cons, if_pos h.1, ih h.2]

/-- A token's letters, with a blank or nothing behind, are that token. -/
theorem oneA_reads (t : Tok) (R : List UInt8) (h : TokOk t) (hR : R = [] ∨ R.head? = some 32) : oneA ⟨(tokText t ++ R).toArray⟩ = some ({ t with place := 0 }, (tokText t).length) := by
  obtain ⟨k, says, n, pl⟩ := t
  rcases h with ⟨hk, hn, hs⟩ | ⟨hk, hn, hv, h10⟩ | ⟨a, r, hs, ha, hr, hp⟩
  · dsimp only at hk hn hs
    subst hk hn
    have ht : tokText ⟨5, says, 0, pl⟩ = says := rfl
    rw [ht]
    unfold oneA
    rcases hs with rfl | rfl | rfl | rfl
    all_goals simp [hasPrefix, List.isPrefixOf]
  · dsimp only at hk hn hv h10
    subst hk hn
    have ht : tokText ⟨4, says, 0, pl⟩ = 34 :: (escB says ++ [34]) := rfl
    rw [ht]
    have := oneA_text says R hv h10
    rw [show 34 :: (escB says ++ [34]) ++ R = 34 :: (escB says ++ 34 :: R) by simp, this]
    simp
  · dsimp only at hs hp
    subst hs
    have hk4 : k ≠ 4 := by rcases plainA_kind hp with rfl | rfl | rfl <;> decide
    have ht : tokText ⟨k, a :: r, n, pl⟩ = a :: r := by unfold tokText; rw [if_neg hk4]
    rw [ht]
    have hb : (letB a || decide (a.toNat = 45)) = true := by
      rcases ha with rfl | h
      · decide
      · rw [h]; rfl
    have h1 : (a :: r ++ R).take (runL (a :: r ++ R)) = a :: r := by
      rw [List.cons_append, take_run a (r ++ R) hb, takeWhile_stop r R hr hR]
    have h2 : runL (a :: r ++ R) = (a :: r).length := by
      simp only [List.cons_append, runL, hb, if_true]
      rw [takeWhile_stop r R hr hR, List.length_cons]; omega
    rw [oneA_plain ⟨(a :: r ++ R).toArray⟩ (fun b hb => by injection hb with hb; subst hb; exact ha) (by rw [mk_size]; simp)]
    show Option.map _ (plainA ⟨((a :: r ++ R).take (runL (a :: r ++ R))).toArray⟩) = _
    rw [h1, hp]
    show some (_, runL (a :: r ++ R)) = _
    rw [h2]

theorem tokText_head (t : Tok) (h : TokOk t) : ∃ b r, tokText t = b :: r ∧ b ≠ 32 := by
  obtain ⟨k, says, n, pl⟩ := t
  rcases h with ⟨hk, hn, hs⟩ | ⟨hk, hn, hv, h10⟩ | ⟨a, r, hs, ha, hr, hp⟩
  · dsimp only at hk hn hs
    subst hk hn
    rcases hs with rfl | rfl | rfl | rfl
    · exact ⟨33, [61], rfl, by decide⟩
    · exact ⟨61, [], rfl, by decide⟩
    · exact ⟨40, [], rfl, by decide⟩
    · exact ⟨41, [], rfl, by decide⟩
  · dsimp only at hk
    subst hk
    exact ⟨34, _, rfl, by decide⟩
  · dsimp only at hs hp
    subst hs
    have hk4 : k ≠ 4 := by rcases plainA_kind hp with rfl | rfl | rfl <;> decide
    refine ⟨a, r, by unfold tokText; rw [if_neg hk4], ?_⟩
    rintro rfl
    rcases ha with h | h
    · exact absurd h (by decide)
    · exact absurd h (by decide)

theorem tokText_val (t : Tok) (h : TokOk t) : Val (tokText t) := by
  obtain ⟨k, says, n, pl⟩ := t
  rcases h with ⟨hk, hn, hs⟩ | ⟨hk, hn, hv, h10⟩ | ⟨a, r, hs, ha, hr, hp⟩
  · dsimp only at hk hn hs
    subst hk hn
    show Val says
    rcases hs with rfl | rfl | rfl | rfl <;> exact Val.ascii _ (by decide)
  · dsimp only at hk
    subst hk
    exact val_quote says hv
  · dsimp only at hs hp
    subst hs
    have hk4 : k ≠ 4 := by rcases plainA_kind hp with rfl | rfl | rfl <;> decide
    have ht : tokText ⟨k, a :: r, n, pl⟩ = a :: r := by unfold tokText; rw [if_neg hk4]
    rw [ht]
    apply Val.ascii
    intro b hb
    rcases List.mem_cons.1 hb with rfl | hb
    · rcases ha with rfl | h
      · decide
      · exact letB_low _ h
    · exact letB_low _ (List.all_eq_true.1 hr b hb)

def blanks (k : Nat) : List UInt8 := List.replicate k 32
theorem blanks_val (k : Nat) : Val (blanks k) := Val.ascii _ (by intro b hb; have := List.eq_of_mem_replicate hb; subst this; decide)

/-- The tokens, so many blanks behind each. -/
def joinT (k : Nat) (l : List Tok) : List UInt8 := l.flatMap fun t => tokText t ++ blanks k

theorem joinT_val (k : Nat) (l : List Tok) (h : ∀ t ∈ l, TokOk t) : Val (joinT k l) := by
  induction l with
  | nil => exact .nil
  | cons t l ih =>
    show Val ((tokText t ++ blanks k) ++ joinT k l)
    exact ((tokText_val t (h t List.mem_cons_self)).append (blanks_val k)).append (ih (fun x hx => h x (List.mem_cons_of_mem _ hx)))
theorem joinT_len (k : Nat) (l : List Tok) (h : ∀ t ∈ l, TokOk t) : l.length ≤ (joinT k l).length := by
  induction l with
  | nil => exact Nat.le_refl _
  | cons t l ih =>
    obtain ⟨b, r, hb, _⟩ := tokText_head t (h t List.mem_cons_self)
    have := ih (fun x hx => h x (List.mem_cons_of_mem _ hx))
    show _ ≤ ((tokText t ++ blanks k) ++ joinT k l).length
    rw [hb]
    simp; omega

theorem trim_blanks (j : Nat) (m : List UInt8) (hm : m = [] ∨ ∃ b r, m = b :: r ∧ b ≠ 32) : trimLeftB (blanks j ++ m) 32 = m := by
  unfold trimLeftB blanks
  induction j with
  | zero =>
    rcases hm with rfl | ⟨b, r, rfl, hb⟩
    · rfl
    · have : (b == 32) = false := by rw [beq_eq_false_iff_ne]; exact hb
      show List.dropWhile _ (b :: r) = _
      rw [List.dropWhile_cons, this]; rfl
  | succ j ih =>
    rw [List.replicate_succ, List.cons_append, List.dropWhile_cons, if_pos (by decide), ih]

/-- Of a token, what isn't its place. -/
def strip (t : Tok) : Int × List UInt8 × Int := (t.kind, t.says, t.n)

theorem lexFrom_join (s : ByteArray) (k m : Nat) (hk : 1 ≤ k) : ∀ (l : List Tok) (f p j : Nat), (∀ t ∈ l, TokOk t) → s.data.toList.drop p = blanks j ++ (joinT k l ++ blanks m) → p ≤ s.size → l.length < f →
    ∃ l', lexFrom s f p = .ok l' ∧ l'.map strip = l.map strip ++ [(0, [], 0)] := by
  intro l
  induction l with
  | nil =>
    intro f p j _ hd _ hf
    obtain ⟨f', rfl⟩ : ∃ f', f = f' + 1 := ⟨f - 1, by simp at hf; omega⟩
    have : trimLeftB (s.data.toList.drop p) 32 = [] := by
      rw [hd]
      have e : blanks j ++ (joinT k [] ++ blanks m) = blanks (j + m) ++ [] := by
        show blanks j ++ ([] ++ blanks m) = _
        simp [blanks]
      rw [e, trim_blanks _ _ (.inl rfl)]
    exact ⟨_, lexFrom_stop s f' p this, rfl⟩
  | cons t l ih =>
    intro f p j hok hd hp hf
    obtain ⟨f', rfl⟩ : ∃ f', f = f' + 1 := ⟨f - 1, by simp at hf; omega⟩
    have ht := hok t List.mem_cons_self
    obtain ⟨b, r, hb, hb32⟩ := tokText_head t ht
    have hjoin : joinT k (t :: l) ++ blanks m = tokText t ++ (blanks k ++ (joinT k l ++ blanks m)) := by
      show ((tokText t ++ blanks k) ++ joinT k l) ++ blanks m = _
      simp
    rw [hjoin] at hd
    have htr : trimLeftB (s.data.toList.drop p) 32 = tokText t ++ (blanks k ++ (joinT k l ++ blanks m)) := by
      rw [hd, trim_blanks _ _ (.inr ⟨b, r ++ (blanks k ++ (joinT k l ++ blanks m)), by rw [hb]; rfl, hb32⟩)]
    have hone := oneA_reads t (blanks k ++ (joinT k l ++ blanks m)) ht (.inr (by
      obtain ⟨k', rfl⟩ : ∃ k', k = k' + 1 := ⟨k - 1, by omega⟩
      rfl))
    have hne : tokText t ++ (blanks k ++ (joinT k l ++ blanks m)) ≠ [] := by rw [hb]; simp
    rw [lexFrom_some s f' p _ _ _ htr hne hone]
    have hlen := congrArg List.length hd
    rw [List.length_drop, ← size_eq, List.length_append, show (blanks j).length = j by simp [blanks]] at hlen
    have hat : s.size - (tokText t ++ (blanks k ++ (joinT k l ++ blanks m))).length + (tokText t).length = p + j + (tokText t).length := by omega
    rw [hat]
    have hd2 : s.data.toList.drop (p + j + (tokText t).length) = blanks k ++ (joinT k l ++ blanks m) := by
      rw [← List.drop_drop, ← List.drop_drop, hd, List.drop_left' (by simp [blanks]), List.drop_left' rfl]
    obtain ⟨l', h1, h2⟩ := ih f' (p + j + (tokText t).length) k (fun x hx => hok x (List.mem_cons_of_mem _ hx)) hd2 (by rw [List.length_append] at hlen; omega) (by simp at hf; omega)
    rw [h1]
    exact ⟨_, rfl, by simp [h2, strip]⟩

theorem lexFrom_struct (s : ByteArray) : ∀ (f at_ : Nat) (l : List Tok), lexFrom s f at_ = .ok l → ∃ toks p, l = toks ++ [⟨0, [], 0, p⟩] ∧ (∀ t ∈ toks, TokOk t) := by
  intro f
  induction f with
  | zero => intro at_ l h; cases h
  | succ f ih =>
    intro at_ l h
    by_cases hr : trimLeftB (s.data.toList.drop at_) 32 = []
    · rw [lexFrom_stop s f at_ hr] at h
      injection h with h; subst h
      exact ⟨[], _, rfl, by simp⟩
    · cases ho : oneA ⟨(trimLeftB (s.data.toList.drop at_) 32).toArray⟩ with
      | none => rw [lexFrom_none s f at_ _ rfl hr ho] at h; cases h
      | some x =>
        obtain ⟨u, n⟩ := x
        rw [lexFrom_some s f at_ _ u n rfl hr ho] at h
        cases hrec : lexFrom s f (s.size - (trimLeftB (s.data.toList.drop at_) 32).length + n) with
        | error e => rw [hrec] at h; cases h
        | ok l2 =>
          rw [hrec] at h
          have h' : Except.ok _ = Except.ok l := h
          injection h' with h'
          subst h'
          obtain ⟨toks, p, rfl, hall⟩ := ih _ _ hrec
          refine ⟨_ :: toks, p, rfl, ?_⟩
          intro t ht
          rcases List.mem_cons.1 ht with rfl | ht
          · exact oneA_tok _ _ ho
          · exact hall t ht

theorem lexA_from {s : ByteArray} {l : List Tok} (h : lexA s = .ok l) : lexFrom s (s.size + 1) 0 = .ok l := by
  unfold lexA at h
  split at h
  · cases h
  · split at h
    · cases h
    · split at h
      · rename_i l2 hl2
        injection h with h; subst h
        exact hl2
      · cases h

theorem lexA_struct {s : ByteArray} {l : List Tok} (h : lexA s = .ok l) : ∃ toks p, l = toks ++ [⟨0, [], 0, p⟩] ∧ (∀ t ∈ toks, TokOk t) := lexFrom_struct s _ _ _ (lexA_from h)

/-- HOW MANY BLANKS STAND BETWEEN TOKENS CHANGES NOTHING BUT PLACES. -/
theorem lexA_join (toks : List Tok) (k : Nat) (hk : 1 ≤ k) (hok : ∀ t ∈ toks, TokOk t) (hs : (joinT k toks ++ blanks k).length ≤ 1024) :
    ∃ l', lexA ⟨(joinT k toks ++ blanks k).toArray⟩ = .ok l' ∧ l'.map strip = toks.map strip ++ [(0, [], 0)] := by
  have hl := joinT_len k toks hok
  obtain ⟨l', h1, h2⟩ := lexFrom_join ⟨(joinT k toks ++ blanks k).toArray⟩ k k hk toks ((⟨(joinT k toks ++ blanks k).toArray⟩ : ByteArray).size + 1) 0 0 hok (by rw [List.drop_zero]; rfl) (Nat.zero_le _) (by rw [mk_size, List.length_append]; omega)
  refine ⟨l', lexA_ok (by rw [mk_size]; omega) (badFrom_valid _ _ 0 ?_) h1, h2⟩
  rw [List.drop_zero]
  exact valid_of ((joinT_val k toks hok).append (blanks_val k))
end Go.Proofs.YtebblpmocheelaaGreatDoor
