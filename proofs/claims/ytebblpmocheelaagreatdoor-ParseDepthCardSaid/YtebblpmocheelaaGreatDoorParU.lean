/- A whole query's text is parsed to that query; and what is parsed can be told. -/
import Derived.Test.YtebblpmocheelaaGreatDoorParS
namespace Go.Proofs.YtebblpmocheelaaGreatDoor
open Go.Lib

structure GoodQ (q : Q) : Prop where
  since : timeOk q.since = true
  till : timeOk q.till = true
  order : q.since ≤ q.till
  ms : ∀ m ∈ q.ms, NameOk m.name ∧ TxtOk m.value
  ml : q.ms.length ≤ 4
  f : GoodF q.filter
  dep : depF q.filter ≤ 8
  lim : limitOk q.limit = true
  page : TxtOk q.page

def matG (m : M) : List (Tok × Nat) := [(tokWord wWhere, 1), (tokName m.name, 0), (tokSign (if m.not then wNe else wEq), 0), (tokTxt m.value, 1)]
def findG (f : F) : List (Tok × Nat) := if opF f = 1 then [] else (tokWord wFind, 1) :: toksF f 1
def descG (b : Bool) : List (Tok × Nat) := if b then [(tokWord wDesc, 1)] else []
def pageG (p : List UInt8) : List (Tok × Nat) := if p = [] then [] else [(tokWord wPage, 1), (tokTxt p, 0)]
def limG (q : Q) : List (Tok × Nat) := (tokWord wLimit, 1) :: (tokNum q.limit, if q.page = [] then 0 else 1) :: pageG q.page
def queryG (q : Q) : List (Tok × Nat) := (tokWord wFrom, 1) :: (tokNum q.since, 1) :: (tokWord wTo, 1) :: (tokNum q.till, 1) :: (q.ms.flatMap matG ++ (findG q.filter ++ (descG q.desc ++ limG q)))

/-- One matcher's text. -/
def matT (m : M) : List UInt8 := [32, 119, 104, 101, 114, 101, 32] ++ m.name ++ (if m.not then [33] else []) ++ [61] ++ quoteL m.value
def plainT (q : Q) : List UInt8 := [102, 114, 111, 109, 32] ++ itoa q.since ++ [32, 116, 111, 32] ++ itoa q.till ++ q.ms.flatMap matT ++ (if opF q.filter = 1 then [] else [32, 102, 105, 110, 100, 32] ++ textF q.filter) ++
  (if q.desc then [32, 100, 101, 115, 99] else []) ++ [32, 108, 105, 109, 105, 116, 32] ++ itoa q.limit
def textQ (q : Q) : List UInt8 := if q.page = [] then plainT q else plainT q ++ [32, 112, 97, 103, 101, 32] ++ quoteL q.page

theorem matG_text (m : M) (h : TxtOk m.value) : [32] ++ gapT (matG m) = matT m ++ [32] := by
  unfold matG matT
  rw [gapT_cons, gapT_cons, gapT_cons, gap_one, quoteL_ok h, text_word, text_name, text_sign]
  cases m.not <;> simp [blanks, wWhere, wNe, wEq]
theorem msG_text : ∀ (ms : List M), (∀ m ∈ ms, TxtOk m.value) → [32] ++ gapT (ms.flatMap matG) = ms.flatMap matT ++ [32] := by
  intro ms
  induction ms with
  | nil => intro _; rfl
  | cons m l ih =>
    intro h
    rw [List.flatMap_cons, List.flatMap_cons, gapT_append, ← List.append_assoc, matG_text m (h m List.mem_cons_self), List.append_assoc, ih (fun x hx => h x (List.mem_cons_of_mem _ hx)), List.append_assoc]

theorem queryG_text (q : Q) (h : GoodQ q) : gapT (queryG q) = textQ q := by
  have hm := msG_text q.ms (fun m hm => (h.ms m hm).2)
  have hf : [32] ++ gapT (findG q.filter) = (if opF q.filter = 1 then [] else [32, 102, 105, 110, 100, 32] ++ textF q.filter) ++ [32] := by
    unfold findG
    split
    · rfl
    · rw [gapT_cons, toksF_text h.f, text_word]; simp [blanks, wFind]
  have hd : [32] ++ gapT (descG q.desc) = (if q.desc then [32, 100, 101, 115, 99] else []) ++ [32] := by
    cases q.desc <;> rfl
  have hl : [32] ++ gapT (limG q) = [32, 108, 105, 109, 105, 116, 32] ++ itoa q.limit ++ (if q.page = [] then [] else [32, 112, 97, 103, 101, 32] ++ quoteL q.page) := by
    unfold limG pageG
    by_cases hp : q.page = []
    · rw [if_pos hp, if_pos hp, if_pos hp, gapT_cons, gap_one, text_word, text_num]; simp [blanks, wLimit]
    · rw [if_neg hp, if_neg hp, if_neg hp, gapT_cons, gapT_cons, gapT_cons, gap_one, text_word, text_num, text_word, quoteL_ok h.page]; simp [blanks, wLimit, wPage]
  have e : ∀ (a b c d e f g x y z : List UInt8), [32] ++ a = x ++ [32] → [32] ++ b = y ++ [32] → [32] ++ c = z ++ [32] → [32] ++ d = e → e ++ ([32] ++ (a ++ (b ++ (c ++ d)))) = e ++ (x ++ (y ++ (z ++ e))) := by
    intro a b c d e f g x y z h1 h2 h3 h4
    rw [← List.append_assoc [32] a, h1, List.append_assoc x, ← List.append_assoc [32] b, h2, List.append_assoc y, ← List.append_assoc [32] c, h3, List.append_assoc z, h4]
  have e2 : [32] ++ (gapT (q.ms.flatMap matG) ++ (gapT (findG q.filter) ++ (gapT (descG q.desc) ++ gapT (limG q)))) = q.ms.flatMap matT ++ ((if opF q.filter = 1 then [] else [32, 102, 105, 110, 100, 32] ++ textF q.filter) ++ ((if q.desc then [32, 100, 101, 115, 99] else []) ++ ([32, 108, 105, 109, 105, 116, 32] ++ itoa q.limit ++ (if q.page = [] then [] else [32, 112, 97, 103, 101, 32] ++ quoteL q.page)))) := by
    rw [← List.append_assoc [32] (gapT (q.ms.flatMap matG)), hm, List.append_assoc (q.ms.flatMap matT), ← List.append_assoc [32] (gapT (findG q.filter)), hf, List.append_assoc _ [32], ← List.append_assoc [32] (gapT (descG q.desc)), hd, List.append_assoc _ [32], hl]
  unfold queryG
  rw [gapT_cons, gapT_cons, gapT_cons, gapT_cons, gapT_append, gapT_append, gapT_append, text_word, text_num, text_word, text_num]
  show wFrom ++ ([32] ++ (itoa q.since ++ ([32] ++ (wTo ++ ([32] ++ (itoa q.till ++ ([32] ++ _))))))) = _
  rw [e2]
  unfold textQ plainT
  by_cases hp : q.page = []
  · rw [if_pos hp, if_pos hp]; simp [wFrom, wTo]
  · rw [if_neg hp, if_neg hp]; simp [wFrom, wTo]

theorem queryG_ok (q : Q) (h : GoodQ q) : ∀ x ∈ queryG q, TokOk x.1 := by
  obtain ⟨oFrom, oTo, oLimit, oFind, _, _, _, _, _, _, _, _, oWhere, oDesc, oPage⟩ := wl_ws
  have ht := h.since
  have hu := h.till
  have hl := h.lim
  unfold timeOk at ht hu
  unfold limitOk at hl
  simp only [Bool.and_eq_true, decide_eq_true_eq] at ht hu hl
  intro x hx
  unfold queryG at hx
  rw [List.mem_cons, List.mem_cons, List.mem_cons, List.mem_cons, List.mem_append, List.mem_append, List.mem_append] at hx
  rcases hx with rfl | rfl | rfl | rfl | hx | hx | hx | hx
  · exact ok_word oFrom
  · exact ok_num (by omega) (by omega)
  · exact ok_word oTo
  · exact ok_num (by omega) (by omega)
  · obtain ⟨m, hm, hx⟩ := List.mem_flatMap.1 hx
    obtain ⟨h1, h2⟩ := h.ms m hm
    simp only [matG, List.mem_cons, List.not_mem_nil, or_false] at hx
    rcases hx with rfl | rfl | rfl | rfl
    · exact ok_word oWhere
    · exact ok_name h1.1 h1.2
    · cases m.not
      · exact ok_sign (.inr (.inl rfl))
      · exact ok_sign (.inl rfl)
    · exact ok_txt h2.1 h2.2
  · unfold findG at hx
    split at hx
    · cases hx
    · rcases List.mem_cons.1 hx with rfl | hx
      · exact ok_word oFind
      · exact toksF_ok h.f 1 x hx
  · unfold descG at hx
    split at hx
    · rw [List.mem_singleton] at hx; subst hx; exact ok_word oDesc
    · cases hx
  · unfold limG pageG at hx
    rcases List.mem_cons.1 hx with rfl | hx
    · exact ok_word oLimit
    · rcases List.mem_cons.1 hx with rfl | hx
      · exact ok_num (by omega) (by omega)
      · split at hx
        · cases hx
        · simp only [List.mem_cons, List.not_mem_nil, or_false] at hx
          rcases hx with rfl | rfl
          · exact ok_word oPage
          · exact ok_txt h.page.1 h.page.2

theorem limG_apart (q : Q) : apart (limG q) := by
  unfold limG pageG
  refine ⟨.inl (Nat.le_refl _), ?_⟩
  split
  · exact ⟨.inr (.inr (by intro y hy; cases hy)), trivial⟩
  · exact ⟨.inl (Nat.le_refl _), .inl (Nat.le_refl _), .inr (.inl (by show (4 : Int) ≤ 4; decide)), trivial⟩
theorem queryG_apart (q : Q) (h : GoodQ q) : apart (queryG q) := by
  unfold queryG
  refine ⟨.inl (Nat.le_refl _), .inl (Nat.le_refl _), .inl (Nat.le_refl _), .inl (Nat.le_refl _), ?_⟩
  have h1 : apart (descG q.desc ++ limG q) := by
    unfold descG
    split
    · exact ⟨.inl (Nat.le_refl _), limG_apart q⟩
    · exact limG_apart q
  have h2 : apart (findG q.filter ++ (descG q.desc ++ limG q)) := by
    unfold findG
    split
    · exact h1
    · exact ⟨.inl (Nat.le_refl _), toksF_apart h.f 1 _ ⟨h1, .inl (Nat.le_refl _)⟩⟩
  have h3 : ∀ ms : List M, apart (ms.flatMap matG ++ (findG q.filter ++ (descG q.desc ++ limG q))) := by
    intro ms
    induction ms with
    | nil => exact h2
    | cons m l ih =>
      rw [List.flatMap_cons, List.append_assoc]
      have h5 : (5 : Int) = (tokSign (if m.not then wNe else wEq)).kind := rfl
      exact ⟨.inl (Nat.le_refl _), .inr (.inr (by intro y hy; injection hy with hy; subst hy; show (4 : Int) ≤ 5; decide)), .inr (.inl (by show (4 : Int) ≤ 5; decide)), .inl (Nat.le_refl _), ih⟩
  exact h3 q.ms

/-! ### parse, over its tokens -/
theorem times_text (a b : Int) (sa sb : List UInt8) (p1 p2 p3 p4 : Int) (r : List Tok) (ha : timeOk a = true) (hb : timeOk b = true) (hab : a ≤ b) :
    timesR (⟨2, wFrom, 0, p1⟩ :: ⟨3, sa, a, p2⟩ :: ⟨2, wTo, 0, p3⟩ :: ⟨3, sb, b, p4⟩ :: r) = .ok (a, b, r) := by
  have : ¬ b < a := by omega
  simp [timesR, numberR, mustR, kindR, isIt, hdT, nextR, ha, hb, this]
theorem matcher_text (m : M) (p1 p2 p3 : Int) (r : List Tok) : matcherR (⟨1, m.name, 0, p1⟩ :: ⟨5, if m.not then wNe else wEq, 0, p2⟩ :: ⟨4, m.value, 0, p3⟩ :: r) = .ok (m, r) := by
  obtain ⟨nm, b, v⟩ := m
  unfold matcherR
  rw [kindR, hd_cons, if_pos (by rfl), next_cons _ _ (by simp)]
  dsimp only
  cases b with
  | true =>
    rw [hd_cons, if_pos (by rfl), next_cons _ _ (by simp), kind_txt]
  | false =>
    rw [hd_cons, if_neg (nt (by rfl)), mustR, hd_cons, if_pos (by rfl), next_cons _ _ (by simp)]
    dsimp only
    rw [kind_txt]
theorem matchers_text : ∀ (ms out : List M) (fuel p : Nat) (R : List Tok), out.length + ms.length ≤ 4 → ms.length < fuel → isIt (hdT R) wWhere = false →
    matchersR fuel out (placed p (ms.flatMap matG) ++ R) = .ok (out ++ ms, R) := by
  intro ms
  induction ms with
  | nil =>
    intro out fuel p R _ hf hR
    obtain ⟨fuel, rfl⟩ : ∃ j, fuel = j + 1 := ⟨fuel - 1, by simp at hf; omega⟩
    rw [matchersR, List.append_nil]
    exact if_neg (nt hR)
  | cons m l ih =>
    intro out fuel p R hl hf hR
    obtain ⟨fuel, rfl⟩ : ∃ j, fuel = j + 1 := ⟨fuel - 1, by simp at hf; omega⟩
    rw [List.length_cons] at hl hf
    rw [List.flatMap_cons, placed_append, List.append_assoc]
    show matchersR (fuel + 1) out (⟨2, wWhere, 0, _⟩ :: ⟨1, m.name, 0, _⟩ :: ⟨5, if m.not then wNe else wEq, 0, _⟩ :: ⟨4, m.value, 0, _⟩ :: (placed _ (l.flatMap matG) ++ R)) = _
    rw [matchersR, hd_cons, if_pos (by rfl), if_neg (by omega), next_cons _ _ (by simp), matcher_text]
    dsimp only
    rw [ih (out ++ [m]) fuel _ R (by simp; omega) (by omega) hR, List.append_assoc]
    rfl

theorem depF_len {f : F} (h : GoodF f) : ∀ g, depF f < (toksF f g).length := by
  have hk : ∀ {k : F}, (∀ g, depF k < (toksF k g).length) → ∀ g, depK k < (kidT k g).length := by
    intro k h g
    unfold depK kidT
    split
    · have := h 0
      simp only [List.length_cons, List.length_append, List.length_nil]; omega
    · have := h g
      omega
  have hl : ∀ (w : List UInt8) (l : List F) (g : Nat), l ≠ [] → (∀ k ∈ l, ∀ g, depK k < (kidT k g).length) → depL l < (toksL w l g).length := by
    intro w l
    induction l with
    | nil => intro g h; exact absurd rfl h
    | cons k l ih =>
      intro g _ h
      cases l with
      | nil =>
        rw [toksL_one, depL_cons, depL]
        have := h k List.mem_cons_self g
        omega
      | cons k2 l =>
        have h1 := ih g (by simp) (fun x hx => h x (List.mem_cons_of_mem _ hx))
        have h2 := h k List.mem_cons_self 1
        rw [toksL_more, depL_cons, List.length_append, List.length_cons]
        omega
  induction h with
  | yes => intro g; rw [toksF, if_pos rfl, depF, if_neg (by decide), depL]; simp
  | no => intro g; rw [toksF, if_neg (by decide), if_pos rfl, depF, if_neg (by decide), depL]; simp
  | word t ht => intro g; rw [toksF, if_neg (by decide), if_neg (by decide), if_pos rfl, depF, if_neg (by decide), depL]; simp
  | has t ht => intro g; rw [toksF, if_neg (by decide), if_neg (by decide), if_neg (by decide), if_pos rfl, depF, if_neg (by decide), depL]; simp
  | field n t hn ht => intro g; rw [toksF, if_neg (by decide), if_neg (by decide), if_neg (by decide), if_neg (by decide), if_pos rfl, depF, if_neg (by decide), depL]; simp
  | nay k hk1 ih =>
    intro g
    rw [toksF, if_neg (by decide), if_neg (by decide), if_neg (by decide), if_neg (by decide), if_neg (by decide), if_pos rfl, depF_nay, toksL_one]
    have := hk ih g
    rw [List.length_cons]; omega
  | row op ks ho h2 hk1 ih =>
    intro g
    rw [toksF_row ho, depF_row ho]
    exact hl _ ks g (by intro e; rw [e] at h2; simp at h2) (fun k hk2 g => hk (ih k hk2) g)

theorem goodF_one {f : F} (h : GoodF f) (h1 : opF f = 1) : f = .mk 1 [] [] [] := by
  cases h with
  | yes => rfl
  | no => cases h1
  | word t ht => cases h1
  | has t ht => cases h1
  | field n t hn ht => cases h1
  | nay k hk => cases h1
  | row op ks ho h2 hk => exfalso; have : op = 1 := h1; omega

theorem head_find (f : F) (p : Nat) (R : List Tok) (s : List UInt8) (h1 : isIt (hdT R) s = false) (h2 : isIt ⟨2, wFind, 0, 0⟩ s = false) : isIt (hdT (placed p (findG f) ++ R)) s = false := by
  unfold findG
  split
  · exact h1
  · exact h2
theorem head_desc (b : Bool) (p : Nat) (R : List Tok) (s : List UInt8) (h1 : isIt (hdT R) s = false) (h2 : isIt ⟨2, wDesc, 0, 0⟩ s = false) : isIt (hdT (placed p (descG b) ++ R)) s = false := by
  unfold descG
  split
  · exact h2
  · exact h1
theorem head_lim (q : Q) (p : Nat) (R : List Tok) (s : List UInt8) (h2 : isIt ⟨2, wLimit, 0, 0⟩ s = false) : isIt (hdT (placed p (limG q) ++ R)) s = false := h2

theorem msG_len (ms : List M) : ms.length ≤ (ms.flatMap matG).length := by
  induction ms with
  | nil => exact Nat.le_refl _
  | cons m l ih =>
    have h4 : (matG m).length = 4 := rfl
    rw [List.flatMap_cons, List.length_append, List.length_cons, h4]
    omega
theorem query_text (q : Q) (h : GoodQ q) (p : Nat) (e : Int) : queryR (placed p (queryG q) ++ [⟨0, [], 0, e⟩]) = .ok q := by
  obtain ⟨since, till, ms, f, desc, limit, page⟩ := q
  obtain ⟨h1, h2, h3, h4, h5, h6, h7, h8, h9⟩ := h
  dsimp only at h1 h2 h3 h4 h5 h6 h7 h8 h9
  unfold queryG
  show queryR (⟨2, wFrom, 0, _⟩ :: ⟨3, itoa since, since, _⟩ :: ⟨2, wTo, 0, _⟩ :: ⟨3, itoa till, till, _⟩ :: (placed _ (ms.flatMap matG ++ (findG f ++ (descG desc ++ limG ⟨since, till, ms, f, desc, limit, page⟩))) ++ [⟨0, [], 0, e⟩])) = _
  unfold queryR
  rw [times_text _ _ _ _ _ _ _ _ _ h1 h2 h3]
  dsimp only
  rw [placed_append, placed_append, placed_append, List.append_assoc, List.append_assoc, List.append_assoc]
  generalize p + (tokText (tokWord wFrom)).length + 1 + (tokText (tokNum since)).length + 1 + (tokText (tokWord wTo)).length + 1 + (tokText (tokNum till)).length + 1 = p1
  generalize p1 + (gapT (ms.flatMap matG)).length = p2
  generalize p2 + (gapT (findG f)).length = p3
  generalize p3 + (gapT (descG desc)).length = p4
  have hd : descR (placed p3 (descG desc) ++ (placed p4 (limG ⟨since, till, ms, f, desc, limit, page⟩) ++ [⟨0, [], 0, e⟩])) = placed p4 (limG ⟨since, till, ms, f, desc, limit, page⟩) ++ [⟨0, [], 0, e⟩] ∧
      isIt (hdT (placed p3 (descG desc) ++ (placed p4 (limG ⟨since, till, ms, f, desc, limit, page⟩) ++ [⟨0, [], 0, e⟩]))) wDesc = desc := by
    cases desc
    · exact ⟨if_neg (nt (head_lim _ _ _ _ (by decide))), head_lim _ _ _ _ (by decide)⟩
    · exact ⟨by
        show descR (⟨2, wDesc, 0, _⟩ :: _) = _
        rw [descR, hd_cons, if_pos (by rfl), next_cons _ _ (by simp)]
        rfl, rfl⟩
  have hlim : numberR (placed p4 (limG ⟨since, till, ms, f, desc, limit, page⟩) ++ [⟨0, [], 0, e⟩]) wLimit limitOk = .ok (limit, placed (p4 + (tokText (tokWord wLimit)).length + 1 + (tokText (tokNum limit)).length + (if page = [] then 0 else 1)) (pageG page) ++ [⟨0, [], 0, e⟩]) := by
    show numberR (⟨2, wLimit, 0, _⟩ :: ⟨3, itoa limit, limit, _⟩ :: (placed _ (pageG page) ++ [⟨0, [], 0, e⟩])) wLimit limitOk = _
    unfold numberR
    rw [mustR, hd_cons, if_pos (by rfl), next_cons _ _ (by simp)]
    dsimp only
    rw [kindR, hd_cons, if_pos (by rfl), next_cons _ _ (by simp)]
    dsimp only
    rw [if_pos h8]
  have hpage : ∀ p5, pageR (placed p5 (pageG page) ++ [⟨0, [], 0, e⟩]) = .ok (page, [⟨0, [], 0, e⟩]) := by
    intro p5
    unfold pageG
    by_cases hp : page = []
    · rw [if_pos hp, hp]; rfl
    · rw [if_neg hp]
      show pageR (⟨2, wPage, 0, _⟩ :: ⟨4, page, 0, _⟩ :: [⟨0, [], 0, e⟩]) = _
      rw [pageR, hd_cons, if_pos (by rfl), next_cons _ _ (by simp), kind_txt]
  have hw : isIt (hdT (placed p2 (findG f) ++ (placed p3 (descG desc) ++ (placed p4 (limG ⟨since, till, ms, f, desc, limit, page⟩) ++ [⟨0, [], 0, e⟩])))) wWhere = false :=
    head_find _ _ _ _ (head_desc _ _ _ _ (head_lim _ _ _ _ (by decide)) (by decide)) (by decide)
  have hml : ms.length ≤ (placed p1 (ms.flatMap matG)).length := by
    rw [placed_len]
    exact msG_len ms
  rw [matchers_text ms [] _ p1 _ (by simpa using h5) (by rw [List.length_append]; omega) hw]
  dsimp only
  have hfind : findR (placed p2 (findG f) ++ (placed p3 (descG desc) ++ (placed p4 (limG ⟨since, till, ms, f, desc, limit, page⟩) ++ [⟨0, [], 0, e⟩]))) = .ok (f, placed p3 (descG desc) ++ (placed p4 (limG ⟨since, till, ms, f, desc, limit, page⟩) ++ [⟨0, [], 0, e⟩])) := by
    unfold findG
    by_cases ho : opF f = 1
    · rw [if_pos ho, goodF_one h6 ho]
      show findR (placed p3 (descG desc) ++ _) = _
      exact if_neg (nt (head_desc _ _ _ _ (head_lim _ _ _ _ (by decide)) (by decide)))
    · rw [if_neg ho]
      show findR (⟨2, wFind, 0, _⟩ :: (placed _ (toksF f 1) ++ _)) = _
      rw [findR, hd_cons, if_pos (by rfl), next_cons _ _ (by simp)]
      refine (reads_all h6).2 _ 0 _ 1 _ (by omega) ?_ ⟨head_desc _ _ _ _ (head_lim _ _ _ _ (by decide)) (by decide), head_desc _ _ _ _ (head_lim _ _ _ _ (by decide)) (by decide)⟩
      have := depF_len h6 1
      rw [List.length_cons, List.length_append, placed_len]
      omega
  rw [hfind]
  dsimp only
  rw [hd.1, hlim]
  dsimp only
  rw [hpage]
  dsimp only
  rw [kindR, hd_cons, if_pos (by rfl), hd.2]
  rfl

/-- A QUERY'S TEXT IS PARSED TO IT. -/
theorem parse_text (q : Q) (h : GoodQ q) (hl : (textQ q).length ≤ 1024) : parseA ⟨(textQ q).toArray⟩ = .ok q := by
  have hg := lexA_gap (queryG q) (queryG_ok q h) (queryG_apart q h) (by rw [queryG_text q h]; exact hl)
  unfold parseA
  rw [← queryG_text q h, hg]
  exact query_text q h 1 _
theorem parse_long {s : ByteArray} (h : 1024 < s.size) : parseA s = .error (6, 1) := by
  unfold parseA lexA
  rw [if_pos h]
end Go.Proofs.YtebblpmocheelaaGreatDoor
