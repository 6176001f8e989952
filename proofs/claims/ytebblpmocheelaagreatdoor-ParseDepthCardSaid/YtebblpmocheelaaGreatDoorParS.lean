/- A query's text and its tokens; parse makes the query of them. -/
import Derived.Test.YtebblpmocheelaaGreatDoorParD
namespace Go.Proofs.YtebblpmocheelaaGreatDoor
open Go.Lib

/-! ### Filters that can be -/
def TxtOk (t : List UInt8) : Prop := Val t ∧ (10 : UInt8) ∉ t
def NameOk (n : List UInt8) : Prop := nameR n = true ∧ n ∉ wl
def opF : F → Int
  | .mk op _ _ _ => op
def kidsF : F → List F
  | .mk _ _ _ kids => kids

inductive GoodF : F → Prop
  | yes : GoodF (.mk 1 [] [] [])
  | no : GoodF (.mk 2 [] [] [])
  | word (t : List UInt8) (h : TxtOk t) : GoodF (.mk 3 [] t [])
  | has (t : List UInt8) (h : TxtOk t) : GoodF (.mk 4 [] t [])
  | field (n t : List UInt8) (hn : NameOk n) (h : TxtOk t) : GoodF (.mk 5 n t [])
  | nay (k : F) (h : GoodF k) : GoodF (.mk 6 [] [] [k])
  | row (op : Int) (ks : List F) (ho : op = 7 ∨ op = 8) (h2 : 2 ≤ ks.length) (h : ∀ k ∈ ks, GoodF k) : GoodF (.mk op [] [] ks)

/-! ### Their tokens -/
mutual
def toksF : F → Nat → List (Tok × Nat)
  | .mk op name text kids, g =>
    if op = 1 then [(tokWord wTrue, g)]
    else if op = 2 then [(tokWord wFalse, g)]
    else if op = 3 then [(tokWord wWord, 1), (tokTxt text, g)]
    else if op = 4 then [(tokWord wHas, 1), (tokTxt text, g)]
    else if op = 5 then [(tokWord wField, 1), (tokName name, 0), (tokSign wEq, 0), (tokTxt text, g)]
    else if op = 6 then (tokWord wNot, 1) :: toksL wAnd kids g
    else if op = 7 then toksL wAnd kids g
    else toksL wOr kids g
def toksL (w : List UInt8) : List F → Nat → List (Tok × Nat)
  | [], _ => []
  | k :: l, g =>
    (if 7 ≤ opF k then (tokSign wOpen, 0) :: (toksF k 0 ++ [(tokSign wShut, if l.isEmpty then g else 1)]) else toksF k (if l.isEmpty then g else 1)) ++
      (if l.isEmpty then [] else (tokWord w, 1) :: toksL w l g)
end
def kidT (k : F) (g : Nat) : List (Tok × Nat) := if 7 ≤ opF k then (tokSign wOpen, 0) :: (toksF k 0 ++ [(tokSign wShut, g)]) else toksF k g
theorem toksL_one (w : List UInt8) (k : F) (g : Nat) : toksL w [k] g = kidT k g := by
  rw [toksL]; simp [kidT]
theorem toksL_more (w : List UInt8) (k k2 : F) (l : List F) (g : Nat) : toksL w (k :: k2 :: l) g = kidT k 1 ++ (tokWord w, 1) :: toksL w (k2 :: l) g := by
  rw [toksL]; simp [kidT]

/-! ### How deep they are -/
mutual
def depF : F → Nat
  | .mk op _ _ kids => if op = 6 then 1 + depL kids else depL kids
def depL : List F → Nat
  | [] => 0
  | k :: l => max ((if 7 ≤ opF k then 1 else 0) + depF k) (depL l)
end
def depK (k : F) : Nat := (if 7 ≤ opF k then 1 else 0) + depF k
theorem depL_cons (k : F) (l : List F) : depL (k :: l) = max (depK k) (depL l) := by rw [depL]; rfl
theorem depL_mem {k : F} {l : List F} (h : k ∈ l) : depK k ≤ depL l := by
  induction l with
  | nil => cases h
  | cons a l ih =>
    rw [depL_cons]
    rcases List.mem_cons.1 h with rfl | h
    · exact Nat.le_max_left _ _
    · exact Nat.le_trans (ih h) (Nat.le_max_right _ _)
theorem depL_le {l : List F} {n : Nat} (h : ∀ k ∈ l, depK k ≤ n) : depL l ≤ n := by
  induction l with
  | nil => rw [depL]; exact Nat.zero_le _
  | cons a l ih =>
    rw [depL_cons]
    exact Nat.max_le.2 ⟨h a List.mem_cons_self, ih (fun k hk => h k (List.mem_cons_of_mem _ hk))⟩

/-! ### Their text -/
def quoteL (t : List UInt8) : List UInt8 := if isTextL t then 34 :: (escB t ++ [34]) else []
def sepT (op : Int) : List UInt8 := if op = 7 then [32, 97, 110, 100, 32] else if op = 8 then [32, 111, 114, 32] else []
mutual
def textF : F → List UInt8
  | .mk op name text kids =>
    if op = 1 then [116, 114, 117, 101]
    else if op = 2 then [102, 97, 108, 115, 101]
    else if op = 3 then [119, 111, 114, 100, 32] ++ quoteL text
    else if op = 4 then [104, 97, 115, 32] ++ quoteL text
    else if op = 5 then [102, 105, 101, 108, 100, 32] ++ name ++ [61] ++ quoteL text
    else if op = 6 then [110, 111, 116, 32] ++ textL op true kids
    else textL op true kids
def textL (op : Int) : Bool → List F → List UInt8
  | _, [] => []
  | first, k :: l => (if first then [] else sepT op) ++ (if 7 ≤ opF k then [40] ++ textF k ++ [41] else textF k) ++ textL op false l
end
def partT (k : F) : List UInt8 := if 7 ≤ opF k then [40] ++ textF k ++ [41] else textF k
theorem textL_cons (op : Int) (b : Bool) (k : F) (l : List F) : textL op b (k :: l) = (if b then [] else sepT op) ++ partT k ++ textL op false l := by rw [textL]; rfl
theorem textL_nil (op : Int) (b : Bool) : textL op b [] = [] := by rw [textL]

theorem txt_is {t : List UInt8} (h : TxtOk t) : isTextL t = true := by
  unfold isTextL
  rw [contains_one, valid_of h.1, decide_eq_false h.2]; rfl
theorem quoteL_ok {t : List UInt8} (h : TxtOk t) : quoteL t = tokText (tokTxt t) := by
  unfold quoteL
  rw [if_pos (txt_is h)]; rfl

theorem gap_one (x : Tok × Nat) : gapT [x] = tokText x.1 ++ blanks x.2 := by rw [gapT_cons]; simp [gapT]
theorem kidT_text {k : F} (h : ∀ g, gapT (toksF k g) = textF k ++ blanks g) (g : Nat) : gapT (kidT k g) = partT k ++ blanks g := by
  unfold kidT partT
  by_cases h7 : 7 ≤ opF k
  · rw [if_pos h7, if_pos h7, gapT_cons, gapT_append, h, gap_one, text_sign, text_sign]
    simp [blanks, wOpen, wShut]
  · rw [if_neg h7, if_neg h7, h]
theorem toksL_text {op : Int} {w : List UInt8} (hw : sepT op = [32] ++ w ++ [32]) : ∀ (l : List F) (k : F) (g : Nat), (∀ x ∈ k :: l, ∀ g, gapT (toksF x g) = textF x ++ blanks g) → gapT (toksL w (k :: l) g) = partT k ++ textL op false l ++ blanks g := by
  intro l
  induction l with
  | nil =>
    intro k g h
    rw [toksL_one, kidT_text (h k List.mem_cons_self), textL_nil, List.append_nil]
  | cons k2 l ih =>
    intro k g h
    rw [toksL_more, gapT_append, gapT_cons, kidT_text (h k List.mem_cons_self), ih k2 g (fun x hx => h x (List.mem_cons_of_mem _ hx)), textL_cons, if_neg (by decide), hw, text_word]
    simp [blanks]

theorem textF_row {op : Int} (ho : op = 7 ∨ op = 8) (ks : List F) : textF (.mk op [] [] ks) = textL op true ks := by
  rw [textF, if_neg (by omega), if_neg (by omega), if_neg (by omega), if_neg (by omega), if_neg (by omega), if_neg (by omega)]
theorem toksF_row {op : Int} (ho : op = 7 ∨ op = 8) (ks : List F) (g : Nat) : toksF (.mk op [] [] ks) g = toksL (if op = 7 then wAnd else wOr) ks g := by
  rw [toksF, if_neg (by omega), if_neg (by omega), if_neg (by omega), if_neg (by omega), if_neg (by omega), if_neg (by omega)]
  split <;> rfl
theorem sep_is {op : Int} (ho : op = 7 ∨ op = 8) : sepT op = [32] ++ (if op = 7 then wAnd else wOr) ++ [32] := by rcases ho with rfl | rfl <;> rfl

/-- A filter's tokens are its text. -/
theorem toksF_text {f : F} (h : GoodF f) : ∀ g, gapT (toksF f g) = textF f ++ blanks g := by
  induction h with
  | yes => intro g; rw [toksF, textF, if_pos rfl, if_pos rfl, gap_one]; rfl
  | no => intro g; rw [toksF, textF]; exact gap_one _
  | word t ht =>
    intro g
    rw [toksF, textF]
    show gapT [(tokWord wWord, 1), (tokTxt t, g)] = [119, 111, 114, 100, 32] ++ quoteL t ++ blanks g
    rw [gapT_cons, gap_one, quoteL_ok ht]
    rfl
  | has t ht =>
    intro g
    rw [toksF, textF]
    show gapT [(tokWord wHas, 1), (tokTxt t, g)] = [104, 97, 115, 32] ++ quoteL t ++ blanks g
    rw [gapT_cons, gap_one, quoteL_ok ht]
    rfl
  | field n t hn ht =>
    intro g
    rw [toksF, textF]
    show gapT [(tokWord wField, 1), (tokName n, 0), (tokSign wEq, 0), (tokTxt t, g)] = [102, 105, 101, 108, 100, 32] ++ n ++ [61] ++ quoteL t ++ blanks g
    rw [gapT_cons, gapT_cons, gapT_cons, gap_one, quoteL_ok ht, text_word, text_name, text_sign]
    simp [blanks, wField, wEq]
  | nay k hk ih =>
    intro g
    rw [toksF, textF]
    show gapT ((tokWord wNot, 1) :: toksL wAnd [k] g) = [110, 111, 116, 32] ++ textL 6 true [k] ++ blanks g
    rw [gapT_cons, toksL_one, kidT_text ih, textL_cons, textL_nil, if_pos rfl, List.append_nil, List.nil_append]
    rfl
  | row op ks ho h2 hk ih =>
    intro g
    rw [toksF_row ho, textF_row ho]
    cases ks with
    | nil => simp at h2
    | cons k l => rw [toksL_text (sep_is ho) l k g ih, textL_cons, if_pos rfl, List.nil_append]

/-! ### The tokens can be, and stand apart -/
theorem toksL_mem (w : List UInt8) (P : Tok × Nat → Prop) (hw : P (tokWord w, 1)) : ∀ (l : List F) (g : Nat), (∀ k ∈ l, ∀ g, ∀ x ∈ kidT k g, P x) → ∀ x ∈ toksL w l g, P x := by
  intro l
  induction l with
  | nil => intro g _ x hx; rw [toksL] at hx; cases hx
  | cons k l ih =>
    intro g h x hx
    cases l with
    | nil => rw [toksL_one] at hx; exact h k List.mem_cons_self g x hx
    | cons k2 l =>
      rw [toksL_more] at hx
      rcases List.mem_append.1 hx with hx | hx
      · exact h k List.mem_cons_self 1 x hx
      · rcases List.mem_cons.1 hx with rfl | hx
        · exact hw
        · exact ih g (fun y hy => h y (List.mem_cons_of_mem _ hy)) x hx
theorem kidT_ok {k : F} (h : ∀ g, ∀ x ∈ toksF k g, TokOk x.1) (g : Nat) : ∀ x ∈ kidT k g, TokOk x.1 := by
  intro x hx
  unfold kidT at hx
  split at hx
  · rcases List.mem_cons.1 hx with rfl | hx
    · exact ok_sign (.inr (.inr (.inl rfl)))
    · rcases List.mem_append.1 hx with hx | hx
      · exact h 0 x hx
      · rw [List.mem_singleton] at hx; subst hx; exact ok_sign (.inr (.inr (.inr rfl)))
  · exact h g x hx
theorem toksF_ok {f : F} (h : GoodF f) : ∀ g, ∀ x ∈ toksF f g, TokOk x.1 := by
  obtain ⟨_, _, _, _, oNot, oTrue, oFalse, oWord, oHas, oField, oAnd, oOr, _⟩ := wl_ws
  induction h with
  | yes => intro g x hx; rw [toksF, if_pos rfl, List.mem_singleton] at hx; subst hx; exact ok_word oTrue
  | no => intro g x hx; rw [toksF, if_neg (by decide), if_pos rfl, List.mem_singleton] at hx; subst hx; exact ok_word oFalse
  | word t ht =>
    intro g x hx
    rw [toksF, if_neg (by decide), if_neg (by decide), if_pos rfl] at hx
    simp only [List.mem_cons, List.not_mem_nil, or_false] at hx
    rcases hx with rfl | rfl
    · exact ok_word oWord
    · exact ok_txt ht.1 ht.2
  | has t ht =>
    intro g x hx
    rw [toksF, if_neg (by decide), if_neg (by decide), if_neg (by decide), if_pos rfl] at hx
    simp only [List.mem_cons, List.not_mem_nil, or_false] at hx
    rcases hx with rfl | rfl
    · exact ok_word oHas
    · exact ok_txt ht.1 ht.2
  | field n t hn ht =>
    intro g x hx
    rw [toksF, if_neg (by decide), if_neg (by decide), if_neg (by decide), if_neg (by decide), if_pos rfl] at hx
    simp only [List.mem_cons, List.not_mem_nil, or_false] at hx
    rcases hx with rfl | rfl | rfl | rfl
    · exact ok_word oField
    · exact ok_name hn.1 hn.2
    · exact ok_sign (.inr (.inl rfl))
    · exact ok_txt ht.1 ht.2
  | nay k hk ih =>
    intro g x hx
    rw [toksF, if_neg (by decide), if_neg (by decide), if_neg (by decide), if_neg (by decide), if_neg (by decide), if_pos rfl] at hx
    rcases List.mem_cons.1 hx with rfl | hx
    · exact ok_word oNot
    · rw [toksL_one] at hx
      exact kidT_ok ih g x hx
  | row op ks ho h2 hk ih =>
    intro g x hx
    rw [toksF_row ho] at hx
    refine toksL_mem _ (fun x => TokOk x.1) ?_ ks g (fun k hk g => kidT_ok (ih k hk) g) x hx
    rcases ho with rfl | rfl
    · exact ok_word oAnd
    · exact ok_word oOr

/-- What stands behind lets the last one end. -/
def lets (g : Nat) (m : List (Tok × Nat)) : Prop := apart m ∧ (1 ≤ g ∨ ∀ y ∈ m.head?, 4 ≤ y.1.kind)
theorem kidT_apart {k : F} (h : ∀ g m, lets g m → apart (toksF k g ++ m)) (g : Nat) (m : List (Tok × Nat)) (hm : lets g m) : apart (kidT k g ++ m) := by
  unfold kidT
  split
  · refine ⟨.inr (.inl (by decide)), ?_⟩
    show apart (toksF k 0 ++ [(tokSign wShut, g)] ++ m)
    rw [List.append_assoc]
    exact h 0 _ ⟨⟨.inr (.inl (by show (4 : Int) ≤ 5; decide)), hm.1⟩, .inr (by intro y hy; injection hy with hy; subst hy; show (4 : Int) ≤ 5; decide)⟩
  · exact h g m hm
theorem toksL_apart (w : List UInt8) : ∀ (l : List F) (g : Nat) (m : List (Tok × Nat)), (∀ k ∈ l, ∀ g m, lets g m → apart (toksF k g ++ m)) → lets g m → apart (toksL w l g ++ m) := by
  intro l
  induction l with
  | nil => intro g m _ hm; rw [toksL]; exact hm.1
  | cons k l ih =>
    intro g m h hm
    cases l with
    | nil => rw [toksL_one]; exact kidT_apart (h k List.mem_cons_self) g m hm
    | cons k2 l =>
      rw [toksL_more, List.append_assoc]
      refine kidT_apart (h k List.mem_cons_self) 1 _ ⟨⟨.inl (Nat.le_refl _), ?_⟩, .inl (Nat.le_refl _)⟩
      exact ih g m (fun y hy => h y (List.mem_cons_of_mem _ hy)) hm
theorem toksF_apart {f : F} (h : GoodF f) : ∀ g m, lets g m → apart (toksF f g ++ m) := by
  induction h with
  | yes => intro g m hm; rw [toksF, if_pos rfl]; exact ⟨hm.2.elim .inl (fun h => .inr (.inr h)), hm.1⟩
  | no => intro g m hm; rw [toksF, if_neg (by decide), if_pos rfl]; exact ⟨hm.2.elim .inl (fun h => .inr (.inr h)), hm.1⟩
  | word t ht => intro g m hm; rw [toksF, if_neg (by decide), if_neg (by decide), if_pos rfl]; exact ⟨.inl (Nat.le_refl _), .inr (.inl (by show (4 : Int) ≤ 4; decide)), hm.1⟩
  | has t ht => intro g m hm; rw [toksF, if_neg (by decide), if_neg (by decide), if_neg (by decide), if_pos rfl]; exact ⟨.inl (Nat.le_refl _), .inr (.inl (by show (4 : Int) ≤ 4; decide)), hm.1⟩
  | field n t hn ht =>
    intro g m hm
    rw [toksF, if_neg (by decide), if_neg (by decide), if_neg (by decide), if_neg (by decide), if_pos rfl]
    exact ⟨.inl (Nat.le_refl _), .inr (.inr (by intro y hy; injection hy with hy; subst hy; decide)), .inr (.inl (by decide)), .inr (.inl (by show (4 : Int) ≤ 4; decide)), hm.1⟩
  | nay k hk ih =>
    intro g m hm
    rw [toksF, if_neg (by decide), if_neg (by decide), if_neg (by decide), if_neg (by decide), if_neg (by decide), if_pos rfl, toksL_one]
    exact ⟨.inl (Nat.le_refl _), kidT_apart ih g m hm⟩
  | row op ks ho h2 hk ih =>
    intro g m hm
    rw [toksF_row ho]
    exact toksL_apart _ ks g m ih hm

/-! ### What parse makes of them -/
theorem rowF_two (op : Int) {ks : List F} (h : 2 ≤ ks.length) : rowF op ks = .mk op [] [] ks := by
  match ks, h with
  | _ :: _ :: _, _ => rfl

theorem rowR_rest {op : Int} {w : List UInt8} {next : List Tok → Except Err (F × List Tok)} {C : List Tok → Prop} {R : List Tok} (hww : isIt ⟨2, w, 0, 0⟩ w = true) (hC : ∀ q r, C (⟨2, w, 0, q⟩ :: r)) (hR : C R) (hend : isIt (hdT R) w = false) :
    ∀ (l : List F) (k : F) (acc : List F) (m p : Nat) (q : Int) (g : Nat), 0 < acc.length → l.length + 1 < m → (∀ x ∈ k :: l, ∀ p g R', C R' → next (placed p (kidT x g) ++ R') = .ok (x, R')) →
      rowR op w next m acc (⟨2, w, 0, q⟩ :: (placed p (toksL w (k :: l) g) ++ R)) = .ok (rowF op (acc ++ k :: l), R) := by
  intro l
  induction l with
  | nil =>
    intro k acc m p q g ha hm hn
    obtain ⟨m, rfl⟩ : ∃ j, m = j + 2 := ⟨m - 2, by simp at hm; omega⟩
    have h1 := hn k List.mem_cons_self p g R hR
    rw [toksL_one, rowR, if_neg (by omega), if_pos (by exact hww), next_cons _ _ (by simp), h1]
    dsimp only
    rw [rowR, if_neg (by simp), if_neg (nt hend)]
  | cons k2 l ih =>
    intro k acc m p q g ha hm hn
    obtain ⟨m, rfl⟩ : ∃ j, m = j + 1 := ⟨m - 1, by simp at hm; omega⟩
    rw [toksL_more, placed_append, List.append_assoc]
    have h1 := hn k List.mem_cons_self p 1 (placed (p + (gapT (kidT k 1)).length) ((tokWord w, 1) :: toksL w (k2 :: l) g) ++ R) (hC _ _)
    rw [rowR, if_neg (by omega), if_pos (by exact hww), next_cons _ _ (by simp), h1]
    dsimp only
    have h2 := ih k2 (acc ++ [k]) m (p + (gapT (kidT k 1)).length + (tokText (tokWord w)).length + 1) ((p + (gapT (kidT k 1)).length : Nat) : Int) g (by simp) (by simp at hm ⊢; omega) (fun x hx => hn x (List.mem_cons_of_mem _ hx))
    rw [List.append_assoc, List.singleton_append] at h2
    exact h2
theorem rowR_all {op : Int} {w : List UInt8} {next : List Tok → Except Err (F × List Tok)} {C : List Tok → Prop} {R : List Tok} (hww : isIt ⟨2, w, 0, 0⟩ w = true) (hC : ∀ q r, C (⟨2, w, 0, q⟩ :: r)) (hR : C R) (hend : isIt (hdT R) w = false)
    (ks : List F) (m p g : Nat) (h2 : 2 ≤ ks.length) (hm : ks.length + 1 < m) (hn : ∀ x ∈ ks, ∀ p g R', C R' → next (placed p (kidT x g) ++ R') = .ok (x, R')) :
      rowR op w next m [] (placed p (toksL w ks g) ++ R) = .ok (.mk op [] [] ks, R) := by
  match ks, h2 with
  | k :: k2 :: l, h2 =>
    obtain ⟨m, rfl⟩ : ∃ j, m = j + 1 := ⟨m - 1, by omega⟩
    rw [toksL_more, placed_append, List.append_assoc]
    have h1 := hn k List.mem_cons_self p 1 (placed (p + (gapT (kidT k 1)).length) ((tokWord w, 1) :: toksL w (k2 :: l) g) ++ R) (hC _ _)
    rw [rowR, if_pos (show ([] : List F).length = 0 from rfl), h1]
    dsimp only
    have h3 := rowR_rest (op := op) hww hC hR hend l k2 ([] ++ [k]) m (p + (gapT (kidT k 1)).length + (tokText (tokWord w)).length + 1) ((p + (gapT (kidT k 1)).length : Nat) : Int) g (by simp) (by simp at hm ⊢; omega) (fun x hx => hn x (List.mem_cons_of_mem _ hx))
    rw [← rowF_two op h2]
    exact h3

theorem toksL_len (w : List UInt8) (l : List F) (g : Nat) (h : ∀ k ∈ l, ∀ g, 0 < (kidT k g).length) : l.length ≤ (toksL w l g).length := by
  induction l with
  | nil => exact Nat.zero_le _
  | cons k l ih =>
    cases l with
    | nil => rw [toksL_one]; exact h k List.mem_cons_self g
    | cons k2 l =>
      have := ih (fun x hx => h x (List.mem_cons_of_mem _ hx))
      rw [toksL_more, List.length_append]
      simp only [List.length_cons] at this ⊢
      omega
theorem toksL_double (w : List UInt8) (k k2 : F) (l : List F) (g : Nat) (h : ∀ x ∈ k :: k2 :: l, ∀ g, 0 < (kidT x g).length) : (k :: k2 :: l).length < (toksL w (k :: k2 :: l) g).length := by
  have h1 := toksL_len w (k2 :: l) g (fun x hx => h x (List.mem_cons_of_mem _ hx))
  have h2 := h k List.mem_cons_self 1
  rw [toksL_more, List.length_append]
  simp only [List.length_cons] at h1 ⊢
  omega
theorem kidT_pos {k : F} (h : ∀ g, 0 < (toksF k g).length) (g : Nat) : 0 < (kidT k g).length := by
  unfold kidT
  split
  · simp
  · exact h g
theorem toksF_pos {f : F} (h : GoodF f) : ∀ g, 0 < (toksF f g).length := by
  induction h with
  | yes => intro g; rw [toksF, if_pos rfl]; simp
  | no => intro g; rw [toksF, if_neg (by decide), if_pos rfl]; simp
  | word t ht => intro g; rw [toksF, if_neg (by decide), if_neg (by decide), if_pos rfl]; simp
  | has t ht => intro g; rw [toksF, if_neg (by decide), if_neg (by decide), if_neg (by decide), if_pos rfl]; simp
  | field n t hn ht => intro g; rw [toksF, if_neg (by decide), if_neg (by decide), if_neg (by decide), if_neg (by decide), if_pos rfl]; simp
  | nay k hk ih => intro g; rw [toksF, if_neg (by decide), if_neg (by decide), if_neg (by decide), if_neg (by decide), if_neg (by decide), if_pos rfl]; simp
  | row op ks ho h2 hk ih =>
    intro g
    rw [toksF_row ho]
    have := toksL_len (if op = 7 then wAnd else wOr) ks g (fun k hk g => kidT_pos (ih k hk) g)
    omega

theorem depF_row {op : Int} (ho : op = 7 ∨ op = 8) (ks : List F) : depF (.mk op [] [] ks) = depL ks := by rw [depF, if_neg (by omega)]
theorem depK_row {op : Int} (ho : op = 7 ∨ op = 8) (ks : List F) : depK (.mk op [] [] ks) = 1 + depL ks := by
  unfold depK
  rw [if_pos (by show (7 : Int) ≤ op; omega), depF_row ho]
theorem depF_nay (k : F) : depF (.mk 6 [] [] [k]) = 1 + depK k := by rw [depF, if_pos rfl, depL_cons, depL]; simp
theorem depK_low {f : F} (h : ¬ 7 ≤ opF f) : depK f = depF f := by unfold depK; rw [if_neg h, Nat.zero_add]
theorem kidT_low {f : F} (h : ¬ 7 ≤ opF f) (g : Nat) : kidT f g = toksF f g := by unfold kidT; rw [if_neg h]

/-- Of its tokens atom, and or, make the filter. -/
def Reads (f : F) : Prop := (∀ (n d p g : Nat) (R : List Tok), depK f + d ≤ 8 → depK f < n → atomR n d (placed p (kidT f g) ++ R) = .ok (f, R)) ∧
  (∀ (n d p g : Nat) (R : List Tok), depF f + d ≤ 8 → depF f < n → noRow R → orR (atomR n d) (placed p (toksF f g) ++ R) = .ok (f, R))
theorem Reads.low {f : F} (hg : GoodF f) (hop : ¬ 7 ≤ opF f) (h : ∀ (n d p g : Nat) (R : List Tok), depK f + d ≤ 8 → depK f < n → atomR n d (placed p (kidT f g) ++ R) = .ok (f, R)) : Reads f := by
  refine ⟨h, fun n d p g R h1 h2 hR => ?_⟩
  have h3 := h n d p g R (by rw [depK_low hop]; exact h1) (by rw [depK_low hop]; exact h2)
  rw [kidT_low hop] at h3
  exact orR_one h3 hR (by have := toksF_pos hg g; simp [placed_len]; omega)

theorem kind_txt (t : List UInt8) (p : Int) (r : List Tok) : textR (⟨4, t, 0, p⟩ :: r) = .ok (t, r) := by
  unfold textR kindR
  rw [hd_cons, if_pos (by rfl), next_cons _ _ (by simp)]
theorem atom_at (n d : Nat) (w : List UInt8) (q : Int) (r : List Tok) : atomR (n + 1) d (⟨2, w, 0, q⟩ :: r) =
    if w = wNot then (if 8 ≤ d then .error (6, q) else notR (atomR n (d + 1) r))
    else if w = wOpen then (if 8 ≤ d then .error (6, q) else shutR (orR (atomR n (d + 1)) r))
    else if w = wTrue then .ok (F.mk 1 [] [] [], r)
    else if w = wFalse then .ok (F.mk 2 [] [] [], r)
    else if w = wWord then leafR 3 r
    else if w = wHas then leafR 4 r
    else if w = wField then fieldR r
    else .error (5, q) := by
  rw [atomR, hd_cons, next_cons _ _ (by simp)]
  simp only [isIt, Bool.and_eq_true, Bool.or_eq_true, decide_eq_true_eq, true_or, true_and]

theorem reads_all {f : F} (h : GoodF f) : Reads f := by
  induction h with
  | yes =>
    refine Reads.low .yes (by decide) (fun n d p g R h1 h2 => ?_)
    obtain ⟨n, rfl⟩ : ∃ j, n = j + 1 := ⟨n - 1, by omega⟩
    rw [kidT_low (by decide), toksF, if_pos rfl]
    show atomR (n + 1) d (⟨2, wTrue, 0, _⟩ :: R) = _
    rw [atom_at, if_neg (by decide), if_neg (by decide), if_pos rfl]
  | no =>
    refine Reads.low .no (by decide) (fun n d p g R h1 h2 => ?_)
    obtain ⟨n, rfl⟩ : ∃ j, n = j + 1 := ⟨n - 1, by omega⟩
    rw [kidT_low (by decide), toksF, if_neg (by decide), if_pos rfl]
    show atomR (n + 1) d (⟨2, wFalse, 0, _⟩ :: R) = _
    rw [atom_at, if_neg (by decide), if_neg (by decide), if_neg (by decide), if_pos rfl]
  | word t ht =>
    refine Reads.low (.word t ht) (by show ¬ (7 : Int) ≤ 3; decide) (fun n d p g R h1 h2 => ?_)
    obtain ⟨n, rfl⟩ : ∃ j, n = j + 1 := ⟨n - 1, by omega⟩
    rw [kidT_low (by show ¬ (7 : Int) ≤ 3; decide), toksF, if_neg (by decide), if_neg (by decide), if_pos rfl]
    show atomR (n + 1) d (⟨2, wWord, 0, _⟩ :: ⟨4, t, 0, _⟩ :: R) = _
    rw [atom_at, if_neg (by decide), if_neg (by decide), if_neg (by decide), if_neg (by decide), if_pos rfl]
    unfold leafR
    rw [kind_txt]
  | has t ht =>
    refine Reads.low (.has t ht) (by show ¬ (7 : Int) ≤ 4; decide) (fun n d p g R h1 h2 => ?_)
    obtain ⟨n, rfl⟩ : ∃ j, n = j + 1 := ⟨n - 1, by omega⟩
    rw [kidT_low (by show ¬ (7 : Int) ≤ 4; decide), toksF, if_neg (by decide), if_neg (by decide), if_neg (by decide), if_pos rfl]
    show atomR (n + 1) d (⟨2, wHas, 0, _⟩ :: ⟨4, t, 0, _⟩ :: R) = _
    rw [atom_at, if_neg (by decide), if_neg (by decide), if_neg (by decide), if_neg (by decide), if_neg (by decide), if_pos rfl]
    unfold leafR
    rw [kind_txt]
  | field nm t hn ht =>
    refine Reads.low (.field nm t hn ht) (by show ¬ (7 : Int) ≤ 5; decide) (fun n d p g R h1 h2 => ?_)
    obtain ⟨n, rfl⟩ : ∃ j, n = j + 1 := ⟨n - 1, by omega⟩
    rw [kidT_low (by show ¬ (7 : Int) ≤ 5; decide), toksF, if_neg (by decide), if_neg (by decide), if_neg (by decide), if_neg (by decide), if_pos rfl]
    show atomR (n + 1) d (⟨2, wField, 0, _⟩ :: ⟨1, nm, 0, _⟩ :: ⟨5, wEq, 0, _⟩ :: ⟨4, t, 0, _⟩ :: R) = _
    rw [atom_at, if_neg (by decide), if_neg (by decide), if_neg (by decide), if_neg (by decide), if_neg (by decide), if_neg (by decide), if_pos rfl]
    unfold fieldR kindR
    rw [hd_cons, if_pos (by rfl), next_cons _ _ (by simp)]
    dsimp only
    rw [mustR, hd_cons, if_pos (by rfl), next_cons _ _ (by simp)]
    dsimp only
    rw [kind_txt]
  | nay k hk ih =>
    refine Reads.low (.nay k hk) (by show ¬ (7 : Int) ≤ 6; decide) (fun n d p g R h1 h2 => ?_)
    rw [depK_low (by show ¬ (7 : Int) ≤ 6; decide), depF_nay] at h1 h2
    obtain ⟨n, rfl⟩ : ∃ j, n = j + 1 := ⟨n - 1, by omega⟩
    rw [kidT_low (by show ¬ (7 : Int) ≤ 6; decide), toksF, if_neg (by decide), if_neg (by decide), if_neg (by decide), if_neg (by decide), if_neg (by decide), if_pos rfl, toksL_one]
    show atomR (n + 1) d (⟨2, wNot, 0, _⟩ :: (placed _ (kidT k g) ++ R)) = _
    rw [atom_at, if_pos rfl, if_neg (by omega), ih.1 n (d + 1) _ g R (by omega) (by omega)]
    rfl
  | row op ks ho h2 hk ih =>
    have hor : ∀ (n d p g : Nat) (R : List Tok), depL ks + d ≤ 8 → depL ks < n → noRow R → orR (atomR n d) (placed p (toksF (.mk op [] [] ks) g) ++ R) = .ok (.mk op [] [] ks, R) := by
      intro n d p g R h1 h3 hR
      have hat : ∀ x ∈ ks, ∀ p g R', atomR n d (placed p (kidT x g) ++ R') = .ok (x, R') := fun x hx p g R' => by
        have := depL_mem hx
        exact (ih x hx).1 n d p g R' (by omega) (by omega)
      have hlen : ks.length < (toksF (.mk op [] [] ks) g).length := by
        rw [toksF_row ho]
        match ks, h2, ih with
        | a :: b :: l, _, _ => exact toksL_double _ a b l g (fun x hx g => kidT_pos (fun g => toksF_pos (hk x hx) g) g)
      have hpos : 0 < ks.length := by omega
      have hTl : (placed p (toksF (.mk op [] [] ks) g) ++ R).length = (toksF (.mk op [] [] ks) g).length + R.length := by rw [List.length_append, placed_len]
      have hm : ks.length + 1 < (placed p (toksF (.mk op [] [] ks) g) ++ R).length + 1 := by omega
      rcases ho with rfl | rfl
      · -- and
        unfold orR
        have hand : andR (atomR n d) (placed p (toksF (.mk 7 [] [] ks) g) ++ R) = .ok (.mk 7 [] [] ks, R) := by
          unfold andR
          rw [toksF_row (.inl rfl), if_pos rfl] at hm ⊢
          exact rowR_all (C := fun _ => True) (by decide) (fun _ _ => trivial) trivial hR.1 ks _ p g h2 hm (fun x hx p g R' _ => hat x hx p g R')
        obtain ⟨j, hj⟩ : ∃ j, (placed p (toksF (.mk 7 [] [] ks) g) ++ R).length + 1 = j + 2 := ⟨(placed p (toksF (.mk 7 [] [] ks) g) ++ R).length - 1, by omega⟩
        rw [hj]
        exact rowR_one hand hR.2
      · unfold orR
        rw [toksF_row (.inr rfl), if_neg (by decide)] at hm ⊢
        refine rowR_all (C := fun r => isIt (hdT r) wAnd = false) (by decide) (fun _ _ => rfl) hR.1 hR.2 ks _ p g h2 hm ?_
        intro x hx p g R' hR'
        have h4 := hat x hx p g R'
        unfold andR
        have hxp := kidT_pos (fun g => toksF_pos (hk x hx) g) g
        obtain ⟨j, hj⟩ : ∃ j, (placed p (kidT x g) ++ R').length + 1 = j + 2 := ⟨(placed p (kidT x g) ++ R').length - 1, by rw [List.length_append, placed_len]; omega⟩
        rw [hj]
        exact rowR_one h4 hR'
    refine ⟨fun n d p g R h1 h3 => ?_, fun n d p g R h1 h3 hR => hor n d p g R (by rw [← depF_row ho]; exact h1) (by rw [← depF_row ho]; exact h3) hR⟩
    rw [depK_row ho] at h1 h3
    obtain ⟨n, rfl⟩ : ∃ j, n = j + 1 := ⟨n - 1, by omega⟩
    unfold kidT
    rw [if_pos (by show (7 : Int) ≤ op; omega)]
    show atomR (n + 1) d (⟨5, wOpen, 0, _⟩ :: (placed (p + (tokText (tokSign wOpen)).length + 0) (toksF (.mk op [] [] ks) 0 ++ [(tokSign wShut, g)]) ++ R)) = _
    rw [atom_open _ _ _ _ (by omega), placed_append, List.append_assoc]
    show shutR (orR (atomR n (d + 1)) (placed _ (toksF (.mk op [] [] ks) 0) ++ (⟨5, wShut, 0, _⟩ :: R))) = _
    rw [hor n (d + 1) _ 0 _ (by omega) (by omega) (noRow_shut _ _)]
    unfold shutR
    dsimp only
    rw [must_shut]
end Go.Proofs.YtebblpmocheelaaGreatDoor
