/- What parse makes of nots and brackets within one another. -/
import Derived.Test.YtebblpmocheelaaGreatDoorParQ
namespace Go.Proofs.YtebblpmocheelaaGreatDoor
open Go.Lib

def markG (b : Bool) : Tok × Nat := if b then (tokWord wNot, 1) else (tokSign wOpen, 0)
def headG : List (Tok × Nat) := [(tokWord wFrom, 1), (tokNum 0, 1), (tokWord wTo, 1), (tokNum 9, 1), (tokWord wFind, 1)]
def shutG : Nat → List (Tok × Nat)
  | 0 => []
  | 1 => [(tokSign wShut, 1)]
  | n + 2 => (tokSign wShut, 0) :: shutG (n + 1)
def opens : List Bool → Nat
  | [] => 0
  | b :: l => (if b then 0 else 1) + opens l
def coreG (ms : List Bool) : List (Tok × Nat) := ms.map markG ++ ((tokWord wTrue, if opens ms = 0 then 1 else 0) :: (shutG (opens ms) ++ [(tokWord wLimit, 1), (tokNum 1, 0)]))
def deepG (ms : List Bool) : List (Tok × Nat) := headG ++ coreG ms

def markT (b : Bool) : List UInt8 := if b then [110, 111, 116, 32] else [40]
def headT : List UInt8 := [102, 114, 111, 109, 32, 48, 32, 116, 111, 32, 57, 32, 102, 105, 110, 100, 32]
def marksT (ms : List Bool) : List UInt8 := ms.flatMap markT
def deepT (ms : List Bool) : List UInt8 := headT ++ marksT ms ++ ([116, 114, 117, 101] ++ List.replicate (opens ms) 41 ++ [32, 108, 105, 109, 105, 116, 32, 49])

theorem shutG_text (n : Nat) : gapT (shutG (n + 1)) = List.replicate (n + 1) 41 ++ [32] := by
  induction n with
  | zero => rfl
  | succ n ih =>
    show gapT ((tokSign wShut, 0) :: shutG (n + 1)) = _
    rw [gapT_cons, ih, List.replicate_succ]
    rfl
theorem marks_text (ms : List Bool) : gapT (ms.map markG) = marksT ms := by
  induction ms with
  | nil => rfl
  | cons b l ih =>
    rw [List.map_cons, gapT_cons, ih]
    cases b <;> rfl
theorem head_text : gapT headG = headT := by decide +kernel
theorem num1 : itoa 1 = [49] := by decide +kernel
theorem deepG_text (ms : List Bool) : gapT (deepG ms) = deepT ms := by
  have e1 : gapT [(tokWord wLimit, 1), (tokNum 1, 0)] = [108, 105, 109, 105, 116, 32, 49] := by decide +kernel
  unfold deepG coreG
  rw [gapT_append, gapT_append, gapT_cons, gapT_append, e1, marks_text, head_text]
  unfold deepT
  cases h : opens ms with
  | zero =>
    rw [if_pos (by rfl)]
    show headT ++ (marksT ms ++ ([116, 114, 117, 101] ++ ([32] ++ ([] ++ _)))) = _
    simp
  | succ n =>
    rw [if_neg (by omega), shutG_text]
    show headT ++ (marksT ms ++ ([116, 114, 117, 101] ++ ([] ++ _))) = _
    simp

theorem shutG_ok (n : Nat) : ∀ x ∈ shutG n, x.1 = tokSign wShut := by
  induction n with
  | zero => intro x hx; cases hx
  | succ n ih =>
    cases n with
    | zero => intro x hx; simp [shutG] at hx; rw [hx]
    | succ n =>
      intro x hx
      rcases List.mem_cons.1 hx with rfl | hx
      · rfl
      · exact ih x hx
theorem deep_ok (ms : List Bool) : ∀ x ∈ deepG ms, TokOk x.1 := by
  intro x hx
  unfold deepG coreG at hx
  rw [List.mem_append, List.mem_append, List.mem_cons, List.mem_append] at hx
  rcases hx with hx | hx | hx | hx | hx
  · simp only [headG, List.mem_cons, List.not_mem_nil, or_false] at hx
    rcases hx with rfl | rfl | rfl | rfl | rfl
    · exact ok_word wl_ws.1
    · exact ok_num (by decide) (by decide)
    · exact ok_word wl_ws.2.1
    · exact ok_num (by decide) (by decide)
    · exact ok_word wl_ws.2.2.2.1
  · obtain ⟨b, _, rfl⟩ := List.mem_map.1 hx
    cases b
    · exact ok_sign (.inr (.inr (.inl rfl)))
    · exact ok_word wl_ws.2.2.2.2.1
  · subst hx
    exact ok_word wl_ws.2.2.2.2.2.1
  · rw [shutG_ok _ x hx]
    exact ok_sign (.inr (.inr (.inr rfl)))
  · simp only [List.mem_cons, List.not_mem_nil, or_false] at hx
    rcases hx with rfl | rfl
    · exact ok_word wl_ws.2.2.1
    · exact ok_num (by decide) (by decide)

theorem apart_app {l m : List (Tok × Nat)} (hl : ∀ x ∈ l, 1 ≤ x.2 ∨ 4 ≤ x.1.kind) (hm : apart m) : apart (l ++ m) := by
  induction l with
  | nil => exact hm
  | cons x l ih =>
    refine ⟨?_, ih (fun y hy => hl y (List.mem_cons_of_mem _ hy))⟩
    rcases hl x List.mem_cons_self with h | h
    · exact .inl h
    · exact .inr (.inl h)
theorem shutG_gap (n : Nat) : ∀ x ∈ shutG n, 1 ≤ x.2 ∨ 4 ≤ x.1.kind := fun x hx => .inr (by rw [shutG_ok n x hx]; decide)
theorem deep_apart (ms : List Bool) : apart (deepG ms) := by
  unfold deepG coreG
  refine apart_app ?_ (apart_app ?_ ⟨?_, apart_app (shutG_gap _) ⟨.inl (Nat.le_refl _), .inr (.inr (by intro y hy; cases hy)), trivial⟩⟩)
  · intro x hx
    simp only [headG, List.mem_cons, List.not_mem_nil, or_false] at hx
    rcases hx with rfl | rfl | rfl | rfl | rfl <;> exact .inl (Nat.le_refl _)
  · intro x hx
    obtain ⟨b, _, rfl⟩ := List.mem_map.1 hx
    cases b
    · exact .inr (by decide)
    · exact .inl (Nat.le_refl _)
  · cases h : opens ms with
    | zero => exact .inl (Nat.le_refl _)
    | succ n =>
      refine .inr (.inr ?_)
      intro y hy
      cases n with
      | zero => injection hy with hy; subst hy; decide
      | succ n => injection hy with hy; subst hy; decide

/-! ### Where tokens stand -/
theorem placed_append : ∀ (l m : List (Tok × Nat)) (p : Nat), placed p (l ++ m) = placed p l ++ placed (p + (gapT l).length) m := by
  intro l
  induction l with
  | nil => intro m p; rfl
  | cons x l ih =>
    intro m p
    show _ :: placed (p + (tokText x.1).length + x.2) (l ++ m) = _ :: (placed _ l ++ _)
    rw [ih, gapT_cons]
    simp only [List.length_append, blanks_len]
    rw [show p + (tokText x.1).length + x.2 + (gapT l).length = p + ((tokText x.1).length + (x.2 + (gapT l).length)) by omega]
theorem placed_len : ∀ (l : List (Tok × Nat)) (p : Nat), (placed p l).length = l.length := by
  intro l
  induction l with
  | nil => intro p; rfl
  | cons x l ih => intro p; show (placed _ l).length + 1 = _; rw [ih]; rfl

/-! ### What atom makes of them -/
theorem nt {b : Bool} (h : b = false) : ¬ b = true := by rw [h]; decide
theorem isIt_mk (k : Int) (w : List UInt8) (n p : Int) (s : List UInt8) : isIt ⟨k, w, n, p⟩ s = ((decide (k = 2) || decide (k = 5)) && decide (w = s)) := rfl
theorem hd_cons (t : Tok) (r : List Tok) : hdT (t :: r) = t := rfl
theorem next_cons (t : Tok) (r : List Tok) (h : t.kind ≠ 0) : nextR (t :: r) = r := by unfold nextR; rw [hd_cons, if_neg h]; rfl

/-- Neither and nor or stands next. -/
def noRow (ts : List Tok) : Prop := isIt (hdT ts) wAnd = false ∧ isIt (hdT ts) wOr = false
theorem rowR_one {op : Int} {word : List UInt8} {next : List Tok → Except Err (F × List Tok)} {m : Nat} {ts r : List Tok} {f : F} (h : next ts = .ok (f, r)) (hi : isIt (hdT r) word = false) : rowR op word next (m + 2) [] ts = .ok (f, r) := by
  rw [rowR, if_pos (show ([] : List F).length = 0 from rfl), h]
  dsimp only
  rw [rowR, if_neg (by simp), if_neg (by rw [hi]; decide)]
  rfl
theorem rowR_fail {op : Int} {word : List UInt8} {next : List Tok → Except Err (F × List Tok)} {m : Nat} {ts : List Tok} {e : Err} (h : next ts = .error e) : rowR op word next (m + 1) [] ts = .error e := by
  rw [rowR, if_pos (show ([] : List F).length = 0 from rfl), h]
theorem orR_one {atom : List Tok → Except Err (F × List Tok)} {ts r : List Tok} {f : F} (h : atom ts = .ok (f, r)) (hn : noRow r) (h0 : 0 < ts.length) : orR atom ts = .ok (f, r) := by
  unfold orR
  obtain ⟨k, hk⟩ : ∃ k, ts.length + 1 = k + 2 := ⟨ts.length - 1, by omega⟩
  rw [hk]
  refine rowR_one ?_ hn.2
  unfold andR
  rw [hk]
  exact rowR_one h hn.1
theorem orR_fail {atom : List Tok → Except Err (F × List Tok)} {ts : List Tok} {e : Err} (h : atom ts = .error e) : orR atom ts = .error e := by
  unfold orR
  refine rowR_fail ?_
  unfold andR
  exact rowR_fail h

/-- Nots and brackets, and what stands within. -/
def nest : List Bool → F
  | [] => F.mk 1 [] [] []
  | true :: l => F.mk 6 [] [] [nest l]
  | false :: l => nest l

theorem mark_not (p : Nat) (l : List Bool) (R : List Tok) : placed p ((true :: l).map markG) ++ R = ⟨2, wNot, 0, p⟩ :: (placed (p + 4) (l.map markG) ++ R) := rfl
theorem mark_open (p : Nat) (l : List Bool) (R : List Tok) : placed p ((false :: l).map markG) ++ R = ⟨5, wOpen, 0, p⟩ :: (placed (p + 1) (l.map markG) ++ R) := rfl

theorem atom_not (n d : Nat) (p : Int) (r : List Tok) (hd : d < 8) : atomR (n + 1) d (⟨2, wNot, 0, p⟩ :: r) = notR (atomR n (d + 1) r) := by
  rw [atomR, hd_cons, if_pos (by rfl), if_neg (by omega), next_cons _ _ (by simp)]
theorem atom_open (n d : Nat) (p : Int) (r : List Tok) (hd : d < 8) : atomR (n + 1) d (⟨5, wOpen, 0, p⟩ :: r) = shutR (orR (atomR n (d + 1)) r) := by
  rw [atomR, hd_cons, if_neg (nt (by rfl)), if_pos (by rfl), if_neg (by omega), next_cons _ _ (by simp)]
theorem atom_deep (n : Nat) (b : Bool) (p : Nat) (l : List Bool) (R : List Tok) : atomR (n + 1) 8 (placed p ((b :: l).map markG) ++ R) = .error (6, p) := by
  cases b with
  | true => rw [mark_not, atomR, hd_cons, if_pos (by rfl), if_pos (by omega)]
  | false => rw [mark_open, atomR, hd_cons, if_neg (nt (by rfl)), if_pos (by rfl), if_pos (by omega)]

/-- Too deep: the one that is too much is told, where it stands. -/
theorem atom_too : ∀ (ms : List Bool) (b : Bool) (l : List Bool) (n d p : Nat) (R : List Tok), d + ms.length = 8 → ms.length < n →
    atomR n d (placed p ((ms ++ b :: l).map markG) ++ R) = .error (6, (p + (marksT ms).length : Nat)) := by
  intro ms
  induction ms with
  | nil =>
    intro b l n d p R hd hn
    obtain ⟨n, rfl⟩ : ∃ k, n = k + 1 := ⟨n - 1, by simp at hn; omega⟩
    obtain rfl : d = 8 := by simpa using hd
    exact atom_deep n b p l R
  | cons a ms ih =>
    intro b l n d p R hd hn
    rw [List.length_cons] at hd hn
    obtain ⟨n, rfl⟩ : ∃ k, n = k + 1 := ⟨n - 1, by omega⟩
    cases a with
    | true =>
      rw [List.cons_append, mark_not, atom_not _ _ _ _ (by omega), ih b l n (d + 1) (p + 4) R (by omega) (by omega)]
      show Except.error _ = Except.error _
      rw [show (marksT (true :: ms)).length = 4 + (marksT ms).length by simp [marksT, markT]; omega, Nat.add_assoc]
    | false =>
      rw [List.cons_append, mark_open, atom_open _ _ _ _ (by omega), orR_fail (ih b l n (d + 1) (p + 1) R (by omega) (by omega))]
      show Except.error _ = Except.error _
      rw [show (marksT (false :: ms)).length = 1 + (marksT ms).length by simp [marksT, markT]; omega, Nat.add_assoc]

/-- What stands behind: so many brackets that shut. -/
def Shuts : Nat → List Tok → List Tok → Prop
  | 0, ts, R => ts = R
  | n + 1, ts, R => ∃ p r, ts = ⟨5, wShut, 0, p⟩ :: r ∧ Shuts n r R

theorem noRow_shut (p : Int) (r : List Tok) : noRow (⟨5, wShut, 0, p⟩ :: r) := ⟨rfl, rfl⟩
theorem must_shut (p : Int) (r : List Tok) : mustR (⟨5, wShut, 0, p⟩ :: r) wShut = .ok r := by rw [mustR, hd_cons, if_pos (by rfl), next_cons _ _ (by simp)]

theorem opens_open (ms : List Bool) (k : Nat) : opens (false :: ms) + k = opens ms + (k + 1) := by simp [opens]; omega
theorem atom_nest : ∀ (ms : List Bool) (n d p : Nat) (q : Int) (ts R : List Tok) (k : Nat), d + ms.length ≤ 8 → ms.length < n → Shuts (opens ms + k) ts R → noRow R →
    ∃ r, atomR n d (placed p (ms.map markG) ++ (⟨2, wTrue, 0, q⟩ :: ts)) = .ok (nest ms, r) ∧ Shuts k r R := by
  intro ms
  induction ms with
  | nil =>
    intro n d p q ts R k hd hn hs hR
    obtain ⟨n, rfl⟩ : ∃ k, n = k + 1 := ⟨n - 1, by simp at hn; omega⟩
    refine ⟨ts, ?_, by simpa [opens] using hs⟩
    show atomR (n + 1) d (⟨2, wTrue, 0, q⟩ :: ts) = _
    rw [atomR, hd_cons, if_neg (nt (by rfl)), if_neg (nt (by rfl)), if_pos (by rfl), next_cons _ _ (by simp)]
    rfl
  | cons a ms ih =>
    intro n d p q ts R k hd hn hs hR
    rw [List.length_cons] at hd hn
    obtain ⟨n, rfl⟩ : ∃ k, n = k + 1 := ⟨n - 1, by omega⟩
    cases a with
    | true =>
      obtain ⟨r, h1, h2⟩ := ih n (d + 1) (p + 4) q ts R k (by omega) (by omega) (by simpa [opens] using hs) hR
      exact ⟨r, by rw [mark_not, atom_not _ _ _ _ (by omega), h1]; rfl, h2⟩
    | false =>
      obtain ⟨r, h1, h2⟩ := ih n (d + 1) (p + 1) q ts R (k + 1) (by omega) (by omega) (by rw [opens_open] at hs; exact hs) hR
      obtain ⟨p2, r2, rfl, h3⟩ := h2
      refine ⟨r2, ?_, h3⟩
      rw [mark_open, atom_open _ _ _ _ (by omega), orR_one h1 (noRow_shut _ _) (by simp; omega)]
      unfold shutR
      dsimp only
      rw [must_shut]
      rfl

theorem shuts_of (n : Nat) : ∀ (p : Nat) (R : List Tok), Shuts n (placed p (shutG n) ++ R) R := by
  induction n with
  | zero => intro p R; rfl
  | succ n ih =>
    intro p R
    cases n with
    | zero => exact ⟨p, R, rfl, rfl⟩
    | succ n => exact ⟨p, _, rfl, ih _ R⟩

/-! ### What query makes of them -/
theorem times_head (p1 p2 p3 p4 : Int) (s0 s9 : List UInt8) (r : List Tok) :
    timesR (⟨2, wFrom, 0, p1⟩ :: ⟨3, s0, 0, p2⟩ :: ⟨2, wTo, 0, p3⟩ :: ⟨3, s9, 9, p4⟩ :: r) = .ok (0, 9, r) := by
  simp [timesR, numberR, mustR, kindR, isIt, hdT, nextR, timeOk]

theorem query_head (p1 p2 p3 p4 p5 : Int) (s0 s9 : List UInt8) (r : List Tok) :
    queryR (⟨2, wFrom, 0, p1⟩ :: ⟨3, s0, 0, p2⟩ :: ⟨2, wTo, 0, p3⟩ :: ⟨3, s9, 9, p4⟩ :: ⟨2, wFind, 0, p5⟩ :: r) =
      match orR (atomR (r.length + 2) 0) r with
      | .error e => .error e
      | .ok c => match numberR (descR c.2) wLimit limitOk with
        | .error e => .error e
        | .ok d => match pageR d.2 with
          | .error e => .error e
          | .ok p => match kindR p.2 0 with
            | .error e => .error e
            | .ok _ => .ok ⟨0, 9, [], c.1, isIt (hdT c.2) wDesc, d.1, p.1⟩ := by
  unfold queryR
  rw [times_head]
  dsimp only
  rw [matchersR_none _ _ rfl]
  dsimp only
  rw [findR, hd_cons, if_pos (by rfl), next_cons _ _ (by simp)]
  rfl
where matchersR_none (m : Nat) (ts : List Tok) (h : isIt (hdT ts) wWhere = false) : matchersR (m + 1) [] ts = .ok ([], ts) := by rw [matchersR, if_neg (nt h)]

theorem query_tail (f : F) (q1 q2 q3 : Int) (s1 : List UInt8) (r : List Tok) (h : r = [⟨2, wLimit, 0, q1⟩, ⟨3, s1, 1, q2⟩, ⟨0, [], 0, q3⟩]) :
    (match numberR (descR r) wLimit limitOk with
        | .error e => (.error e : Except Err Q)
        | .ok d => match pageR d.2 with
          | .error e => .error e
          | .ok p => match kindR p.2 0 with
            | .error e => .error e
            | .ok _ => .ok ⟨0, 9, [], f, isIt (hdT r) wDesc, d.1, p.1⟩) = .ok ⟨0, 9, [], f, false, 1, []⟩ := by
  subst h
  have d0 : isIt (⟨2, wLimit, 0, q1⟩ : Tok) wDesc = false := by simp [isIt, wLimit, wDesc]
  rw [descR, hd_cons, if_neg (by rw [d0]; decide)]
  have n3 : numberR [⟨2, wLimit, 0, q1⟩, ⟨3, s1, 1, q2⟩, ⟨0, [], 0, q3⟩] wLimit limitOk = .ok (1, [⟨0, [], 0, q3⟩]) := by
    simp [numberR, mustR, kindR, isIt, hdT, nextR, limitOk]
  rw [n3]
  dsimp only
  rw [pageR, hd_cons, if_neg (by simp [isIt])]
  dsimp only
  rw [kindR, hd_cons, if_pos (by rfl), d0]

theorem deep_placed (ms : List Bool) : placed 1 (deepG ms) ++ [⟨0, [], 0, ((gapT (deepG ms)).length : Int) + 1⟩] =
    ⟨2, wFrom, 0, 1⟩ :: ⟨3, itoa 0, 0, 6⟩ :: ⟨2, wTo, 0, 8⟩ :: ⟨3, itoa 9, 9, 11⟩ :: ⟨2, wFind, 0, 13⟩ :: (placed 18 (coreG ms) ++ [⟨0, [], 0, ((gapT (deepG ms)).length : Int) + 1⟩]) := by
  unfold deepG
  rw [placed_append, head_text, show placed 1 headG = [⟨2, wFrom, 0, 1⟩, ⟨3, itoa 0, 0, 6⟩, ⟨2, wTo, 0, 8⟩, ⟨3, itoa 9, 9, 11⟩, ⟨2, wFind, 0, 13⟩] by decide +kernel]
  rfl

theorem noRow_limit (p : Int) (r : List Tok) : noRow (⟨2, wLimit, 0, p⟩ :: r) := ⟨rfl, rfl⟩

theorem marks_le (ms : List Bool) : (marksT ms).length ≤ 4 * ms.length := by
  induction ms with
  | nil => exact Nat.le_refl _
  | cons b l ih =>
    show (markT b ++ marksT l).length ≤ _
    rw [List.length_append, List.length_cons]
    have : (markT b).length ≤ 4 := by cases b <;> decide
    omega
theorem opens_le (ms : List Bool) : opens ms ≤ ms.length := by
  induction ms with
  | nil => exact Nat.le_refl _
  | cons b l ih => cases b <;> simp [opens] <;> omega

/-- EIGHT AT MOST. -/
theorem parse_deep (ms : List Bool) (hm : ms.length ≤ 8) : ∃ f, parseA ⟨(deepT ms).toArray⟩ = .ok ⟨0, 9, [], f, false, 1, []⟩ := by
  have hl : (gapT (deepG ms)).length ≤ 1024 := by
    rw [deepG_text]
    have h1 := marks_le ms
    have h2 := opens_le ms
    simp [deepT, headT]
    omega
  have h := lexA_gap (deepG ms) (deep_ok ms) (deep_apart ms) hl
  unfold parseA
  rw [← deepG_text, h]
  dsimp only
  rw [deep_placed, query_head]
  unfold coreG
  rw [placed_append, marks_text]
  obtain ⟨e, he⟩ : ∃ e, ((gapT (deepG ms)).length : Int) + 1 = e := ⟨_, rfl⟩
  rw [he]
  clear he h hl
  rw [List.append_assoc]
  obtain ⟨T, hT⟩ : ∃ T, placed 18 (ms.map markG) ++ (placed (18 + (marksT ms).length) ((tokWord wTrue, if opens ms = 0 then 1 else 0) :: (shutG (opens ms) ++ [(tokWord wLimit, 1), (tokNum 1, 0)])) ++ [⟨0, [], 0, e⟩]) = T := ⟨_, rfl⟩
  rw [hT]
  obtain ⟨P, hP⟩ : ∃ P, 18 + (marksT ms).length + (tokText (tokWord wTrue)).length + (if opens ms = 0 then 1 else 0) = P := ⟨_, rfl⟩
  have hT2 : T = placed 18 (ms.map markG) ++ (⟨2, wTrue, 0, (18 + (marksT ms).length : Nat)⟩ :: (placed P (shutG (opens ms)) ++ (placed (P + (gapT (shutG (opens ms))).length) [(tokWord wLimit, 1), (tokNum 1, 0)] ++ [⟨0, [], 0, e⟩]))) := by
    rw [← hT, ← List.append_assoc (placed P _), ← placed_append, ← hP]
    rfl
  obtain ⟨r, h1, h2⟩ := atom_nest ms (T.length + 2) 0 18 (18 + (marksT ms).length : Nat) _ _ 0 (by omega) (by rw [hT2]; simp [placed_len]; omega) (shuts_of (opens ms) P (placed (P + (gapT (shutG (opens ms))).length) [(tokWord wLimit, 1), (tokNum 1, 0)] ++ [⟨0, [], 0, e⟩])) (noRow_limit _ _)
  have h2 : r = _ := h2
  rw [← hT2, h2] at h1
  rw [orR_one h1 (noRow_limit _ _) (by rw [hT2]; simp; omega)]
  exact ⟨_, query_tail (nest ms) _ _ _ _ _ rfl⟩
/-- The ninth is told. -/
theorem parse_too (ms : List Bool) (b : Bool) (l : List Bool) (hm : ms.length = 8) (hl20 : l.length ≤ 11) : parseA ⟨(deepT (ms ++ b :: l)).toArray⟩ = .error (6, (17 + (marksT ms).length + 1 : Nat)) := by
  have hl : (gapT (deepG (ms ++ b :: l))).length ≤ 1024 := by
    rw [deepG_text]
    have h1 := marks_le (ms ++ b :: l)
    have h2 := opens_le (ms ++ b :: l)
    have h3 : (ms ++ b :: l).length = 8 + (l.length + 1) := by rw [List.length_append, hm, List.length_cons]
    simp [deepT, headT]
    omega
  have h := lexA_gap (deepG (ms ++ b :: l)) (deep_ok _) (deep_apart _) hl
  unfold parseA
  rw [← deepG_text, h]
  dsimp only
  rw [deep_placed, query_head]
  unfold coreG
  rw [placed_append, List.append_assoc]
  rw [orR_fail (atom_too ms b l _ 0 18 _ (by omega) (by simp [placed_len]; omega))]
  dsimp only
  rw [show 17 + (marksT ms).length + 1 = 18 + (marksT ms).length by omega]
end Go.Proofs.YtebblpmocheelaaGreatDoor
