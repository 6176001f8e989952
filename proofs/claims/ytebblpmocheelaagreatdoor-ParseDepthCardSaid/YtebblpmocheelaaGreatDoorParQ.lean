/- What parse makes of times and limits, and of nots and brackets within one another. -/
import Derived.Test.YtebblpmocheelaaGreatDoorParG
namespace Go.Proofs.YtebblpmocheelaaGreatDoor
open Go.Lib

/-! ### Times and limits -/
def numsG (a b c : Int) : List (Tok × Nat) := [(tokWord wFrom, 1), (tokNum a, 1), (tokWord wTo, 1), (tokNum b, 1), (tokWord wLimit, 1), (tokNum c, 0)]
/-- from a to b limit c. -/
def numsT (a b c : Int) : List UInt8 := ([102, 114, 111, 109, 32] ++ itoa a ++ [32]) ++ ([116, 111, 32] ++ itoa b ++ [32]) ++ ([108, 105, 109, 105, 116, 32] ++ itoa c)
theorem numsT_eq (a b c : Int) : gapT (numsG a b c) = numsT a b c := by
  simp [gapT, numsG, numsT, text_word, text_num, wFrom, wTo, wLimit, blanks]
/-- What parse answers. -/
def numsR (a b c : Int) : Except Err Q :=
  if timeOk a = false then .error (6, 6)
  else if timeOk b = false then .error (6, ((itoa a).length : Int) + 10)
  else if b < a then .error (7, ((itoa a).length : Int) + 7)
  else if limitOk c = false then .error (6, ((itoa a).length : Int) + (itoa b).length + 17)
  else .ok ⟨a, b, [], F.mk 1 [] [] [], false, c, []⟩

theorem query_nums (a b c : Int) (sa sb sc : List UInt8) (p1 p2 p3 p4 p5 p6 p7 : Int) :
    queryR [⟨2, wFrom, 0, p1⟩, ⟨3, sa, a, p2⟩, ⟨2, wTo, 0, p3⟩, ⟨3, sb, b, p4⟩, ⟨2, wLimit, 0, p5⟩, ⟨3, sc, c, p6⟩, ⟨0, [], 0, p7⟩] =
      if timeOk a = false then .error (6, p2) else if timeOk b = false then .error (6, p4) else if b < a then .error (7, p3) else if limitOk c = false then .error (6, p6) else .ok ⟨a, b, [], F.mk 1 [] [] [], false, c, []⟩ := by
  have n1 : numberR [⟨2, wFrom, 0, p1⟩, ⟨3, sa, a, p2⟩, ⟨2, wTo, 0, p3⟩, ⟨3, sb, b, p4⟩, ⟨2, wLimit, 0, p5⟩, ⟨3, sc, c, p6⟩, ⟨0, [], 0, p7⟩] wFrom timeOk = if timeOk a = true then .ok (a, [⟨2, wTo, 0, p3⟩, ⟨3, sb, b, p4⟩, ⟨2, wLimit, 0, p5⟩, ⟨3, sc, c, p6⟩, ⟨0, [], 0, p7⟩]) else .error (6, p2) := by
    simp [numberR, mustR, kindR, isIt, hdT, nextR]
  have n2 : numberR [⟨2, wTo, 0, p3⟩, ⟨3, sb, b, p4⟩, ⟨2, wLimit, 0, p5⟩, ⟨3, sc, c, p6⟩, ⟨0, [], 0, p7⟩] wTo timeOk = if timeOk b = true then .ok (b, [⟨2, wLimit, 0, p5⟩, ⟨3, sc, c, p6⟩, ⟨0, [], 0, p7⟩]) else .error (6, p4) := by
    simp [numberR, mustR, kindR, isIt, hdT, nextR]
  have n3 : numberR [⟨2, wLimit, 0, p5⟩, ⟨3, sc, c, p6⟩, ⟨0, [], 0, p7⟩] wLimit limitOk = if limitOk c = true then .ok (c, [⟨0, [], 0, p7⟩]) else .error (6, p6) := by
    simp [numberR, mustR, kindR, isIt, hdT, nextR]
  have m : matchersR (([⟨2, wLimit, 0, p5⟩, ⟨3, sc, c, p6⟩, ⟨0, [], 0, p7⟩] : List Tok).length + 1) [] [⟨2, wLimit, 0, p5⟩, ⟨3, sc, c, p6⟩, ⟨0, [], 0, p7⟩] = .ok ([], [⟨2, wLimit, 0, p5⟩, ⟨3, sc, c, p6⟩, ⟨0, [], 0, p7⟩]) := by
    rw [matchersR, if_neg (by simp [isIt, hdT, wLimit, wWhere])]
  have f : findR [⟨2, wLimit, 0, p5⟩, ⟨3, sc, c, p6⟩, ⟨0, [], 0, p7⟩] = .ok (F.mk 1 [] [] [], [⟨2, wLimit, 0, p5⟩, ⟨3, sc, c, p6⟩, ⟨0, [], 0, p7⟩]) := by
    rw [findR, if_neg (by simp [isIt, hdT, wLimit, wFind])]
  have d0 : isIt (hdT [⟨2, wLimit, 0, p5⟩, ⟨3, sc, c, p6⟩, ⟨0, [], 0, p7⟩]) wDesc = false := by simp [isIt, hdT, wLimit, wDesc]
  have d : descR [⟨2, wLimit, 0, p5⟩, ⟨3, sc, c, p6⟩, ⟨0, [], 0, p7⟩] = [⟨2, wLimit, 0, p5⟩, ⟨3, sc, c, p6⟩, ⟨0, [], 0, p7⟩] := by
    rw [descR, if_neg (by rw [d0]; decide)]
  have g : pageR [⟨0, [], 0, p7⟩] = .ok ([], [⟨0, [], 0, p7⟩]) := by rw [pageR, if_neg (by simp [isIt, hdT])]
  have k : kindR [⟨0, [], 0, p7⟩] 0 = .ok (⟨0, [], 0, p7⟩, [⟨0, [], 0, p7⟩]) := by simp [kindR, hdT, nextR]
  unfold queryR timesR
  rw [n1]
  cases ha : timeOk a with
  | false => rfl
  | true =>
    rw [if_pos rfl, if_neg (by decide)]
    dsimp only
    rw [n2]
    cases hb : timeOk b with
    | false => rfl
    | true =>
      rw [if_pos rfl, if_neg (by decide)]
      dsimp only
      by_cases hlt : b < a
      · rw [if_pos hlt, if_pos hlt]
        rfl
      · rw [if_neg hlt, if_neg hlt]
        dsimp only
        rw [m]
        dsimp only
        rw [f]
        dsimp only
        rw [d, n3]
        cases hc : limitOk c with
        | false => rfl
        | true =>
          rw [if_pos rfl, if_neg (by decide)]
          dsimp only
          rw [g]
          dsimp only
          rw [k, d0]

theorem wl_ws : wFrom ∈ wl ∧ wTo ∈ wl ∧ wLimit ∈ wl ∧ wFind ∈ wl ∧ wNot ∈ wl ∧ wTrue ∈ wl ∧ wFalse ∈ wl ∧ wWord ∈ wl ∧ wHas ∈ wl ∧ wField ∈ wl ∧ wAnd ∈ wl ∧ wOr ∈ wl ∧ wWhere ∈ wl ∧ wDesc ∈ wl ∧ wPage ∈ wl := by decide

theorem parseA_nums (a b c : Int) (ha0 : -9223372036854775808 ≤ a) (ha1 : a ≤ 9223372036854775807) (hb0 : -9223372036854775808 ≤ b) (hb1 : b ≤ 9223372036854775807) (hc0 : -9223372036854775808 ≤ c) (hc1 : c ≤ 9223372036854775807) :
    parseA ⟨(numsT a b c).toArray⟩ = numsR a b c := by
  have la := itoa_length_le a ha0 ha1
  have lb := itoa_length_le b hb0 hb1
  have lc := itoa_length_le c hc0 hc1
  have hok : ∀ x ∈ numsG a b c, TokOk x.1 := by
    intro x hx
    simp only [numsG, List.mem_cons, List.not_mem_nil, or_false] at hx
    rcases hx with rfl | rfl | rfl | rfl | rfl | rfl
    · exact ok_word wl_ws.1
    · exact ok_num ha0 ha1
    · exact ok_word wl_ws.2.1
    · exact ok_num hb0 hb1
    · exact ok_word wl_ws.2.2.1
    · exact ok_num hc0 hc1
  have hap : apart (numsG a b c) := ⟨.inl (Nat.le_refl _), .inl (Nat.le_refl _), .inl (Nat.le_refl _), .inl (Nat.le_refl _), .inl (Nat.le_refl _), .inr (.inr (by intro y hy; cases hy)), trivial⟩
  have hlen : (gapT (numsG a b c)).length ≤ 1024 := by rw [numsT_eq]; simp [numsT]; omega
  have h := lexA_gap (numsG a b c) hok hap hlen
  unfold parseA
  rw [← numsT_eq, h]
  show queryR ([⟨2, wFrom, 0, _⟩, ⟨3, itoa a, a, _⟩, ⟨2, wTo, 0, _⟩, ⟨3, itoa b, b, _⟩, ⟨2, wLimit, 0, _⟩, ⟨3, itoa c, c, _⟩] ++ [⟨0, [], 0, _⟩]) = _
  simp only [List.cons_append, List.nil_append]
  rw [query_nums]
  unfold numsR
  simp only [text_word, text_num]
  have e1 : wFrom.length = 4 := rfl
  have e2 : wTo.length = 2 := rfl
  have e3 : wLimit.length = 5 := rfl
  have q2 : ((1 + wFrom.length + 1 : Nat) : Int) = 6 := by rw [e1]; rfl
  have q3 : ((1 + wFrom.length + 1 + (itoa a).length + 1 : Nat) : Int) = ((itoa a).length : Int) + 7 := by rw [e1]; omega
  have q4 : ((1 + wFrom.length + 1 + (itoa a).length + 1 + wTo.length + 1 : Nat) : Int) = ((itoa a).length : Int) + 10 := by rw [e1, e2]; omega
  have q6 : ((1 + wFrom.length + 1 + (itoa a).length + 1 + wTo.length + 1 + (itoa b).length + 1 + wLimit.length + 1 : Nat) : Int) = ((itoa a).length : Int) + (itoa b).length + 17 := by rw [e1, e2, e3]; omega
  rw [q2, q3, q4, q6]
end Go.Proofs.YtebblpmocheelaaGreatDoor
