/- What package word computes, as plain Lean functions: no program in sight. -/
import Derived.Lib.TrimUEq
namespace Go.Proofs.YtebblpmocheelaaGreatDoor
open Go.Lib

/-- word.Letter. -/
def wordR (c : Nat) : Bool := (decide (97 ≤ c) && decide (c ≤ 122)) || (decide (65 ≤ c) && decide (c ≤ 90)) || (decide (48 ≤ c) && decide (c ≤ 57)) || decide (c = 95) || (decide (128 ≤ c) && decide (c ≠ 65533))

/-- What is left of an open word at the end. -/
def spansEnd (s : ByteArray) (fr : Option Nat) : List (Nat × Nat) := match fr with
  | some a => [(a, s.size)]
  | none => []

/-- A word that ends here. -/
def spansCut (fr : Option Nat) (pos : Nat) : List (Nat × Nat) := match fr with
  | some a => [(a, pos)]
  | none => []

/-- word.spans, from a place on; 'fr': where the open word begins. -/
def spansFrom (s : ByteArray) : Nat → Nat → Option Nat → List (Nat × Nat)
  | 0, _, fr => spansEnd s fr
  | f + 1, pos, fr =>
    if pos < s.size then
      if wordR (Utf8.decode s pos).1 = true then spansFrom s f (pos + (Utf8.decode s pos).2) (some (fr.getD pos))
      else spansCut fr pos ++ spansFrom s f (pos + (Utf8.decode s pos).2) none
    else spansEnd s fr
def spansA (s : ByteArray) : List (Nat × Nat) := spansFrom s s.size 0 none
/-- word.Is. -/
def firstIs (s : ByteArray) : List (Nat × Nat) → Bool
  | [] => false
  | x :: _ => decide (x.1 = 0) && decide (x.2 = s.size)
def isA (s : ByteArray) : Bool := firstIs s (spansA s)
end Go.Proofs.YtebblpmocheelaaGreatDoor
