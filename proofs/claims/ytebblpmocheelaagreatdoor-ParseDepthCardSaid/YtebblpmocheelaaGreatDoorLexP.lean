/- What package lex of the program computes, as plain Lean functions over bytes: no program in sight. -/
import Derived.Lib.MapLaws
import Derived.Lib.ValidLaws
import Derived.Lib.IndexMore
import Derived.Lib.AtoiAll
import Derived.Lib.ItoaNum
import Derived.Lib.TrimByte
import Derived.Lib.RuneBytes
import Derived.Lib.TrimUEq
import Derived.Test.YtebblpmocheelaaGreatDoorWordP
namespace Go.Proofs.YtebblpmocheelaaGreatDoor
open Go.Lib

/-- A letter, a digit, an underline. -/
def letB (b : UInt8) : Bool := (decide (97 ≤ b.toNat) && decide (b.toNat ≤ 122)) || (decide (65 ≤ b.toNat) && decide (b.toNat ≤ 90)) || (decide (48 ≤ b.toNat) && decide (b.toNat ≤ 57)) || decide (b.toNat = 95)
def digB (b : UInt8) : Bool := decide (48 ≤ b.toNat) && decide (b.toNat ≤ 57)

/-- The words, a blank ahead of each and one behind the last. -/
def wordsL : List UInt8 := [32, 102, 114, 111, 109, 32, 116, 111, 32, 119, 104, 101, 114, 101, 32, 102, 105, 110, 100, 32, 100, 101, 115, 99, 32, 108, 105, 109, 105, 116, 32, 112, 97, 103, 101, 32, 97, 110, 100, 32, 111, 114, 32, 110, 111, 116, 32, 119, 111, 114, 100, 32, 104, 97, 115, 32, 102, 105, 101, 108, 100, 32, 116, 114, 117, 101, 32, 102, 97, 108, 115, 101, 32]
/-- lex.IsWord. -/
def isWordL (l : List UInt8) : Bool := !l.isEmpty && !contains l [32] && contains wordsL (32 :: (l ++ [32]))
/-- lex.IsText. -/
def isTextL (l : List UInt8) : Bool := validD l && !contains l [10]

/-- lex.Quote, from a place on. -/
def escFrom (s : ByteArray) : Nat → Nat → List UInt8
  | 0, _ => []
  | f + 1, pos => if pos < s.size then (if (Utf8.decode s pos).1 = 34 ∨ (Utf8.decode s pos).1 = 92 then [92] else []) ++ encodeRune (Utf8.decode s pos).1 ++ escFrom s f (pos + (Utf8.decode s pos).2) else []
def quoteA (s : ByteArray) : List UInt8 := if isTextL s.data.toList then 34 :: (escFrom s s.size 0 ++ [34]) else []

/-- lex.quoted, over what stands behind the first letter. -/
def quotedFrom (t : ByteArray) : Nat → Nat → Bool → List UInt8 → Option (List UInt8 × Nat)
  | 0, _, _, _ => none
  | f + 1, pos, st, acc =>
    if pos < t.size then
      if (Utf8.decode t pos).1 = 10 then none
      else if st = true ∧ (Utf8.decode t pos).1 ≠ 34 ∧ (Utf8.decode t pos).1 ≠ 92 then none
      else if st = false ∧ (Utf8.decode t pos).1 = 34 then some (acc, pos + 2)
      else if st = false ∧ (Utf8.decode t pos).1 = 92 then quotedFrom t f (pos + (Utf8.decode t pos).2) true acc
      else quotedFrom t f (pos + (Utf8.decode t pos).2) false (acc ++ encodeRune (Utf8.decode t pos).1)
    else none
def quotedA (s : ByteArray) : Option (List UInt8 × Nat) := quotedFrom (s.extract 1 s.size) (s.extract 1 s.size).size 0 false []

/-- lex.run: how many letters from the first one on. -/
def runL (l : List UInt8) : Nat :=
  match l with
  | [] => 0
  | c :: r => if letB c || decide (c.toNat = 45) then 1 + (r.takeWhile letB).length else 0

/-- What record.Name asks of byte k. -/
def nameBad (b : UInt8) (k : Nat) : Bool := decide (128 ≤ b.toNat) || (decide (k = 0) && (decide (48 ≤ b.toNat) && decide (b.toNat ≤ 57)))
/-- record.Name, as its text goes. -/
def nameA (s : ByteArray) : Bool := (s.data.toList.zipIdx.all fun x => !nameBad x.1 x.2) && (decide (s.size ≤ 20) && isA s)

/-- A number, if its digits are these bytes. -/
def numOf (l : List UInt8) : NumEnd Int → Option (Int × Int)
  | .ok n => if itoa n = l then some (3, n) else none
  | _ => none

/-- lex.plain, as its text goes. -/
def plainA (s : ByteArray) : Option (Int × Int) :=
  if isWordL s.data.toList = true then some (2, 0)
  else if nameA s = true then some (1, 0)
  else numOf s.data.toList (Lib.atoiAll s.data.toList)

structure Tok where
  kind : Int
  says : List UInt8
  n : Int
  place : Int
  deriving DecidableEq

/-- lex.one: the next token (without its place), and how many letters it has. -/
def oneA (s : ByteArray) : Option (Tok × Nat) :=
  if hasPrefix s.data.toList [33, 61] then some (⟨5, [33, 61], 0, 0⟩, 2)
  else if hasPrefix s.data.toList [61] then some (⟨5, [61], 0, 0⟩, 1)
  else if hasPrefix s.data.toList [40] then some (⟨5, [40], 0, 0⟩, 1)
  else if hasPrefix s.data.toList [41] then some (⟨5, [41], 0, 0⟩, 1)
  else if s.data.toList.head? = some 34 then (quotedA s).map fun x => (⟨4, x.1, 0, 0⟩, x.2)
  else (plainA ⟨(s.data.toList.take (runL s.data.toList)).toArray⟩).map fun x => (⟨x.1, s.data.toList.take (runL s.data.toList), x.2, 0⟩, runL s.data.toList)

/-- Where the first rune stands that is none; none: all are. -/
def badFrom (s : ByteArray) : Nat → Nat → Option Nat
  | 0, _ => none
  | f + 1, pos => if pos < s.size then (if (Utf8.decode s pos).1 = 65533 ∧ hasPrefix (s.data.toList.drop pos) [239, 191, 189] = false then some pos else badFrom s f (pos + (Utf8.decode s pos).2)) else none

/-- The tokens from a place on: or where none begins. -/
def lexFrom (s : ByteArray) : Nat → Nat → Except Int (List Tok)
  | 0, _ => .error 0
  | f + 1, at_ =>
    let r := trimLeftB (s.data.toList.drop at_) 32
    if r = [] then .ok [⟨0, [], 0, s.size + 1⟩]
    else match oneA ⟨r.toArray⟩ with
      | none => .error (s.size - r.length + 1)
      | some (t, n) => (lexFrom s f (s.size - r.length + n)).map ({ t with place := s.size - r.length + 1 } :: ·)

/-- lex.Lex: the tokens; or the error's number, and where. -/
def lexA (s : ByteArray) : Except (Int × Int) (List Tok) :=
  if 1024 < s.size then .error (6, 1)
  else match badFrom s s.size 0 with
    | some i => .error (4, i + 1)
    | none => match lexFrom s (s.size + 1) 0 with
      | .ok l => .ok l
      | .error i => .error (4, i)
end Go.Proofs.YtebblpmocheelaaGreatDoor
