/- What the walks ask of the world (the library's tables), that it stays, and the library's contracts under it in one form. -/
import Derived.Test.YtebblpmocheelaaGreatDoorLexP
import Derived.Test.YtebblpmocheelaaGreatDoorShelf
import Derived.Test.YtebblpmocheelaaGreatDoorShelfB
import Derived.WalkKit
import Derived.BigCall
import Derived.Outline
import Derived.WalkLawsBesides
import Derived.WalkSpells
import Derived.BigQuiet
import Derived.Lib.SmallJoins
import Derived.Shelf.Unicode.PredsPay
namespace Go.Proofs.YtebblpmocheelaaGreatDoor
open Go.RowKit

/-- The library's variables that are read. -/
structure Env (w : World) : Prop where
  tabs : Lib.Utf8Tabs 1 2 w
  pow : Lib.TabIs Tryz.prog w "internal/strconv.uint64pow10" .u64 Lib.pow10Tab
  len : ∃ m, w.cell? ⟨6, 0, none⟩ = some (.int .i64 m)
  esyn : ∃ te pe, w.cell? ⟨7, 0, none⟩ = some (.iface te pe)
  eran : ∃ te pe, w.cell? ⟨8, 0, none⟩ = some (.iface te pe)

theorem gPow : Tryz.prog.globalNamed "internal/strconv.uint64pow10" = some 3 := by kernel_rfl

theorem ret_b {a b : Bool} (h : b = a) : Ending.returned (.bool a) = .returned (.bool b) := by rw [h]
theorem ret_v {a b : Value} (h : b = a) : Ending.returned a = .returned b := by rw [h]

theorem cell_lt {w : World} {a : Addr} {v : Value} (h : w.cell? a = some v) : a.block < w.heap.size := by
  rcases Nat.lt_or_ge a.block w.heap.size with h' | h'
  · exact h'
  · simp [World.cell?, Array.getElem?_eq_none h'] at h

theorem Env.below {w w' : World} (h : Env w) (hb : Below w.heap.size w w') : Env w' := by
  obtain ⟨m, hm⟩ := h.len
  obtain ⟨t1, p1, h1⟩ := h.esyn
  obtain ⟨t2, p2, h2⟩ := h.eran
  exact ⟨Utf8Tabs_below h.tabs hb, TabIs_below gPow h.pow hb, ⟨m, (hb.cell (cell_lt hm)).trans hm⟩, ⟨t1, p1, (hb.cell (cell_lt h1)).trans h1⟩, ⟨t2, p2, (hb.cell (cell_lt h2)).trans h2⟩⟩


theorem below_chain {w w1 w2 : World} {B : Nat} (h : Below B w w1) (hB : B ≤ w1.heap.size) (k : Below w1.heap.size w1 w2) : Below B w w2 := h.trans (k.mono hB)

theorem below_grow2 (w : World) (q : Nat) (os : Array Obj) : Below w.heap.size w (Sort.grow (w.drewN q) os) :=
  ⟨rfl, rfl, rfl, by show w.heap.size ≤ (w.heap ++ os).size; simp, fun i hi => by show (w.heap ++ os)[i]? = _; rw [Array.getElem?_append_left hi]⟩

theorem Env.contains {w : World} (h : Env w) (s sub : ByteArray) (hs : s.size < 4294967281) :
    Calls Tryz.prog 102 #[.string s, .string sub] w fun e w' => e = .returned (.bool (Lib.contains s.data.toList sub.data.toList)) ∧ w' = w := by
  obtain ⟨m, hm⟩ := h.len
  exact Tryz.strings_Contains s sub m w hs hm

theorem Env.valid {w : World} (h : Env w) (s : ByteArray) (hs : s.size ≤ 9223372036854775807) :
    Calls Tryz.prog 101 #[.string s] w fun e w' => e = .returned (.bool (Lib.validD s.data.toList)) ∧ Below w.heap.size w w' := Tryz.utf8_ValidString s w hs h.tabs

theorem Env.itoa {w : World} (h : Env w) (n : Int) (h0 : -9223372036854775808 ≤ n) (h1 : n ≤ 9223372036854775807) :
    Calls Tryz.prog 17 #[.int .i64 n] w fun e w' => e = .returned (.string ⟨(Lib.itoa n).toArray⟩) ∧ Below w.heap.size w w' := by
  refine (Tryz.strconv_Itoa n h0 h1 w h.pow).mono ?_
  rintro e w' ⟨rfl, k, os, rfl⟩
  exact ⟨rfl, below_grow2 _ _ _⟩

/-- What strconv.Atoi hands back. -/
def AtoiPost (l : List UInt8) (w : World) (e : Ending) (w' : World) : Prop :=
  ∃ v ev, e = .returned (.tuple #[.int .i64 v, ev]) ∧ Below w.heap.size w w' ∧ (∀ n, Lib.atoiAll l = .ok n → v = n ∧ ev = .nilIface) ∧ ((∀ n, Lib.atoiAll l ≠ .ok n) → ∃ t p, ev = .iface t p)

theorem Env.atoi {w : World} (h : Env w) (s : ByteArray) (hs : s.size ≤ 65536) :
    Calls Tryz.prog 107 #[.string s] w (AtoiPost s.data.toList w) := by
  obtain ⟨t1, p1, h1⟩ := h.esyn
  obtain ⟨t2, p2, h2⟩ := h.eran
  cases hr : Lib.atoiAll s.data.toList with
  | ok v =>
    refine (Tryz.strconv_Atoi_ok s (by omega) v hr w).mono ?_
    rintro e w' ⟨rfl, hw⟩
    refine ⟨v, _, rfl, ?_, fun n hn => ⟨by rw [hr] at hn; injection hn, rfl⟩, fun hn => absurd hr (hn v)⟩
    rcases hw with rfl | ⟨t, rfl⟩
    · exact Below.refl _ _
    · exact Joins.below_bytesWorld _ _ _ _ (Nat.le_refl _)
  | range =>
    refine (Tryz.strconv_Atoi_range s (by omega) hr _ w h2 (.inr ⟨_, _, rfl⟩)).mono ?_
    rintro e w' ⟨N, rfl, _, _, hb⟩
    exact ⟨_, _, rfl, hb, (fun n hn => by rw [hr] at hn; cases hn), fun _ => ⟨_, _, rfl⟩⟩
  | _ =>
    refine (Tryz.strconv_Atoi_syntax s (by omega) hr _ w h1 (.inr ⟨_, _, rfl⟩)).mono ?_
    rintro e w' ⟨N, rfl, _, _, hb⟩
    exact ⟨_, _, rfl, hb, (fun n hn => by rw [hr] at hn; cases hn), fun _ => ⟨_, _, rfl⟩⟩
end Go.Proofs.YtebblpmocheelaaGreatDoor
