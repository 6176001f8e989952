/- The walks of the laws LexNumbers and LexNames. -/
import Derived.Test.YtebblpmocheelaaDoorLexR2
import Derived.Deep.RegionHeld3
namespace Go.Proofs.YtebblpmocheelaaDoor
open Go.RowKit

theorem below_drew (w : World) : Below w.heap.size w w.drew := ⟨rfl, rfl, rfl, Nat.le_refl _, fun _ _ => rfl⟩

/-- What is held besides the cells. -/
structure NH (w W : World) (g F : Nat) : Prop where
  b : Below w.heap.size w W
  g : g < W.heap.size
  f : F < W.heap.size

theorem NH.step {w W W' : World} {g F : Nat} (h : NH w W g F) (hb : Below W.heap.size W W') : NH w W' g F :=
  ⟨below_chain h.b h.b.size hb, Nat.lt_of_lt_of_le h.g hb.size, Nat.lt_of_lt_of_le h.f hb.size⟩

/-- The cells of the tokens and of the fault stay. -/
theorem keep5 {w W W' : World} {g F : Nat} {a b c d e : Value}
    (h : W.cell? ⟨F, 0, none⟩ = some a ∧ W.cell? ⟨F, 1, none⟩ = some b ∧ W.cell? ⟨g, 0, none⟩ = some c ∧ W.cell? ⟨g, 1, none⟩ = some d ∧ W.cell? ⟨g, 2, none⟩ = some e ∧ NH w W g F) (hb : Below W.heap.size W W') :
    W'.cell? ⟨F, 0, none⟩ = some a ∧ W'.cell? ⟨F, 1, none⟩ = some b ∧ W'.cell? ⟨g, 0, none⟩ = some c ∧ W'.cell? ⟨g, 1, none⟩ = some d ∧ W'.cell? ⟨g, 2, none⟩ = some e ∧ NH w W' g F := by
  obtain ⟨h1, h2, h3, h4, h5, h6⟩ := h
  exact ⟨(hb.cell h6.f).trans h1, (hb.cell h6.f).trans h2, (hb.cell h6.g).trans h3, (hb.cell h6.g).trans h4, (hb.cell h6.g).trans h5, h6.step hb⟩

theorem held_below {w W : World} {g F : Nat} {a b c d e : Prop} (h : a ∧ b ∧ c ∧ d ∧ e ∧ NH w W g F) : Below w.heap.size w W := h.2.2.2.2.2.b
theorem held_env {w W : World} {g F : Nat} {a b c d e : Prop} (hE : Env w) (h : a ∧ b ∧ c ∧ d ∧ e ∧ NH w W g F) : Env W := hE.below (held_below h)

set_option maxHeartbeats 8000000 in
set_option maxRecDepth 1000000 in
theorem lexNumbers_walk (n : Int) (w : World) (hE : Env w) (h0 : -9223372036854775808 ≤ n) (h1 : n ≤ 9223372036854775807) :
    Calls Tryd.prog 5 #[.int .i64 n] w fun e w' => e = .returned (.bool true) ∧ Below w.heap.size w w' := by
  have cA := alive_walk w hE
  have hlen := Lib.itoa_length_le n h0 h1
  have hLX := lexA_itoa n h0 h1
  have hI := fun W (hW : Env W) => hW.itoa n h0 h1
  have hL := fun W (hW : Env W) => lex_walk ⟨(Lib.itoa n).toArray⟩ W hW (by show (Lib.itoa n).toArray.size ≤ _; simp; omega)
  rw [hLX] at hL
  clear hLX
  generalize Lib.itoa n = q at hlen hI hL
  go_enter Tryd.func5, Tryd.ntmps5
  go_wp2_with fail
  refine cA.mono ?_
  clear cA
  rintro e w1 ⟨rfl, hb1⟩
  have hE1 := hE.below hb1
  have cI := hI w1 hE1
  go_wp2_with fail
  refine cI.mono ?_
  clear cI
  rintro e w2 ⟨rfl, hb2⟩
  have hB2 := below_chain hb1 hb1.size hb2
  have cL := hL w2 (hE.below hB2)
  go_wp2_with fail
  refine cL.mono ?_
  clear cL
  rintro e w3 ⟨hb3, v, rfl, hown⟩
  have hB3 := below_chain hB2 hB2.size hb3
  obtain ⟨g, cap, rfl, hg, hcap, hcell⟩ := own_shape hown (by simp)
  have hown3 := hown.alloc (.cells #[.int .i64 0, .int .i64 0] 28)
  have hF := CellsAt.new w3 28 #[.int .i64 0, .int .i64 0]
  have hB4 := hB3.alloc hB3.size (.cells #[.int .i64 0, .int .i64 0] 28)
  have q0 := hown3.cellAt 0 (by simp)
  have q1 := hown3.cellAt 1 (by simp)
  have q2 := hown3.cellAt 2 (by simp)
  have x0 := hF.cell 0
  have x1 := hF.cell 1
  simp only [tokCells, List.flatMap_cons, List.cons_append, List.nil_append, List.getElem?_cons_zero, List.getElem?_cons_succ] at q0 q1 q2
  have y0 : (w3.alloc (.cells #[.int .i64 0, .int .i64 0] 28)).cell? ⟨w3.heap.size, 0, none⟩ = some (.int .i64 0) := x0
  have y1 : (w3.alloc (.cells #[.int .i64 0, .int .i64 0] 28)).cell? ⟨w3.heap.size, 1, none⟩ = some (.int .i64 0) := x1
  clear x0 x1
  have hcap2 : 2 ≤ cap := by simpa using hcap
  have hNH : NH w (w3.alloc (.cells #[.int .i64 0, .int .i64 0] 28)) g w3.heap.size := ⟨hB4, by simp; omega, by simp⟩
  have hS := And.intro y0 (And.intro y1 (And.intro q0 (And.intro q1 (And.intro q2 hNH))))
  clear hown hown3 hF hcell hcap hL hE1 hB4 y0 y1 q0 q1 q2 hNH
  go_wp2_with fail
  generalize w3.alloc (.cells #[.int .i64 0, .int .i64 0] 28) = W at hS ⊢
  generalize w3.heap.size = F at hS ⊢
  clear hb3 hB3 hB2 hb2 hb1 hg
  go_region_held3 (fun W' => W'.cell? ⟨F, 0, none⟩ = some (.int .i64 0) ∧ W'.cell? ⟨F, 1, none⟩ = some (.int .i64 0) ∧ W'.cell? ⟨g, 0, none⟩ = some (.int .i64 3) ∧ W'.cell? ⟨g, 1, none⟩ = some (.string ⟨q.toArray⟩) ∧ W'.cell? ⟨g, 2, none⟩ = some (.int .i64 n) ∧ NH w W' g F)
    (first | exact keep5 (by assumption) (by assumption) | exact keep5 (by assumption) (below_drew _) | assumption)
    (first | (go_at_call 15; refine (hI _ (held_env hE (by assumption))).mono ?_; rintro e w4 ⟨rfl, hb4⟩))
  go_wp2
  go_ret
  exact ⟨rfl, held_below (by assumption)⟩
/-! ### LexNames -/
theorem namesOnly {s : ByteArray} {t u : Tok} (h : lexA s = .ok [t, u]) (hs : t.says = s.data.toList) (hk : t.kind = 1 ∨ t.kind = 2) : nameR s.data.toList = true ∧ (t.kind = 2 ↔ s.data.toList ∈ wl) := by
  have := lexA_named s _ h t List.mem_cons_self hk
  rw [hs] at this
  refine ⟨this.1, this.2.1, fun hm => ?_⟩
  rcases hk with hk | hk
  · exact absurd hm (this.2.2 hk)
  · exact hk

/-- Behind Lex: what is left of the law. -/
theorem nameR_one {s : ByteArray} (hs : s.size ≤ 1024) (h : nameR s.data.toList = true) : ∃ k, (k = 1 ∨ k = 2) ∧ (k = 2 ↔ s.data.toList ∈ wl) ∧ lexA s = .ok [⟨k, s.data.toList, 0, 1⟩, ⟨0, [], 0, (s.size : Int) + 1⟩] := by
  refine ⟨if s.data.toList ∈ wl then 2 else 1, ?_, ?_, lexA_name s hs h⟩
  · by_cases h : s.data.toList ∈ wl <;> simp [h]
  · by_cases h : s.data.toList ∈ wl <;> simp [h]
end Go.Proofs.YtebblpmocheelaaDoor
