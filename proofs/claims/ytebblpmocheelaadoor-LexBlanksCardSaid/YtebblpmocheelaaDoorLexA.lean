/- The walk of the laws' alive. -/
import Derived.Test.YtebblpmocheelaaDoorLexW5
namespace Go.Proofs.YtebblpmocheelaaDoor
open Go.RowKit

theorem own_shape {w : World} {base size n : Nat} {e : TypeId} {v : Value} {xs : List Value} (h : w.ownsRow base e size v n xs) (hn : 0 < n) :
    ∃ g cap, v = .slice (some ⟨g, 0, none⟩) n cap ∧ g < w.heap.size ∧ n ≤ cap ∧ ∀ j, j < n * size → w.cell? ⟨g, j, none⟩ = xs[j]? := by
  rcases h.2 with ⟨_, h2⟩ | ⟨g, cap, cur, h1, h2, h3, h4, h5, h6, h7⟩
  · omega
  · subst h1
    exact ⟨g, cap, rfl, (Array.getElem?_eq_some_iff.1 h3).1, h4, fun j hj => h.cellAt j hj⟩

theorem lexA_one : lexA ⟨#[104, 97, 115, 32, 34, 97, 92, 34, 98, 34]⟩ = .ok [⟨2, [104, 97, 115], 0, 1⟩, ⟨4, [97, 34, 98], 0, 5⟩, ⟨0, [], 0, 11⟩] := by kernel_rfl
theorem lexA_two : lexA ⟨#[32, 48, 48, 55]⟩ = .error (4, 2) := by kernel_rfl
theorem quoteA_one : quoteA ⟨#[97, 92]⟩ = [34, 97, 92, 92, 34] := by kernel_rfl

set_option maxHeartbeats 8000000 in
set_option maxRecDepth 1000000 in
theorem alive_walk (w : World) (hE : Env w) :
    Calls Tryd.prog 7 #[] w fun e w' => e = .returned (.bool true) ∧ Below w.heap.size w w' := by
  have c1 := lex_walk ⟨#[104, 97, 115, 32, 34, 97, 92, 34, 98, 34]⟩ w hE (by decide)
  rw [lexA_one] at c1
  go_enter Tryd.func7, Tryd.ntmps7
  go_wp2_with fail
  refine c1.mono ?_
  clear c1
  rintro e w1 ⟨hb1, v, rfl, hown⟩
  obtain ⟨g, cap, rfl, hg, hcap, hcell⟩ := own_shape hown (by decide)
  have hE1 := hE.below hb1
  have hB1 : Below w.heap.size w (w1.alloc (.cells #[.int .i64 0, .int .i64 0] 28)) := hb1.alloc hb1.size _
  have hF1 := CellsAt.new w1 28 #[.int .i64 0, .int .i64 0]
  have c2 := lex_walk ⟨#[32, 48, 48, 55]⟩ _ (hE.below hB1) (by decide)
  rw [lexA_two] at c2
  have hown1 := hown.alloc (.cells #[.int .i64 0, .int .i64 0] 28)
  clear hown
  go_wp2_with fail
  refine c2.mono ?_
  clear c2
  rintro e w2 ⟨hb2, rfl⟩
  have hown2 := (own_below hown1 hb2).alloc (.cells #[.int .i64 4, .int .i64 2] 28)
  have hF2 := (below_cells hF1 hb2).alloc (.cells #[.int .i64 4, .int .i64 2] 28)
  have hG2 := CellsAt.new w2 28 #[.int .i64 4, .int .i64 2]
  have hz2 : w.heap.size ≤ w2.heap.size := Nat.le_trans hB1.size hb2.size
  have hB2 := (below_chain hB1 hB1.size hb2).alloc hz2 (.cells #[.int .i64 4, .int .i64 2] 28)
  have c3 := quote_walk ⟨#[97, 92]⟩ _ (hE.below hB2) (by decide)
  rw [quoteA_one] at c3
  have q0 := hown2.cellAt 0 (by decide)
  have q5 := hown2.cellAt 5 (by decide)
  have q7 := hown2.cellAt 7 (by decide)
  have x0 := hF2.cell 0
  have x1 := hF2.cell 1
  have y0 := hG2.cell 0
  have y1 := hG2.cell 1
  simp [tokCells] at q0 q5 q7 x0 x1 y0 y1
  have hcap3 : 3 ≤ cap := hcap
  have hgz : g < (w2.alloc (.cells #[.int .i64 4, .int .i64 2] 28)).heap.size := by simp; have := hb2.size; simp at this; omega
  clear hown1 hown2 hF1 hF2 hG2 hcell hcap
  go_wp2_with (go_at_call 8; refine c3.mono ?_; rintro e w3 ⟨rfl, hb3⟩)
  go_ret
  exact ⟨rfl, below_chain hB2 (by simp; omega) hb3⟩
end Go.Proofs.YtebblpmocheelaaDoor
