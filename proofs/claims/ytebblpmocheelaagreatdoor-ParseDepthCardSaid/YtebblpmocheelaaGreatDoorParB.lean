/- The walk of the parse laws' alive. -/
import Derived.Test.YtebblpmocheelaaGreatDoorParK
namespace Go.Proofs.YtebblpmocheelaaGreatDoor
open Go.RowKit Go.Lib

theorem FVal.node_shape {W : World} {S : Nat → Prop} {x : V4} {op : Int} {nm tx : List UInt8} {k : F} {ks : List F} (h : FVal W S x (F.mk op nm tx (k :: ks))) :
    ∃ g cap, x = ⟨.int .i64 op, .string ⟨nm.toArray⟩, .string ⟨tx.toArray⟩, .slice (some ⟨g, 0, none⟩) (k :: ks).length cap⟩ := by
  cases h with
  | node op nm tx g cap ks vs => exact ⟨g, cap, rfl⟩

theorem pa_one : parseA ⟨#[102, 114, 111, 109, 32, 48, 32, 116, 111, 32, 57, 32, 102, 105, 110, 100, 32, 119, 111, 114, 100, 32, 34, 97, 34, 32, 111, 114, 32, 119, 111, 114, 100, 32, 34, 98, 34, 32, 108, 105, 109, 105, 116, 32, 53]⟩ =
    .ok ⟨0, 9, [], F.mk 8 [] [] [F.mk 3 [] [97] [], F.mk 3 [] [98] []], false, 5, []⟩ := by kernel_rfl
theorem pa_two : parseA ⟨#[102, 114, 111, 109, 32, 48, 32, 116, 111, 32, 57, 32, 108, 105, 109, 105, 116, 32, 53, 49]⟩ = .error (6, 19) := by kernel_rfl

set_option maxHeartbeats 8000000 in
set_option maxRecDepth 1000000 in
theorem pAlive_walk (w : World) (hE : PEnv w) :
    Calls Tryz.prog 10 #[] w fun e w' => e = .returned (.bool true) ∧ Below w.heap.size w w' := by
  have c1 := parse_walk _ w hE (by decide : (⟨#[102, 114, 111, 109, 32, 48, 32, 116, 111, 32, 57, 32, 102, 105, 110, 100, 32, 119, 111, 114, 100, 32, 34, 97, 34, 32, 111, 114, 32, 119, 111, 114, 100, 32, 34, 98, 34, 32, 108, 105, 109, 105, 116, 32, 53]⟩ : ByteArray).size ≤ 65536)
  rw [pa_one] at c1
  go_enter Tryz.func10, Tryz.ntmps10
  go_wp2_with fail
  refine c1.mono ?_
  clear c1
  rintro e w1 ⟨hb1, mv, fx, rfl, hO, hF⟩
  obtain ⟨ao, cp, rfl⟩ := own_slice hO
  obtain ⟨g, cap, rfl⟩ := hF.node_shape
  clear hO hF
  simp only [queryV, faultV]
  obtain ⟨QO, hQO⟩ : ∃ QO : Obj, (.cells #[.int .i64 0, .int .i64 9, .slice ao ([] : List M).length cp, .int .i64 8, .string ⟨([] : List UInt8).toArray⟩, .string ⟨([] : List UInt8).toArray⟩, .slice (some ⟨g, 0, none⟩) [F.mk 3 [] [97] [], F.mk 3 [] [98] []].length cap, .bool false, .int .i64 5, .string ⟨([] : List UInt8).toArray⟩] 28) = QO := ⟨_, rfl⟩
  have hN1 : CellsAt (w1.alloc QO) w1.heap.size 28 #[.int .i64 0, .int .i64 9, .slice ao 0 cp, .int .i64 8, .string ⟨#[]⟩, .string ⟨#[]⟩, .slice (some ⟨g, 0, none⟩) 2 cap, .bool false, .int .i64 5, .string ⟨#[]⟩] := by subst hQO; exact CellsAt.new w1 _ _
  have hN2 := hN1.alloc (.cells #[.int .i64 0, .int .i64 0] 31)
  have hF2 := CellsAt.new (w1.alloc QO) 31 #[.int .i64 0, .int .i64 0]
  have hz : (w1.alloc QO).heap.size = w1.heap.size + 1 := by simp
  rw [hz] at hF2
  have hB2 : Below w.heap.size w ((w1.alloc QO).alloc (.cells #[.int .i64 0, .int .i64 0] 31)) := (hb1.alloc hb1.size _).alloc (by simp; have := hb1.size; omega) _
  have c2 := parse_walk ⟨#[102, 114, 111, 109, 32, 48, 32, 116, 111, 32, 57, 32, 108, 105, 109, 105, 116, 32, 53, 49]⟩ _ (hE.below hB2) (by decide)
  rw [pa_two] at c2
  clear hz hN1
  subst hQO
  go_wp2_with fail
  refine c2.mono ?_
  clear c2
  rintro e w2 ⟨hb2, rfl⟩
  have hN3 := below_cells hN2 hb2
  have hF3 := below_cells hF2 hb2
  have hB3 := hB2.trans (hb2.mono hB2.size)
  clear hN2 hF2 hB2 hb2
  simp only [noQuery, faultV]
  obtain ⟨q0, q1, q2, q3, q4, q5, q6, q7, q8, q9⟩ := hN3.ten
  have f0 := hF3.cell 0; have f1 := hF3.cell 1
  simp only [List.getElem?_toArray, List.getElem?_cons_zero, List.getElem?_cons_succ] at f0 f1
  have hl1 := hN3.lt
  have hl2 := hF3.lt
  go_wp2
  go_ret
  exact ⟨rfl, (hB3.alloc hB3.size _).alloc (by simp; have := hB3.size; omega) _⟩
end Go.Proofs.YtebblpmocheelaaGreatDoor
