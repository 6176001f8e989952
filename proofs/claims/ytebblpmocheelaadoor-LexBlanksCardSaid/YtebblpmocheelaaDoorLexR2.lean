/- The walks of ref05.Words and ref05.IsWord. -/
import Derived.Test.YtebblpmocheelaaDoorLexR
namespace Go.Proofs.YtebblpmocheelaaDoor
open Go.RowKit

def wlCells : Array Value := #[.string ⟨#[102, 114, 111, 109]⟩, .string ⟨#[116, 111]⟩, .string ⟨#[119, 104, 101, 114, 101]⟩, .string ⟨#[102, 105, 110, 100]⟩, .string ⟨#[100, 101, 115, 99]⟩, .string ⟨#[108, 105, 109, 105, 116]⟩, .string ⟨#[112, 97, 103, 101]⟩, .string ⟨#[97, 110, 100]⟩, .string ⟨#[111, 114]⟩, .string ⟨#[110, 111, 116]⟩, .string ⟨#[119, 111, 114, 100]⟩, .string ⟨#[104, 97, 115]⟩, .string ⟨#[102, 105, 101, 108, 100]⟩, .string ⟨#[116, 114, 117, 101]⟩, .string ⟨#[102, 97, 108, 115, 101]⟩]
theorem wlCells_eq : wlCells = (wl.map fun l => Value.string ⟨l.toArray⟩).toArray := rfl
theorem wlCells_at (k : Nat) (x : List UInt8) (h : wl[k]? = some x) : wlCells[k]? = some (.string ⟨x.toArray⟩) := by
  rw [wlCells_eq, List.getElem?_toArray, List.getElem?_map, h]; rfl

set_option maxHeartbeats 4000000 in
set_option maxRecDepth 1000000 in
theorem words_walk (w : World) :
    Calls Tryd.prog 21 #[] w fun e w' => e = .returned (.slice (some ⟨w.heap.size, 0, none⟩) 15 15) ∧ w' = w.alloc (.cells wlCells 9) := by
  go_enter Tryd.func21, Tryd.ntmps21
  go_wp2
  go_ret
  exact ⟨rfl, rfl⟩

set_option maxHeartbeats 4000000 in
set_option maxRecDepth 1000000 in
theorem refIsWord_walk (s : ByteArray) (w : World) :
    Calls Tryd.prog 10 #[.string s] w fun e w' => e = .returned (.bool (decide (s.data.toList ∈ wl))) ∧ Below w.heap.size w w' := by
  have cW := words_walk w
  have hB := (Below.refl w.heap.size w).alloc (Nat.le_refl _) (.cells wlCells 9)
  have hC := CellsAt.new w 9 wlCells
  have hlt : w.heap.size < (w.alloc (.cells wlCells 9)).heap.size := by simp
  obtain ⟨W, hW⟩ : ∃ W, w.alloc (.cells wlCells 9) = W := ⟨_, rfl⟩
  rw [hW] at cW hB hC hlt
  clear hW
  go_enter Tryd.func10, Tryd.ntmps10
  go_wp2_with (go_at_call 21; refine cW.mono ?_; rintro e w' ⟨rfl, rfl⟩)
  go_loop [7] (fun i => ∃ k : Nat, k ≤ 15 ∧ i = .int .i64 k ∧ ∀ j, j < k → ∀ x, wl[j]? = some x → x ≠ s.data.toList) (fun i => 15 - (intOf i).toNat)
  case atStart => exact ⟨0, Nat.zero_le _, rfl, fun j hj => absurd hj (by omega)⟩
  case round =>
    obtain ⟨k, hk, rfl, hall⟩ := hrel
    have HALL := Lib.hid hall
    clear hall
    by_cases hlt2 : k < 15
    · obtain ⟨x, hx⟩ : ∃ x, wl[k]? = some x := ⟨_, List.getElem?_eq_getElem (show k < wl.length from hlt2)⟩
      have hc := (hC.cell k).trans (wlCells_at k x hx)
      by_cases hxs : x = s.data.toList
      · have HV : Hid (decide (s.data.toList ∈ wl) = true) := Lib.hid (decide_eq_true (by rw [← hxs]; exact List.mem_of_getElem? hx))
        have hq : (x == s.toList) = true := by rw [ByteArray.toList_eq, ← hxs]; simp
        clear hxs hx
        go_wp2
        go_ret
        exact ⟨ret_b HV.out, hB⟩
      · have HN : Hid (∀ j, j < k + 1 → ∀ x, wl[j]? = some x → x ≠ s.data.toList) := Lib.hid (fun j hj y hy => by
          by_cases e : j = k
          · subst e; rw [hx] at hy; injection hy with hy; subst hy; exact hxs
          · exact HALL.out j (by omega) y hy)
        have hq : (x == s.toList) = false := by rw [ByteArray.toList_eq, beq_eq_false_iff_ne]; exact hxs
        clear hxs hx
        go_wp2
        go_round
        case rel => exact ⟨k + 1, by omega, by go_num, HN.out⟩
        case measure => simp [intOf]; omega
    · have HV : Hid (decide (s.data.toList ∈ wl) = false) := Lib.hid (decide_eq_false (fun hm => by
        obtain ⟨j, hj, he⟩ := List.mem_iff_getElem.1 hm
        have hj' : j < 15 := hj
        exact HALL.out j (by omega) _ (List.getElem?_eq_getElem hj) he))
      go_wp2
      go_ret
      exact ⟨ret_b HV.out, hB⟩
end Go.Proofs.YtebblpmocheelaaDoor
