/- The walks of record.Name, lex.plain and lex.one. -/
import Derived.Test.YtebblpmocheelaaGreatDoorWordW
namespace Go.Proofs.YtebblpmocheelaaGreatDoor
open Go.RowKit

theorem zip_all (s : ByteArray) (h : ∀ j (hj : j < s.size), nameBad (s[j]'hj) j = false) : (s.data.toList.zipIdx.all fun x => !nameBad x.1 x.2) = true := by
  rw [List.all_eq_true]
  intro x hx
  rw [List.mem_zipIdx_iff_getElem?] at hx
  obtain ⟨hj, he⟩ := List.getElem?_eq_some_iff.1 hx
  have hj' : x.2 < s.size := by rw [Lib.size_eq]; exact hj
  have := h x.2 hj'
  have e : s[x.2]'hj' = x.1 := by rw [← he]; simp; rfl
  rw [e] at this
  rw [this]; rfl

theorem zip_not (s : ByteArray) (j : Nat) (hj : j < s.size) (h : nameBad (s[j]'hj) j = true) : (s.data.toList.zipIdx.all fun x => !nameBad x.1 x.2) = false := by
  rw [← Bool.not_eq_true, List.all_eq_true]
  intro hall
  have hj' : j < s.data.toList.length := by rw [← Lib.size_eq]; exact hj
  have e : s.data.toList[j]'hj' = s[j]'hj := by simp; rfl
  have := hall (s[j]'hj, j) (by rw [List.mem_zipIdx_iff_getElem?]; exact List.getElem?_eq_some_iff.2 ⟨hj', e⟩)
  dsimp only at this
  rw [h] at this
  cases this

set_option maxHeartbeats 4000000 in
set_option maxRecDepth 1000000 in
theorem name_walk (s : ByteArray) (w : World) (hs : s.size ≤ 65536) :
    Calls Tryz.prog 109 #[.string s] w fun e w' => e = .returned (.bool (nameA s)) ∧ Below w.heap.size w w' := by
  go_enter Tryz.func109, Tryz.ntmps109
  go_wp2
  go_loop [6] (fun i => ∃ k : Nat, k ≤ s.size ∧ i = .int .i64 k ∧ ∀ j, j < k → ∀ hj : j < s.size, nameBad (s[j]'hj) j = false) (fun i => s.size - (intOf i).toNat)
  case atStart => exact ⟨0, Nat.zero_le _, rfl, fun j hj => absurd hj (by omega)⟩
  case round =>
    obtain ⟨k, hk, rfl, hall⟩ := hrel
    by_cases hlt : k < s.size
    · have hnot := zip_not s k hlt
      obtain ⟨c, hc⟩ : ∃ c, (s[k]'hlt).toNat = c := ⟨_, rfl⟩
      have hb : nameBad (s[k]'hlt) k = (decide (128 ≤ c) || (decide (k = 0) && (decide (48 ≤ c) && decide (c ≤ 57)))) := by rw [nameBad, hc]
      cases hbad : nameBad (s[k]'hlt) k with
      | true =>
        have hv : nameA s = false := by rw [nameA, hnot hbad]; rfl
        rw [hbad] at hb
        have HV := Lib.hid hv
        clear hv hnot hbad hall
        have hb2 : 128 ≤ c ∨ (k = 0 ∧ 48 ≤ c ∧ c ≤ 57) := by simpa using hb.symm
        clear hb
        rcases hb2 with h | ⟨rfl, h1, h2⟩
        all_goals
          go_wp2
          go_ret
          exact ⟨ret_b HV.out, Below.refl _ _⟩
      | false =>
        rw [hbad] at hb
        have hall2 : ∀ j, j < k + 1 → ∀ hj : j < s.size, nameBad (s[j]'hj) j = false := by
          intro j hj hjs
          by_cases e : j = k
          · subst e; exact hbad
          · exact hall j (by omega) hjs
        have HALL := Lib.hid hall2
        clear hall2 hall hnot hbad
        have hb2 : c < 128 ∧ (k = 0 → ¬ (48 ≤ c ∧ c ≤ 57)) := by
          have := hb.symm
          simp at this
          omega
        clear hb
        by_cases hk0 : k = 0
        · subst hk0
          have hb3 := hb2.2 rfl
          have hb4 := hb2.1
          clear hb2
          rcases (show c < 48 ∨ (48 ≤ c ∧ 57 < c) by omega) with h | ⟨h1, h2⟩
          all_goals
            go_wp2
            go_round
            case rel => exact ⟨0 + 1, by omega, by go_num, HALL.out⟩
            case measure => simp [intOf]; omega
        · have e0 : ((k : Int) == 0) = false := by rw [beq_eq_false_iff_ne]; omega
          have hb4 := hb2.1
          clear hb2 hk0
          go_wp2
          go_round
          case rel => exact ⟨k + 1, by omega, by go_num, HALL.out⟩
          case measure => simp [intOf]; omega
    · have hke : k = s.size := by omega
      have hz : (s.data.toList.zipIdx.all fun x => !nameBad x.1 x.2) = true := zip_all s fun j hj => hall j (by omega) hj
      have hv : nameA s = (decide (s.size ≤ 20) && isA s) := by rw [nameA, hz, Bool.true_and]
      have HV := Lib.hid hv
      clear hv hz hall
      by_cases h20 : s.size ≤ 20
      · have d20 : decide (s.size ≤ 20) = true := decide_eq_true h20
        have HD := Lib.hid d20
        clear d20
        go_wp2_with (go_at_call 125; refine (is_walk s _ hs).mono ?_; rintro e w' ⟨rfl, hb⟩)
        go_ret
        exact ⟨ret_b (by rw [HV.out, HD.out]; rfl), hb⟩
      · have d20 : decide (s.size ≤ 20) = false := decide_eq_false h20
        have HD := Lib.hid d20
        clear d20
        go_wp2
        go_ret
        exact ⟨ret_b (by rw [HV.out, HD.out]; rfl), Below.refl _ _⟩

/-! ### lex.plain -/
/-- What lex.plain hands back. -/
def plainV (s : ByteArray) : Option (Int × Int) → Value
  | some x => .tuple #[.agg #[.int .i64 x.1, .string s, .int .i64 x.2, .int .i64 0], .bool true]
  | none => .tuple #[.agg #[.int .i64 0, .string ⟨#[]⟩, .int .i64 0, .int .i64 0], .bool false]

/-- Four cells of a block behind a call. -/
theorem four_cells {w w1 : World} {t : TypeId} {a b c d : Value} (hb : Below (w.alloc (.cells #[a, b, c, d] t)).heap.size (w.alloc (.cells #[a, b, c, d] t)) w1) : CellsAt w1 w.heap.size t #[a, b, c, d] :=
  (hb.block w.heap.size (by simp)).trans (CellsAt.new w t _)

theorem below_cells {w w1 : World} {B : Nat} {t : TypeId} {xs : Array Value} (h : CellsAt w B t xs) (hb : Below w.heap.size w w1) : CellsAt w1 B t xs := (hb.block B h.lt).trans h

theorem four_set {W : World} {B : Nat} {t : TypeId} {a b c d : Value} (h : CellsAt W B t #[a, b, c, d]) (x y z u : Value) :
    CellsAt ((((W.setCell ⟨B, 0, none⟩ x).setCell ⟨B, 1, none⟩ y).setCell ⟨B, 2, none⟩ z).setCell ⟨B, 3, none⟩ u) B t #[x, y, z, u] := (((h.set 0 x).set 1 y).set 2 z).set 3 u
theorem four_below {w W : World} {B : Nat} (h : Below B w W) {b : Nat} (hb : B ≤ b) {x y z u : Value} :
    Below B w ((((W.setCell ⟨b, 0, none⟩ x).setCell ⟨b, 1, none⟩ y).setCell ⟨b, 2, none⟩ z).setCell ⟨b, 3, none⟩ u) := (((h.setCell (p := ⟨b, 0, none⟩) hb x).setCell (p := ⟨b, 1, none⟩) hb y).setCell (p := ⟨b, 2, none⟩) hb z).setCell (p := ⟨b, 3, none⟩) hb u

set_option maxHeartbeats 4000000 in
set_option maxRecDepth 1000000 in
theorem plain_walk (s : ByteArray) (w : World) (hE : Env w) (hs : s.size ≤ 65536) :
    Calls Tryz.prog 81 #[.string s] w fun e w' => e = .returned (plainV s (plainA s)) ∧ Below w.heap.size w w' := by
  have hB0 := fun o => (Below.refl w.heap.size w).alloc (Nat.le_refl _) o
  have cA := ((hE.below (hB0 (.cells #[.int .i64 0, .string ⟨#[]⟩, .int .i64 0, .int .i64 0] 95))).atoi s hs)
  go_enter Tryz.func81, Tryz.ntmps81
  go_wp2_with fail
  refine cA.mono ?_
  clear cA
  rintro e w1 ⟨v, ev, rfl, hb, hok, hno⟩
  have hE1 := (hE.below (hB0 (.cells #[.int .i64 0, .string ⟨#[]⟩, .int .i64 0, .int .i64 0] 95))).below hb
  have hC := four_cells hb
  have hB1 : Below w.heap.size w w1 := (hB0 _).trans (hb.mono (by simp))
  have hz1 : w.heap.size + 1 ≤ w1.heap.size := by have := hb.size; simpa using this
  clear hb hB0
  have c0 := hC.cell 0; have c1 := hC.cell 1; have c2 := hC.cell 2; have c3 := hC.cell 3
  have f0 := hC.frozen 0; have f1 := hC.frozen 1; have f2 := hC.frozen 2; have f3 := hC.frozen 3
  simp at c0 c1 c2 c3
  have HOK := Lib.hid hok; have HNO := Lib.hid hno
  clear hok hno
  have cW := isWord_walk s w1 hE1 hs
  cases hw : isWordL s.data.toList with
  | true =>
    rw [hw] at cW
    have hv : plainA s = some (2, 0) := by rw [plainA, if_pos hw]
    have HV := Lib.hid hv
    clear hv hw
    go_wp2_with (go_at_call 108; refine cW.mono ?_; rintro e w' ⟨rfl, rfl⟩)
    refine bodyPost_ret (v := .tuple #[.agg #[.int .i64 2, .string s, .int .i64 0, .int .i64 0], .bool true]) (by
        have R := four_set hC (.int .i64 2) (.string s) (.int .i64 0) (.int .i64 0)
        have r0 := R.cell 0; have r1 := R.cell 1; have r2 := R.cell 2; have r3 := R.cell 3
        simp at r0 r1 r2 r3
        simp [results, Tryz.results81, go_sem, r0, r1, r2, r3]) rfl ⟨ret_v (by rw [HV.out]; rfl), four_below hB1 (Nat.le_refl _)⟩
  | false =>
    rw [hw] at cW
    cases hn : nameA s with
    | true =>
      have cN := name_walk s w1 hs
      rw [hn] at cN
      have hv : plainA s = some (1, 0) := by rw [plainA, if_neg (by rw [hw]; simp), if_pos hn]
      have HV := Lib.hid hv
      clear hv hw hn
      go_wp2_with (first
        | (go_at_call 108; refine cW.mono ?_; rintro e w' ⟨rfl, rfl⟩)
        | (go_at_call 109; refine cN.mono ?_; rintro e w2 ⟨rfl, hb2⟩; replace hC := below_cells hC hb2; have hB2 := below_chain hB1 (by omega) hb2; have c0 := hC.cell 0; have c1 := hC.cell 1; have c2 := hC.cell 2; have c3 := hC.cell 3; have f0 := hC.frozen 0; have f1 := hC.frozen 1; have f2 := hC.frozen 2; have f3 := hC.frozen 3; simp at c0 c1 c2 c3))
      refine bodyPost_ret (v := .tuple #[.agg #[.int .i64 1, .string s, .int .i64 0, .int .i64 0], .bool true]) (by
          have R := four_set hC (.int .i64 1) (.string s) (.int .i64 0) (.int .i64 0)
          have r0 := R.cell 0; have r1 := R.cell 1; have r2 := R.cell 2; have r3 := R.cell 3
          simp at r0 r1 r2 r3
          simp [results, Tryz.results81, go_sem, r0, r1, r2, r3]) rfl ⟨ret_v (by rw [HV.out]; rfl), four_below hB2 (Nat.le_refl _)⟩
    | false =>
      have cN := name_walk s w1 hs
      rw [hn] at cN
      have hnw : ∀ r, numOf s.data.toList (Lib.atoiAll s.data.toList) = r → plainA s = r := by
        intro r hr
        rw [plainA, if_neg (by rw [hw]; simp), if_neg (by rw [hn]; simp), hr]
      clear hw hn
      cases hat : Lib.atoiAll s.data.toList with
      | ok n =>
        obtain ⟨rfl, rfl⟩ := HOK.out n hat
        have hbd := Lib.atoiAll_bounds hat
        rw [hat] at hnw
        clear HOK HNO hat
        by_cases hi : Lib.itoa v = s.data.toList
        · have HV := Lib.hid (hnw _ (if_pos hi))
          have hi2 : (Lib.itoa v == s.toList) = true := by rw [beq_iff_eq, ByteArray.toList_eq]; exact hi
          clear hnw hi
          go_wp2_with (first
            | (go_at_call 108; refine cW.mono ?_; rintro e w' ⟨rfl, rfl⟩)
            | (go_at_call 109; refine cN.mono ?_; rintro e w2 ⟨rfl, hb2⟩; replace hC := below_cells hC hb2; have hB2 := below_chain hB1 (by omega) hb2; have c0 := hC.cell 0; have c1 := hC.cell 1; have c2 := hC.cell 2; have c3 := hC.cell 3; have f0 := hC.frozen 0; have f1 := hC.frozen 1; have f2 := hC.frozen 2; have f3 := hC.frozen 3; simp at c0 c1 c2 c3)
            | (go_at_call 17; refine ((hE1.below hb2).itoa v hbd.1 hbd.2).mono ?_; rintro e w3 ⟨rfl, hb3⟩; replace hC := below_cells hC hb3; have hB3 := below_chain hB2 (Nat.le_trans hB1.size hb2.size) hb3; have c0 := hC.cell 0; have c1 := hC.cell 1; have c2 := hC.cell 2; have c3 := hC.cell 3; have f0 := hC.frozen 0; have f1 := hC.frozen 1; have f2 := hC.frozen 2; have f3 := hC.frozen 3; simp at c0 c1 c2 c3))
          refine bodyPost_ret (v := .tuple #[.agg #[.int .i64 3, .string s, .int .i64 v, .int .i64 0], .bool true]) (by
            have R := four_set hC (.int .i64 3) (.string s) (.int .i64 v) (.int .i64 0)
            have r0 := R.cell 0; have r1 := R.cell 1; have r2 := R.cell 2; have r3 := R.cell 3
            simp at r0 r1 r2 r3
            simp [results, Tryz.results81, go_sem, r0, r1, r2, r3]) rfl ⟨ret_v (by rw [HV.out]; rfl), four_below hB3 (Nat.le_refl _)⟩
        · have HV := Lib.hid (hnw _ (if_neg hi))
          have hi2 : (Lib.itoa v == s.toList) = false := by rw [beq_eq_false_iff_ne, ByteArray.toList_eq]; exact hi
          clear hnw hi
          go_wp2_with (first
            | (go_at_call 108; refine cW.mono ?_; rintro e w' ⟨rfl, rfl⟩)
            | (go_at_call 109; refine cN.mono ?_; rintro e w2 ⟨rfl, hb2⟩; replace hC := below_cells hC hb2; have hB2 := below_chain hB1 (by omega) hb2; have c0 := hC.cell 0; have c1 := hC.cell 1; have c2 := hC.cell 2; have c3 := hC.cell 3; have f0 := hC.frozen 0; have f1 := hC.frozen 1; have f2 := hC.frozen 2; have f3 := hC.frozen 3; simp at c0 c1 c2 c3)
            | (go_at_call 17; refine ((hE1.below hb2).itoa v hbd.1 hbd.2).mono ?_; rintro e w3 ⟨rfl, hb3⟩; replace hC := below_cells hC hb3; have hB3 := below_chain hB2 (Nat.le_trans hB1.size hb2.size) hb3; have c0 := hC.cell 0; have c1 := hC.cell 1; have c2 := hC.cell 2; have c3 := hC.cell 3; have f0 := hC.frozen 0; have f1 := hC.frozen 1; have f2 := hC.frozen 2; have f3 := hC.frozen 3; simp at c0 c1 c2 c3))
          refine bodyPost_ret (v := .tuple #[.agg #[.int .i64 0, .string ⟨#[]⟩, .int .i64 0, .int .i64 0], .bool false]) (by
            have R := four_set hC (.int .i64 0) (.string ⟨#[]⟩) (.int .i64 0) (.int .i64 0)
            have r0 := R.cell 0; have r1 := R.cell 1; have r2 := R.cell 2; have r3 := R.cell 3
            simp at r0 r1 r2 r3
            simp [results, Tryz.results81, go_sem, r0, r1, r2, r3]) rfl ⟨ret_v (by rw [HV.out]; rfl), four_below hB3 (Nat.le_refl _)⟩
      | range =>
        obtain ⟨t, p, rfl⟩ := HNO.out (fun n hn => by rw [hat] at hn; cases hn)
        rw [hat] at hnw
        have HV := Lib.hid (hnw _ rfl)
        clear HOK HNO hat hnw
        go_wp2_with (first
          | (go_at_call 108; refine cW.mono ?_; rintro e w' ⟨rfl, rfl⟩)
          | (go_at_call 109; refine cN.mono ?_; rintro e w2 ⟨rfl, hb2⟩; replace hC := below_cells hC hb2; have hB2 := below_chain hB1 (by omega) hb2; have c0 := hC.cell 0; have c1 := hC.cell 1; have c2 := hC.cell 2; have c3 := hC.cell 3; have f0 := hC.frozen 0; have f1 := hC.frozen 1; have f2 := hC.frozen 2; have f3 := hC.frozen 3; simp at c0 c1 c2 c3))
        refine bodyPost_ret (v := .tuple #[.agg #[.int .i64 0, .string ⟨#[]⟩, .int .i64 0, .int .i64 0], .bool false]) (by
            have R := four_set hC (.int .i64 0) (.string ⟨#[]⟩) (.int .i64 0) (.int .i64 0)
            have r0 := R.cell 0; have r1 := R.cell 1; have r2 := R.cell 2; have r3 := R.cell 3
            simp at r0 r1 r2 r3
            simp [results, Tryz.results81, go_sem, r0, r1, r2, r3]) rfl ⟨ret_v (by rw [HV.out]; rfl), four_below hB2 (Nat.le_refl _)⟩
      | _ =>
        obtain ⟨t, p, rfl⟩ := HNO.out (fun n hn => by rw [hat] at hn; cases hn)
        rw [hat] at hnw
        have HV := Lib.hid (hnw _ rfl)
        clear HOK HNO hat hnw
        go_wp2_with (first
          | (go_at_call 108; refine cW.mono ?_; rintro e w' ⟨rfl, rfl⟩)
          | (go_at_call 109; refine cN.mono ?_; rintro e w2 ⟨rfl, hb2⟩; replace hC := below_cells hC hb2; have hB2 := below_chain hB1 (by omega) hb2; have c0 := hC.cell 0; have c1 := hC.cell 1; have c2 := hC.cell 2; have c3 := hC.cell 3; have f0 := hC.frozen 0; have f1 := hC.frozen 1; have f2 := hC.frozen 2; have f3 := hC.frozen 3; simp at c0 c1 c2 c3))
        refine bodyPost_ret (v := .tuple #[.agg #[.int .i64 0, .string ⟨#[]⟩, .int .i64 0, .int .i64 0], .bool false]) (by
            have R := four_set hC (.int .i64 0) (.string ⟨#[]⟩) (.int .i64 0) (.int .i64 0)
            have r0 := R.cell 0; have r1 := R.cell 1; have r2 := R.cell 2; have r3 := R.cell 3
            simp at r0 r1 r2 r3
            simp [results, Tryz.results81, go_sem, r0, r1, r2, r3]) rfl ⟨ret_v (by rw [HV.out]; rfl), four_below hB2 (Nat.le_refl _)⟩
end Go.Proofs.YtebblpmocheelaaGreatDoor
