/- The walks of lex.one and lex.Lex. -/
import Derived.Test.YtebblpmocheelaaGreatDoorLexW3
namespace Go.Proofs.YtebblpmocheelaaGreatDoor
open Go.RowKit

/-- What lex.one hands back. -/
def OnePost (o : Option (Tok × Nat)) (w : World) (e : Ending) (w' : World) : Prop :=
  Below w.heap.size w w' ∧ match o with
    | some x => e = .returned (.tuple #[.agg #[.int .i64 x.1.kind, .string ⟨x.1.says.toArray⟩, .int .i64 x.1.n, .int .i64 0], .int .i64 x.2, .bool true])
    | none => ∃ a b c d k, e = .returned (.tuple #[.agg #[.int .i64 a, .string b, .int .i64 c, .int .i64 d], .int .i64 k, .bool false])

def signL : Nat → List UInt8
  | 0 => [33, 61]
  | 1 => [61]
  | 2 => [40]
  | _ => [41]

theorem oneA_sign (s : ByteArray) (k : Nat) (hk : k < 4) (hall : ∀ j, j < k → Lib.hasPrefix s.data.toList (signL j) = false) (h : Lib.hasPrefix s.data.toList (signL k) = true) :
    oneA s = some (⟨5, signL k, 0, 0⟩, (signL k).length) := by
  have e0 := hall 0; have e1 := hall 1; have e2 := hall 2
  simp only [signL] at e0 e1 e2
  obtain rfl | rfl | rfl | rfl : k = 0 ∨ k = 1 ∨ k = 2 ∨ k = 3 := by omega
  · simp only [signL] at h ⊢; unfold oneA; rw [if_pos h]; rfl
  · simp only [signL] at h ⊢; unfold oneA; rw [if_neg (by rw [e0 (by omega)]; simp), if_pos h]; rfl
  · simp only [signL] at h ⊢; unfold oneA; rw [if_neg (by rw [e0 (by omega)]; simp), if_neg (by rw [e1 (by omega)]; simp), if_pos h]; rfl
  · simp only [signL] at h ⊢; unfold oneA; rw [if_neg (by rw [e0 (by omega)]; simp), if_neg (by rw [e1 (by omega)]; simp), if_neg (by rw [e2 (by omega)]; simp), if_pos h]; rfl

theorem oneA_rest (s : ByteArray) (hall : ∀ j, j < 4 → Lib.hasPrefix s.data.toList (signL j) = false) :
    oneA s = if s.data.toList.head? = some 34 then (quotedA s).map fun x => (⟨4, x.1, 0, 0⟩, x.2)
      else (plainA ⟨(s.data.toList.take (runL s.data.toList)).toArray⟩).map fun x => (⟨x.1, s.data.toList.take (runL s.data.toList), x.2, 0⟩, runL s.data.toList) := by
  have e0 := hall 0 (by omega); have e1 := hall 1 (by omega); have e2 := hall 2 (by omega); have e3 := hall 3 (by omega)
  simp only [signL] at e0 e1 e2 e3
  unfold oneA
  rw [if_neg (by rw [e0]; simp), if_neg (by rw [e1]; simp), if_neg (by rw [e2]; simp), if_neg (by rw [e3]; simp)]

theorem runL_le (l : List UInt8) : runL l ≤ l.length := by
  cases l with
  | nil => simp [runL]
  | cons c r =>
    have := (List.takeWhile_sublist letB (l := r)).length_le
    simp only [runL]
    split <;> simp <;> omega

theorem OnePost.sign {o : Option (Tok × Nat)} {w w' : World} {l : List UInt8} {n : Nat} (ho : o = some (⟨5, l, 0, 0⟩, n)) (hb : Below w.heap.size w w') :
    OnePost o w (.returned (.tuple #[.agg #[.int .i64 5, .string ⟨l.toArray⟩, .int .i64 0, .int .i64 0], .int .i64 n, .bool true])) w' := by
  subst ho; exact ⟨hb, rfl⟩
theorem OnePost.none_ {o : Option (Tok × Nat)} {w w' : World} {a c d k : Int} {b : ByteArray} (ho : o = none) (hb : Below w.heap.size w w') :
    OnePost o w (.returned (.tuple #[.agg #[.int .i64 a, .string b, .int .i64 c, .int .i64 d], .int .i64 k, .bool false])) w' := by
  subst ho; exact ⟨hb, a, b, c, d, k, rfl⟩
theorem OnePost.some_ {o : Option (Tok × Nat)} {w w' : World} {a c : Int} {l : List UInt8} {n : Nat} (ho : o = some (⟨a, l, c, 0⟩, n)) (hb : Below w.heap.size w w') :
    OnePost o w (.returned (.tuple #[.agg #[.int .i64 a, .string ⟨l.toArray⟩, .int .i64 c, .int .i64 0], .int .i64 n, .bool true])) w' := by
  subst ho; exact ⟨hb, rfl⟩

set_option maxHeartbeats 8000000 in
set_option maxRecDepth 1000000 in
theorem one_walk (s : ByteArray) (w : World) (hE : Env w) (hs : s.size ≤ 65536) (h0 : 1 ≤ s.size) :
    Calls Tryz.prog 48 #[.string s] w (OnePost (oneA s) w) := by
  have hB0 := (Below.refl w.heap.size w).alloc (Nat.le_refl _) (.cells #[.int .i64 0, .string ⟨#[]⟩, .int .i64 0, .int .i64 0] 95)
  have hC := CellsAt.new w 95 #[.int .i64 0, .string ⟨#[]⟩, .int .i64 0, .int .i64 0]
  have hE0 := hE.below hB0
  have hQ := fun W (hW : Env W) => quoted_walk s W hs h0
  have i0 : ∀ w, (Instr.index 148 (.agg #[.string ⟨#[33, 61]⟩, .string ⟨#[61]⟩, .string ⟨#[40]⟩, .string ⟨#[41]⟩]) (.int .i64 0)).run Tryz.prog w = .ok (.string ⟨#[33, 61]⟩) w := fun _ => by kernel_rfl
  have i1 : ∀ w, (Instr.index 148 (.agg #[.string ⟨#[33, 61]⟩, .string ⟨#[61]⟩, .string ⟨#[40]⟩, .string ⟨#[41]⟩]) (.int .i64 1)).run Tryz.prog w = .ok (.string ⟨#[61]⟩) w := fun _ => by kernel_rfl
  have i2 : ∀ w, (Instr.index 148 (.agg #[.string ⟨#[33, 61]⟩, .string ⟨#[61]⟩, .string ⟨#[40]⟩, .string ⟨#[41]⟩]) (.int .i64 2)).run Tryz.prog w = .ok (.string ⟨#[40]⟩) w := fun _ => by kernel_rfl
  have i3 : ∀ w, (Instr.index 148 (.agg #[.string ⟨#[33, 61]⟩, .string ⟨#[61]⟩, .string ⟨#[40]⟩, .string ⟨#[41]⟩]) (.int .i64 3)).run Tryz.prog w = .ok (.string ⟨#[41]⟩) w := fun _ => by kernel_rfl
  go_enter Tryz.func48, Tryz.ntmps48
  go_wp2_with fail
  go_loop [14] (fun i => ∃ k : Nat, k ≤ 4 ∧ i = .int .i64 k ∧ ∀ j, j < k → Lib.hasPrefix s.data.toList (signL j) = false) (fun i => 4 - (intOf i).toNat)
  case atStart => exact ⟨0, by omega, rfl, fun j hj => absurd hj (by omega)⟩
  case round =>
    obtain ⟨k, hk, rfl, hall⟩ := hrel
    have HALL := Lib.hid hall
    clear hall
    obtain rfl | hk4 : k = 4 ∨ k < 4 := by omega
    · have HR := Lib.hid (oneA_rest s HALL.out)
      clear HALL
      obtain ⟨c, hc⟩ : ∃ c, (s[0]'h0).toNat = c := ⟨_, rfl⟩
      have hhd : s.data.toList.head? = some (s[0]'h0) := by
        have h0' : 0 < s.data.toList.length := by rw [← Lib.size_eq]; exact h0
        rw [List.head?_eq_getElem?, List.getElem?_eq_getElem h0']
        simp; rfl
      have h34 : (s.data.toList.head? = some 34) ↔ c = 34 := by
        rw [hhd, ← hc]
        constructor
        · intro e; injection e with e; rw [e]; rfl
        · intro e; congr 1; exact UInt8.toNat_inj.1 e
      have hclt : c < 256 := by rw [← hc]; exact (s[0]'h0).toNat_lt
      clear hhd
      by_cases e34 : c = 34
      · have HR2 : Hid (oneA s = (quotedA s).map fun x => (⟨4, x.1, 0, 0⟩, x.2)) := by
          have := HR.out
          rw [if_pos (h34.2 e34)] at this
          exact this
        clear HR h34
        subst e34
        have cQ := hQ _ hE0
        cases hq : quotedA s with
        | some x =>
          obtain ⟨ql, qn⟩ := x
          have HV := Lib.hid (HR2.out.trans (by rw [hq]; rfl : _ = some (⟨4, ql, 0, 0⟩, qn)))
          rw [hq] at cQ
          simp only [quotedV] at cQ
          clear hq hQ
          go_wp2_with (go_at_call 79; refine cQ.mono ?_; rintro e w1 ⟨rfl, hb1⟩; have hC1 := below_cells hC hb1; have hB1 := below_chain hB0 (by simp) hb1; have c0 := hC1.cell 0; have c1 := hC1.cell 1; have c2 := hC1.cell 2; have c3 := hC1.cell 3; have f0 := hC1.frozen 0; have f1 := hC1.frozen 1; have f2 := hC1.frozen 2; have f3 := hC1.frozen 3; simp at c0 c1 c2 c3)
          refine bodyPost_ret (v := .tuple #[.agg #[.int .i64 4, .string ⟨ql.toArray⟩, .int .i64 0, .int .i64 0], .int .i64 qn, .bool true]) (by
            have R := four_set hC1 (.int .i64 4) (.string ⟨ql.toArray⟩) (.int .i64 0) (.int .i64 0)
            have r0 := R.cell 0; have r1 := R.cell 1; have r2 := R.cell 2; have r3 := R.cell 3
            simp at r0 r1 r2 r3
            simp [results, Tryz.results48, go_sem, r0, r1, r2, r3]) rfl (OnePost.some_ HV.out (four_below hB1 (Nat.le_refl _)))
        | none =>
          have HV := Lib.hid (HR2.out.trans (by rw [hq]; rfl : _ = none))
          rw [hq] at cQ
          simp only [quotedV] at cQ
          clear hq hQ
          go_wp2_with (go_at_call 79; refine cQ.mono ?_; rintro e w1 ⟨rfl, hb1⟩; have hC1 := below_cells hC hb1; have hB1 := below_chain hB0 (by simp) hb1; have c0 := hC1.cell 0; have c1 := hC1.cell 1; have c2 := hC1.cell 2; have c3 := hC1.cell 3; have f0 := hC1.frozen 0; have f1 := hC1.frozen 1; have f2 := hC1.frozen 2; have f3 := hC1.frozen 3; simp at c0 c1 c2 c3)
          refine bodyPost_ret (v := .tuple #[.agg #[.int .i64 4, .string ⟨#[]⟩, .int .i64 0, .int .i64 0], .int .i64 0, .bool false]) (by
            have R := four_set hC1 (.int .i64 4) (.string ⟨#[]⟩) (.int .i64 0) (.int .i64 0)
            have r0 := R.cell 0; have r1 := R.cell 1; have r2 := R.cell 2; have r3 := R.cell 3
            simp at r0 r1 r2 r3
            simp [results, Tryz.results48, go_sem, r0, r1, r2, r3]) rfl (OnePost.none_ (a := 4) (b := ⟨#[]⟩) (c := 0) (d := 0) (k := 0) HV.out (four_below hB1 (Nat.le_refl _)))
      · have HR2 : Hid (oneA s = (plainA ⟨(s.data.toList.take (runL s.data.toList)).toArray⟩).map fun x => (⟨x.1, s.data.toList.take (runL s.data.toList), x.2, 0⟩, runL s.data.toList)) := by
          have := HR.out
          rw [if_neg (fun h => e34 (h34.1 h))] at this
          exact this
        have n34 : ((c : Int) == 34) = false := by rw [beq_eq_false_iff_ne]; omega
        clear HR h34 e34
        have hrl : runL s.data.toList ≤ s.size := by rw [Lib.size_eq]; exact runL_le _
        have cR := run_walk s (w.alloc (.cells #[.int .i64 0, .string ⟨#[]⟩, .int .i64 0, .int .i64 0] 95)) hs
        rw [← Lib.extract_upto] at HR2
        have hst : s.data.toList.take (runL s.data.toList) = (s.extract 0 (runL s.data.toList)).data.toList := by rw [Lib.extract_upto]
        rw [hst] at HR2
        clear hst
        generalize runL s.data.toList = n at hrl cR HR2
        have hts : (s.extract 0 n).size ≤ 65536 := by simp; omega
        go_wp2_with (go_at_call 80; refine cR.mono ?_; rintro e w1 ⟨rfl, hb1⟩; have hC1 := below_cells hC hb1; have hB1 := below_chain hB0 (by simp) hb1; have hE1 := hE0.below hb1)
        generalize s.extract 0 n = q at hts HR2
        have cP := plain_walk q w1 hE1 hts
        have hz1 := hB1.size
        cases hpl : plainA q with
        | some x =>
          obtain ⟨pk, pn⟩ := x
          rw [hpl] at cP
          simp only [plainV] at cP
          have HV := Lib.hid (HR2.out.trans (by rw [hpl]; rfl : _ = some (⟨pk, q.data.toList, pn, 0⟩, n)))
          clear hpl HR2
          refine cP.mono ?_
          rintro e w2 ⟨rfl, hb2⟩
          have hC2 := below_cells hC1 hb2
          have hB2 := below_chain hB1 hz1 hb2
          have hz2 : w.heap.size < w2.heap.size := hC2.lt
          have c0 := hC2.cell 0; have c1 := hC2.cell 1; have c2 := hC2.cell 2; have c3 := hC2.cell 3; have f0 := hC2.frozen 0; have f1 := hC2.frozen 1; have f2 := hC2.frozen 2; have f3 := hC2.frozen 3; simp at c0 c1 c2 c3
          go_wp2
          refine bodyPost_ret (v := .tuple #[.agg #[.int .i64 pk, .string q, .int .i64 pn, .int .i64 0], .int .i64 n, .bool true]) (by
            have R := (four_set hC2 (.int .i64 pk) (.string q) (.int .i64 pn) (.int .i64 0)).alloc (.cells #[.int .i64 pk, .string q, .int .i64 pn, .int .i64 0] 95)
            have r0 := R.cell 0; have r1 := R.cell 1; have r2 := R.cell 2; have r3 := R.cell 3
            simp at r0 r1 r2 r3
            simp [results, Tryz.results48, go_sem, r0, r1, r2, r3]) rfl (OnePost.some_ (l := q.data.toList) HV.out ((four_below hB2 (Nat.le_refl _)).alloc (by simp; omega) _))
        | none =>
          rw [hpl] at cP
          simp only [plainV] at cP
          have HV := Lib.hid (HR2.out.trans (by rw [hpl]; rfl : _ = none))
          clear hpl HR2
          refine cP.mono ?_
          rintro e w2 ⟨rfl, hb2⟩
          have hC2 := below_cells hC1 hb2
          have hB2 := below_chain hB1 hz1 hb2
          have hz2 : w.heap.size < w2.heap.size := hC2.lt
          have c0 := hC2.cell 0; have c1 := hC2.cell 1; have c2 := hC2.cell 2; have c3 := hC2.cell 3; have f0 := hC2.frozen 0; have f1 := hC2.frozen 1; have f2 := hC2.frozen 2; have f3 := hC2.frozen 3; simp at c0 c1 c2 c3
          go_wp2
          refine bodyPost_ret (v := .tuple #[.agg #[.int .i64 0, .string ⟨#[]⟩, .int .i64 0, .int .i64 0], .int .i64 n, .bool false]) (by
            have R := (four_set hC2 (.int .i64 0) (.string ⟨#[]⟩) (.int .i64 0) (.int .i64 0)).alloc (.cells #[.int .i64 0, .string ⟨#[]⟩, .int .i64 0, .int .i64 0] 95)
            have r0 := R.cell 0; have r1 := R.cell 1; have r2 := R.cell 2; have r3 := R.cell 3
            simp at r0 r1 r2 r3
            simp [results, Tryz.results48, go_sem, r0, r1, r2, r3]) rfl (OnePost.none_ (a := 0) (b := ⟨#[]⟩) (c := 0) (d := 0) (k := n) HV.out ((four_below hB2 (Nat.le_refl _)).alloc (by simp; omega) _))
    · cases hP : Lib.hasPrefix s.data.toList (signL k) with
      | true =>
        have HV := Lib.hid (oneA_sign s k hk4 HALL.out hP)
        have HP := Lib.hid hP
        clear hP
        obtain rfl | rfl | rfl | rfl : k = 0 ∨ k = 1 ∨ k = 2 ∨ k = 3 := by omega
        · have cP := Tryz.strings_HasPrefix s ⟨#[33, 61]⟩ (w.alloc (.cells #[.int .i64 0, .string ⟨#[]⟩, .int .i64 0, .int .i64 0] 95))
          rw [show Lib.hasPrefix s.data.toList (⟨#[33, 61]⟩ : ByteArray).data.toList = true from HP.out] at cP
          go_wp2_with (go_at_call 46; refine cP.mono ?_; rintro e w' ⟨rfl, rfl⟩)
          refine bodyPost_ret (v := .tuple #[.agg #[.int .i64 5, .string ⟨#[33, 61]⟩, .int .i64 0, .int .i64 0], .int .i64 2, .bool true]) (by simp [results, Tryz.results48, go_sem]) rfl (OnePost.sign (l := [33, 61]) (n := 2) HV.out ((Below.refl w.heap.size w).alloc (Nat.le_refl _) _))
        · have cP := Tryz.strings_HasPrefix s ⟨#[61]⟩ (w.alloc (.cells #[.int .i64 0, .string ⟨#[]⟩, .int .i64 0, .int .i64 0] 95))
          rw [show Lib.hasPrefix s.data.toList (⟨#[61]⟩ : ByteArray).data.toList = true from HP.out] at cP
          go_wp2_with (go_at_call 46; refine cP.mono ?_; rintro e w' ⟨rfl, rfl⟩)
          refine bodyPost_ret (v := .tuple #[.agg #[.int .i64 5, .string ⟨#[61]⟩, .int .i64 0, .int .i64 0], .int .i64 1, .bool true]) (by simp [results, Tryz.results48, go_sem]) rfl (OnePost.sign (l := [61]) (n := 1) HV.out ((Below.refl w.heap.size w).alloc (Nat.le_refl _) _))
        · have cP := Tryz.strings_HasPrefix s ⟨#[40]⟩ (w.alloc (.cells #[.int .i64 0, .string ⟨#[]⟩, .int .i64 0, .int .i64 0] 95))
          rw [show Lib.hasPrefix s.data.toList (⟨#[40]⟩ : ByteArray).data.toList = true from HP.out] at cP
          go_wp2_with (go_at_call 46; refine cP.mono ?_; rintro e w' ⟨rfl, rfl⟩)
          refine bodyPost_ret (v := .tuple #[.agg #[.int .i64 5, .string ⟨#[40]⟩, .int .i64 0, .int .i64 0], .int .i64 1, .bool true]) (by simp [results, Tryz.results48, go_sem]) rfl (OnePost.sign (l := [40]) (n := 1) HV.out ((Below.refl w.heap.size w).alloc (Nat.le_refl _) _))
        · have cP := Tryz.strings_HasPrefix s ⟨#[41]⟩ (w.alloc (.cells #[.int .i64 0, .string ⟨#[]⟩, .int .i64 0, .int .i64 0] 95))
          rw [show Lib.hasPrefix s.data.toList (⟨#[41]⟩ : ByteArray).data.toList = true from HP.out] at cP
          go_wp2_with (go_at_call 46; refine cP.mono ?_; rintro e w' ⟨rfl, rfl⟩)
          refine bodyPost_ret (v := .tuple #[.agg #[.int .i64 5, .string ⟨#[41]⟩, .int .i64 0, .int .i64 0], .int .i64 1, .bool true]) (by simp [results, Tryz.results48, go_sem]) rfl (OnePost.sign (l := [41]) (n := 1) HV.out ((Below.refl w.heap.size w).alloc (Nat.le_refl _) _))
      | false =>
        have hall2 : ∀ j, j < k + 1 → Lib.hasPrefix s.data.toList (signL j) = false := fun j hj => by
          by_cases e : j = k
          · subst e; exact hP
          · exact HALL.out j (by omega)
        have HP := Lib.hid hP
        have HALL2 := Lib.hid hall2
        clear hP hall2
        obtain rfl | rfl | rfl | rfl : k = 0 ∨ k = 1 ∨ k = 2 ∨ k = 3 := by omega
        · have cP := Tryz.strings_HasPrefix s ⟨#[33, 61]⟩ (w.alloc (.cells #[.int .i64 0, .string ⟨#[]⟩, .int .i64 0, .int .i64 0] 95))
          rw [show Lib.hasPrefix s.data.toList (⟨#[33, 61]⟩ : ByteArray).data.toList = false from HP.out] at cP
          go_wp2_with (go_at_call 46; refine cP.mono ?_; rintro e w' ⟨rfl, rfl⟩)
          go_round
          case rel => exact ⟨1, by omega, by go_num, HALL2.out⟩
          case measure => simp [intOf]
        · have cP := Tryz.strings_HasPrefix s ⟨#[61]⟩ (w.alloc (.cells #[.int .i64 0, .string ⟨#[]⟩, .int .i64 0, .int .i64 0] 95))
          rw [show Lib.hasPrefix s.data.toList (⟨#[61]⟩ : ByteArray).data.toList = false from HP.out] at cP
          go_wp2_with (go_at_call 46; refine cP.mono ?_; rintro e w' ⟨rfl, rfl⟩)
          go_round
          case rel => exact ⟨2, by omega, by go_num, HALL2.out⟩
          case measure => simp [intOf]
        · have cP := Tryz.strings_HasPrefix s ⟨#[40]⟩ (w.alloc (.cells #[.int .i64 0, .string ⟨#[]⟩, .int .i64 0, .int .i64 0] 95))
          rw [show Lib.hasPrefix s.data.toList (⟨#[40]⟩ : ByteArray).data.toList = false from HP.out] at cP
          go_wp2_with (go_at_call 46; refine cP.mono ?_; rintro e w' ⟨rfl, rfl⟩)
          go_round
          case rel => exact ⟨3, by omega, by go_num, HALL2.out⟩
          case measure => simp [intOf]
        · have cP := Tryz.strings_HasPrefix s ⟨#[41]⟩ (w.alloc (.cells #[.int .i64 0, .string ⟨#[]⟩, .int .i64 0, .int .i64 0] 95))
          rw [show Lib.hasPrefix s.data.toList (⟨#[41]⟩ : ByteArray).data.toList = false from HP.out] at cP
          go_wp2_with (go_at_call 46; refine cP.mono ?_; rintro e w' ⟨rfl, rfl⟩)
          go_round
          case rel => exact ⟨4, by omega, by go_num, HALL2.out⟩
          case measure => simp [intOf]
end Go.Proofs.YtebblpmocheelaaGreatDoor
