/- The walk of the law ParseDepth. -/
import Derived.Test.YtebblpmocheelaaGreatDoorParC
import Derived.Test.YtebblpmocheelaaGreatDoorParD
namespace Go.Proofs.YtebblpmocheelaaGreatDoor
open Go.RowKit Go.Lib

/-- Which marks stand: by a number's bits, the lowest first. -/
def bitAt (n : Int) (i : Nat) : Bool := decide (n / 2 ^ i % 2 = 1)
def bitsL (n : Int) (k : Nat) : List Bool := (List.range k).map (bitAt n)
theorem bitsL_succ (n : Int) (k : Nat) : bitsL n (k + 1) = bitsL n k ++ [bitAt n k] := by unfold bitsL; rw [List.range_succ, List.map_append]; rfl
theorem bitsL_len (n : Int) (k : Nat) : (bitsL n k).length = k := by simp [bitsL]
theorem marksT_snoc (ms : List Bool) (b : Bool) : marksT (ms ++ [b]) = marksT ms ++ markT b := by simp [marksT, List.flatMap_append]
theorem opens_snoc (ms : List Bool) (b : Bool) : opens (ms ++ [b]) = opens ms + (if b then 0 else 1) := by
  induction ms with
  | nil => simp [opens]
  | cons a l ih => rw [List.cons_append, opens, opens, ih]; omega
theorem bitsL_split (n : Int) (k : Nat) (h : 9 ≤ k) : ∃ b l, bitsL n k = bitsL n 8 ++ b :: l ∧ l.length = k - 9 := by
  have h1 : List.range k = List.range 8 ++ (List.range (k - 8)).map (8 + ·) := by rw [← List.range_add]; congr 1; omega
  have h2 : bitsL n k = bitsL n 8 ++ ((List.range (k - 8)).map (8 + ·)).map (bitAt n) := by unfold bitsL; rw [h1, List.map_append]
  obtain ⟨j, hj⟩ : ∃ j, k - 8 = j + 1 := ⟨k - 9, by omega⟩
  rw [hj, List.range_succ_eq_map] at h2
  exact ⟨_, _, h2, by simp; omega⟩
/-- Where the ninth stands, as the law has it: 0 where there is none. -/
def ninth (n : Int) (k : Nat) : Int := if k ≤ 8 then 0 else (17 + (marksT (bitsL n 8)).length + 1 : Nat)

theorem snoc41 (m : Nat) : Value.string (({ data := Array.replicate m 41 } : ByteArray) ++ { data := #[41] }) = Value.string ⟨(List.replicate (m + 1) (41 : UInt8)).toArray⟩ := by
  congr 1
  apply ByteArray.ext
  simp [Array.replicate_succ]
theorem deep_str (A : List UInt8) (m : Nat) : ((({ data := A.toArray } : ByteArray) ++ { data := #[116, 114, 117, 101] }) ++ { data := Array.replicate m 41 }) ++ { data := #[32, 108, 105, 109, 105, 116, 32, 49] } = ⟨(A ++ ([116, 114, 117, 101] ++ List.replicate m 41 ++ [32, 108, 105, 109, 105, 116, 32, 49])).toArray⟩ := by
  apply ByteArray.ext
  simp
theorem ninth_next (n : Int) (k : Nat) : ninth n (k + 1) = if k = 8 then ((17 + (marksT (bitsL n 8)).length + 1 : Nat) : Int) else ninth n k := by
  unfold ninth
  by_cases h : k = 8
  · rw [if_pos h, if_neg (by omega)]
  · rw [if_neg h]
    by_cases h2 : k ≤ 8
    · rw [if_pos h2, if_pos (by omega)]
    · rw [if_neg h2, if_neg (by omega)]
set_option maxHeartbeats 16000000 in
set_option maxRecDepth 1000000 in
theorem parseDepth_walk (d n : Int) (w : World) (hE : PEnv w) (hd0 : -9223372036854775808 ≤ d) (hd1 : d ≤ 9223372036854775807) (hn0 : 0 ≤ n) :
    Calls Tryz.prog 8 #[.int .i64 d, .int .u64 n] w fun e w' => e = .returned (.bool true) ∧ Below w.heap.size w w' := by
  have cA := pAlive_walk w hE
  by_cases hout : d < 0 ∨ 20 < d
  · rcases hout with h | h
    all_goals
      go_enter Tryz.func8, Tryz.ntmps8
      go_wp2_with (go_at_call 10; refine cA.mono ?_; rintro e w1 ⟨rfl, hb1⟩)
      go_ret
      exact ⟨rfl, hb1⟩
  · obtain ⟨D, rfl⟩ : ∃ D : Nat, d = D := ⟨d.toNat, by omega⟩
    have hD : D ≤ 20 := by omega
    clear hout hd0 hd1
    go_enter Tryz.func8, Tryz.ntmps8
    go_wp2_with (go_at_call 10; refine cA.mono ?_; rintro e w1 ⟨rfl, hb1⟩)
    clear cA
    go_loop [5, 6, 7, 8] (fun s en at_ kk => ∃ k : Nat, k ≤ D ∧ kk = .int .i64 k ∧ s = .string ⟨(headT ++ marksT (bitsL n k)).toArray⟩ ∧ en = .string ⟨(List.replicate (opens (bitsL n k)) (41 : UInt8)).toArray⟩ ∧ at_ = .int .i64 (ninth n k)) (fun _ _ _ kk => D - (intOf kk).toNat)
    case atStart => exact ⟨0, Nat.zero_le _, rfl, rfl, rfl, rfl⟩
    case round =>
      obtain ⟨k, hk, rfl, rfl, rfl, rfl⟩ := hrel
      by_cases hlt : k < D
      · have hlti : (k : Int) < (D : Int) := by omega
        have hS := Lib.hid (show headT ++ marksT (bitsL n (k + 1)) = headT ++ marksT (bitsL n k) ++ markT (bitAt n k) by rw [bitsL_succ, marksT_snoc, List.append_assoc])
        have hO := Lib.hid (show opens (bitsL n (k + 1)) = opens (bitsL n k) + (if bitAt n k then 0 else 1) by rw [bitsL_succ, opens_snoc])
        have hml := marks_le (bitsL n k)
        have hol := opens_le (bitsL n k)
        rw [bitsL_len] at hml hol
        have hl1 : headT.length + (marksT (bitsL n k)).length ≤ 200 := by have : headT.length = 17 := rfl; omega
        have hol2 : opens (bitsL n k) ≤ 20 := by omega
        clear hol
        have hpos : 0 ≤ n / 2 ^ k := Int.ediv_nonneg hn0 (Int.pow_nonneg (by decide))
        have hN := Lib.hid (ninth_next n k)
        clear hml
        cases hb : bitAt n k with
        | true =>
          have hbit : ((n / 2 ^ k).tmod 2 == 1) = true := by
            unfold bitAt at hb
            rw [Int.tmod_eq_emod_of_nonneg hpos, beq_iff_eq]; exact of_decide_eq_true hb
          rw [hb] at hS hO
          clear hb hpos
          by_cases h8 : k = 8
          · have h8b : ((k : Int) == 8) = true := by rw [beq_iff_eq]; omega
            have H8 := Lib.hid h8
            clear h8
            go_wp2
            go_round
            case rel => exact ⟨k + 1, by omega, by go_num, by rw [hS.out, bytes_app]; rfl, by rw [hO.out]; rfl, by rw [hN.out, if_pos H8.out, H8.out]; rfl⟩
            case measure => simp [intOf]; omega
          · have h8b : ((k : Int) == 8) = false := by rw [beq_eq_false_iff_ne]; omega
            have H8 := Lib.hid h8
            clear h8
            go_wp2
            go_round
            case rel => exact ⟨k + 1, by omega, by go_num, by rw [hS.out, bytes_app]; rfl, by rw [hO.out]; rfl, by rw [hN.out, if_neg H8.out]⟩
            case measure => simp [intOf]; omega
        | false =>
          have hbit : ((n / 2 ^ k).tmod 2 == 1) = false := by
            unfold bitAt at hb
            rw [Int.tmod_eq_emod_of_nonneg hpos, beq_eq_false_iff_ne]; exact of_decide_eq_false hb
          rw [hb] at hS hO
          clear hb hpos
          by_cases h8 : k = 8
          · have h8b : ((k : Int) == 8) = true := by rw [beq_iff_eq]; omega
            have H8 := Lib.hid h8
            clear h8
            go_wp2
            go_round
            case rel => exact ⟨k + 1, by omega, by go_num, by rw [hS.out, bytes_app]; rfl, by rw [hO.out]; exact snoc41 _, by rw [hN.out, if_pos H8.out, H8.out]; rfl⟩
            case measure => simp [intOf]; omega
          · have h8b : ((k : Int) == 8) = false := by rw [beq_eq_false_iff_ne]; omega
            have H8 := Lib.hid h8
            clear h8
            go_wp2
            go_round
            case rel => exact ⟨k + 1, by omega, by go_num, by rw [hS.out, bytes_app]; rfl, by rw [hO.out]; exact snoc41 _, by rw [hN.out, if_neg H8.out]⟩
            case measure => simp [intOf]; omega
      · obtain rfl : D = k := by omega
        clear hlt
        have hml := marks_le (bitsL n D)
        have hol := opens_le (bitsL n D)
        rw [bitsL_len] at hml hol
        have hlD : headT.length + (marksT (bitsL n D)).length ≤ 200 := by have : headT.length = 17 := rfl; omega
        have hP : ∀ (s : ByteArray) (W : World), PEnv W → s = ⟨(deepT (bitsL n D)).toArray⟩ → Calls Tryz.prog 11 #[.string s] W (ParsePost (parseA ⟨(deepT (bitsL n D)).toArray⟩) W) := by
          rintro s W hW rfl
          exact parse_walk _ W hW (by rw [mk_size]; simp [deepT]; omega)
        have hE1 := hE.below hb1
        have hDI : Hid (headT ++ marksT (bitsL n D) ++ ([116, 114, 117, 101] ++ List.replicate (opens (bitsL n D)) 41 ++ [32, 108, 105, 109, 105, 116, 32, 49]) = deepT (bitsL n D)) := Lib.hid rfl
        by_cases h8 : D ≤ 8
        · obtain ⟨f, hf⟩ := parse_deep (bitsL n D) (by rw [bitsL_len]; exact h8)
          rw [hf] at hP
          clear hf hml
          have hgt : ¬ (8 : Int) < (D : Int) := by omega
          go_wp2_with fail
          refine (hP _ w1 hE1 (by rw [← hDI.out]; exact deep_str _ _)).mono ?_
          intro e w2 hpost
          obtain ⟨ao, nn, cc, op, nm, tx, fo, fn, fc, hb2, rfl, _, _⟩ := post_good rfl hpost
          have hB2 := below_chain hb1 hb1.size hb2
          have hfin := fun (o1 o2 : Obj) => (hB2.alloc hB2.size o1).alloc (by simp; have := hB2.size; omega) o2
          clear hP hpost hDI
          go_wp2
          go_ret
          exact ⟨rfl, hfin _ _⟩
        · obtain ⟨b, l, hbl, hll⟩ := bitsL_split n D (by omega)
          have hbad := parse_too (bitsL n 8) b l (bitsL_len n 8) (by omega)
          rw [← hbl] at hbad
          rw [hbad] at hP
          have hN : Hid (ninth n D = (17 + (marksT (bitsL n 8)).length + 1 : Nat)) := Lib.hid (by unfold ninth; rw [if_neg h8])
          obtain ⟨z, hz⟩ : ∃ z : Int, ((17 + (marksT (bitsL n 8)).length + 1 : Nat) : Int) = z := ⟨_, rfl⟩
          have hzz : (z == ninth n D) = true := by rw [beq_iff_eq, hN.out, hz]
          rw [hz] at hP
          clear hbad hbl hll hml hN hz
          have hgt : (8 : Int) < (D : Int) := by omega
          go_wp2_with fail
          refine (hP _ w1 hE1 (by rw [← hDI.out]; exact deep_str _ _)).mono ?_
          intro e w2 hpost
          obtain ⟨hb2, rfl⟩ := post_bad rfl hpost
          have hB2 := below_chain hb1 hb1.size hb2
          have hfin := fun (o1 o2 : Obj) => (hB2.alloc hB2.size o1).alloc (by simp; have := hB2.size; omega) o2
          clear hP hpost hDI
          go_wp2
          go_ret
          exact ⟨rfl, hfin _ _⟩
end Go.Proofs.YtebblpmocheelaaGreatDoor
