/- The walks of ref05.Valid, IsText, Quote. -/
import Derived.Test.YtebblpmocheelaaDoorLexR2
import Derived.Test.YtebblpmocheelaaDoorLexU2
namespace Go.Proofs.YtebblpmocheelaaDoor
open Go.RowKit

/-- How far a text is UTF-8, from a place on. -/
def validPos (s : ByteArray) : Nat → Nat → Nat
  | 0, pos => pos
  | f + 1, pos => if pos < s.size then (if (Utf8.decode s pos).1 = 65533 ∧ (Utf8.decode s pos).2 = 1 then pos else validPos s f (pos + (Utf8.decode s pos).2)) else pos

theorem validPos_step (s : ByteArray) (f pos c wd : Nat) (hp : pos < s.size) (hc : (Utf8.decode s pos).1 = c) (hw : (Utf8.decode s pos).2 = wd) :
    validPos s (f + 1) pos = if c = 65533 ∧ wd = 1 then pos else validPos s f (pos + wd) := by
  rw [validPos, if_pos hp, hc, hw]

theorem validPos_le (s : ByteArray) : ∀ (f pos : Nat), pos ≤ s.size → validPos s f pos ≤ s.size := by
  intro f
  induction f with
  | zero => intro pos h; exact h
  | succ f ih =>
    intro pos h
    rw [validPos]
    split
    · rename_i hp
      split
      · exact h
      · exact ih _ (by have := width_le s pos hp; omega)
    · exact h

theorem validPos_valid (s : ByteArray) : ∀ (f pos : Nat), pos ≤ s.size → s.size ≤ pos + f → (validPos s f pos = s.size ↔ Lib.validD (s.data.toList.drop pos) = true) := by
  have hz := Lib.size_eq s
  intro f
  induction f with
  | zero =>
    intro pos h hf
    have : s.data.toList.drop pos = [] := List.drop_eq_nil_of_le (by omega)
    rw [this, Lib.validD_nil]
    simp only [validPos, iff_true]; omega
  | succ f ih =>
    intro pos h hf
    by_cases hp : pos < s.size
    · have hne : s.data.toList.drop pos ≠ [] := by
        intro e
        have := congrArg List.length e
        rw [List.length_drop, ← hz, List.length_nil] at this
        omega
      rw [Lib.validD_step _ hne, Lib.decodeL_drop, List.drop_drop]
      rw [validPos, if_pos hp]
      have hw := width_le s pos hp
      have hw1 := width_pos s pos hp
      split
      · constructor
        · intro e; omega
        · intro e; cases e
      · exact ih _ (by omega) (by omega)
    · have : s.data.toList.drop pos = [] := List.drop_eq_nil_of_le (by omega)
      rw [this, Lib.validD_nil, validPos, if_neg hp]
      simp only [iff_true]; omega

theorem decodeGo_at (s : ByteArray) (pos : Nat) (hp : pos < s.size) : Lib.decodeGo (s.extract pos s.size) = Utf8.decode s pos := by
  have hz : ¬ (s.extract pos s.size).size = 0 := by simp; omega
  unfold Lib.decodeGo
  rw [if_neg hz, Lib.extract_from]
  exact Lib.decodeL_drop s pos

set_option maxHeartbeats 4000000 in
set_option maxRecDepth 1000000 in
theorem refValid_walk (s : ByteArray) (w : World) (hE : Env w) (hs : s.size ≤ 65536) :
    Calls Tryd.prog 23 #[.string s] w fun e w' => e = .returned (.int .i64 (validPos s s.size 0)) ∧ Below w.heap.size w w' := by
  go_enter Tryd.func23, Tryd.ntmps23
  go_wp2
  go_loopw [3] (fun i wr => ∃ pos fuel : Nat, i = .int .i64 pos ∧ Below w.heap.size w wr ∧ validPos s fuel pos = validPos s s.size 0 ∧ s.size ≤ pos + fuel ∧ pos ≤ s.size) (fun i _ => s.size - (intOf i).toNat)
  case atStart => exact ⟨0, s.size, rfl, Below.refl _ _, rfl, by omega, by omega⟩
  case round =>
    obtain ⟨pos, fuel, rfl, hbw, hacc, hfu, hpl⟩ := hrel
    by_cases hp : pos < s.size
    · have hwd := width_pos s pos hp
      have hwl := width_le s pos hp
      have hd1 := decode_le s pos
      obtain ⟨f, rfl⟩ : ∃ f, fuel = f + 1 := ⟨fuel - 1, by omega⟩
      obtain ⟨c, hc⟩ : ∃ c, (Utf8.decode s pos).1 = c := ⟨_, rfl⟩
      obtain ⟨wd, hwde⟩ : ∃ wd, (Utf8.decode s pos).2 = wd := ⟨_, rfl⟩
      have hq := validPos_step s f pos c wd hp hc hwde
      have cD := Tryd.utf8_DecodeRuneInString (s.extract pos s.size) _ (hE.below hbw).tabs
      rw [decodeGo_at s pos hp, hc, hwde] at cD
      rw [hwde] at hwd hwl
      rw [hc] at hd1
      rw [hq] at hacc
      have HA := Lib.hid hacc
      clear hacc hc hwde hq
      have hz := hbw.size
      by_cases cF : c = 65533
      · subst cF
        by_cases w1 : wd = 1
        · subst w1
          rw [if_pos ⟨rfl, rfl⟩] at HA
          go_wp2_with (go_at_call 32; refine cD.mono ?_; rintro e w1 ⟨rfl, hb1⟩)
          go_ret
          exact ⟨congrArg (fun n : Nat => Ending.returned (.int .i64 n)) HA.out, below_chain hbw hz hb1⟩
        · rw [if_neg (fun h => w1 h.2)] at HA
          have ew : ((wd : Int) == 1) = false := by rw [beq_eq_false_iff_ne]; omega
          clear w1
          go_wp2_with (go_at_call 32; refine cD.mono ?_; rintro e w1 ⟨rfl, hb1⟩)
          go_roundw
          case rel => exact ⟨pos + wd, f, by go_num, below_chain hbw hz hb1, HA.out, by omega, by omega⟩
          case measure => simp [intOf]; omega
      · rw [if_neg (fun h => cF h.1)] at HA
        have eF : ((c : Int) == 65533) = false := by rw [beq_eq_false_iff_ne]; omega
        clear cF
        go_wp2_with (go_at_call 32; refine cD.mono ?_; rintro e w1 ⟨rfl, hb1⟩)
        go_roundw
        case rel => exact ⟨pos + wd, f, by go_num, below_chain hbw hz hb1, HA.out, by omega, by omega⟩
        case measure => simp [intOf]; omega
    · have hv : validPos s fuel pos = pos := by cases fuel with
        | zero => rfl
        | succ f => rw [validPos, if_neg hp]
      rw [hv] at hacc
      have HA := Lib.hid hacc
      clear hacc hv
      go_wp2
      go_ret
      exact ⟨congrArg (fun n : Nat => Ending.returned (.int .i64 n)) HA.out, hbw⟩
/-- ref05.IsText. -/
def isTextR (l : List UInt8) : Bool := !decide ((10 : UInt8) ∈ l) && Lib.validD l
theorem isTextR_eq (l : List UInt8) : isTextR l = isTextL l := by
  unfold isTextR isTextL
  rw [Lib.contains, Bool.and_comm]
  rw [show decide (0 ≤ Lib.index l [10]) = decide ((10 : UInt8) ∈ l) from contains_one l 10]

set_option maxHeartbeats 4000000 in
set_option maxRecDepth 1000000 in
theorem refIsText_walk (s : ByteArray) (w : World) (hE : Env w) (hs : s.size ≤ 65536) :
    Calls Tryd.prog 12 #[.string s] w fun e w' => e = .returned (.bool (isTextR s.data.toList)) ∧ Below w.heap.size w w' := by
  have cV := refValid_walk s w hE hs
  have hvl := validPos_le s s.size 0 (Nat.zero_le _)
  have hvv := validPos_valid s s.size 0 (Nat.zero_le _) (by omega)
  rw [List.drop_zero] at hvv
  generalize validPos s s.size 0 = q at cV hvl hvv
  have HVV := Lib.hid hvv
  clear hvv
  go_enter Tryd.func12, Tryd.ntmps12
  go_wp2
  go_loop [3] (fun i => ∃ k : Nat, k ≤ s.size ∧ i = .int .i64 k ∧ ∀ j, j < k → ∀ hj : j < s.size, s[j]'hj ≠ 10) (fun i => s.size - (intOf i).toNat)
  case atStart => exact ⟨0, Nat.zero_le _, rfl, fun j hj => absurd hj (by omega)⟩
  case round =>
    obtain ⟨k, hk, rfl, hall⟩ := hrel
    have HALL := Lib.hid hall
    clear hall
    by_cases hlt : k < s.size
    · obtain ⟨c, hc⟩ : ∃ c, (s[k]'hlt).toNat = c := ⟨_, rfl⟩
      by_cases c10 : c = 10
      · have hb : s[k]'hlt = 10 := by apply UInt8.toNat_inj.1; rw [hc, c10]; rfl
        have HF : Hid (isTextR s.data.toList = false) := Lib.hid (by
          have : (10 : UInt8) ∈ s.data.toList := by rw [← hb, byte_at]; exact List.getElem_mem _
          unfold isTextR; rw [decide_eq_true this]; rfl)
        subst c10
        clear hb cV
        go_wp2
        go_ret
        exact ⟨ret_b HF.out, Below.refl _ _⟩
      · have HN : Hid (∀ j, j < k + 1 → ∀ hj : j < s.size, s[j]'hj ≠ 10) := Lib.hid (fun j hj hjs => by
          by_cases e : j = k
          · subst e; intro h; rw [h] at hc; exact c10 hc.symm
          · exact HALL.out j (by omega) hjs)
        have e10 : ((c : Int) == 10) = false := by rw [beq_eq_false_iff_ne]; omega
        clear c10 cV
        go_wp2
        go_round
        case rel => exact ⟨k + 1, by omega, by go_num, HN.out⟩
        case measure => simp [intOf]; omega
    · have hno : (10 : UInt8) ∉ s.data.toList := by
        intro hm
        obtain ⟨j, hj, he⟩ := List.mem_iff_getElem.1 hm
        have hj' : j < s.size := by rw [Lib.size_eq]; exact hj
        exact HALL.out j (by omega) hj' (by rw [byte_at]; exact he)
      have hR : isTextR s.data.toList = Lib.validD s.data.toList := by unfold isTextR; rw [decide_eq_false hno]; rfl
      cases hv : Lib.validD s.data.toList with
      | true =>
        have hq := HVV.out.2 hv
        have HF := Lib.hid (hR.trans hv)
        have eq : ((q : Int) == s.size) = true := by rw [beq_iff_eq]; omega
        clear hR hv hno
        go_wp2_with (go_at_call 23; refine cV.mono ?_; rintro e w1 ⟨rfl, hb1⟩)
        go_ret
        exact ⟨ret_b HF.out, hb1⟩
      | false =>
        have hq : q ≠ s.size := fun e => by have := HVV.out.1 e; rw [hv] at this; cases this
        have HF := Lib.hid (hR.trans hv)
        have eq : ((q : Int) == s.size) = false := by rw [beq_eq_false_iff_ne]; omega
        clear hR hv hno hq
        go_wp2_with (go_at_call 23; refine cV.mono ?_; rintro e w1 ⟨rfl, hb1⟩)
        go_ret
        exact ⟨ret_b HF.out, hb1⟩

theorem escB_snoc (s : ByteArray) (k : Nat) (hk : k < s.size) : escB (s.data.toList.take (k + 1)) = escB (s.data.toList.take k) ++ (if s[k]'hk = 34 ∨ s[k]'hk = 92 then [92, s[k]'hk] else [s[k]'hk]) := by
  have hk' : k < s.data.toList.length := by rw [← Lib.size_eq]; exact hk
  rw [List.take_succ_eq_append_getElem hk', escB_append, ← byte_at s k hk]
  show _ ++ ((if s[k]'hk = 34 ∨ s[k]'hk = 92 then [92, s[k]'hk] else [s[k]'hk]) ++ []) = _
  rw [List.append_nil]

theorem str_eta (s : ByteArray) : s = ⟨s.data.toList.toArray⟩ := by rw [Array.toArray_toList]
theorem str_app (a b : List UInt8) : (⟨a.toArray⟩ : ByteArray) ++ ⟨b.toArray⟩ = ⟨(a ++ b).toArray⟩ := by
  apply ByteArray.ext
  apply Array.toList_inj.1
  simp

set_option maxHeartbeats 4000000 in
set_option maxRecDepth 1000000 in
theorem refQuote_walk (s : ByteArray) (w : World) (hE : Env w) (hs : s.size ≤ 65536) :
    Calls Tryd.prog 13 #[.string s] w fun e w' => e = .returned (.string ⟨(quoteA s).toArray⟩) ∧ Below w.heap.size w w' := by
  have cT := refIsText_walk s w hE hs
  have hQ := quoteA_eq s
  rw [isTextR_eq] at cT
  cases ht : isTextL s.data.toList with
  | false =>
    rw [ht] at cT hQ
    rw [if_neg (by simp)] at hQ
    have HQ := Lib.hid hQ
    clear ht hQ
    go_enter Tryd.func13, Tryd.ntmps13
    go_wp2_with (go_at_call 12; refine cT.mono ?_; rintro e w1 ⟨rfl, hb1⟩)
    go_ret
    exact ⟨by rw [HQ.out]; rfl, hb1⟩
  | true =>
    rw [ht] at cT hQ
    rw [if_pos rfl] at hQ
    have HQ := Lib.hid hQ
    clear ht hQ
    go_enter Tryd.func13, Tryd.ntmps13
    go_wp2_with fail
    refine cT.mono ?_
    clear cT
    rintro e w1 ⟨rfl, hb1⟩
    go_wp2
    go_loop [3, 4] (fun o i => ∃ k : Nat, k ≤ s.size ∧ i = .int .i64 k ∧ o = .string ⟨(34 :: escB (s.data.toList.take k)).toArray⟩) (fun _ i => s.size - (intOf i).toNat)
    case atStart => exact ⟨0, Nat.zero_le _, rfl, rfl⟩
    case round =>
      obtain ⟨k, hk, rfl, rfl⟩ := hrel
      have hlen := (escB_len (s.data.toList.take k)).2
      rw [List.length_take, ← Lib.size_eq] at hlen
      by_cases hlt : k < s.size
      · have hsn := Lib.hid (escB_snoc s k hlt)
        obtain ⟨o, ho⟩ : ∃ o, escB (s.data.toList.take k) = o := ⟨_, rfl⟩
        rw [ho] at hsn hlen ⊢
        clear ho
        obtain ⟨c, hc⟩ : ∃ c, (s[k]'hlt).toNat = c := ⟨_, rfl⟩
        have hx : s.extract k (k + 1) = ⟨[s[k]'hlt].toArray⟩ := by
          apply ByteArray.ext
          apply Array.toList_inj.1
          have hk' : k < s.data.toList.length := by rw [← Lib.size_eq]; exact hlt
          have : (s.extract k (k + 1)).data.toList = (s.data.toList.drop k).take 1 := by simp
          rw [this, List.drop_eq_getElem_cons hk']
          simp; rfl
        have HX := Lib.hid hx
        clear hx
        by_cases cs : c = 34 ∨ c = 92
        · have hs2 : s[k]'hlt = 34 ∨ s[k]'hlt = 92 := by
            rw [← byte34, ← byte92, hc]; exact cs
          have NX : Hid ((⟨(34 :: o).toArray⟩ : ByteArray) ++ ⟨#[92]⟩ ++ s.extract k (k + 1) = ⟨(34 :: escB (s.data.toList.take (k + 1))).toArray⟩) := Lib.hid (by
            rw [HX.out, hsn.out, if_pos hs2, show (⟨#[92]⟩ : ByteArray) = ⟨[92].toArray⟩ from rfl, str_app, str_app]
            simp)
          clear hs2 hsn
          rcases cs with rfl | rfl
          all_goals
            go_wp2
            go_round
            case rel => exact ⟨k + 1, by omega, by go_num, by rw [NX.out]⟩
            case measure => simp [intOf]; omega
        · have hs2 : ¬ (s[k]'hlt = 34 ∨ s[k]'hlt = 92) := by
            rw [← byte34, ← byte92, hc]; exact cs
          have NX : Hid ((⟨(34 :: o).toArray⟩ : ByteArray) ++ s.extract k (k + 1) = ⟨(34 :: escB (s.data.toList.take (k + 1))).toArray⟩) := Lib.hid (by
            rw [HX.out, hsn.out, if_neg hs2, str_app]
            simp)
          have e34 : ((c : Int) == 34) = false := by rw [beq_eq_false_iff_ne]; omega
          have e92 : ((c : Int) == 92) = false := by rw [beq_eq_false_iff_ne]; omega
          clear hs2 hsn cs
          go_wp2
          go_round
          case rel => exact ⟨k + 1, by omega, by go_num, by rw [NX.out]⟩
          case measure => simp [intOf]; omega
      · have hke : k = s.size := by omega
        have NX : Hid ((⟨(34 :: escB (s.data.toList.take k)).toArray⟩ : ByteArray) ++ ⟨#[34]⟩ = ⟨(quoteA s).toArray⟩) := Lib.hid (by
          rw [HQ.out, hke, Lib.size_eq, List.take_length, show (⟨#[34]⟩ : ByteArray) = ⟨[34].toArray⟩ from rfl, str_app]
          simp)
        clear hke
        go_wp2
        go_ret
        exact ⟨ret_v (congrArg Value.string NX.out.symm), hb1⟩
end Go.Proofs.YtebblpmocheelaaDoor
