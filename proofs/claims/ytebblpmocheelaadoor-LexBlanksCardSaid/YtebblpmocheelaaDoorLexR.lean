/- The walks of the references ref05.IsWord, Words and ref04.Name. -/
import Derived.Test.YtebblpmocheelaaDoorLexA
import Derived.Test.YtebblpmocheelaaDoorLexQ2
namespace Go.Proofs.YtebblpmocheelaaDoor
open Go.RowKit

theorem size_pos_ne (s : ByteArray) (h0 : 0 < s.size) : (s.toList == []) = false := by
  rw [beq_eq_false_iff_ne]
  intro e
  have := congrArg List.length e
  rw [ByteArray.toList_eq, ← Lib.size_eq] at this
  rw [this] at h0
  exact absurd h0 (by decide)

theorem headD_byte (s : ByteArray) (h0 : 0 < s.size) : s.data.toList.headD 0 = s[0]'h0 := by
  have hz := Lib.size_eq s
  cases hl : s.data.toList with
  | nil => rw [hl, List.length_nil] at hz; omega
  | cons a r => rw [byte_at]; simp only [hl]; rfl

theorem all_bytes (p : UInt8 → Bool) (s : ByteArray) : s.data.toList.all p = true ↔ ∀ j (hj : j < s.size), p (s[j]'hj) = true := by
  rw [List.all_eq_true]
  constructor
  · intro h j hj
    exact h _ (by rw [byte_at]; exact List.getElem_mem _)
  · intro h b hb
    obtain ⟨j, hj, rfl⟩ := List.mem_iff_getElem.1 hb
    have := h j (by rw [Lib.size_eq]; exact hj)
    rw [byte_at] at this
    exact this

theorem nameR_head (s : ByteArray) (h0 : 0 < s.size) (h20 : s.size ≤ 20) : nameR s.data.toList = (!digB (s[0]'h0) && s.data.toList.all letB) := by
  have hz := Lib.size_eq s
  unfold nameR
  rw [headD_byte s h0, ← hz, decide_eq_true h20]
  cases hl : s.data.toList with
  | nil => rw [hl, List.length_nil] at hz; omega
  | cons a r => simp

/-! ### ref04.Name -/
set_option maxHeartbeats 8000000 in
set_option maxRecDepth 1000000 in
theorem refName_walk (s : ByteArray) (w : World) (hs : s.size ≤ 65536) :
    Calls Tryd.prog 16 #[.string s] w fun e w' => e = .returned (.bool (nameR s.data.toList)) ∧ w' = w := by
  have hz := Lib.size_eq s
  by_cases hbig : 20 < s.size
  · have hv : nameR s.data.toList = false := by
      unfold nameR
      rw [← hz, decide_eq_false (by omega)]; simp
    have HV := Lib.hid hv
    clear hv hz
    have hne := size_pos_ne s (by omega)
    go_enter Tryd.func16, Tryd.ntmps16
    go_wp2
    go_ret
    exact ⟨ret_b HV.out, rfl⟩
  · rcases Nat.eq_zero_or_pos s.size with h0 | h0
    · have he : s.data.toList = [] := List.eq_nil_of_length_eq_zero (by omega)
      have : s = ⟨#[]⟩ := by
        apply ByteArray.ext
        apply Array.toList_inj.1
        exact he
      subst this
      clear hz he h0 hbig
      go_enter Tryd.func16, Tryd.ntmps16
      go_wp2
      go_ret
      exact ⟨rfl, rfl⟩
    · have hne := size_pos_ne s h0
      have HH := Lib.hid (nameR_head s h0 (by omega))
      clear hz
      obtain ⟨c0, hc0⟩ : ∃ c, (s[0]'h0).toNat = c := ⟨_, rfl⟩
      cases hd : digB (s[0]'h0) with
      | true =>
        have HV : Hid (nameR s.data.toList = false) := Lib.hid (by rw [HH.out, hd]; rfl)
        have hd2 := hd
        unfold digB at hd2
        rw [hc0] at hd2
        simp at hd2
        obtain ⟨h1, h2⟩ := hd2
        clear hd HH
        go_enter Tryd.func16, Tryd.ntmps16
        go_wp2
        go_ret
        exact ⟨ret_b HV.out, rfl⟩
      | false =>
        have HV : Hid (nameR s.data.toList = s.data.toList.all letB) := Lib.hid (by rw [HH.out, hd]; rfl)
        have hd2 : ¬ (48 ≤ c0 ∧ c0 ≤ 57) := by
          intro h
          have : digB (s[0]'h0) = true := by unfold digB; rw [hc0]; simp; exact h
          rw [hd] at this; cases this
        clear hd HH
        have core : Calls Tryd.prog 16 #[.string s] w fun e w' => e = .returned (.bool (nameR s.data.toList)) ∧ w' = w := by
          rcases (show c0 < 48 ∨ 57 < c0 by omega) with hr | hr
          all_goals
            clear hd2
            go_enter Tryd.func16, Tryd.ntmps16
            go_wp2
            clear hc0 hr
            go_loop [3] (fun i => ∃ k : Nat, k ≤ s.size ∧ i = .int .i64 k ∧ ∀ j, j < k → ∀ hj : j < s.size, letB (s[j]'hj) = true) (fun i => s.size - (intOf i).toNat)
            case atStart => exact ⟨0, Nat.zero_le _, rfl, fun j hj => absurd hj (by omega)⟩
            case round =>
              obtain ⟨k, hk, rfl, hall⟩ := hrel
              have HALL := Lib.hid hall
              clear hall
              by_cases hlt : k < s.size
              · obtain ⟨c, hc⟩ : ∃ c, (s[k]'hlt).toNat = c := ⟨_, rfl⟩
                cases hb : letB (s[k]'hlt) with
                | true =>
                  have HN : Hid (∀ j, j < k + 1 → ∀ hj : j < s.size, letB (s[j]'hj) = true) := Lib.hid (fun j hj hjs => by
                    by_cases e : j = k
                    · subst e; exact hb
                    · exact HALL.out j (by omega) hjs)
                  have hb2 := (letB_iff _).1 hb
                  rw [hc] at hb2
                  clear hb
                  by_cases h95 : c = 95
                  · subst h95
                    go_wp2
                    go_round
                    case rel => exact ⟨k + 1, by omega, by go_num, HN.out⟩
                    case measure => simp [intOf]; omega
                  · have n95 : ((c : Int) != 95) = true := by rw [bne_iff_ne]; omega
                    rcases (show (97 ≤ c ∧ c ≤ 122) ∨ (65 ≤ c ∧ c ≤ 90) ∨ (48 ≤ c ∧ c ≤ 57) by omega) with ⟨h1, h2⟩ | ⟨h1, h2⟩ | ⟨h1, h2⟩
                    all_goals
                      clear hb2 h95
                      first | (have d57 : decide ((c : Int) ≤ 57) = true := decide_eq_true (by omega)) | (have d57 : decide ((c : Int) ≤ 57) = false := decide_eq_false (by omega))
                      first | (have d90 : decide ((c : Int) ≤ 90) = true := decide_eq_true (by omega)) | (have d90 : decide ((c : Int) ≤ 90) = false := decide_eq_false (by omega))
                      first | (have d122 : decide ((c : Int) ≤ 122) = true := decide_eq_true (by omega)) | (have d122 : decide ((c : Int) ≤ 122) = false := decide_eq_false (by omega))
                      go_wp2
                      go_round
                      case rel => exact ⟨k + 1, by omega, by go_num, HN.out⟩
                      case measure => simp [intOf]; omega
                | false =>
                  have HF : Hid (s.data.toList.all letB = false) := Lib.hid (by
                    rw [← Bool.not_eq_true, all_bytes]
                    intro h
                    have := h k hlt
                    rw [hb] at this; cases this)
                  have hb2 : ¬ ((97 ≤ c ∧ c ≤ 122) ∨ (65 ≤ c ∧ c ≤ 90) ∨ (48 ≤ c ∧ c ≤ 57) ∨ c = 95) := by
                    intro h
                    rw [← hc] at h
                    rw [(letB_iff _).2 h] at hb; cases hb
                  have e95 : ((c : Int) == 95) = false := by rw [beq_eq_false_iff_ne]; omega
                  have n95 : ((c : Int) != 95) = true := by rw [bne_iff_ne]; omega
                  clear hb
                  rcases (show c < 48 ∨ (57 < c ∧ c < 65) ∨ (90 < c ∧ c < 97) ∨ 122 < c by omega) with h | ⟨h1, h2⟩ | ⟨h1, h2⟩ | h
                  all_goals
                    clear hb2
                    first | (have d57 : decide ((c : Int) ≤ 57) = true := decide_eq_true (by omega)) | (have d57 : decide ((c : Int) ≤ 57) = false := decide_eq_false (by omega))
                    first | (have d90 : decide ((c : Int) ≤ 90) = true := decide_eq_true (by omega)) | (have d90 : decide ((c : Int) ≤ 90) = false := decide_eq_false (by omega))
                    first | (have d122 : decide ((c : Int) ≤ 122) = true := decide_eq_true (by omega)) | (have d122 : decide ((c : Int) ≤ 122) = false := decide_eq_false (by omega))
                    go_wp2
                    go_ret
                    exact ⟨ret_b (HV.out.trans HF.out), rfl⟩
              · have HF : Hid (s.data.toList.all letB = true) := Lib.hid ((all_bytes letB s).2 (fun j hj => HALL.out j (by omega) hj))
                go_wp2
                go_ret
                exact ⟨ret_b (HV.out.trans HF.out), rfl⟩
        exact core
end Go.Proofs.YtebblpmocheelaaDoor
