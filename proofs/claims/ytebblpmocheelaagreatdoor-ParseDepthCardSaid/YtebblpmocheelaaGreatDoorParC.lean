/- The walk of the law ParseNumbers. -/
import Derived.Test.YtebblpmocheelaaGreatDoorParB
import Derived.Test.YtebblpmocheelaaGreatDoorParQ
namespace Go.Proofs.YtebblpmocheelaaGreatDoor
open Go.RowKit Go.Lib

theorem post_bad {r : Except Err Q} {w w' : World} {x : Err} {e : Ending} (h : r = .error x) (hp : ParsePost r w e w') : Below w.heap.size w w' ∧
    e = .returned (.tuple #[.agg #[.int .i64 0, .int .i64 0, .slice none 0 0, .int .i64 0, .string ⟨#[]⟩, .string ⟨#[]⟩, .slice none 0 0, .bool false, .int .i64 0, .string ⟨#[]⟩], .agg #[.int .i64 x.1, .int .i64 x.2]]) := by subst h; exact hp
theorem post_good {r : Except Err Q} {w w' : World} {q : Q} {e : Ending} (h : r = .ok q) (hp : ParsePost r w e w') : ∃ ao n c op nm tx fo fn fc, Below w.heap.size w w' ∧
    e = .returned (.tuple #[.agg #[.int .i64 q.since, .int .i64 q.till, .slice ao n c, .int .i64 op, .string nm, .string tx, .slice fo fn fc, .bool q.desc, .int .i64 q.limit, .string ⟨q.page.toArray⟩], .agg #[.int .i64 0, .int .i64 0]]) ∧
    w'.ownsRow w.heap.size 75 3 (.slice ao n c) q.ms.length (q.ms.flatMap mCells) ∧ FVal w' (fun b => w.heap.size ≤ b) ⟨.int .i64 op, .string nm, .string tx, .slice fo fn fc⟩ q.filter := by
  subst h
  obtain ⟨hb, mv, fx, he, ho, hf⟩ := hp
  obtain ⟨ao, cp, rfl⟩ := own_slice ho
  obtain ⟨op, nm, tx, fo, fn, fc, rfl⟩ := hf.shape
  exact ⟨_, _, _, op, nm, tx, fo, fn, fc, hb, he, ho, hf⟩
theorem bytes_app (a b : List UInt8) : (⟨a.toArray⟩ : ByteArray) ++ ⟨b.toArray⟩ = ⟨(a ++ b).toArray⟩ := by
  apply ByteArray.ext
  simp

set_option maxHeartbeats 16000000 in
set_option maxRecDepth 1000000 in
theorem parseNumbers_walk (a b c : Int) (w : World) (hE : PEnv w) (ha0 : -9223372036854775808 ≤ a) (ha1 : a ≤ 9223372036854775807) (hb0 : -9223372036854775808 ≤ b) (hb1 : b ≤ 9223372036854775807) (hc0 : -9223372036854775808 ≤ c) (hc1 : c ≤ 9223372036854775807) :
    Calls Tryz.prog 6 #[.int .i64 a, .int .i64 b, .int .i64 c] w fun e w' => e = .returned (.bool true) ∧ Below w.heap.size w w' := by
  have cA := pAlive_walk w hE
  have la := itoa_length_le a ha0 ha1
  have lb := itoa_length_le b hb0 hb1
  have lc := itoa_length_le c hc0 hc1
  have hP : ∀ (s : ByteArray) (W : World), PEnv W → s = ⟨(numsT a b c).toArray⟩ → Calls Tryz.prog 11 #[.string s] W (ParsePost (numsR a b c) W) := by
    rintro s W hW rfl
    have h := parse_walk ⟨(numsT a b c).toArray⟩ W hW (by rw [mk_size]; simp [numsT]; omega)
    rw [parseA_nums a b c ha0 ha1 hb0 hb1 hc0 hc1] at h
    exact h
  have hIa := fun W (hW : PEnv W) => hW.env.itoa a ha0 ha1
  have hIb := fun W (hW : PEnv W) => hW.env.itoa b hb0 hb1
  have hIc := fun W (hW : PEnv W) => hW.env.itoa c hc0 hc1
  obtain ⟨r, hr⟩ : ∃ r, numsR a b c = r := ⟨_, rfl⟩
  have HR := Lib.hid hr
  rw [hr] at hP
  clear hr
  unfold numsT at hP
  have HR2 := Lib.hid HR.out
  unfold numsR at HR2
  clear HR
  generalize itoa a = qa at la hP hIa HR2
  generalize itoa b = qb at lb hP hIb HR2
  generalize itoa c = qc at lc hP hIc
  go_enter Tryz.func6, Tryz.ntmps6
  go_wp2_with fail
  refine cA.mono ?_
  clear cA
  rintro e w1 ⟨rfl, hb1⟩
  go_wp2_with fail
  refine (hIa w1 (hE.below hb1)).mono ?_
  clear hIa
  rintro e w2 ⟨rfl, hb2⟩
  have hB2 := below_chain hb1 hb1.size hb2
  go_wp2_with fail
  generalize hA : ({ data := #[102, 114, 111, 109, 32] } : ByteArray) ++ { data := qa.toArray } ++ { data := #[32] } = A
  have HA := Lib.hid hA
  have hAs : A.size = qa.length + 6 := by rw [← hA, bytes_app, bytes_app, mk_size]; simp
  clear hA
  refine (hIb w2 (hE.below hB2)).mono ?_
  clear hIb
  rintro e w3 ⟨rfl, hb3⟩
  have hB3 := below_chain hB2 hB2.size hb3
  go_wp2_with fail
  generalize hB : A ++ ({ data := #[116, 111, 32] } : ByteArray) ++ { data := qb.toArray } ++ { data := #[32] } = B
  have HB := Lib.hid hB
  have hBs : B.size = qa.length + qb.length + 10 := by rw [← hB, ← HA.out, bytes_app, bytes_app, bytes_app, bytes_app, bytes_app, mk_size]; simp; omega
  clear hB
  refine (hIc w3 (hE.below hB3)).mono ?_
  clear hIc
  rintro e w4 ⟨rfl, hb4⟩
  have hB4 := below_chain hB3 hB3.size hb4
  go_wp2_with fail
  refine (hP _ w4 (hE.below hB4) (by rw [← HB.out, ← HA.out, bytes_app, bytes_app, bytes_app, bytes_app, bytes_app, bytes_app, bytes_app]; simp)).mono ?_
  clear hP HA HB
  intro e w5 hpost
  have tOk : ∀ n, timeOk n = false → n < -1099511627776 ∨ 1099511627776 < n := by
    intro n h
    unfold timeOk at h
    rcases Int.lt_or_le n (-1099511627776) with h1 | h1
    · exact .inl h1
    · rcases Int.lt_or_le 1099511627776 n with h2 | h2
      · exact .inr h2
      · rw [decide_eq_true h1, decide_eq_true h2] at h; cases h
  have tIn : ∀ n, timeOk n = true → -1099511627776 ≤ n ∧ n ≤ 1099511627776 := by
    intro n h
    unfold timeOk at h
    simpa using h
  cases hta : timeOk a with
  | false =>
    have HV := HR2.out
    rw [if_pos hta] at HV
    obtain ⟨hb5, rfl⟩ := post_bad HV.symm hpost
    clear HV hpost HR2
    have hB5 := below_chain hB4 hB4.size hb5
    have hfin := fun (o1 o2 : Obj) => (hB5.alloc hB5.size o1).alloc (by simp; have := hB5.size; omega) o2
    have hn := tOk a hta
    clear tOk tIn hta
    rcases hn with h | h
    all_goals
      go_wp2
      go_ret
      exact ⟨rfl, hfin _ _⟩
  | true =>
    obtain ⟨ha2, ha3⟩ := tIn a hta
    have HV1 := HR2.out
    rw [if_neg (by rw [hta]; decide)] at HV1
    clear HR2
    cases htb : timeOk b with
    | false =>
      rw [if_pos htb] at HV1
      obtain ⟨hb5, rfl⟩ := post_bad HV1.symm hpost
      clear HV1 hpost
      have hB5 := below_chain hB4 hB4.size hb5
      have hfin := fun (o1 o2 : Obj) => (hB5.alloc hB5.size o1).alloc (by simp; have := hB5.size; omega) o2
      have hn := tOk b htb
      clear tOk tIn hta htb
      obtain ⟨z, hz⟩ : ∃ z, (qa.length : Int) + 10 = z := ⟨_, rfl⟩
      have hzA : (z == (A.size : Int) + 4) = true := by rw [beq_iff_eq]; omega
      have hAl : A.size ≤ 100 := by omega
      rw [hz]
      clear hz hAs hBs
      rcases hn with h | h
      all_goals
        go_wp2
        go_ret
        exact ⟨rfl, hfin _ _⟩
    | true =>
      obtain ⟨hb2', hb3'⟩ := tIn b htb
      rw [if_neg (by rw [htb]; decide)] at HV1
      by_cases hlt : b < a
      · rw [if_pos hlt] at HV1
        obtain ⟨hb5, rfl⟩ := post_bad HV1.symm hpost
        clear HV1 hpost
        have hB5 := below_chain hB4 hB4.size hb5
        have hfin := fun (o1 o2 : Obj) => (hB5.alloc hB5.size o1).alloc (by simp; have := hB5.size; omega) o2
        clear tOk tIn hta htb
        obtain ⟨z, hz⟩ : ∃ z, (qa.length : Int) + 7 = z := ⟨_, rfl⟩
        have hzA : (z == (A.size : Int) + 1) = true := by rw [beq_iff_eq]; omega
        have hAl : A.size ≤ 100 := by omega
        rw [hz]
        clear hz hAs hBs
        go_wp2
        go_ret
        exact ⟨rfl, hfin _ _⟩
      · rw [if_neg hlt] at HV1
        cases htc : limitOk c with
        | false =>
          rw [if_pos htc] at HV1
          obtain ⟨hb5, rfl⟩ := post_bad HV1.symm hpost
          clear HV1 hpost
          have hB5 := below_chain hB4 hB4.size hb5
          have hfin := fun (o1 o2 : Obj) => (hB5.alloc hB5.size o1).alloc (by simp; have := hB5.size; omega) o2
          have hn : c < 1 ∨ 50 < c := by
            unfold limitOk at htc
            rcases Int.lt_or_le c 1 with h1 | h1
            · exact .inl h1
            · rcases Int.lt_or_le 50 c with h2 | h2
              · exact .inr h2
              · rw [decide_eq_true h1, decide_eq_true h2] at htc; cases htc
          clear tOk tIn hta htb htc
          obtain ⟨z, hz⟩ : ∃ z, (qa.length : Int) + qb.length + 17 = z := ⟨_, rfl⟩
          have hzB : (z == (B.size : Int) + 7) = true := by rw [beq_iff_eq]; omega
          have hBl : B.size ≤ 100 := by omega
          rw [hz]
          clear hz hAs hBs
          rcases hn with h | h
          all_goals
            go_wp2
            go_ret
            exact ⟨rfl, hfin _ _⟩
        | true =>
          have hc2 : 1 ≤ c ∧ c ≤ 50 := by unfold limitOk at htc; simpa using htc
          obtain ⟨hc3, hc4⟩ := hc2
          rw [if_neg (by rw [htc]; decide)] at HV1
          obtain ⟨ao, n, cc, op, nm, tx, fo, fn, fc, hb5, rfl, hO, hF⟩ := post_good HV1.symm hpost
          clear HV1 hpost hO hF
          have hB5 := below_chain hB4 hB4.size hb5
          have hfin := fun (o1 o2 : Obj) => (hB5.alloc hB5.size o1).alloc (by simp; have := hB5.size; omega) o2
          clear tOk tIn hta htb htc hAs hBs
          go_wp2
          go_ret
          exact ⟨rfl, hfin _ _⟩
end Go.Proofs.YtebblpmocheelaaGreatDoor
