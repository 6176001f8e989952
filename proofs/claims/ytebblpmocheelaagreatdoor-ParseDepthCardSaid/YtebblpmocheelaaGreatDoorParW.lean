/- The walks of the parser's text and number. -/
import Derived.Test.YtebblpmocheelaaGreatDoorParE
namespace Go.Proofs.YtebblpmocheelaaGreatDoor
open Go.RowKit Go.Lib

def textV (t : Tok) : Except Err (List UInt8 × List Tok) → Value
  | .ok x => .tuple #[.string ⟨x.1.toArray⟩, .nilIface]
  | .error e => .tuple #[.string ⟨t.says.toArray⟩, errV e]
def EndsT (w : World) (p g cap : Nat) (l : List Tok) (d : Nat) (w' : World) : Except Err (List UInt8 × List Tok) → Prop
  | .ok x => Goes w p g cap l x.2 d w'
  | .error _ => ∃ r, Goes w p g cap l r d w'

theorem kindR_ok {ts : List Tok} {k : Int} {x : Tok × List Tok} (h : kindR ts k = .ok x) : x.1 = hdT ts ∧ x.2 = nextR ts := by
  unfold kindR at h
  split at h
  · injection h with h; subst h; exact ⟨rfl, rfl⟩
  · cases h

set_option maxHeartbeats 8000000 in
set_option maxRecDepth 1000000 in
theorem text_walk {w : World} {p g cap : Nat} {l ts : List Tok} {i d : Nat} (h : PS w p g cap l ts i d) :
    Calls Tryz.prog 55 #[.pointer (some ⟨p, 0, none⟩)] w fun e w' => e = .returned (textV (hdT ts) (textR ts)) ∧ EndsT w p g cap l d w' (textR ts) := by
  have cK := kind_walk h 4
  unfold textR
  cases hk : kindR ts 4 with
  | error e =>
    rw [hk] at cK
    simp only [kindV, EndsK, tokV, errV] at cK
    clear hk
    simp only [textV, EndsT, errV]
    generalize hdT ts = t at cK ⊢
    go_enter Tryz.func55, Tryz.ntmps55
    go_wp2_with fail
    refine cK.mono ?_
    rintro e1 w1 ⟨rfl, r1, hg1⟩
    go_wp2
    exact bodyPost_ret (v := .tuple #[.string ⟨t.says.toArray⟩, .iface 64 (.agg #[.int .i64 e.1, .int .i64 e.2])]) (by simp [results, Tryz.results55, go_sem]) rfl ⟨rfl, r1, hg1.below ((Below.refl _ _).alloc (Nat.le_refl _) _)⟩
  | ok x =>
    obtain ⟨hx1, hx2⟩ := kindR_ok hk
    rw [hk] at cK
    simp only [kindV, EndsK, tokV] at cK
    clear hk
    simp only [textV, EndsT]
    rw [← hx1] at cK
    obtain ⟨t, r⟩ := x
    dsimp only at cK ⊢
    clear hx1 hx2
    go_enter Tryz.func55, Tryz.ntmps55
    go_wp2_with fail
    refine cK.mono ?_
    rintro e1 w1 ⟨rfl, hg1⟩
    go_wp2
    exact bodyPost_ret (v := .tuple #[.string ⟨t.says.toArray⟩, .nilIface]) (by simp [results, Tryz.results55, go_sem]) rfl ⟨rfl, hg1.below ((Below.refl _ _).alloc (Nat.le_refl _) _)⟩

theorem time_walk (n : Int) (w : World) : Calls Tryz.prog 82 #[.int .i64 n] w fun e w' => e = .returned (.bool (timeOk n)) ∧ w' = w := by
  have key : ∀ b, timeOk n = b → Calls Tryz.prog 82 #[.int .i64 n] w fun e w' => e = .returned (.bool b) ∧ w' = w := by
    intro b hb
    by_cases h1 : -1099511627776 ≤ n
    · by_cases h2 : n ≤ 1099511627776
      · have hb' : b = true := by rw [← hb]; unfold timeOk; simp [h1, h2]
        subst hb'
        clear hb
        go_enter Tryz.func82, Tryz.ntmps82
        go_wp2
        go_ret
        exact ⟨rfl, rfl⟩
      · have hb' : b = false := by rw [← hb]; unfold timeOk; simp [h2]
        subst hb'
        clear hb
        go_enter Tryz.func82, Tryz.ntmps82
        go_wp2
        go_ret
        exact ⟨rfl, rfl⟩
    · have hb' : b = false := by rw [← hb]; unfold timeOk; simp [h1]
      subst hb'
      clear hb
      go_enter Tryz.func82, Tryz.ntmps82
      go_wp2
      go_ret
      exact ⟨rfl, rfl⟩
  exact key _ rfl

theorem limit_walk (n : Int) (w : World) : Calls Tryz.prog 54 #[.int .i64 n] w fun e w' => e = .returned (.bool (limitOk n)) ∧ w' = w := by
  have key : ∀ b, limitOk n = b → Calls Tryz.prog 54 #[.int .i64 n] w fun e w' => e = .returned (.bool b) ∧ w' = w := by
    intro b hb
    by_cases h1 : 1 ≤ n
    · by_cases h2 : n ≤ 50
      · have hb' : b = true := by rw [← hb]; unfold limitOk; simp [h1, h2]
        subst hb'
        clear hb
        go_enter Tryz.func54, Tryz.ntmps54
        go_wp2
        go_ret
        exact ⟨rfl, rfl⟩
      · have hb' : b = false := by rw [← hb]; unfold limitOk; simp [h2]
        subst hb'
        clear hb
        go_enter Tryz.func54, Tryz.ntmps54
        go_wp2
        go_ret
        exact ⟨rfl, rfl⟩
    · have hb' : b = false := by rw [← hb]; unfold limitOk; simp [h1]
      subst hb'
      clear hb
      go_enter Tryz.func54, Tryz.ntmps54
      go_wp2
      go_ret
      exact ⟨rfl, rfl⟩
  exact key _ rfl

/-- What number hands back: behind an error some number. -/
def NumPost (r : Except Err (Int × List Tok)) (w : World) (p g cap : Nat) (l : List Tok) (d : Nat) (e : Ending) (w' : World) : Prop := match r with
  | .ok x => e = .returned (.tuple #[.int .i64 x.1, .nilIface]) ∧ Goes w p g cap l x.2 d w'
  | .error x => ∃ v, e = .returned (.tuple #[.int .i64 v, errV x]) ∧ ∃ r, Goes w p g cap l r d w'

theorem numberR_e1 {ts : List Tok} {s : List UInt8} {can : Int → Bool} {e : Err} (h : mustR ts s = .error e) : numberR ts s can = .error e := by unfold numberR; rw [h]
theorem numberR_e2 {ts r : List Tok} {s : List UInt8} {can : Int → Bool} {e : Err} (h : mustR ts s = .ok r) (k : kindR r 3 = .error e) : numberR ts s can = .error e := by unfold numberR; rw [h]; dsimp only; rw [k]
theorem numberR_e3 {ts r : List Tok} {s : List UInt8} {can : Int → Bool} {x : Tok × List Tok} (h : mustR ts s = .ok r) (k : kindR r 3 = .ok x) (c : can x.1.n = false) : numberR ts s can = .error (6, x.1.place) := by
  unfold numberR; rw [h]; dsimp only; rw [k]; dsimp only; rw [c]; rfl
theorem numberR_ok {ts r : List Tok} {s : List UInt8} {can : Int → Bool} {x : Tok × List Tok} (h : mustR ts s = .ok r) (k : kindR r 3 = .ok x) (c : can x.1.n = true) : numberR ts s can = .ok (x.1.n, x.2) := by
  unfold numberR; rw [h]; dsimp only; rw [k]; dsimp only; rw [c]; rfl

theorem NumPost.bad {r : Except Err (Int × List Tok)} {w w' : World} {p g cap d : Nat} {l ts : List Tok} {x : Err} {v : Int} (h : r = .error x) (hg : Goes w p g cap l ts d w') :
    NumPost r w p g cap l d (.returned (.tuple #[.int .i64 v, .iface 64 (.agg #[.int .i64 x.1, .int .i64 x.2])])) w' := by subst h; exact ⟨v, rfl, ts, hg⟩
theorem NumPost.good {r : Except Err (Int × List Tok)} {w w' : World} {p g cap d : Nat} {l : List Tok} {x : Int × List Tok} (h : r = .ok x) (hg : Goes w p g cap l x.2 d w') :
    NumPost r w p g cap l d (.returned (.tuple #[.int .i64 x.1, .nilIface])) w' := by subst h; exact ⟨rfl, hg⟩

set_option maxHeartbeats 8000000 in
set_option maxRecDepth 1000000 in
theorem number_time {w : World} {p g cap : Nat} {l ts : List Tok} {i d : Nat} (h : PS w p g cap l ts i d) (s : List UInt8) :
    Calls Tryz.prog 53 #[.pointer (some ⟨p, 0, none⟩), .string ⟨s.toArray⟩, .func (.func 82) #[] #[]] w (NumPost (numberR ts s timeOk) w p g cap l d) := by
  have cM := must_walk h s
  have cK := fun {W : World} {ts' : List Tok} {j : Nat} (hW : PS W p g cap l ts' j d) => kind_walk hW 3
  have hpl := h.par.lt
  cases hm : mustR ts s with
  | error e =>
    have HV := Lib.hid (numberR_e1 (can := timeOk) hm)
    rw [hm] at cM
    simp only [mustV, Ends, errV] at cM
    clear hm cK
    go_enter Tryz.func53, Tryz.ntmps53
    go_wp2_with fail
    refine cM.mono ?_
    rintro e1 w1 ⟨rfl, r1, hg1⟩
    go_wp2
    exact bodyPost_ret (v := .tuple #[.int .i64 0, .iface 64 (.agg #[.int .i64 e.1, .int .i64 e.2])]) (by simp [results, Tryz.results53, go_sem]) rfl (NumPost.bad HV.out hg1)
  | ok r =>
    rw [hm] at cM
    simp only [mustV, Ends] at cM
    cases hk : kindR r 3 with
    | error e =>
      have HV := Lib.hid (numberR_e2 (can := timeOk) hm hk)
      clear hm
      go_enter Tryz.func53, Tryz.ntmps53
      go_wp2_with fail
      refine cM.mono ?_
      rintro e1 w1 ⟨rfl, hg1⟩
      obtain ⟨j, h1⟩ := hg1.2
      have cK1 := cK h1
      rw [hk] at cK1
      simp only [kindV, EndsK, tokV, errV] at cK1
      clear hk cK
      generalize hdT r = t at cK1
      go_wp2_with fail
      refine cK1.mono ?_
      rintro e2 w2 ⟨rfl, r2, hg2⟩
      go_wp2
      exact bodyPost_ret (v := .tuple #[.int .i64 t.n, .iface 64 (.agg #[.int .i64 e.1, .int .i64 e.2])]) (by simp [results, Tryz.results53, go_sem]) rfl (NumPost.bad HV.out ((hg1.trans hg2).below ((Below.refl _ _).alloc (Nat.le_refl _) _)))
    | ok x =>
      obtain ⟨hx1, hx2⟩ := kindR_ok hk
      cases hc : timeOk x.1.n with
      | true =>
        have HV := Lib.hid (numberR_ok (can := timeOk) hm hk hc)
        clear hm
        go_enter Tryz.func53, Tryz.ntmps53
        go_wp2_with fail
        refine cM.mono ?_
        rintro e1 w1 ⟨rfl, hg1⟩
        obtain ⟨j, h1⟩ := hg1.2
        have cK1 := cK h1
        rw [hk] at cK1
        simp only [kindV, EndsK, tokV] at cK1
        rw [← hx1] at cK1
        clear hk cK hx1 hx2
        obtain ⟨t, r2⟩ := x
        dsimp only at cK1 hc HV
        have cC := fun W => time_walk t.n W
        rw [hc] at cC
        clear hc
        go_wp2_with fail
        refine cK1.mono ?_
        rintro e2 w2 ⟨rfl, hg2⟩
        go_wp2_with (go_at_call 82; refine (cC _).mono ?_; rintro e w' ⟨rfl, rfl⟩)
        exact bodyPost_ret (v := .tuple #[.int .i64 t.n, .nilIface]) (by simp [results, Tryz.results53, go_sem]) rfl (NumPost.good HV.out ((hg1.trans hg2).below ((Below.refl _ _).alloc (Nat.le_refl _) _)))
      | false =>
        have HV := Lib.hid (numberR_e3 (can := timeOk) hm hk hc)
        clear hm
        go_enter Tryz.func53, Tryz.ntmps53
        go_wp2_with fail
        refine cM.mono ?_
        rintro e1 w1 ⟨rfl, hg1⟩
        obtain ⟨j, h1⟩ := hg1.2
        have cK1 := cK h1
        rw [hk] at cK1
        simp only [kindV, EndsK, tokV] at cK1
        rw [← hx1] at cK1
        clear hk cK hx1 hx2
        obtain ⟨t, r2⟩ := x
        dsimp only at cK1 hc HV
        have cC := fun W => time_walk t.n W
        rw [hc] at cC
        clear hc
        have cF := fun W => fail_walk 6 t W
        simp only [tokV, errV] at cF
        go_wp2_with fail
        refine cK1.mono ?_
        rintro e2 w2 ⟨rfl, hg2⟩
        go_wp2_with (first
          | (go_at_call 82; refine (cC _).mono ?_; rintro e w' ⟨rfl, rfl⟩)
          | (go_at_call 84; refine (cF _).mono ?_; rintro e w3 ⟨rfl, hb3⟩; have hb4 := below_cells (CellsAt.new _ _ _) hb3; have c0 := hb4.cell 0; have c1 := hb4.cell 1; have c2 := hb4.cell 2; have c3 := hb4.cell 3; simp at c0 c1 c2 c3))
        exact bodyPost_ret (v := .tuple #[.int .i64 t.n, .iface 64 (.agg #[.int .i64 6, .int .i64 t.place])]) (by simp [results, Tryz.results53, go_sem]) rfl (NumPost.bad (x := (6, t.place)) HV.out (((hg1.trans hg2).below ((Below.refl _ _).alloc (Nat.le_refl _) _)).below hb3))

set_option maxHeartbeats 8000000 in
set_option maxRecDepth 1000000 in
theorem number_limit {w : World} {p g cap : Nat} {l ts : List Tok} {i d : Nat} (h : PS w p g cap l ts i d) (s : List UInt8) :
    Calls Tryz.prog 53 #[.pointer (some ⟨p, 0, none⟩), .string ⟨s.toArray⟩, .func (.func 54) #[] #[]] w (NumPost (numberR ts s limitOk) w p g cap l d) := by
  have cM := must_walk h s
  have cK := fun {W : World} {ts' : List Tok} {j : Nat} (hW : PS W p g cap l ts' j d) => kind_walk hW 3
  have hpl := h.par.lt
  cases hm : mustR ts s with
  | error e =>
    have HV := Lib.hid (numberR_e1 (can := limitOk) hm)
    rw [hm] at cM
    simp only [mustV, Ends, errV] at cM
    clear hm cK
    go_enter Tryz.func53, Tryz.ntmps53
    go_wp2_with fail
    refine cM.mono ?_
    rintro e1 w1 ⟨rfl, r1, hg1⟩
    go_wp2
    exact bodyPost_ret (v := .tuple #[.int .i64 0, .iface 64 (.agg #[.int .i64 e.1, .int .i64 e.2])]) (by simp [results, Tryz.results53, go_sem]) rfl (NumPost.bad HV.out hg1)
  | ok r =>
    rw [hm] at cM
    simp only [mustV, Ends] at cM
    cases hk : kindR r 3 with
    | error e =>
      have HV := Lib.hid (numberR_e2 (can := limitOk) hm hk)
      clear hm
      go_enter Tryz.func53, Tryz.ntmps53
      go_wp2_with fail
      refine cM.mono ?_
      rintro e1 w1 ⟨rfl, hg1⟩
      obtain ⟨j, h1⟩ := hg1.2
      have cK1 := cK h1
      rw [hk] at cK1
      simp only [kindV, EndsK, tokV, errV] at cK1
      clear hk cK
      generalize hdT r = t at cK1
      go_wp2_with fail
      refine cK1.mono ?_
      rintro e2 w2 ⟨rfl, r2, hg2⟩
      go_wp2
      exact bodyPost_ret (v := .tuple #[.int .i64 t.n, .iface 64 (.agg #[.int .i64 e.1, .int .i64 e.2])]) (by simp [results, Tryz.results53, go_sem]) rfl (NumPost.bad HV.out ((hg1.trans hg2).below ((Below.refl _ _).alloc (Nat.le_refl _) _)))
    | ok x =>
      obtain ⟨hx1, hx2⟩ := kindR_ok hk
      cases hc : limitOk x.1.n with
      | true =>
        have HV := Lib.hid (numberR_ok (can := limitOk) hm hk hc)
        clear hm
        go_enter Tryz.func53, Tryz.ntmps53
        go_wp2_with fail
        refine cM.mono ?_
        rintro e1 w1 ⟨rfl, hg1⟩
        obtain ⟨j, h1⟩ := hg1.2
        have cK1 := cK h1
        rw [hk] at cK1
        simp only [kindV, EndsK, tokV] at cK1
        rw [← hx1] at cK1
        clear hk cK hx1 hx2
        obtain ⟨t, r2⟩ := x
        dsimp only at cK1 hc HV
        have cC := fun W => limit_walk t.n W
        rw [hc] at cC
        clear hc
        go_wp2_with fail
        refine cK1.mono ?_
        rintro e2 w2 ⟨rfl, hg2⟩
        go_wp2_with (go_at_call 54; refine (cC _).mono ?_; rintro e w' ⟨rfl, rfl⟩)
        exact bodyPost_ret (v := .tuple #[.int .i64 t.n, .nilIface]) (by simp [results, Tryz.results53, go_sem]) rfl (NumPost.good HV.out ((hg1.trans hg2).below ((Below.refl _ _).alloc (Nat.le_refl _) _)))
      | false =>
        have HV := Lib.hid (numberR_e3 (can := limitOk) hm hk hc)
        clear hm
        go_enter Tryz.func53, Tryz.ntmps53
        go_wp2_with fail
        refine cM.mono ?_
        rintro e1 w1 ⟨rfl, hg1⟩
        obtain ⟨j, h1⟩ := hg1.2
        have cK1 := cK h1
        rw [hk] at cK1
        simp only [kindV, EndsK, tokV] at cK1
        rw [← hx1] at cK1
        clear hk cK hx1 hx2
        obtain ⟨t, r2⟩ := x
        dsimp only at cK1 hc HV
        have cC := fun W => limit_walk t.n W
        rw [hc] at cC
        clear hc
        have cF := fun W => fail_walk 6 t W
        simp only [tokV, errV] at cF
        go_wp2_with fail
        refine cK1.mono ?_
        rintro e2 w2 ⟨rfl, hg2⟩
        go_wp2_with (first
          | (go_at_call 54; refine (cC _).mono ?_; rintro e w' ⟨rfl, rfl⟩)
          | (go_at_call 84; refine (cF _).mono ?_; rintro e w3 ⟨rfl, hb3⟩; have hb4 := below_cells (CellsAt.new _ _ _) hb3; have c0 := hb4.cell 0; have c1 := hb4.cell 1; have c2 := hb4.cell 2; have c3 := hb4.cell 3; simp at c0 c1 c2 c3))
        exact bodyPost_ret (v := .tuple #[.int .i64 t.n, .iface 64 (.agg #[.int .i64 6, .int .i64 t.place])]) (by simp [results, Tryz.results53, go_sem]) rfl (NumPost.bad (x := (6, t.place)) HV.out (((hg1.trans hg2).below ((Below.refl _ _).alloc (Nat.le_refl _) _)).below hb3))
end Go.Proofs.YtebblpmocheelaaGreatDoor
