/- The walk of the law LexNames. -/
import Derived.Test.YtebblpmocheelaaDoorLexL1
import Derived.Deep.QuietTactic
import Derived.BigQuiet
namespace Go.Proofs.YtebblpmocheelaaDoor
open Go.RowKit

theorem lexA_errs {s : ByteArray} {x : Int × Int} (h : lexA s = .error x) : x.1 ≠ 0 := by
  unfold lexA at h
  split at h
  · injection h with h; subst h; first | (show (4 : Int) ≠ 0; decide) | (show (6 : Int) ≠ 0; decide)
  · split at h
    · injection h with h; subst h; first | (show (4 : Int) ≠ 0; decide) | (show (6 : Int) ≠ 0; decide)
    · split at h
      · cases h
      · injection h with h; subst h; first | (show (4 : Int) ≠ 0; decide) | (show (6 : Int) ≠ 0; decide)

/-- The tokens' cells that are held, and what besides. -/
theorem keep4 {w W W' : World} {g F : Nat} {a b c d : Value}
    (h : W.cell? ⟨F, 0, none⟩ = some a ∧ W.cell? ⟨F, 1, none⟩ = some b ∧ W.cell? ⟨g, 0, none⟩ = some c ∧ W.cell? ⟨g, 1, none⟩ = some d ∧ NH w W g F) (hb : Below W.heap.size W W') :
    W'.cell? ⟨F, 0, none⟩ = some a ∧ W'.cell? ⟨F, 1, none⟩ = some b ∧ W'.cell? ⟨g, 0, none⟩ = some c ∧ W'.cell? ⟨g, 1, none⟩ = some d ∧ NH w W' g F := by
  obtain ⟨h1, h2, h3, h4, h6⟩ := h
  exact ⟨(hb.cell h6.f).trans h1, (hb.cell h6.f).trans h2, (hb.cell h6.g).trans h3, (hb.cell h6.g).trans h4, h6.step hb⟩
theorem held4 {w W : World} {g F : Nat} {a b c d : Prop} (h : a ∧ b ∧ c ∧ d ∧ NH w W g F) : Below w.heap.size w W := h.2.2.2.2.b

theorem lexFrom_pos (s : ByteArray) : ∀ (f at_ : Nat) (l : List Tok), lexFrom s f at_ = .ok l → 0 < l.length := by
  intro f at_ l h
  cases f with
  | zero => cases h
  | succ f =>
    by_cases hr : Lib.trimLeftB (s.data.toList.drop at_) 32 = []
    · rw [lexFrom_stop s f at_ hr] at h
      injection h with h; subst h; simp
    · cases ho : oneA ⟨(Lib.trimLeftB (s.data.toList.drop at_) 32).toArray⟩ with
      | none => rw [lexFrom_none s f at_ _ rfl hr ho] at h; cases h
      | some x =>
        obtain ⟨u, n⟩ := x
        rw [lexFrom_some s f at_ _ u n rfl hr ho] at h
        cases hrec : lexFrom s f (s.size - (Lib.trimLeftB (s.data.toList.drop at_) 32).length + n) with
        | error e => rw [hrec] at h; cases h
        | ok l2 =>
          rw [hrec] at h
          have h' : Except.ok _ = Except.ok l := h
          injection h' with h'
          subst h'; simp
theorem lexA_pos {s : ByteArray} {l : List Tok} (h : lexA s = .ok l) : 0 < l.length := by
  unfold lexA at h
  split at h
  · cases h
  · split at h
    · cases h
    · split at h
      · rename_i l2 hl2
        injection h with h; subst h
        exact lexFrom_pos s _ _ _ hl2
      · cases h

theorem below_drewN {B : Nat} {w W : World} (h : Below B w W) (n : Nat) : Below B w (W.drewN n) := ⟨h.os, h.tape, h.output, h.size, h.block⟩

set_option maxHeartbeats 8000000 in
set_option maxRecDepth 1000000 in
theorem lexNames_walk (s : ByteArray) (w : World) (hE : Env w) (hs : s.size ≤ 9223372036854775807) :
    Calls Tryd.prog 6 #[.string s] w fun e w' => e = .returned (.bool true) ∧ Below w.heap.size w w' := by
  have cA := alive_walk w hE
  by_cases hbig : 100 < s.size
  · go_enter Tryd.func6, Tryd.ntmps6
    go_wp2_with (go_at_call 7; refine cA.mono ?_; rintro e w1 ⟨rfl, hb1⟩)
    go_ret
    exact ⟨rfl, hb1⟩
  · have hsm : s.size ≤ 65536 := by omega
    have hs24 : s.size ≤ 1024 := by omega
    have hL := fun W (hW : Env W) => lex_walk s W hW hsm
    have hN := fun W => refName_walk s W hsm
    have hI := fun W => refIsWord_walk s W
    cases hr : lexA s with
    | error x =>
      obtain ⟨xe, xa⟩ := x
      have hxe : xe ≠ 0 := lexA_errs hr
      have hnm : nameR s.data.toList = false := by
        cases hn : nameR s.data.toList with
        | false => rfl
        | true => obtain ⟨k, _, _, he⟩ := nameR_one hs24 hn; rw [hr] at he; cases he
      rw [hr] at hL
      rw [hnm] at hN
      clear hr hnm
      go_enter Tryd.func6, Tryd.ntmps6
      go_wp2_with fail
      refine cA.mono ?_
      clear cA
      rintro e w1 ⟨rfl, hb1⟩
      go_wp2_with fail
      refine (hL w1 (hE.below hb1)).mono ?_
      rintro e w2 ⟨hb2, rfl⟩
      have hB2 := below_chain hb1 hb1.size hb2
      have hF := CellsAt.new w2 28 #[.int .i64 xe, .int .i64 xa]
      have hB3 := hB2.alloc hB2.size (.cells #[.int .i64 xe, .int .i64 xa] 28)
      have x0 : (w2.alloc (.cells #[.int .i64 xe, .int .i64 xa] 28)).cell? ⟨w2.heap.size, 0, none⟩ = some (.int .i64 xe) := hF.cell 0
      have x1 : (w2.alloc (.cells #[.int .i64 xe, .int .i64 xa] 28)).cell? ⟨w2.heap.size, 1, none⟩ = some (.int .i64 xa) := hF.cell 1
      have hxb : (xe == 0) = false := by rw [beq_eq_false_iff_ne]; exact hxe
      clear hF
      go_wp2_with fail
      go_quiet (fail)
      go_wp2_with (go_at_call 16; refine (hN _).mono ?_; rintro e w3 ⟨rfl, rfl⟩)
      go_ret
      exact ⟨rfl, below_drewN hB3 _⟩
    | ok l =>
      have hpos := lexA_pos hr
      by_cases hl2 : l.length = 2
      · obtain ⟨t, u, rfl⟩ : ∃ t u, l = [t, u] := by
          match l, hl2 with
          | [t, u], _ => exact ⟨t, u, rfl⟩
        clear hpos hl2
        by_cases hsay : t.says = s.data.toList
        · have hq : (t.says == s.toList) = true := by rw [ByteArray.toList_eq, hsay]; simp
          by_cases hk : t.kind = 1 ∨ t.kind = 2
          · obtain ⟨hnm, hkw⟩ := namesOnly hr hsay hk
            rw [hr] at hL
            rw [hnm] at hN
            clear hr hnm hsay
            rcases hk with hk | hk
            · have hw : decide (s.data.toList ∈ wl) = false := decide_eq_false (fun h => by rw [← hkw, hk] at h; exact absurd h (by decide))
              rw [hw] at hI
              clear hw hkw
              go_enter Tryd.func6, Tryd.ntmps6
              go_wp2_with fail
              refine cA.mono ?_
              clear cA
              rintro e w1 ⟨rfl, hb1⟩
              go_wp2_with fail
              refine (hL w1 (hE.below hb1)).mono ?_
              rintro e w2 ⟨hb2, v, rfl, hown⟩
              have hB2 := below_chain hb1 hb1.size hb2
              obtain ⟨g, cap, rfl, hg, hcap, hcell⟩ := own_shape hown (by simp)
              have hown2 := hown.alloc (.cells #[.int .i64 0, .int .i64 0] 28)
              have hF := CellsAt.new w2 28 #[.int .i64 0, .int .i64 0]
              have hB3 := hB2.alloc hB2.size (.cells #[.int .i64 0, .int .i64 0] 28)
              have x0 : (w2.alloc (.cells #[.int .i64 0, .int .i64 0] 28)).cell? ⟨w2.heap.size, 0, none⟩ = some (.int .i64 0) := hF.cell 0
              have x1 : (w2.alloc (.cells #[.int .i64 0, .int .i64 0] 28)).cell? ⟨w2.heap.size, 1, none⟩ = some (.int .i64 0) := hF.cell 1
              have q0 := hown2.cellAt 0 (by have := (show 2 ≤ [t, u].length by simp); omega)
              have q1 := hown2.cellAt 1 (by have := (show 2 ≤ [t, u].length by simp); omega)
              have hgz : g < (w2.alloc (.cells #[.int .i64 0, .int .i64 0] 28)).heap.size := by simp; omega
              simp only [tokCells, List.flatMap_cons, List.cons_append, List.nil_append, List.getElem?_cons_zero, List.getElem?_cons_succ] at q0 q1
              have hcap2 : 2 ≤ cap := by simpa using hcap
              rw [hk] at q0
              clear hk
              have hNH : NH w (w2.alloc (.cells #[.int .i64 0, .int .i64 0] 28)) g w2.heap.size := ⟨hB3, hgz, by simp⟩
              have hS := And.intro x0 (And.intro x1 (And.intro q0 (And.intro q1 hNH)))
              clear hF hown hown2 hcell hcap
              go_wp2_with fail
              clear x0 x1 q0 q1 hNH hgz
              generalize w2.alloc (.cells #[.int .i64 0, .int .i64 0] 28) = W at hS ⊢
              generalize w2.heap.size = F at hS ⊢
              clear hB3 hB2 hb2 hb1 hg
              go_region_held3 (fun W' => W'.cell? ⟨F, 0, none⟩ = some (.int .i64 0) ∧ W'.cell? ⟨F, 1, none⟩ = some (.int .i64 0) ∧ W'.cell? ⟨g, 0, none⟩ = some (.int .i64 1) ∧ W'.cell? ⟨g, 1, none⟩ = some (.string ⟨t.says.toArray⟩) ∧ NH w W' g F)
                (first | exact keep4 (by assumption) (by assumption) | exact keep4 (by assumption) (below_drew _) | assumption)
                (first | (go_at_call 10; refine (hI _).mono ?_; rintro e w4 ⟨rfl, hb4⟩))
              all_goals
                go_wp2_with (go_at_call 16; refine (hN _).mono ?_; rintro e w5 ⟨rfl, rfl⟩)
                go_ret
                exact ⟨rfl, held4 (by assumption)⟩
            · have hw : decide (s.data.toList ∈ wl) = true := decide_eq_true (hkw.1 hk)
              rw [hw] at hI
              clear hw hkw
              go_enter Tryd.func6, Tryd.ntmps6
              go_wp2_with fail
              refine cA.mono ?_
              clear cA
              rintro e w1 ⟨rfl, hb1⟩
              go_wp2_with fail
              refine (hL w1 (hE.below hb1)).mono ?_
              rintro e w2 ⟨hb2, v, rfl, hown⟩
              have hB2 := below_chain hb1 hb1.size hb2
              obtain ⟨g, cap, rfl, hg, hcap, hcell⟩ := own_shape hown (by simp)
              have hown2 := hown.alloc (.cells #[.int .i64 0, .int .i64 0] 28)
              have hF := CellsAt.new w2 28 #[.int .i64 0, .int .i64 0]
              have hB3 := hB2.alloc hB2.size (.cells #[.int .i64 0, .int .i64 0] 28)
              have x0 : (w2.alloc (.cells #[.int .i64 0, .int .i64 0] 28)).cell? ⟨w2.heap.size, 0, none⟩ = some (.int .i64 0) := hF.cell 0
              have x1 : (w2.alloc (.cells #[.int .i64 0, .int .i64 0] 28)).cell? ⟨w2.heap.size, 1, none⟩ = some (.int .i64 0) := hF.cell 1
              have q0 := hown2.cellAt 0 (by have := (show 2 ≤ [t, u].length by simp); omega)
              have q1 := hown2.cellAt 1 (by have := (show 2 ≤ [t, u].length by simp); omega)
              have hgz : g < (w2.alloc (.cells #[.int .i64 0, .int .i64 0] 28)).heap.size := by simp; omega
              simp only [tokCells, List.flatMap_cons, List.cons_append, List.nil_append, List.getElem?_cons_zero, List.getElem?_cons_succ] at q0 q1
              have hcap2 : 2 ≤ cap := by simpa using hcap
              rw [hk] at q0
              clear hk
              have hNH : NH w (w2.alloc (.cells #[.int .i64 0, .int .i64 0] 28)) g w2.heap.size := ⟨hB3, hgz, by simp⟩
              have hS := And.intro x0 (And.intro x1 (And.intro q0 (And.intro q1 hNH)))
              clear hF hown hown2 hcell hcap
              go_wp2_with fail
              clear x0 x1 q0 q1 hNH hgz
              generalize w2.alloc (.cells #[.int .i64 0, .int .i64 0] 28) = W at hS ⊢
              generalize w2.heap.size = F at hS ⊢
              clear hB3 hB2 hb2 hb1 hg
              go_region_held3 (fun W' => W'.cell? ⟨F, 0, none⟩ = some (.int .i64 0) ∧ W'.cell? ⟨F, 1, none⟩ = some (.int .i64 0) ∧ W'.cell? ⟨g, 0, none⟩ = some (.int .i64 2) ∧ W'.cell? ⟨g, 1, none⟩ = some (.string ⟨t.says.toArray⟩) ∧ NH w W' g F)
                (first | exact keep4 (by assumption) (by assumption) | exact keep4 (by assumption) (below_drew _) | assumption)
                (first | (go_at_call 10; refine (hI _).mono ?_; rintro e w4 ⟨rfl, hb4⟩))
              all_goals
                go_wp2_with (go_at_call 16; refine (hN _).mono ?_; rintro e w5 ⟨rfl, rfl⟩)
                go_ret
                exact ⟨rfl, held4 (by assumption)⟩
          · have hnm : nameR s.data.toList = false := by
              cases hn : nameR s.data.toList with
              | false => rfl
              | true =>
                obtain ⟨k, hk2, _, he⟩ := nameR_one hs24 hn
                rw [hr] at he
                injection he with he
                injection he with he1 he2
                rw [he1] at hk
                exact absurd hk2 hk
            have k1 : (t.kind == 1) = false := by rw [beq_eq_false_iff_ne]; exact fun h => hk (.inl h)
            have k2 : (t.kind == 2) = false := by rw [beq_eq_false_iff_ne]; exact fun h => hk (.inr h)
            rw [hr] at hL
            rw [hnm] at hN
            clear hr hnm hsay hk
            go_enter Tryd.func6, Tryd.ntmps6
            go_wp2_with fail
            refine cA.mono ?_
            clear cA
            rintro e w1 ⟨rfl, hb1⟩
            go_wp2_with fail
            refine (hL w1 (hE.below hb1)).mono ?_
            rintro e w2 ⟨hb2, v, rfl, hown⟩
            have hB2 := below_chain hb1 hb1.size hb2
            obtain ⟨g, cap, rfl, hg, hcap, hcell⟩ := own_shape hown (by simp)
            have hown2 := hown.alloc (.cells #[.int .i64 0, .int .i64 0] 28)
            have hF := CellsAt.new w2 28 #[.int .i64 0, .int .i64 0]
            have hB3 := hB2.alloc hB2.size (.cells #[.int .i64 0, .int .i64 0] 28)
            have x0 : (w2.alloc (.cells #[.int .i64 0, .int .i64 0] 28)).cell? ⟨w2.heap.size, 0, none⟩ = some (.int .i64 0) := hF.cell 0
            have x1 : (w2.alloc (.cells #[.int .i64 0, .int .i64 0] 28)).cell? ⟨w2.heap.size, 1, none⟩ = some (.int .i64 0) := hF.cell 1
            have q0 := hown2.cellAt 0 (by have := (show 2 ≤ [t, u].length by simp); omega)
            have q1 := hown2.cellAt 1 (by have := (show 2 ≤ [t, u].length by simp); omega)
            have hgz : g < (w2.alloc (.cells #[.int .i64 0, .int .i64 0] 28)).heap.size := by simp; omega
            simp only [tokCells, List.flatMap_cons, List.cons_append, List.nil_append, List.getElem?_cons_zero, List.getElem?_cons_succ] at q0 q1
            have hcap2 : 2 ≤ cap := by simpa using hcap
            clear hF hown hown2 hcell hcap
            go_wp2_with fail
            go_quiet (fail)
            go_wp2_with (go_at_call 16; refine (hN _).mono ?_; rintro e w3 ⟨rfl, rfl⟩)
            go_ret
            exact ⟨rfl, below_drewN hB3 _⟩
        · have hq : (t.says == s.toList) = false := by rw [ByteArray.toList_eq, beq_eq_false_iff_ne]; exact hsay
          have hnm : nameR s.data.toList = false := by
            cases hn : nameR s.data.toList with
            | false => rfl
            | true =>
              obtain ⟨k, hk2, _, he⟩ := nameR_one hs24 hn
              rw [hr] at he
              injection he with he
              injection he with he1 he2
              exact absurd (congrArg Tok.says he1) hsay
          rw [hr] at hL
          rw [hnm] at hN
          clear hr hnm hsay
          go_enter Tryd.func6, Tryd.ntmps6
          go_wp2_with fail
          refine cA.mono ?_
          clear cA
          rintro e w1 ⟨rfl, hb1⟩
          go_wp2_with fail
          refine (hL w1 (hE.below hb1)).mono ?_
          rintro e w2 ⟨hb2, v, rfl, hown⟩
          have hB2 := below_chain hb1 hb1.size hb2
          obtain ⟨g, cap, rfl, hg, hcap, hcell⟩ := own_shape hown (by simp)
          have hown2 := hown.alloc (.cells #[.int .i64 0, .int .i64 0] 28)
          have hF := CellsAt.new w2 28 #[.int .i64 0, .int .i64 0]
          have hB3 := hB2.alloc hB2.size (.cells #[.int .i64 0, .int .i64 0] 28)
          have x0 : (w2.alloc (.cells #[.int .i64 0, .int .i64 0] 28)).cell? ⟨w2.heap.size, 0, none⟩ = some (.int .i64 0) := hF.cell 0
          have x1 : (w2.alloc (.cells #[.int .i64 0, .int .i64 0] 28)).cell? ⟨w2.heap.size, 1, none⟩ = some (.int .i64 0) := hF.cell 1
          have q0 := hown2.cellAt 0 (by have := (show 2 ≤ [t, u].length by simp); omega)
          have q1 := hown2.cellAt 1 (by have := (show 2 ≤ [t, u].length by simp); omega)
          have hgz : g < (w2.alloc (.cells #[.int .i64 0, .int .i64 0] 28)).heap.size := by simp; omega
          simp only [tokCells, List.flatMap_cons, List.cons_append, List.nil_append, List.getElem?_cons_zero, List.getElem?_cons_succ] at q0 q1
          have hcap2 : 2 ≤ cap := by simpa using hcap
          clear hF hown hown2 hcell hcap
          go_wp2_with fail
          go_quiet (fail)
          go_wp2_with (go_at_call 16; refine (hN _).mono ?_; rintro e w3 ⟨rfl, rfl⟩)
          go_ret
          exact ⟨rfl, below_drewN hB3 _⟩
      · have hnm : nameR s.data.toList = false := by
          cases hn : nameR s.data.toList with
          | false => rfl
          | true =>
            obtain ⟨k, hk2, _, he⟩ := nameR_one hs24 hn
            rw [hr] at he
            injection he with he
            rw [he] at hl2
            exact absurd rfl hl2
        have hq2 : ((l.length : Int) == 2) = false := by rw [beq_eq_false_iff_ne]; omega
        rw [hr] at hL
        rw [hnm] at hN
        clear hr hnm hl2
        go_enter Tryd.func6, Tryd.ntmps6
        go_wp2_with fail
        refine cA.mono ?_
        clear cA
        rintro e w1 ⟨rfl, hb1⟩
        go_wp2_with fail
        refine (hL w1 (hE.below hb1)).mono ?_
        rintro e w2 ⟨hb2, v, rfl, hown⟩
        have hB2 := below_chain hb1 hb1.size hb2
        obtain ⟨g, cap, rfl, hg, hcap, hcell⟩ := own_shape hown hpos
        have hown2 := hown.alloc (.cells #[.int .i64 0, .int .i64 0] 28)
        have hF := CellsAt.new w2 28 #[.int .i64 0, .int .i64 0]
        have hB3 := hB2.alloc hB2.size (.cells #[.int .i64 0, .int .i64 0] 28)
        have x0 : (w2.alloc (.cells #[.int .i64 0, .int .i64 0] 28)).cell? ⟨w2.heap.size, 0, none⟩ = some (.int .i64 0) := hF.cell 0
        have x1 : (w2.alloc (.cells #[.int .i64 0, .int .i64 0] 28)).cell? ⟨w2.heap.size, 1, none⟩ = some (.int .i64 0) := hF.cell 1
        clear hF hown hown2 hcell hcap
        go_wp2_with fail
        go_quiet (fail)
        go_wp2_with (go_at_call 16; refine (hN _).mono ?_; rintro e w3 ⟨rfl, rfl⟩)
        go_ret
        exact ⟨rfl, below_drewN hB3 _⟩
end Go.Proofs.YtebblpmocheelaaDoor
