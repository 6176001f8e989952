/- What the parser's walks say of memory: the tokens' row, the parser's state, filters. -/
import Derived.Test.YtebblpmocheelaaGreatDoorParP
import Derived.Test.YtebblpmocheelaaGreatDoorLexU2
import Derived.Deep.RegionWith
import Derived.Deep.RegionHeld3
import Derived.Deep.QuietTactic
import Derived.BigQuiet
namespace Go.Proofs.YtebblpmocheelaaGreatDoor
open Go.RowKit Go.Lib

/-! ### The tokens' row -/
structure Row (W : World) (g : Nat) (l : List Tok) : Prop where
  lt : g < W.heap.size
  c0 : ∀ i t, l[i]? = some t → W.cell? ⟨g, i * 4, none⟩ = some (.int .i64 t.kind)
  c1 : ∀ i t, l[i]? = some t → W.cell? ⟨g, i * 4 + 1, none⟩ = some (.string ⟨t.says.toArray⟩)
  c2 : ∀ i t, l[i]? = some t → W.cell? ⟨g, i * 4 + 2, none⟩ = some (.int .i64 t.n)
  c3 : ∀ i t, l[i]? = some t → W.cell? ⟨g, i * 4 + 3, none⟩ = some (.int .i64 t.place)

theorem flat_at (l : List Tok) : ∀ (i : Nat) (t : Tok) (j : Nat), l[i]? = some t → j < 4 → (l.flatMap tokCells)[i * 4 + j]? = (tokCells t)[j]? := by
  induction l with
  | nil => intro i t j h; simp at h
  | cons a l ih =>
    intro i t j h hj
    rw [List.flatMap_cons]
    cases i with
    | zero =>
      rw [List.getElem?_cons_zero] at h
      injection h with h; subst h
      rw [Nat.zero_mul, Nat.zero_add, List.getElem?_append_left (by show j < (tokCells a).length; simp [tokCells]; exact hj)]
    | succ i =>
      rw [List.getElem?_cons_succ] at h
      rw [List.getElem?_append_right (by show (tokCells a).length ≤ _; simp [tokCells]; omega)]
      have := ih i t j h hj
      rw [← this]
      congr 1
      show (i + 1) * 4 + j - (tokCells a).length = _
      simp [tokCells]; omega

theorem Row.of {W : World} {base g cap : Nat} {e : TypeId} {l : List Tok} (h : W.ownsRow base e 4 (.slice (some ⟨g, 0, none⟩) l.length cap) l.length (l.flatMap tokCells)) (hg : g < W.heap.size) : Row W g l := by
  have key : ∀ i t j, l[i]? = some t → j < 4 → W.cell? ⟨g, i * 4 + j, none⟩ = (tokCells t)[j]? := by
    intro i t j ht hj
    obtain ⟨hi, _⟩ := List.getElem?_eq_some_iff.1 ht
    rw [h.cellAt (i * 4 + j) (by omega), flat_at l i t j ht hj]
  exact ⟨hg, fun i t h => key i t 0 h (by omega), fun i t h => key i t 1 h (by omega), fun i t h => key i t 2 h (by omega), fun i t h => key i t 3 h (by omega)⟩
theorem Row.kept {W W' : World} {g : Nat} {l : List Tok} {row : Option Nat} (h : Row W g l) (hb : W.grownBy W' row) (hr : some g ≠ row) : Row W' g l :=
  ⟨Nat.lt_of_lt_of_le h.lt hb.size, fun i t ht => hb.cell (h.c0 i t ht) hr, fun i t ht => hb.cell (h.c1 i t ht) hr, fun i t ht => hb.cell (h.c2 i t ht) hr, fun i t ht => hb.cell (h.c3 i t ht) hr⟩

/-! ### What stays -/
theorem gb_trans {w w1 w2 : World} {row : Option Nat} (h : w.grownBy w1 row) (k : w1.grownBy w2 row) : w.grownBy w2 row :=
  ⟨k.os.trans h.os, k.tape.trans h.tape, k.output.trans h.output, Nat.le_trans h.size k.size, fun i hi hn => (k.block i (Nat.lt_of_lt_of_le hi h.size) hn).trans (h.block i hi hn)⟩
theorem gb_below {w w1 : World} (h : Below w.heap.size w w1) (row : Option Nat) : w.grownBy w1 row := ⟨h.os, h.tape, h.output, h.size, fun i hi _ => h.block i hi⟩
theorem gb_new {w w1 : World} {p : Nat} (h : w.grownBy w1 (some p)) (hp : w.heap.size ≤ p) : Below w.heap.size w w1 := ⟨h.os, h.tape, h.output, h.size, fun i hi => h.block i hi (fun e => by injection e with e; omega)⟩
theorem below_gb {B : Nat} {w w1 w2 : World} {p : Nat} (h : Below B w w1) (hB : B ≤ w1.heap.size) (hp : B ≤ p) (k : w1.grownBy w2 (some p)) : Below B w w2 :=
  h.grown k hB (fun i hi => by injection hi with hi; omega)

theorem cells_gb {w w1 : World} {p B : Nat} {t : TypeId} {xs : Array Value} (h : CellsAt w B t xs) (hg : w.grownBy w1 (some p)) (hne : B ≠ p) : CellsAt w1 B t xs :=
  (hg.block B h.lt (fun e => hne (by injection e))).trans h

theorem below_drew (w : World) : Below w.heap.size w w.drew := ⟨rfl, rfl, rfl, Nat.le_refl _, fun _ _ => rfl⟩
theorem below_drewN {B : Nat} {w W : World} (h : Below B w W) (n : Nat) : Below B w (W.drewN n) := ⟨h.os, h.tape, h.output, h.size, h.block⟩

/-! ### The parser's state -/
def Ended (l : List Tok) : Prop := ∃ toks q, l = toks ++ [⟨0, [], 0, q⟩] ∧ ∀ t ∈ toks, t.kind ≠ 0
structure PS (W : World) (p g cap : Nat) (l ts : List Tok) (i d : Nat) : Prop where
  drop : l.drop i = ts
  lt : i < l.length
  par : CellsAt W p 62 #[.slice (some ⟨g, i * 4, none⟩) (l.length - i : Nat) (cap - i : Nat), .int .i64 d]
  row : Row W g l
  gp : g < p
  cp : l.length ≤ cap
  cm : cap ≤ maxLen
  ended : Ended l

theorem PS.hd {W : World} {p g cap : Nat} {l ts : List Tok} {i d : Nat} (h : PS W p g cap l ts i d) : l[i]? = some (hdT ts) := by
  have := h.drop
  rw [← this, hdT, List.headD_eq_head?_getD, List.head?_drop, List.getElem?_eq_getElem h.lt]
  rfl
theorem PS.len {W : World} {p g cap : Nat} {l ts : List Tok} {i d : Nat} (h : PS W p g cap l ts i d) : ts.length = l.length - i := by
  rw [← h.drop, List.length_drop]
theorem PS.kept {W W' : World} {p g cap : Nat} {l ts : List Tok} {i d : Nat} (h : PS W p g cap l ts i d) (hb : Below W.heap.size W W') : PS W' p g cap l ts i d :=
  { h with par := below_cells h.par hb, row := h.row.kept (gb_below hb none) (by simp) }

theorem ended_last {l : List Tok} {i : Nat} {t : Tok} (h : Ended l) (ht : l[i]? = some t) (hk : t.kind ≠ 0) : i + 1 < l.length := by
  obtain ⟨toks, q, rfl, hall⟩ := h
  obtain ⟨hi, he⟩ := List.getElem?_eq_some_iff.1 ht
  rw [List.length_append, List.length_singleton] at hi ⊢
  rcases Nat.lt_or_ge i toks.length with h1 | h1
  · omega
  · have : i = toks.length := by omega
    subst this
    rw [List.getElem?_append_right (Nat.le_refl _), Nat.sub_self] at ht
    injection ht with ht
    rw [← ht] at hk
    exact absurd rfl hk

def tokV (t : Tok) : Value := .agg #[.int .i64 t.kind, .string ⟨t.says.toArray⟩, .int .i64 t.n, .int .i64 t.place]

/-! ### The parser's own small steps -/
set_option maxHeartbeats 4000000 in
set_option maxRecDepth 1000000 in
theorem peek_walk {w : World} {p g cap : Nat} {l ts : List Tok} {i d : Nat} (h : PS w p g cap l ts i d) :
    Calls Tryz.prog 83 #[.pointer (some ⟨p, 0, none⟩)] w fun e w' => e = .returned (tokV (hdT ts)) ∧ Below w.heap.size w w' := by
  have ht := h.hd
  have c0 := h.row.c0 i _ ht
  have c1 := h.row.c1 i _ ht
  have c2 := h.row.c2 i _ ht
  have c3 := h.row.c3 i _ ht
  have p0 := h.par.cell 0
  have hpl := h.par.lt
  have hgl := h.row.lt
  have hlt := h.lt
  have hlI : (0 : Int) < ((l.length - i : Nat) : Int) := by omega
  simp at p0
  clear ht
  generalize hdT ts = t at c0 c1 c2 c3
  go_enter Tryz.func83, Tryz.ntmps83
  go_wp2
  refine bodyPost_ret (v := tokV t) (by simp [results, Tryz.results83, go_sem, tokV]) rfl ⟨rfl, (Below.refl _ _).alloc (Nat.le_refl _) _⟩

/-- Where the parser stands behind a step. -/
def Goes (w : World) (p g cap : Nat) (l ts : List Tok) (d : Nat) (w' : World) : Prop := w.grownBy w' (some p) ∧ ∃ i, PS w' p g cap l ts i d

theorem Goes.of {w w' : World} {p g cap : Nat} {l ts : List Tok} {i d : Nat} (h : PS w p g cap l ts i d) (hb : Below w.heap.size w w') : Goes w p g cap l ts d w' := ⟨gb_below hb _, i, h.kept hb⟩
theorem Goes.trans {w w1 w2 : World} {p g cap : Nat} {l ts ts2 : List Tok} {d d2 : Nat} (h : Goes w p g cap l ts d w1) (k : Goes w1 p g cap l ts2 d2 w2) : Goes w p g cap l ts2 d2 w2 := ⟨gb_trans h.1 k.1, k.2⟩
theorem Goes.below {w w1 w2 : World} {p g cap : Nat} {l ts : List Tok} {d : Nat} (h : Goes w p g cap l ts d w1) (k : Below w1.heap.size w1 w2) : Goes w p g cap l ts d w2 := by
  obtain ⟨hb, i, hp⟩ := h
  exact ⟨gb_trans hb (gb_below k _), i, hp.kept k⟩

theorem PS.moved {w : World} {p g cap : Nat} {l ts : List Tok} {i d : Nat} (h : PS w p g cap l ts i d) (hk : (hdT ts).kind ≠ 0) :
    PS (w.setCell ⟨p, 0, none⟩ (.slice (some ⟨g, i * 4 + 4, none⟩) (l.length - i - 1 : Nat) (cap - i - 1 : Nat))) p g cap l (nextR ts) (i + 1) d := by
  have hl := ended_last h.ended h.hd hk
  have e1 : (i + 1) * 4 = i * 4 + 4 := by omega
  refine ⟨?_, hl, ?_, ?_, h.gp, h.cp, h.cm, h.ended⟩
  · unfold nextR
    rw [if_neg hk, ← h.drop, List.drop_drop]
  · rw [e1]
    have := h.par.set 0 (.slice (some ⟨g, i * 4 + 4, none⟩) (l.length - i - 1 : Nat) (cap - i - 1 : Nat))
    simpa [Nat.sub_sub] using this
  · exact h.row.kept (grown_setCell w p 0 _) (by have := h.gp; simp; omega)

set_option maxHeartbeats 4000000 in
set_option maxRecDepth 1000000 in
theorem next_walk {w : World} {p g cap : Nat} {l ts : List Tok} {i d : Nat} (h : PS w p g cap l ts i d) :
    Calls Tryz.prog 86 #[.pointer (some ⟨p, 0, none⟩)] w fun e w' => e = .returned (tokV (hdT ts)) ∧ Goes w p g cap l (nextR ts) d w' := by
  have ht := h.hd
  have c0 := h.row.c0 i _ ht
  have c1 := h.row.c1 i _ ht
  have c2 := h.row.c2 i _ ht
  have c3 := h.row.c3 i _ ht
  have p0 := h.par.cell 0
  have p1 := h.par.cell 1
  have f0 := h.par.frozen 0
  have hpl := h.par.lt
  have hgl := h.row.lt
  have hlt := h.lt
  have hcp := h.cp
  have hcm := h.cm
  have hlI : (0 : Int) < ((l.length - i : Nat) : Int) := by omega
  have hgp := h.gp
  simp at p0 p1
  by_cases hk : (hdT ts).kind = 0
  · have e0 : ((hdT ts).kind != 0) = false := by rw [hk]; rfl
    have HN : Hid (nextR ts = ts) := Lib.hid (by unfold nextR; rw [if_pos hk])
    clear ht hk
    generalize hdT ts = t at c0 c1 c2 c3 e0
    go_enter Tryz.func86, Tryz.ntmps86
    go_wp2
    refine bodyPost_ret (v := tokV t) (by simp [results, Tryz.results86, go_sem, tokV]) rfl ⟨rfl, ?_⟩
    rw [HN.out]
    refine Goes.of h ?_
    exact ((Below.refl _ _).alloc (Nat.le_refl _) _).alloc (by simp) _
  · have e0 : ((hdT ts).kind != 0) = true := by rw [bne_iff_ne]; exact hk
    have hl1 := ended_last h.ended ht hk
    have hln : ((l.length - i : Nat) : Int) = (l.length : Int) - i := by omega
    have M := h.moved hk
    clear ht hk
    generalize hdT ts = t at c0 c1 c2 c3 e0
    go_enter Tryz.func86, Tryz.ntmps86
    go_wp2
    have two := fun (W : World) (o1 o2 : Obj) => ((Below.refl W.heap.size W).alloc (Nat.le_refl _) o1).alloc (by simp) o2
    exact bodyPost_ret (v := tokV t) (by simp [results, Tryz.results86, go_sem, tokV]) rfl ⟨rfl, gb_trans (grown_setCell w p 0 _) (gb_below (two _ _ _) _), i + 1, M.kept (two _ _ _)⟩

/-! ### eat, must, fail, kind, text, number -/
theorem isIt_false {t : Tok} {s : List UInt8} (h : isIt t s = false) : (t.kind ≠ 2 ∧ t.kind ≠ 5) ∨ t.says ≠ s := by
  unfold isIt at h
  simp only [Bool.and_eq_false_iff, Bool.or_eq_false_iff, decide_eq_false_iff_not] at h
  exact h

set_option maxHeartbeats 8000000 in
set_option maxRecDepth 1000000 in
theorem eat_walk {w : World} {p g cap : Nat} {l ts : List Tok} {i d : Nat} (h : PS w p g cap l ts i d) (s : List UInt8) :
    Calls Tryz.prog 51 #[.pointer (some ⟨p, 0, none⟩), .string ⟨s.toArray⟩] w fun e w' => e = .returned (.bool (isIt (hdT ts) s)) ∧
      Goes w p g cap l (if isIt (hdT ts) s = true then nextR ts else ts) d w' := by
  have cP := peek_walk h
  have cN := fun W (hW : PS W p g cap l ts i d) => next_walk hW
  have hNk : (hdT ts).kind ≠ 0 → nextR ts = ts.drop 1 := fun hk => by unfold nextR; rw [if_neg hk]
  cases hi : isIt (hdT ts) s with
  | true =>
    have hi2 := hi
    unfold isIt at hi2
    simp only [Bool.and_eq_true, Bool.or_eq_true, decide_eq_true_eq] at hi2
    obtain ⟨hk, hs⟩ := hi2
    have es : ((hdT ts).says == s) = true := by rw [beq_iff_eq]; exact hs
    have en : ((hdT ts).says != s) = false := by rw [bne_eq_false_iff_eq]; exact hs
    rw [if_pos rfl]
    clear hi hNk
    rcases hk with hk | hk
    · have e2 : ((hdT ts).kind != 2) = false := by rw [hk]; rfl
      have e5 : True := trivial
      clear hk hs
      generalize hdT ts = t at cP cN es en e2 e5
      go_enter Tryz.func51, Tryz.ntmps51
      go_wp2_with fail
      refine cP.mono ?_
      rintro e w1 ⟨rfl, hb1⟩
      have hba := (Below.refl _ w1).alloc (Nat.le_refl _) (.cells #[.int .i64 t.kind, .string ⟨t.says.toArray⟩, .int .i64 t.n, .int .i64 t.place] 95)
      have h1 := (h.kept hb1).kept hba
      simp only [tokV]
      have g1 := (Goes.of h hb1).below hba
      go_wp2_with (go_at_call 86; refine (cN _ h1).mono ?_; rintro e w2 ⟨rfl, hg⟩)
      go_ret
      exact ⟨rfl, g1.trans hg⟩
    · have e2 : ((hdT ts).kind != 2) = true := by rw [hk]; rfl
      have e5 : ((hdT ts).kind != 5) = false := by rw [hk]; rfl
      clear hk hs
      generalize hdT ts = t at cP cN es en e2 e5
      go_enter Tryz.func51, Tryz.ntmps51
      go_wp2_with fail
      refine cP.mono ?_
      rintro e w1 ⟨rfl, hb1⟩
      have hba := (Below.refl _ w1).alloc (Nat.le_refl _) (.cells #[.int .i64 t.kind, .string ⟨t.says.toArray⟩, .int .i64 t.n, .int .i64 t.place] 95)
      have h1 := (h.kept hb1).kept hba
      simp only [tokV]
      have g1 := (Goes.of h hb1).below hba
      go_wp2_with (go_at_call 86; refine (cN _ h1).mono ?_; rintro e w2 ⟨rfl, hg⟩)
      go_ret
      exact ⟨rfl, g1.trans hg⟩
  | false =>
    rw [if_neg (by simp)]
    by_cases hk : (hdT ts).kind ≠ 2 ∧ (hdT ts).kind ≠ 5
    · have e2 : ((hdT ts).kind != 2) = true := by rw [bne_iff_ne]; exact hk.1
      have e5 : ((hdT ts).kind != 5) = true := by rw [bne_iff_ne]; exact hk.2
      have es : True := trivial
      have en : True := trivial
      clear hk hi hNk
      generalize hdT ts = t at cP cN es en e2 e5
      go_enter Tryz.func51, Tryz.ntmps51
      go_wp2_with fail
      refine cP.mono ?_
      rintro e w1 ⟨rfl, hb1⟩
      have hba := (Below.refl _ w1).alloc (Nat.le_refl _) (.cells #[.int .i64 t.kind, .string ⟨t.says.toArray⟩, .int .i64 t.n, .int .i64 t.place] 95)
      have h1 := (h.kept hb1).kept hba
      simp only [tokV]
      have g1 := (Goes.of h hb1).below hba
      go_wp2_with fail
      go_ret
      exact ⟨rfl, g1⟩
    · have hs : (hdT ts).says ≠ s := by
        rcases isIt_false hi with h2 | h2
        · exact absurd h2 hk
        · exact h2
      have es : ((hdT ts).says == s) = false := by rw [beq_eq_false_iff_ne]; exact hs
      have en : ((hdT ts).says != s) = true := by rw [bne_iff_ne]; exact hs
      clear hi hNk
      by_cases h2 : (hdT ts).kind = 2
      · have e2 : ((hdT ts).kind != 2) = false := by rw [h2]; rfl
        have e5 : True := trivial
        clear hk hs h2
        generalize hdT ts = t at cP cN es en e2 e5
        go_enter Tryz.func51, Tryz.ntmps51
        go_wp2_with fail
        refine cP.mono ?_
        rintro e w1 ⟨rfl, hb1⟩
        have hba := (Below.refl _ w1).alloc (Nat.le_refl _) (.cells #[.int .i64 t.kind, .string ⟨t.says.toArray⟩, .int .i64 t.n, .int .i64 t.place] 95)
        have h1 := (h.kept hb1).kept hba
        simp only [tokV]
        have g1 := (Goes.of h hb1).below hba
        go_wp2_with fail
        go_ret
        exact ⟨rfl, g1⟩
      · have h5 : (hdT ts).kind = 5 := by
          rcases Int.lt_or_le (hdT ts).kind 5 with h | h
          · exact Classical.byContradiction fun h5 => hk ⟨h2, h5⟩
          · exact Classical.byContradiction fun h5 => hk ⟨h2, h5⟩
        have e2 : ((hdT ts).kind != 2) = true := by rw [bne_iff_ne]; exact h2
        have e5 : ((hdT ts).kind != 5) = false := by rw [h5]; rfl
        clear hk hs h2 h5
        generalize hdT ts = t at cP cN es en e2 e5
        go_enter Tryz.func51, Tryz.ntmps51
        go_wp2_with fail
        refine cP.mono ?_
        rintro e w1 ⟨rfl, hb1⟩
        have hba := (Below.refl _ w1).alloc (Nat.le_refl _) (.cells #[.int .i64 t.kind, .string ⟨t.says.toArray⟩, .int .i64 t.n, .int .i64 t.place] 95)
        have h1 := (h.kept hb1).kept hba
        simp only [tokV]
        have g1 := (Goes.of h hb1).below hba
        go_wp2_with fail
        go_ret
        exact ⟨rfl, g1⟩

/-- What is wrong, as an error. -/
def errV (x : Err) : Value := .iface 64 (.agg #[.int .i64 x.1, .int .i64 x.2])

set_option maxHeartbeats 4000000 in
set_option maxRecDepth 1000000 in
theorem fail_walk (e : Int) (t : Tok) (w : World) :
    Calls Tryz.prog 84 #[.int .i64 e, tokV t] w fun r w' => r = .returned (errV (e, t.place)) ∧ Below w.heap.size w w' := by
  unfold tokV
  go_enter Tryz.func84, Tryz.ntmps84
  go_wp2
  go_ret
  exact ⟨rfl, (Below.refl _ _).alloc (Nat.le_refl _) _⟩

/-- What a step hands back. -/
def mustV : Except Err (List Tok) → Value
  | .ok _ => .nilIface
  | .error e => errV e
/-- Where a step leaves the parser: behind an error somewhere. -/
def Ends (w : World) (p g cap : Nat) (l : List Tok) (d : Nat) (w' : World) : Except Err (List Tok) → Prop
  | .ok r => Goes w p g cap l r d w'
  | .error _ => ∃ r, Goes w p g cap l r d w'

set_option maxHeartbeats 4000000 in
set_option maxRecDepth 1000000 in
theorem must_walk {w : World} {p g cap : Nat} {l ts : List Tok} {i d : Nat} (h : PS w p g cap l ts i d) (s : List UInt8) :
    Calls Tryz.prog 85 #[.pointer (some ⟨p, 0, none⟩), .string ⟨s.toArray⟩] w fun e w' => e = .returned (mustV (mustR ts s)) ∧ Ends w p g cap l d w' (mustR ts s) := by
  have cP := peek_walk h
  have cE := fun W (hW : PS W p g cap l ts i d) => eat_walk hW s
  have hm : ∀ b, isIt (hdT ts) s = b → mustR ts s = if b = true then .ok (nextR ts) else .error (5, (hdT ts).place) := fun b hb => by rw [mustR, hb]
  cases hi : isIt (hdT ts) s with
  | true =>
    rw [hi] at cE
    rw [if_pos rfl] at cE
    rw [hm true hi, if_pos rfl]
    clear hi hm
    generalize hdT ts = t at cP
    simp only [tokV] at cP
    go_enter Tryz.func85, Tryz.ntmps85
    go_wp2_with fail
    refine cP.mono ?_
    rintro e w1 ⟨rfl, hb1⟩
    have hba := (Below.refl _ w1).alloc (Nat.le_refl _) (.cells #[.int .i64 t.kind, .string ⟨t.says.toArray⟩, .int .i64 t.n, .int .i64 t.place] 95)
    have h1 := (h.kept hb1).kept hba
    have g1 := (Goes.of h hb1).below hba
    go_wp2_with (go_at_call 51; refine (cE _ h1).mono ?_; rintro e w2 ⟨rfl, hg⟩)
    go_ret
    exact ⟨rfl, g1.trans hg⟩
  | false =>
    rw [hi] at cE
    rw [if_neg (by simp)] at cE
    rw [hm false hi, if_neg (by simp)]
    clear hi hm
    generalize hdT ts = t at cP
    simp only [tokV] at cP
    have cF := fun W => fail_walk 5 t W
    simp only [tokV] at cF
    go_enter Tryz.func85, Tryz.ntmps85
    go_wp2_with fail
    refine cP.mono ?_
    rintro e w1 ⟨rfl, hb1⟩
    have hba := (Below.refl _ w1).alloc (Nat.le_refl _) (.cells #[.int .i64 t.kind, .string ⟨t.says.toArray⟩, .int .i64 t.n, .int .i64 t.place] 95)
    have hC := CellsAt.new w1 95 #[.int .i64 t.kind, .string ⟨t.says.toArray⟩, .int .i64 t.n, .int .i64 t.place]
    have h1 := (h.kept hb1).kept hba
    have g1 := (Goes.of h hb1).below hba
    have hpw : w1.heap.size ≠ p := by have := h.par.lt; have := hb1.size; omega
    go_wp2_with (first
      | (go_at_call 51; refine (cE _ h1).mono ?_; rintro e w2 ⟨rfl, hg⟩; have hC2 := cells_gb hC hg.1 hpw; have c0 := hC2.cell 0; have c1 := hC2.cell 1; have c2 := hC2.cell 2; have c3 := hC2.cell 3; simp at c0 c1 c2 c3)
      | (go_at_call 84; refine (cF _).mono ?_; rintro e w3 ⟨rfl, hb3⟩))
    go_ret
    exact ⟨rfl, _, (g1.trans hg).below hb3⟩

theorem PS.set {W : World} {p g cap : Nat} {l ts : List Tok} {i d b : Nat} (h : PS W p g cap l ts i d) (hp : b ≠ p) (hg : b ≠ g) (k : Nat) (v : Value) : PS (W.setCell ⟨b, k, none⟩ v) p g cap l ts i d :=
  { h with
    par := (grown_setCell W b k v).block p h.par.lt (fun e => hp (by injection e with e; exact e.symm)) |>.trans h.par
    row := h.row.kept (grown_setCell W b k v) (fun e => hg (by injection e with e; exact e.symm)) }
theorem gb_set {w w1 : World} {p b : Nat} (h : w.grownBy w1 (some p)) (hb : w.heap.size ≤ b) (k : Nat) (v : Value) : w.grownBy (w1.setCell ⟨b, k, none⟩ v) (some p) :=
  ⟨h.os, h.tape, h.output, Nat.le_trans h.size (grown_setCell w1 b k v).size, fun i hi hn => ((grown_setCell w1 b k v).block i (Nat.lt_of_lt_of_le hi h.size) (fun e => by injection e with e; omega)).trans (h.block i hi hn)⟩
theorem Goes.set {w w1 : World} {p g cap : Nat} {l ts : List Tok} {d b : Nat} (h : Goes w p g cap l ts d w1) (hb : w.heap.size ≤ b) (hp : p < w.heap.size) (k : Nat) (v : Value) : Goes w p g cap l ts d (w1.setCell ⟨b, k, none⟩ v) := by
  obtain ⟨h1, i, h2⟩ := h
  exact ⟨gb_set h1 hb k v, i, h2.set (by omega) (by have := h2.gp; omega) k v⟩
theorem Goes.four {w w1 : World} {p g cap : Nat} {l ts : List Tok} {d b : Nat} (h : Goes w p g cap l ts d w1) (hb : w.heap.size ≤ b) (hp : p < w.heap.size) (x y z u : Value) :
    Goes w p g cap l ts d ((((w1.setCell ⟨b, 0, none⟩ x).setCell ⟨b, 1, none⟩ y).setCell ⟨b, 2, none⟩ z).setCell ⟨b, 3, none⟩ u) := (((h.set hb hp 0 x).set hb hp 1 y).set hb hp 2 z).set hb hp 3 u

/-- What kind hands back. -/
def kindV (t : Tok) : Except Err (Tok × List Tok) → Value
  | .ok _ => .tuple #[tokV t, .nilIface]
  | .error e => .tuple #[tokV t, errV e]
def EndsK (w : World) (p g cap : Nat) (l : List Tok) (d : Nat) (w' : World) : Except Err (Tok × List Tok) → Prop
  | .ok x => Goes w p g cap l x.2 d w'
  | .error _ => ∃ r, Goes w p g cap l r d w'

set_option maxHeartbeats 4000000 in
set_option maxRecDepth 1000000 in
theorem kind_walk {w : World} {p g cap : Nat} {l ts : List Tok} {i d : Nat} (h : PS w p g cap l ts i d) (k : Int) :
    Calls Tryz.prog 56 #[.pointer (some ⟨p, 0, none⟩), .int .i64 k] w fun e w' => e = .returned (kindV (hdT ts) (kindR ts k)) ∧ EndsK w p g cap l d w' (kindR ts k) := by
  have cP := fun {W : World} (hW : PS W p g cap l ts i d) => peek_walk hW
  have cN := fun {W : World} (hW : PS W p g cap l ts i d) => next_walk hW
  have hB0 := (Below.refl _ w).alloc (Nat.le_refl _) (.cells #[.int .i64 0, .string ⟨#[]⟩, .int .i64 0, .int .i64 0] 95)
  have h0 := h.kept hB0
  have cP0 := cP h0
  have hR0 := CellsAt.new w 95 #[.int .i64 0, .string ⟨#[]⟩, .int .i64 0, .int .i64 0]
  have hpw : w.heap.size ≠ p := by have := h.par.lt; omega
  by_cases hk : (hdT ts).kind = k
  · have hr : kindR ts k = .ok (hdT ts, nextR ts) := by rw [kindR, if_pos hk]
    have e0 : ((hdT ts).kind != k) = false := by rw [bne_eq_false_iff_eq]; exact hk
    rw [hr]
    clear hr hk
    generalize hdT ts = t at cP cP0 cN e0
    simp only [tokV, kindV, EndsK] at cP0 cN ⊢
    go_enter Tryz.func56, Tryz.ntmps56
    go_wp2_with fail
    refine cP0.mono ?_
    rintro e w1 ⟨rfl, hb1⟩
    have hba := (Below.refl _ w1).alloc (Nat.le_refl _) (.cells #[.int .i64 t.kind, .string ⟨t.says.toArray⟩, .int .i64 t.n, .int .i64 t.place] 95)
    have h1 := (h0.kept hb1).kept hba
    have g1 := ((Goes.of h hB0).below hb1).below hba
    have hR1 := below_cells (below_cells hR0 hb1) hba
    go_wp2_with (go_at_call 86; refine (cN h1).mono ?_; rintro e w2 ⟨rfl, hg⟩; have hR2 := cells_gb hR1 hg.1 hpw; have c0 := hR2.cell 0; have c1 := hR2.cell 1; have c2 := hR2.cell 2; have c3 := hR2.cell 3; have f0 := hR2.frozen 0; have f1 := hR2.frozen 1; have f2 := hR2.frozen 2; have f3 := hR2.frozen 3; simp at c0 c1 c2 c3)
    exact bodyPost_ret (v := .tuple #[tokV t, .nilIface]) (by
      have R := four_set hR2 (.int .i64 t.kind) (.string ⟨t.says.toArray⟩) (.int .i64 t.n) (.int .i64 t.place)
      have r0 := R.cell 0; have r1 := R.cell 1; have r2 := R.cell 2; have r3 := R.cell 3
      simp at r0 r1 r2 r3
      simp [results, Tryz.results56, go_sem, tokV, r0, r1, r2, r3]) rfl ⟨rfl, (g1.trans hg).four (Nat.le_refl _) h.par.lt _ _ _ _⟩
  · have hr : kindR ts k = .error (5, (hdT ts).place) := by rw [kindR, if_neg hk]
    have e0 : ((hdT ts).kind != k) = true := by rw [bne_iff_ne]; exact hk
    rw [hr]
    clear hr hk cN
    generalize hdT ts = t at cP cP0 e0
    have cF := fun W => fail_walk 5 t W
    simp only [tokV, kindV, EndsK] at cP0 cF ⊢
    go_enter Tryz.func56, Tryz.ntmps56
    go_wp2_with fail
    refine cP0.mono ?_
    rintro e w1 ⟨rfl, hb1⟩
    have hba := (Below.refl _ w1).alloc (Nat.le_refl _) (.cells #[.int .i64 t.kind, .string ⟨t.says.toArray⟩, .int .i64 t.n, .int .i64 t.place] 95)
    have h1 := (h0.kept hb1).kept hba
    have g1 := ((Goes.of h hB0).below hb1).below hba
    have hR1 := below_cells (below_cells hR0 hb1) hba
    have hC1 := CellsAt.new w1 95 #[.int .i64 t.kind, .string ⟨t.says.toArray⟩, .int .i64 t.n, .int .i64 t.place]
    have hrc : w.heap.size < w1.heap.size := (below_cells hR0 hb1).lt
    go_wp2_with fail
    have c0 := hC1.cell 0
    have c1 := hC1.cell 1
    have c2 := hC1.cell 2
    have c3 := hC1.cell 3
    have r0 := hR1.cell 0
    have r1 := hR1.cell 1
    have r2 := hR1.cell 2
    have r3 := hR1.cell 3
    have f0 := hR1.frozen 0
    have f1 := hR1.frozen 1
    have f2 := hR1.frozen 2
    have f3 := hR1.frozen 3
    simp only [List.getElem?_toArray, List.getElem?_cons_zero, List.getElem?_cons_succ] at c0 c1 c2 c3 r0 r1 r2 r3
    generalize hW : w1.alloc (.cells #[.int .i64 t.kind, .string ⟨t.says.toArray⟩, .int .i64 t.n, .int .i64 t.place] 95) = W at c0 c1 c2 c3 r0 r1 r2 r3 f0 f1 f2 f3 hR1 hC1 g1 h1 hba ⊢
    clear hW
    go_region_with (go_at_call 84; refine (cF _).mono ?_; rintro e w3 ⟨rfl, hb3⟩; have hb4 : Below W.heap.size W w3 := below_chain (below_drew W) (Nat.le_refl _) hb3; have hR3 := below_cells hR1 hb4; have hC3 := below_cells hC1 hb4; have g3 := g1.below hb4; have c0 := hC3.cell 0; have c1 := hC3.cell 1; have c2 := hC3.cell 2; have c3 := hC3.cell 3; have r0 := hR3.cell 0; have r1 := hR3.cell 1; have r2 := hR3.cell 2; have r3 := hR3.cell 3; have f0 := hR3.frozen 0; have f1 := hR3.frozen 1; have f2 := hR3.frozen 2; have f3 := hR3.frozen 3; simp only [List.getElem?_toArray, List.getElem?_cons_zero, List.getElem?_cons_succ] at c0 c1 c2 c3 r0 r1 r2 r3)
    all_goals
      go_wp2
      exact bodyPost_ret (v := .tuple #[tokV t, errV (5, t.place)]) (by
        have R := four_set hR3 (.int .i64 t.kind) (.string ⟨t.says.toArray⟩) (.int .i64 t.n) (.int .i64 t.place)
        have r0 := R.cell 0; have r1 := R.cell 1; have r2 := R.cell 2; have r3 := R.cell 3
        simp at r0 r1 r2 r3
        simp [results, Tryz.results56, go_sem, tokV, r0, r1, r2, r3]) rfl ⟨rfl, _, g3.four (Nat.le_refl _) h.par.lt _ _ _ _⟩
end Go.Proofs.YtebblpmocheelaaGreatDoor
