/- The walks of the parser's row, with atoms and with ands. -/
import Derived.Test.YtebblpmocheelaaGreatDoorParF
namespace Go.Proofs.YtebblpmocheelaaGreatDoor
open Go.RowKit Go.Lib

/-- The kids that are gathered: a row of the call's own, and what they are. -/
structure KidsOwn (W : World) (lo : Nat) (kv : Value) (ks : List F) (vs : List V4) : Prop where
  own : W.ownsRow lo 26 4 kv ks.length (vs.flatMap V4.cells)
  len : vs.length = ks.length
  kid : ∀ (i : Nat) (x : V4) (f : F), vs[i]? = some x → ks[i]? = some f → FVal W (fun b => lo ≤ b ∧ some b ≠ kv.ownBlock) x f

theorem KidsOwn.nil (W : World) (lo : Nat) : KidsOwn W lo (.slice none 0 0) [] [] := ⟨World.ownsRow_nil _ _ _ _, rfl, fun i x f h _ => by simp at h⟩
theorem KidsOwn.gb {W W' : World} {lo p : Nat} {kv : Value} {ks : List F} {vs : List V4} (h : KidsOwn W lo kv ks vs) (hp : p < lo) (hb : W.grownBy W' (some p)) : KidsOwn W' lo kv ks vs :=
  ⟨h.own.kept hb (by rcases hk : kv.ownBlock with _ | k
                     · exact .inl rfl
                     · refine .inr (fun e => ?_)
                       injection e with e
                       have := (h.own.lt k hk).1; omega), h.len, fun i x f h1 h2 => (h.kid i x f h1 h2).kept hb.size (fun b hs hl => ⟨hb.block b hl (fun e => by injection e with e; omega), hs⟩)⟩
theorem KidsOwn.below {W W' : World} {lo : Nat} {kv : Value} {ks : List F} {vs : List V4} (h : KidsOwn W lo kv ks vs) (hb : Below W.heap.size W W') : KidsOwn W' lo kv ks vs :=
  ⟨own_below h.own hb, h.len, fun i x f h1 h2 => (h.kid i x f h1 h2).stay hb⟩
theorem v4_cells_len (vs : List V4) : (vs.flatMap V4.cells).length = vs.length * 4 := by
  induction vs with
  | nil => rfl
  | cons a l ih => rw [List.flatMap_cons, List.length_append, ih]; simp [V4.cells]; omega
theorem KidsOwn.snoc {W W' : World} {lo : Nat} {kv kv' : Value} {ks : List F} {vs : List V4} {x : V4} {f : F} (h : KidsOwn W lo kv ks vs) (hx : FVal W (fun b => lo ≤ b ∧ some b ≠ kv.ownBlock) x f)
    (hown : W'.ownsRow lo 26 4 kv' (ks.length + 1) (vs.flatMap V4.cells ++ x.cells)) (hg : W.grownBy W' kv.ownBlock) (hat : kv'.ownBlock = kv.ownBlock ∨ kv'.ownBlock = some W.heap.size) :
    KidsOwn W' lo kv' (ks ++ [f]) (vs ++ [x]) := by
  have keep : ∀ (y : V4) (f' : F), FVal W (fun b => lo ≤ b ∧ some b ≠ kv.ownBlock) y f' → FVal W' (fun b => lo ≤ b ∧ some b ≠ kv'.ownBlock) y f' := fun y f' hy =>
    hy.kept hg.size (fun b hs hl => ⟨hg.block b hl hs.2, hs.1, by
      rcases hat with e | e
      · rw [e]; exact hs.2
      · rw [e]; intro e2; injection e2 with e2; omega⟩)
  refine ⟨?_, by simp [h.len], ?_⟩
  · rw [List.length_append, List.flatMap_append]
    simpa using hown
  · intro i y f' h1 h2
    by_cases hi : i < ks.length
    · rw [List.getElem?_append_left hi] at h2
      rw [List.getElem?_append_left (by rw [h.len]; exact hi)] at h1
      exact keep y f' (h.kid i y f' h1 h2)
    · have hi2 : i = ks.length := by
        have := (List.getElem?_eq_some_iff.1 h2).1
        rw [List.length_append, List.length_singleton] at this; omega
      subst hi2
      rw [List.getElem?_append_right (Nat.le_refl _), Nat.sub_self] at h2
      rw [← h.len, List.getElem?_append_right (Nat.le_refl _), Nat.sub_self] at h1
      injection h1 with h1
      injection h2 with h2
      subst h1 h2
      exact keep _ _ hx

theorem v4_flat_at (vs : List V4) : ∀ (i : Nat) (x : V4) (j : Nat), vs[i]? = some x → j < 4 → (vs.flatMap V4.cells)[i * 4 + j]? = x.cells[j]? := by
  induction vs with
  | nil => intro i x j h; simp at h
  | cons a l ih =>
    intro i x j h hj
    rw [List.flatMap_cons]
    cases i with
    | zero =>
      rw [List.getElem?_cons_zero] at h
      injection h with h; subst h
      rw [Nat.zero_mul, Nat.zero_add, List.getElem?_append_left (by show j < a.cells.length; simp [V4.cells]; exact hj)]
    | succ i =>
      rw [List.getElem?_cons_succ] at h
      rw [List.getElem?_append_right (by show a.cells.length ≤ _; simp [V4.cells]; omega)]
      have := ih i x j h hj
      rw [← this]
      congr 1
      show (i + 1) * 4 + j - a.cells.length = _
      simp [V4.cells]; omega

theorem KidsOwn.shape {W : World} {lo : Nat} {kv : Value} {ks : List F} {vs : List V4} (h : KidsOwn W lo kv ks vs) (hn : 0 < ks.length) :
    ∃ g cap, kv = .slice (some ⟨g, 0, none⟩) ks.length cap ∧ lo ≤ g ∧ g < W.heap.size ∧ ks.length ≤ cap ∧ cap ≤ maxLen ∧ ∀ (i : Nat) (x : V4), vs[i]? = some x → FCells W g i x := by
  rcases h.own.2 with ⟨_, h2⟩ | ⟨g, cap, cur, h1, h2, h3, h4, h5, h6, h7⟩
  · omega
  · subst h1
    refine ⟨g, cap, rfl, h2, (Array.getElem?_eq_some_iff.1 h3).1, h4, h5, ?_⟩
    intro i x hx
    have hi := (List.getElem?_eq_some_iff.1 hx).1
    rw [h.len] at hi
    have key : ∀ j, j < 4 → W.cell? ⟨g, i * 4 + j, none⟩ = x.cells[j]? := fun j hj => by rw [h.own.cellAt (i * 4 + j) (by omega), v4_flat_at vs i x j hx hj]
    exact ⟨key 0 (by omega), key 1 (by omega), key 2 (by omega), key 3 (by omega)⟩
theorem KidsOwn.val {W : World} {lo : Nat} {kv : Value} {ks : List F} {vs : List V4} (h : KidsOwn W lo kv ks vs) (hn : 0 < ks.length) (op : Int) :
    FVal W (fun b => lo ≤ b) ⟨.int .i64 op, .string ⟨#[]⟩, .string ⟨#[]⟩, kv⟩ (F.mk op [] [] ks) := by
  obtain ⟨g, cap, rfl, h1, h2, h3, h4, h5⟩ := h.shape hn
  exact .node op [] [] g cap ks vs h1 h2 h3 h4 h.len hn h5 (fun i x f hx hf => (h.kid i x f hx hf).kept (Nat.le_refl _) (fun b hs _ => ⟨rfl, hs.1⟩))

/-- How many tokens are left, as the parser's first cell has it. -/
def toksLeft (W : World) (p : Nat) : Nat := match W.cell? ⟨p, 0, none⟩ with
  | some (.slice _ n _) => n
  | _ => 0
theorem PS.left {W : World} {p g cap : Nat} {l ts : List Tok} {i d : Nat} (h : PS W p g cap l ts i d) : toksLeft W p = ts.length := by
  have := h.par.cell 0
  simp at this
  simp only [toksLeft, this]
  rw [h.len]

theorem ones_f (a : Int) (b c : ByteArray) (ao : Option Addr) (n k : Nat) : ∀ u ∈ ([.int .i64 a, .string b, .string c, .slice ao n k] : List Value), u.oneCell' = true := by
  intro u hu
  simp at hu
  rcases hu with rfl | rfl | rfl | rfl <;> rfl
theorem infoFil : (Tryz.prog.info? 26).map (fun i => (i.zero, i.size, i.bytes)) = some (some (.agg #[.int .i64 0, .string ⟨#[]⟩, .string ⟨#[]⟩, .slice none 0 0]), 4, 64) := by kernel_rfl

theorem Goes.row {w W W' : World} {p g cap : Nat} {l ts : List Tok} {d : Nat} {row : Option Nat} (h : Goes w p g cap l ts d W) (hp : p < w.heap.size) (hg : W.grownBy W' row) (hr : ∀ k, row = some k → w.heap.size ≤ k) : Goes w p g cap l ts d W' := by
  obtain ⟨h1, i, h2⟩ := h
  have hne : some p ≠ row := fun e => by have := hr p e.symm; omega
  have hng : some g ≠ row := fun e => by have := hr g e.symm; have := h2.gp; omega
  exact ⟨⟨hg.os.trans h1.os, hg.tape.trans h1.tape, hg.output.trans h1.output, Nat.le_trans h1.size hg.size, fun k hk hn => (hg.block k (Nat.lt_of_lt_of_le hk h1.size) (fun e => by have := hr k e.symm; omega)).trans (h1.block k hk hn)⟩,
    i, { h2 with par := (hg.block p h2.par.lt hne).trans h2.par, row := h2.row.kept hg hng }⟩

theorem rowR_first {op : Int} {word : List UInt8} {next : List Tok → Except Err (F × List Tok)} {m : Nat} {ts : List Tok} : rowR op word next (m + 1) [] ts = match next ts with
      | .error e => .error e
      | .ok x => rowR op word next m ([] ++ [x.1]) x.2 := by rw [rowR, if_pos (show ([] : List F).length = 0 from rfl)]; cases next ts <;> rfl
theorem rowR_more {op : Int} {word : List UInt8} {next : List Tok → Except Err (F × List Tok)} {m : Nat} {ks : List F} {ts : List Tok} (hk : 0 < ks.length) (hi : isIt (hdT ts) word = true) : rowR op word next (m + 1) ks ts = match next (nextR ts) with
      | .error e => .error e
      | .ok x => rowR op word next m (ks ++ [x.1]) x.2 := by rw [rowR, if_neg (by omega), if_pos hi]; cases next (nextR ts) <;> rfl
theorem rowR_end {op : Int} {word : List UInt8} {next : List Tok → Except Err (F × List Tok)} {m : Nat} {ks : List F} {ts : List Tok} (hk : 0 < ks.length) (hi : isIt (hdT ts) word = false) : rowR op word next (m + 1) ks ts = .ok (rowF op ks, ts) := by
  rw [rowR, if_neg (by omega), if_neg (by rw [hi]; simp)]

theorem FPost.bad {r : Except Err (F × List Tok)} {w w' : World} {p g cap d : Nat} {l ts : List Tok} {x : Err} {op : Int} {nm tx : ByteArray} {ao : Option Addr} {n c : Nat} (h : r = .error x) (hg : Goes w p g cap l ts d w') :
    FPost r w p g cap l d (.returned (.tuple #[.agg #[.int .i64 op, .string nm, .string tx, .slice ao n c], .iface 64 (.agg #[.int .i64 x.1, .int .i64 x.2])])) w' := by subst h; exact ⟨op, nm, tx, ao, n, c, rfl, ts, hg⟩
theorem FPost.good {r : Except Err (F × List Tok)} {w w' : World} {p g cap d : Nat} {l : List Tok} {x : F × List Tok} {v : V4} (h : r = .ok x) (hF : FVal w' (fun b => w.heap.size ≤ b) v x.1) (hg : Goes w p g cap l x.2 d w') :
    FPost r w p g cap l d (.returned (.tuple #[.agg #[v.a, v.b, v.c, v.k], .nilIface])) w' := by subst h; exact ⟨v, rfl, hF, hg⟩

set_option maxHeartbeats 16000000 in
set_option maxRecDepth 1000000 in
theorem row_atom {w : World} {p g cap : Nat} {l ts : List Tok} {i d : Nat} (h : PS w p g cap l ts i d) (op : Int) (word : List UInt8) (next : List Tok → Except Err (F × List Tok)) (ht : Takes next) (hll : l.length ≤ 65536)
    (hnx : ∀ (W : World) (ts' : List Tok) (j : Nat), PS W p g cap l ts' j d → ts'.length ≤ ts.length → Calls Tryz.prog 110 #[.pointer (some ⟨p, 0, none⟩)] W (FPost (next ts') W p g cap l d)) :
    Calls Tryz.prog 87 #[.pointer (some ⟨p, 0, none⟩), .int .i64 op, .string ⟨word.toArray⟩, .func (.func 110) #[.pointer (some ⟨p, 0, none⟩)] #[]] w (FPost (rowR op word next (ts.length + 1) [] ts) w p g cap l d) := by
  obtain ⟨i0, hi, hz0, hz1, hz2⟩ := info_parts infoFil
  have hB0 := (Below.refl w.heap.size w).alloc (Nat.le_refl _) (.cells #[.int .i64 0, .string ⟨#[]⟩, .string ⟨#[]⟩, .slice none 0 0] 26)
  have h0 := h.kept hB0
  have g0 := Goes.of h hB0
  have hR0 := CellsAt.new w 26 #[.int .i64 0, .string ⟨#[]⟩, .string ⟨#[]⟩, .slice none 0 0]
  have hpl := h.par.lt
  have hle := fun W (ts' : List Tok) (j : Nat) (hW : PS W p g cap l ts' j d) => eat_walk hW word
  obtain ⟨rr, hrr⟩ : ∃ rr, rowR op word next (ts.length + 1) [] ts = rr := ⟨_, rfl⟩
  have HRR := Lib.hid hrr
  have htl : ts.length ≤ l.length := by rw [h.len]; omega
  rw [hrr]
  clear hrr
  go_enter Tryz.func87, Tryz.ntmps87
  go_wp2
  go_loopw [10] (fun kv wr => ∃ (ks : List F) (vs : List V4) (ts' : List Tok) (fuel : Nat), KidsOwn wr (w.heap.size + 1) kv ks vs ∧ Goes w p g cap l ts' d wr ∧ CellsAt wr w.heap.size 26 #[.int .i64 0, .string ⟨#[]⟩, .string ⟨#[]⟩, .slice none 0 0] ∧
      rowR op word next fuel ks ts' = rr ∧ ts'.length < fuel ∧ ks.length + ts'.length ≤ ts.length ∧ (ks = [] → kv = .slice none 0 0)) (fun _ wr => toksLeft wr p)
  case atStart => exact ⟨[], [], ts, ts.length + 1, KidsOwn.nil _ _, g0, hR0, HRR.out, by omega, by simp, fun _ => rfl⟩
  case round =>
    clear hB0 h0 g0 hR0 HRR
    obtain ⟨ks, vs, ts', fuel, hK, hG, hR, hrow, hfu, hkl, hkn⟩ := hrel
    obtain ⟨hgb, j, hP⟩ := hG
    have hG : Goes w p g cap l ts' d wr := ⟨hgb, j, hP⟩
    have hwz := hgb.size
    obtain ⟨f, rfl⟩ : ∃ f, fuel = f + 1 := ⟨fuel - 1, by omega⟩
    have HROW := Lib.hid hrow
    have hleft := hP.left
    clear hrow
    rcases Nat.eq_zero_or_pos ks.length with hk0 | hk0
    · have hke : ks = [] := List.eq_nil_of_length_eq_zero hk0
      subst hke
      obtain rfl := hkn rfl
      · have cN := hnx wr ts' j hP (by simpa using hkl)
        cases hn : next ts' with
        | error x =>
          have HV : Hid (rr = .error x) := Lib.hid (by rw [← HROW.out, rowR_first, hn])
          rw [hn] at cN
          clear hn HROW
          go_wp2_with fail
          refine cN.mono ?_
          rintro e w1 ⟨o1, nm, tx, ao, n1, c1, he, ts5, hg⟩
          simp only [errV] at he
          subst he
          have hR1 := cells_gb hR hg.1 (by omega)
          have r0 := hR1.cell 0; have r1 := hR1.cell 1; have r2 := hR1.cell 2; have r3 := hR1.cell 3; have z0 := hR1.frozen 0; have z1 := hR1.frozen 1; have z2 := hR1.frozen 2; have z3 := hR1.frozen 3
          simp only [List.getElem?_toArray, List.getElem?_cons_zero, List.getElem?_cons_succ] at r0 r1 r2 r3
          have hz1w : w.heap.size < w1.heap.size := hR1.lt
          go_wp2
          have g7 := Goes.four (hG.trans hg) (b := w.heap.size) (Nat.le_refl _) hpl (.int .i64 o1) (.string nm) (.string tx) (.slice ao n1 c1)
          exact bodyPost_ret (v := .tuple #[.agg #[.int .i64 o1, .string nm, .string tx, .slice ao n1 c1], .iface 64 (.agg #[.int .i64 x.1, .int .i64 x.2])]) (by
            have R := (four_set hR1 (.int .i64 o1) (.string nm) (.string tx) (.slice ao n1 c1)).alloc (.cells #[.int .i64 o1, .string nm, .string tx, .slice ao n1 c1] 26)
            have r0 := R.cell 0; have r1 := R.cell 1; have r2 := R.cell 2; have r3 := R.cell 3
            simp only [List.getElem?_toArray, List.getElem?_cons_zero, List.getElem?_cons_succ] at r0 r1 r2 r3
            simp [results, Tryz.results87, go_sem, r0, r1, r2, r3]) rfl (FPost.bad HV.out (g7.below ((Below.refl _ _).alloc (Nat.le_refl _) _)))
        | ok x =>
          have HV : Hid (rowR op word next f ([] ++ [x.1]) x.2 = rr) := Lib.hid (by rw [← HROW.out, rowR_first, hn])
          have htk := ht ts' x hn
          rw [hn] at cN
          clear hn HROW
          go_wp2_with fail
          refine cN.mono ?_
          rintro e w1 ⟨fv, he, hF, hg⟩
          obtain ⟨o1, nm, tx, ao, n1, c1, rfl⟩ := hF.shape
          simp only [V4.agg] at he
          subst he
          have hwz1 : wr.heap.size ≤ w1.heap.size := hg.1.size
          have hK1 := hK.gb (by omega) hg.1
          have hgt := hG.trans hg
          have hR1 := cells_gb hR hg.1 (by omega)
          have hbe := ((Below.refl w1.heap.size w1).alloc (Nat.le_refl _) (.cells #[.int .i64 o1, .string nm, .string tx, .slice ao n1 c1] 26)).alloc (by simp) (.cells #[.int .i64 o1, .string nm, .string tx, .slice ao n1 c1] 26)
          have hK2 := hK1.below hbe
          have hF2 := hF.stay hbe
          have hg2 := hgt.below hbe
          have hR2 := below_cells hR1 hbe
          obtain ⟨W2, hW2⟩ : ∃ W2, (w1.alloc (.cells #[.int .i64 o1, .string nm, .string tx, .slice ao n1 c1] 26)).alloc (.cells #[.int .i64 o1, .string nm, .string tx, .slice ao n1 c1] 26) = W2 := ⟨_, rfl⟩
          have hz2s : W2.heap.size = w1.heap.size + 2 := by rw [← hW2]; simp
          have hnews : ∀ j u, ([.int .i64 o1, .string nm, .string tx, .slice ao n1 c1] : List Value)[j]? = some u → W2.cell? ((⟨w1.heap.size + 1, 0, none⟩ : Addr).add j) = some u := by
            rw [← hW2]
            exact news4g _ _ (by simp) _ _ _ _ _
          rw [hW2] at hK2 hF2 hg2 hR2
          go_wp2_with (at_builtin; go_loud (refine wpList_append_own_at _ rfl _ _ 24 rfl (w.heap.size + 1) 26 i0 _ 4 64 Tryz.underlying24 hi hz0 hz1 hz2 rfl (by decide) _ _ _ rfl hK2.own ⟨w1.heap.size + 1, 0, none⟩ 1 1 [.int .i64 o1, .string nm, .string tx, .slice ao n1 c1] rfl rfl hnews (ones_f _ _ _ _ _ _) (by unfold maxLen; omega) (by omega) (by omega) ?_; intro v3 w3 hown3 hgr3 _ hat3))
          go_roundw
          case rel =>
            have hlo : ∀ k, (Value.slice none 0 0).ownBlock = some k → w.heap.size ≤ k := fun k hk => by have := (hK2.own.lt k hk).1; omega
            refine ⟨[] ++ [x.1], vs ++ [⟨.int .i64 o1, .string nm, .string tx, .slice ao n1 c1⟩], x.2, f, hK2.snoc (x := ⟨.int .i64 o1, .string nm, .string tx, .slice ao n1 c1⟩) ?_ hown3 hgr3 hat3, hg2.row hpl hgr3 hlo, cells_grown hR2 hK2.own (by omega) hgr3, HV.out, by omega, by rw [List.length_append, List.length_singleton]; omega, fun h => by simp at h⟩
            refine hF2.kept (Nat.le_refl _) (fun b hs _ => ⟨rfl, by have := hR.lt; omega, fun e => ?_⟩)
            have := (hK.own.lt b e.symm).2
            have := Nat.le_refl 0
            omega
          case measure =>
            have hlo : ∀ k, (Value.slice none 0 0).ownBlock = some k → w.heap.size ≤ k := fun k hk => by have := (hK2.own.lt k hk).1; omega
            obtain ⟨_, j3, ps3⟩ := hg2.row hpl hgr3 hlo
            rw [ps3.left, hleft]
            omega
    · have cE := hle wr ts' j hP
      have hkb0 : ((ks.length : Int) == 0) = false := by rw [beq_eq_false_iff_ne]; omega
      obtain ⟨gk, capk, rfl, hlok, hgk, hcapk, hcmk, _⟩ := hK.shape hk0
      cases hit : isIt (hdT ts') word with
      | true =>
        have hil := isIt_lt hit
        rw [hit] at cE
        rw [if_pos rfl] at cE
        cases hn : next (nextR ts') with
        | error x =>
          have HV : Hid (rr = .error x) := Lib.hid (by rw [← HROW.out, rowR_more hk0 hit, hn])
          go_wp2_with fail
          refine cE.mono ?_
          rintro e w0 ⟨rfl, hg0⟩
          obtain ⟨j0, hP0⟩ := hg0.2
          have cN := hnx w0 _ j0 hP0 (by omega)
          rw [hn] at cN
          have hK0 := hK.gb (by omega) hg0.1
          have hR0 := cells_gb hR hg0.1 (by omega)
          have hG0 := Goes.trans hG hg0
          have hwz0 : wr.heap.size ≤ w0.heap.size := hg0.1.size
          clear hn HROW
          go_wp2_with fail
          refine cN.mono ?_
          rintro e w1 ⟨o1, nm, tx, ao, n1, c1, he, ts5, hg⟩
          simp only [errV] at he
          subst he
          have hR1 := cells_gb hR0 hg.1 (by omega)
          have r0 := hR1.cell 0; have r1 := hR1.cell 1; have r2 := hR1.cell 2; have r3 := hR1.cell 3; have z0 := hR1.frozen 0; have z1 := hR1.frozen 1; have z2 := hR1.frozen 2; have z3 := hR1.frozen 3
          simp only [List.getElem?_toArray, List.getElem?_cons_zero, List.getElem?_cons_succ] at r0 r1 r2 r3
          have hz1w : w.heap.size < w1.heap.size := hR1.lt
          go_wp2
          have g7 := Goes.four (hG0.trans hg) (b := w.heap.size) (Nat.le_refl _) hpl (.int .i64 o1) (.string nm) (.string tx) (.slice ao n1 c1)
          exact bodyPost_ret (v := .tuple #[.agg #[.int .i64 o1, .string nm, .string tx, .slice ao n1 c1], .iface 64 (.agg #[.int .i64 x.1, .int .i64 x.2])]) (by
            have R := (four_set hR1 (.int .i64 o1) (.string nm) (.string tx) (.slice ao n1 c1)).alloc (.cells #[.int .i64 o1, .string nm, .string tx, .slice ao n1 c1] 26)
            have r0 := R.cell 0; have r1 := R.cell 1; have r2 := R.cell 2; have r3 := R.cell 3
            simp only [List.getElem?_toArray, List.getElem?_cons_zero, List.getElem?_cons_succ] at r0 r1 r2 r3
            simp [results, Tryz.results87, go_sem, r0, r1, r2, r3]) rfl (FPost.bad HV.out (g7.below ((Below.refl _ _).alloc (Nat.le_refl _) _)))
        | ok x =>
          have HV : Hid (rowR op word next f (ks ++ [x.1]) x.2 = rr) := Lib.hid (by rw [← HROW.out, rowR_more hk0 hit, hn])
          have htk := ht _ x hn
          go_wp2_with fail
          refine cE.mono ?_
          rintro e w0 ⟨rfl, hg0⟩
          obtain ⟨j0, hP0⟩ := hg0.2
          have cN := hnx w0 _ j0 hP0 (by omega)
          rw [hn] at cN
          have hK0 := hK.gb (by omega) hg0.1
          have hR0 := cells_gb hR hg0.1 (by omega)
          have hG0 := Goes.trans hG hg0
          have hwz0 : wr.heap.size ≤ w0.heap.size := hg0.1.size
          clear hn HROW
          go_wp2_with fail
          refine cN.mono ?_
          rintro e w1 ⟨fv, he, hF, hg⟩
          obtain ⟨o1, nm, tx, ao, n1, c1, rfl⟩ := hF.shape
          simp only [V4.agg] at he
          subst he
          have hwz1 : wr.heap.size ≤ w1.heap.size := Nat.le_trans hwz0 hg.1.size
          have hK1 := hK0.gb (by omega) hg.1
          have hgt := hG0.trans hg
          have hR1 := cells_gb hR0 hg.1 (by omega)
          have hbe := ((Below.refl w1.heap.size w1).alloc (Nat.le_refl _) (.cells #[.int .i64 o1, .string nm, .string tx, .slice ao n1 c1] 26)).alloc (by simp) (.cells #[.int .i64 o1, .string nm, .string tx, .slice ao n1 c1] 26)
          have hK2 := hK1.below hbe
          have hF2 := hF.stay hbe
          have hg2 := hgt.below hbe
          have hR2 := below_cells hR1 hbe
          obtain ⟨W2, hW2⟩ : ∃ W2, (w1.alloc (.cells #[.int .i64 o1, .string nm, .string tx, .slice ao n1 c1] 26)).alloc (.cells #[.int .i64 o1, .string nm, .string tx, .slice ao n1 c1] 26) = W2 := ⟨_, rfl⟩
          have hz2s : W2.heap.size = w1.heap.size + 2 := by rw [← hW2]; simp
          have hnews : ∀ j u, ([.int .i64 o1, .string nm, .string tx, .slice ao n1 c1] : List Value)[j]? = some u → W2.cell? ((⟨w1.heap.size + 1, 0, none⟩ : Addr).add j) = some u := by
            rw [← hW2]
            exact news4g _ _ (by simp) _ _ _ _ _
          rw [hW2] at hK2 hF2 hg2 hR2
          go_wp2_with (at_builtin; go_loud (refine wpList_append_own_at _ rfl _ _ 24 rfl (w.heap.size + 1) 26 i0 _ 4 64 Tryz.underlying24 hi hz0 hz1 hz2 rfl (by decide) _ _ _ rfl hK2.own ⟨w1.heap.size + 1, 0, none⟩ 1 1 [.int .i64 o1, .string nm, .string tx, .slice ao n1 c1] rfl rfl hnews (ones_f _ _ _ _ _ _) (by unfold maxLen; omega) (by omega) (by omega) ?_; intro v3 w3 hown3 hgr3 _ hat3))
          go_roundw
          case rel =>
            have hlo : ∀ k, (Value.slice (some ⟨gk, 0, none⟩) ks.length capk).ownBlock = some k → w.heap.size ≤ k := fun k hk => by have := (hK2.own.lt k hk).1; omega
            refine ⟨ks ++ [x.1], vs ++ [⟨.int .i64 o1, .string nm, .string tx, .slice ao n1 c1⟩], x.2, f, hK2.snoc (x := ⟨.int .i64 o1, .string nm, .string tx, .slice ao n1 c1⟩) ?_ hown3 hgr3 hat3, hg2.row hpl hgr3 hlo, cells_grown hR2 hK2.own (by omega) hgr3, HV.out, by omega, by rw [List.length_append, List.length_singleton]; omega, fun h => by simp at h⟩
            refine hF2.kept (Nat.le_refl _) (fun b hs _ => ⟨rfl, by have := hR.lt; omega, fun e => ?_⟩)
            have := (hK.own.lt b e.symm).2
            have := hwz0
            omega
          case measure =>
            have hlo : ∀ k, (Value.slice (some ⟨gk, 0, none⟩) ks.length capk).ownBlock = some k → w.heap.size ≤ k := fun k hk => by have := (hK2.own.lt k hk).1; omega
            obtain ⟨_, j3, ps3⟩ := hg2.row hpl hgr3 hlo
            rw [ps3.left, hleft]
            omega
      | false =>
        rw [hit] at cE
        rw [if_neg (by simp)] at cE
        have HV : Hid (rr = .ok (rowF op ks, ts')) := Lib.hid (by rw [← HROW.out, rowR_end hk0 hit])
        clear HROW
        go_wp2_with fail
        refine cE.mono ?_
        rintro e w0 ⟨rfl, hg0⟩
        have hK0 := hK.gb (by omega) hg0.1
        have hR0 := cells_gb hR hg0.1 (by omega)
        have hG0 := Goes.trans hG hg0
        have hwz0 : w.heap.size < w0.heap.size := hR0.lt
        have r0 := hR0.cell 0; have r1 := hR0.cell 1; have r2 := hR0.cell 2; have r3 := hR0.cell 3; have z0 := hR0.frozen 0; have z1 := hR0.frozen 1; have z2 := hR0.frozen 2; have z3 := hR0.frozen 3
        simp only [List.getElem?_toArray, List.getElem?_cons_zero, List.getElem?_cons_succ] at r0 r1 r2 r3
        by_cases hk1 : ks.length = 1
        · obtain ⟨f1, rfl⟩ : ∃ f1, ks = [f1] := by
            match ks, hk1 with
            | [f1], _ => exact ⟨f1, rfl⟩
          obtain ⟨x1, rfl⟩ : ∃ x1, vs = [x1] := by
            have := hK.len
            match vs, this with
            | [x1], _ => exact ⟨x1, rfl⟩
          obtain ⟨g1, cap1, he, hlo1, hg1l, hcap1, hcm1, hfc⟩ := hK0.shape (by simp)
          cases he
          have hF1 := hK0.kid 0 x1 f1 rfl rfl
          obtain ⟨o1, nm, tx, ao, n1, c1, rfl⟩ := hF1.shape
          obtain ⟨q0, q1, q2, q3⟩ := hfc 0 _ rfl
          simp only [Nat.zero_mul, Nat.zero_add] at q0 q1 q2 q3
          simp only [List.length_singleton] at hcap1 ⊢
          go_wp2
          exact bodyPost_ret (v := .tuple #[.agg #[.int .i64 o1, .string nm, .string tx, .slice ao n1 c1], .nilIface]) (by
            have R := four_set hR0 (.int .i64 o1) (.string nm) (.string tx) (.slice ao n1 c1)
            have r0 := R.cell 0; have r1 := R.cell 1; have r2 := R.cell 2; have r3 := R.cell 3
            simp only [List.getElem?_toArray, List.getElem?_cons_zero, List.getElem?_cons_succ] at r0 r1 r2 r3
            simp [results, Tryz.results87, go_sem, r0, r1, r2, r3]) rfl (FPost.good (v := ⟨.int .i64 o1, .string nm, .string tx, .slice ao n1 c1⟩) HV.out (((hF1.kept (Nat.le_refl _) (fun b hs _ => ⟨rfl, hs.1⟩)).four (by omega) _ _ _ _).low (by omega)) (hG0.four (Nat.le_refl _) hpl _ _ _ _))
        · have hkb : ((ks.length : Int) == 1) = false := by rw [beq_eq_false_iff_ne]; omega
          have hrf : rowF op ks = F.mk op [] [] ks := by
            match ks, hk0, hk1 with
            | [a], _, h => exact absurd rfl h
            | a :: b :: r, _, _ => rfl
          have hF1 := hK0.val hk0 op
          obtain ⟨g1, cap1, he, hlo1, hg1l, hcap1, hcm1, hfc⟩ := hK0.shape hk0
          cases he
          rw [hrf] at HV
          clear hrf hk1
          go_wp2
          exact bodyPost_ret (v := .tuple #[.agg #[.int .i64 op, .string ⟨#[]⟩, .string ⟨#[]⟩, .slice (some ⟨gk, 0, none⟩) ks.length capk], .nilIface]) (by
            have R := four_set hR0 (.int .i64 op) (.string ⟨#[]⟩) (.string ⟨#[]⟩) (.slice (some ⟨gk, 0, none⟩) ks.length capk)
            have r0 := R.cell 0; have r1 := R.cell 1; have r2 := R.cell 2; have r3 := R.cell 3
            simp only [List.getElem?_toArray, List.getElem?_cons_zero, List.getElem?_cons_succ] at r0 r1 r2 r3
            simp [results, Tryz.results87, go_sem, r0, r1, r2, r3]) rfl (FPost.good (v := ⟨.int .i64 op, .string ⟨#[]⟩, .string ⟨#[]⟩, .slice (some ⟨gk, 0, none⟩) ks.length capk⟩) HV.out ((hF1.four (by omega) _ _ _ _).low (by omega)) (hG0.four (Nat.le_refl _) hpl _ _ _ _))

set_option maxHeartbeats 16000000 in
set_option maxRecDepth 1000000 in
theorem row_and {w : World} {p g cap : Nat} {l ts : List Tok} {i d : Nat} (h : PS w p g cap l ts i d) (op : Int) (word : List UInt8) (next : List Tok → Except Err (F × List Tok)) (ht : Takes next) (hll : l.length ≤ 65536)
    (hnx : ∀ (W : World) (ts' : List Tok) (j : Nat), PS W p g cap l ts' j d → ts'.length ≤ ts.length → Calls Tryz.prog 88 #[.pointer (some ⟨p, 0, none⟩)] W (FPost (next ts') W p g cap l d)) :
    Calls Tryz.prog 87 #[.pointer (some ⟨p, 0, none⟩), .int .i64 op, .string ⟨word.toArray⟩, .func (.func 88) #[.pointer (some ⟨p, 0, none⟩)] #[]] w (FPost (rowR op word next (ts.length + 1) [] ts) w p g cap l d) := by
  obtain ⟨i0, hi, hz0, hz1, hz2⟩ := info_parts infoFil
  have hB0 := (Below.refl w.heap.size w).alloc (Nat.le_refl _) (.cells #[.int .i64 0, .string ⟨#[]⟩, .string ⟨#[]⟩, .slice none 0 0] 26)
  have h0 := h.kept hB0
  have g0 := Goes.of h hB0
  have hR0 := CellsAt.new w 26 #[.int .i64 0, .string ⟨#[]⟩, .string ⟨#[]⟩, .slice none 0 0]
  have hpl := h.par.lt
  have hle := fun W (ts' : List Tok) (j : Nat) (hW : PS W p g cap l ts' j d) => eat_walk hW word
  obtain ⟨rr, hrr⟩ : ∃ rr, rowR op word next (ts.length + 1) [] ts = rr := ⟨_, rfl⟩
  have HRR := Lib.hid hrr
  have htl : ts.length ≤ l.length := by rw [h.len]; omega
  rw [hrr]
  clear hrr
  go_enter Tryz.func87, Tryz.ntmps87
  go_wp2
  go_loopw [10] (fun kv wr => ∃ (ks : List F) (vs : List V4) (ts' : List Tok) (fuel : Nat), KidsOwn wr (w.heap.size + 1) kv ks vs ∧ Goes w p g cap l ts' d wr ∧ CellsAt wr w.heap.size 26 #[.int .i64 0, .string ⟨#[]⟩, .string ⟨#[]⟩, .slice none 0 0] ∧
      rowR op word next fuel ks ts' = rr ∧ ts'.length < fuel ∧ ks.length + ts'.length ≤ ts.length ∧ (ks = [] → kv = .slice none 0 0)) (fun _ wr => toksLeft wr p)
  case atStart => exact ⟨[], [], ts, ts.length + 1, KidsOwn.nil _ _, g0, hR0, HRR.out, by omega, by simp, fun _ => rfl⟩
  case round =>
    clear hB0 h0 g0 hR0 HRR
    obtain ⟨ks, vs, ts', fuel, hK, hG, hR, hrow, hfu, hkl, hkn⟩ := hrel
    obtain ⟨hgb, j, hP⟩ := hG
    have hG : Goes w p g cap l ts' d wr := ⟨hgb, j, hP⟩
    have hwz := hgb.size
    obtain ⟨f, rfl⟩ : ∃ f, fuel = f + 1 := ⟨fuel - 1, by omega⟩
    have HROW := Lib.hid hrow
    have hleft := hP.left
    clear hrow
    rcases Nat.eq_zero_or_pos ks.length with hk0 | hk0
    · have hke : ks = [] := List.eq_nil_of_length_eq_zero hk0
      subst hke
      obtain rfl := hkn rfl
      · have cN := hnx wr ts' j hP (by simpa using hkl)
        cases hn : next ts' with
        | error x =>
          have HV : Hid (rr = .error x) := Lib.hid (by rw [← HROW.out, rowR_first, hn])
          rw [hn] at cN
          clear hn HROW
          go_wp2_with fail
          refine cN.mono ?_
          rintro e w1 ⟨o1, nm, tx, ao, n1, c1, he, ts5, hg⟩
          simp only [errV] at he
          subst he
          have hR1 := cells_gb hR hg.1 (by omega)
          have r0 := hR1.cell 0; have r1 := hR1.cell 1; have r2 := hR1.cell 2; have r3 := hR1.cell 3; have z0 := hR1.frozen 0; have z1 := hR1.frozen 1; have z2 := hR1.frozen 2; have z3 := hR1.frozen 3
          simp only [List.getElem?_toArray, List.getElem?_cons_zero, List.getElem?_cons_succ] at r0 r1 r2 r3
          have hz1w : w.heap.size < w1.heap.size := hR1.lt
          go_wp2
          have g7 := Goes.four (hG.trans hg) (b := w.heap.size) (Nat.le_refl _) hpl (.int .i64 o1) (.string nm) (.string tx) (.slice ao n1 c1)
          exact bodyPost_ret (v := .tuple #[.agg #[.int .i64 o1, .string nm, .string tx, .slice ao n1 c1], .iface 64 (.agg #[.int .i64 x.1, .int .i64 x.2])]) (by
            have R := (four_set hR1 (.int .i64 o1) (.string nm) (.string tx) (.slice ao n1 c1)).alloc (.cells #[.int .i64 o1, .string nm, .string tx, .slice ao n1 c1] 26)
            have r0 := R.cell 0; have r1 := R.cell 1; have r2 := R.cell 2; have r3 := R.cell 3
            simp only [List.getElem?_toArray, List.getElem?_cons_zero, List.getElem?_cons_succ] at r0 r1 r2 r3
            simp [results, Tryz.results87, go_sem, r0, r1, r2, r3]) rfl (FPost.bad HV.out (g7.below ((Below.refl _ _).alloc (Nat.le_refl _) _)))
        | ok x =>
          have HV : Hid (rowR op word next f ([] ++ [x.1]) x.2 = rr) := Lib.hid (by rw [← HROW.out, rowR_first, hn])
          have htk := ht ts' x hn
          rw [hn] at cN
          clear hn HROW
          go_wp2_with fail
          refine cN.mono ?_
          rintro e w1 ⟨fv, he, hF, hg⟩
          obtain ⟨o1, nm, tx, ao, n1, c1, rfl⟩ := hF.shape
          simp only [V4.agg] at he
          subst he
          have hwz1 : wr.heap.size ≤ w1.heap.size := hg.1.size
          have hK1 := hK.gb (by omega) hg.1
          have hgt := hG.trans hg
          have hR1 := cells_gb hR hg.1 (by omega)
          have hbe := ((Below.refl w1.heap.size w1).alloc (Nat.le_refl _) (.cells #[.int .i64 o1, .string nm, .string tx, .slice ao n1 c1] 26)).alloc (by simp) (.cells #[.int .i64 o1, .string nm, .string tx, .slice ao n1 c1] 26)
          have hK2 := hK1.below hbe
          have hF2 := hF.stay hbe
          have hg2 := hgt.below hbe
          have hR2 := below_cells hR1 hbe
          obtain ⟨W2, hW2⟩ : ∃ W2, (w1.alloc (.cells #[.int .i64 o1, .string nm, .string tx, .slice ao n1 c1] 26)).alloc (.cells #[.int .i64 o1, .string nm, .string tx, .slice ao n1 c1] 26) = W2 := ⟨_, rfl⟩
          have hz2s : W2.heap.size = w1.heap.size + 2 := by rw [← hW2]; simp
          have hnews : ∀ j u, ([.int .i64 o1, .string nm, .string tx, .slice ao n1 c1] : List Value)[j]? = some u → W2.cell? ((⟨w1.heap.size + 1, 0, none⟩ : Addr).add j) = some u := by
            rw [← hW2]
            exact news4g _ _ (by simp) _ _ _ _ _
          rw [hW2] at hK2 hF2 hg2 hR2
          go_wp2_with (at_builtin; go_loud (refine wpList_append_own_at _ rfl _ _ 24 rfl (w.heap.size + 1) 26 i0 _ 4 64 Tryz.underlying24 hi hz0 hz1 hz2 rfl (by decide) _ _ _ rfl hK2.own ⟨w1.heap.size + 1, 0, none⟩ 1 1 [.int .i64 o1, .string nm, .string tx, .slice ao n1 c1] rfl rfl hnews (ones_f _ _ _ _ _ _) (by unfold maxLen; omega) (by omega) (by omega) ?_; intro v3 w3 hown3 hgr3 _ hat3))
          go_roundw
          case rel =>
            have hlo : ∀ k, (Value.slice none 0 0).ownBlock = some k → w.heap.size ≤ k := fun k hk => by have := (hK2.own.lt k hk).1; omega
            refine ⟨[] ++ [x.1], vs ++ [⟨.int .i64 o1, .string nm, .string tx, .slice ao n1 c1⟩], x.2, f, hK2.snoc (x := ⟨.int .i64 o1, .string nm, .string tx, .slice ao n1 c1⟩) ?_ hown3 hgr3 hat3, hg2.row hpl hgr3 hlo, cells_grown hR2 hK2.own (by omega) hgr3, HV.out, by omega, by rw [List.length_append, List.length_singleton]; omega, fun h => by simp at h⟩
            refine hF2.kept (Nat.le_refl _) (fun b hs _ => ⟨rfl, by have := hR.lt; omega, fun e => ?_⟩)
            have := (hK.own.lt b e.symm).2
            have := Nat.le_refl 0
            omega
          case measure =>
            have hlo : ∀ k, (Value.slice none 0 0).ownBlock = some k → w.heap.size ≤ k := fun k hk => by have := (hK2.own.lt k hk).1; omega
            obtain ⟨_, j3, ps3⟩ := hg2.row hpl hgr3 hlo
            rw [ps3.left, hleft]
            omega
    · have cE := hle wr ts' j hP
      have hkb0 : ((ks.length : Int) == 0) = false := by rw [beq_eq_false_iff_ne]; omega
      obtain ⟨gk, capk, rfl, hlok, hgk, hcapk, hcmk, _⟩ := hK.shape hk0
      cases hit : isIt (hdT ts') word with
      | true =>
        have hil := isIt_lt hit
        rw [hit] at cE
        rw [if_pos rfl] at cE
        cases hn : next (nextR ts') with
        | error x =>
          have HV : Hid (rr = .error x) := Lib.hid (by rw [← HROW.out, rowR_more hk0 hit, hn])
          go_wp2_with fail
          refine cE.mono ?_
          rintro e w0 ⟨rfl, hg0⟩
          obtain ⟨j0, hP0⟩ := hg0.2
          have cN := hnx w0 _ j0 hP0 (by omega)
          rw [hn] at cN
          have hK0 := hK.gb (by omega) hg0.1
          have hR0 := cells_gb hR hg0.1 (by omega)
          have hG0 := Goes.trans hG hg0
          have hwz0 : wr.heap.size ≤ w0.heap.size := hg0.1.size
          clear hn HROW
          go_wp2_with fail
          refine cN.mono ?_
          rintro e w1 ⟨o1, nm, tx, ao, n1, c1, he, ts5, hg⟩
          simp only [errV] at he
          subst he
          have hR1 := cells_gb hR0 hg.1 (by omega)
          have r0 := hR1.cell 0; have r1 := hR1.cell 1; have r2 := hR1.cell 2; have r3 := hR1.cell 3; have z0 := hR1.frozen 0; have z1 := hR1.frozen 1; have z2 := hR1.frozen 2; have z3 := hR1.frozen 3
          simp only [List.getElem?_toArray, List.getElem?_cons_zero, List.getElem?_cons_succ] at r0 r1 r2 r3
          have hz1w : w.heap.size < w1.heap.size := hR1.lt
          go_wp2
          have g7 := Goes.four (hG0.trans hg) (b := w.heap.size) (Nat.le_refl _) hpl (.int .i64 o1) (.string nm) (.string tx) (.slice ao n1 c1)
          exact bodyPost_ret (v := .tuple #[.agg #[.int .i64 o1, .string nm, .string tx, .slice ao n1 c1], .iface 64 (.agg #[.int .i64 x.1, .int .i64 x.2])]) (by
            have R := (four_set hR1 (.int .i64 o1) (.string nm) (.string tx) (.slice ao n1 c1)).alloc (.cells #[.int .i64 o1, .string nm, .string tx, .slice ao n1 c1] 26)
            have r0 := R.cell 0; have r1 := R.cell 1; have r2 := R.cell 2; have r3 := R.cell 3
            simp only [List.getElem?_toArray, List.getElem?_cons_zero, List.getElem?_cons_succ] at r0 r1 r2 r3
            simp [results, Tryz.results87, go_sem, r0, r1, r2, r3]) rfl (FPost.bad HV.out (g7.below ((Below.refl _ _).alloc (Nat.le_refl _) _)))
        | ok x =>
          have HV : Hid (rowR op word next f (ks ++ [x.1]) x.2 = rr) := Lib.hid (by rw [← HROW.out, rowR_more hk0 hit, hn])
          have htk := ht _ x hn
          go_wp2_with fail
          refine cE.mono ?_
          rintro e w0 ⟨rfl, hg0⟩
          obtain ⟨j0, hP0⟩ := hg0.2
          have cN := hnx w0 _ j0 hP0 (by omega)
          rw [hn] at cN
          have hK0 := hK.gb (by omega) hg0.1
          have hR0 := cells_gb hR hg0.1 (by omega)
          have hG0 := Goes.trans hG hg0
          have hwz0 : wr.heap.size ≤ w0.heap.size := hg0.1.size
          clear hn HROW
          go_wp2_with fail
          refine cN.mono ?_
          rintro e w1 ⟨fv, he, hF, hg⟩
          obtain ⟨o1, nm, tx, ao, n1, c1, rfl⟩ := hF.shape
          simp only [V4.agg] at he
          subst he
          have hwz1 : wr.heap.size ≤ w1.heap.size := Nat.le_trans hwz0 hg.1.size
          have hK1 := hK0.gb (by omega) hg.1
          have hgt := hG0.trans hg
          have hR1 := cells_gb hR0 hg.1 (by omega)
          have hbe := ((Below.refl w1.heap.size w1).alloc (Nat.le_refl _) (.cells #[.int .i64 o1, .string nm, .string tx, .slice ao n1 c1] 26)).alloc (by simp) (.cells #[.int .i64 o1, .string nm, .string tx, .slice ao n1 c1] 26)
          have hK2 := hK1.below hbe
          have hF2 := hF.stay hbe
          have hg2 := hgt.below hbe
          have hR2 := below_cells hR1 hbe
          obtain ⟨W2, hW2⟩ : ∃ W2, (w1.alloc (.cells #[.int .i64 o1, .string nm, .string tx, .slice ao n1 c1] 26)).alloc (.cells #[.int .i64 o1, .string nm, .string tx, .slice ao n1 c1] 26) = W2 := ⟨_, rfl⟩
          have hz2s : W2.heap.size = w1.heap.size + 2 := by rw [← hW2]; simp
          have hnews : ∀ j u, ([.int .i64 o1, .string nm, .string tx, .slice ao n1 c1] : List Value)[j]? = some u → W2.cell? ((⟨w1.heap.size + 1, 0, none⟩ : Addr).add j) = some u := by
            rw [← hW2]
            exact news4g _ _ (by simp) _ _ _ _ _
          rw [hW2] at hK2 hF2 hg2 hR2
          go_wp2_with (at_builtin; go_loud (refine wpList_append_own_at _ rfl _ _ 24 rfl (w.heap.size + 1) 26 i0 _ 4 64 Tryz.underlying24 hi hz0 hz1 hz2 rfl (by decide) _ _ _ rfl hK2.own ⟨w1.heap.size + 1, 0, none⟩ 1 1 [.int .i64 o1, .string nm, .string tx, .slice ao n1 c1] rfl rfl hnews (ones_f _ _ _ _ _ _) (by unfold maxLen; omega) (by omega) (by omega) ?_; intro v3 w3 hown3 hgr3 _ hat3))
          go_roundw
          case rel =>
            have hlo : ∀ k, (Value.slice (some ⟨gk, 0, none⟩) ks.length capk).ownBlock = some k → w.heap.size ≤ k := fun k hk => by have := (hK2.own.lt k hk).1; omega
            refine ⟨ks ++ [x.1], vs ++ [⟨.int .i64 o1, .string nm, .string tx, .slice ao n1 c1⟩], x.2, f, hK2.snoc (x := ⟨.int .i64 o1, .string nm, .string tx, .slice ao n1 c1⟩) ?_ hown3 hgr3 hat3, hg2.row hpl hgr3 hlo, cells_grown hR2 hK2.own (by omega) hgr3, HV.out, by omega, by rw [List.length_append, List.length_singleton]; omega, fun h => by simp at h⟩
            refine hF2.kept (Nat.le_refl _) (fun b hs _ => ⟨rfl, by have := hR.lt; omega, fun e => ?_⟩)
            have := (hK.own.lt b e.symm).2
            have := hwz0
            omega
          case measure =>
            have hlo : ∀ k, (Value.slice (some ⟨gk, 0, none⟩) ks.length capk).ownBlock = some k → w.heap.size ≤ k := fun k hk => by have := (hK2.own.lt k hk).1; omega
            obtain ⟨_, j3, ps3⟩ := hg2.row hpl hgr3 hlo
            rw [ps3.left, hleft]
            omega
      | false =>
        rw [hit] at cE
        rw [if_neg (by simp)] at cE
        have HV : Hid (rr = .ok (rowF op ks, ts')) := Lib.hid (by rw [← HROW.out, rowR_end hk0 hit])
        clear HROW
        go_wp2_with fail
        refine cE.mono ?_
        rintro e w0 ⟨rfl, hg0⟩
        have hK0 := hK.gb (by omega) hg0.1
        have hR0 := cells_gb hR hg0.1 (by omega)
        have hG0 := Goes.trans hG hg0
        have hwz0 : w.heap.size < w0.heap.size := hR0.lt
        have r0 := hR0.cell 0; have r1 := hR0.cell 1; have r2 := hR0.cell 2; have r3 := hR0.cell 3; have z0 := hR0.frozen 0; have z1 := hR0.frozen 1; have z2 := hR0.frozen 2; have z3 := hR0.frozen 3
        simp only [List.getElem?_toArray, List.getElem?_cons_zero, List.getElem?_cons_succ] at r0 r1 r2 r3
        by_cases hk1 : ks.length = 1
        · obtain ⟨f1, rfl⟩ : ∃ f1, ks = [f1] := by
            match ks, hk1 with
            | [f1], _ => exact ⟨f1, rfl⟩
          obtain ⟨x1, rfl⟩ : ∃ x1, vs = [x1] := by
            have := hK.len
            match vs, this with
            | [x1], _ => exact ⟨x1, rfl⟩
          obtain ⟨g1, cap1, he, hlo1, hg1l, hcap1, hcm1, hfc⟩ := hK0.shape (by simp)
          cases he
          have hF1 := hK0.kid 0 x1 f1 rfl rfl
          obtain ⟨o1, nm, tx, ao, n1, c1, rfl⟩ := hF1.shape
          obtain ⟨q0, q1, q2, q3⟩ := hfc 0 _ rfl
          simp only [Nat.zero_mul, Nat.zero_add] at q0 q1 q2 q3
          simp only [List.length_singleton] at hcap1 ⊢
          go_wp2
          exact bodyPost_ret (v := .tuple #[.agg #[.int .i64 o1, .string nm, .string tx, .slice ao n1 c1], .nilIface]) (by
            have R := four_set hR0 (.int .i64 o1) (.string nm) (.string tx) (.slice ao n1 c1)
            have r0 := R.cell 0; have r1 := R.cell 1; have r2 := R.cell 2; have r3 := R.cell 3
            simp only [List.getElem?_toArray, List.getElem?_cons_zero, List.getElem?_cons_succ] at r0 r1 r2 r3
            simp [results, Tryz.results87, go_sem, r0, r1, r2, r3]) rfl (FPost.good (v := ⟨.int .i64 o1, .string nm, .string tx, .slice ao n1 c1⟩) HV.out (((hF1.kept (Nat.le_refl _) (fun b hs _ => ⟨rfl, hs.1⟩)).four (by omega) _ _ _ _).low (by omega)) (hG0.four (Nat.le_refl _) hpl _ _ _ _))
        · have hkb : ((ks.length : Int) == 1) = false := by rw [beq_eq_false_iff_ne]; omega
          have hrf : rowF op ks = F.mk op [] [] ks := by
            match ks, hk0, hk1 with
            | [a], _, h => exact absurd rfl h
            | a :: b :: r, _, _ => rfl
          have hF1 := hK0.val hk0 op
          obtain ⟨g1, cap1, he, hlo1, hg1l, hcap1, hcm1, hfc⟩ := hK0.shape hk0
          cases he
          rw [hrf] at HV
          clear hrf hk1
          go_wp2
          exact bodyPost_ret (v := .tuple #[.agg #[.int .i64 op, .string ⟨#[]⟩, .string ⟨#[]⟩, .slice (some ⟨gk, 0, none⟩) ks.length capk], .nilIface]) (by
            have R := four_set hR0 (.int .i64 op) (.string ⟨#[]⟩) (.string ⟨#[]⟩) (.slice (some ⟨gk, 0, none⟩) ks.length capk)
            have r0 := R.cell 0; have r1 := R.cell 1; have r2 := R.cell 2; have r3 := R.cell 3
            simp only [List.getElem?_toArray, List.getElem?_cons_zero, List.getElem?_cons_succ] at r0 r1 r2 r3
            simp [results, Tryz.results87, go_sem, r0, r1, r2, r3]) rfl (FPost.good (v := ⟨.int .i64 op, .string ⟨#[]⟩, .string ⟨#[]⟩, .slice (some ⟨gk, 0, none⟩) ks.length capk⟩) HV.out ((hF1.four (by omega) _ _ _ _).low (by omega)) (hG0.four (Nat.le_refl _) hpl _ _ _ _))
end Go.Proofs.YtebblpmocheelaaGreatDoor
