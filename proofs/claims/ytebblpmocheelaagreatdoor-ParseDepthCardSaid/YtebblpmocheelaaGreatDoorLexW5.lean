/- The walk of lex.Lex. -/
import Derived.Test.YtebblpmocheelaaGreatDoorLexW4
namespace Go.Proofs.YtebblpmocheelaaGreatDoor
open Go.RowKit

/-! ### What one takes -/
theorem quotedFrom_bound (t : ByteArray) : ∀ (f pos : Nat) (st : Bool) (acc : List UInt8) (x : List UInt8 × Nat), quotedFrom t f pos st acc = some x → 2 ≤ x.2 ∧ x.2 ≤ t.size + 1 := by
  intro f
  induction f with
  | zero => intro pos st acc x h; simp [quotedFrom] at h
  | succ f ih =>
    intro pos st acc x h
    rw [quotedFrom] at h
    split at h
    · rename_i hp
      split at h
      · cases h
      · split at h
        · cases h
        · split at h
          · injection h with h; subst h; dsimp only; omega
          · split at h
            · exact ih _ _ _ _ h
            · exact ih _ _ _ _ h
    · cases h

theorem prefix_len {l p : List UInt8} (h : Lib.hasPrefix l p = true) : p.length ≤ l.length := by
  unfold Lib.hasPrefix at h
  exact (List.isPrefixOf_iff_prefix.1 h).length_le

theorem plainA_nil : plainA ⟨#[]⟩ = none := by decide +kernel

theorem oneA_bound (s : ByteArray) (x : Tok × Nat) (h : oneA s = some x) : 1 ≤ x.2 ∧ x.2 ≤ s.size := by
  have hz := Lib.size_eq s
  unfold oneA at h
  split at h
  · rename_i hp; injection h with h; subst h; have := prefix_len hp; simp only [List.length_cons, List.length_nil] at this; dsimp only; omega
  split at h
  · rename_i hp; injection h with h; subst h; have := prefix_len hp; simp only [List.length_cons, List.length_nil] at this; dsimp only; omega
  split at h
  · rename_i hp; injection h with h; subst h; have := prefix_len hp; simp only [List.length_cons, List.length_nil] at this; dsimp only; omega
  split at h
  · rename_i hp; injection h with h; subst h; have := prefix_len hp; simp only [List.length_cons, List.length_nil] at this; dsimp only; omega
  split at h
  · rename_i hh
    obtain ⟨y, hy, rfl⟩ := Option.map_eq_some_iff.1 h
    have hb := quotedFrom_bound _ _ _ _ _ _ hy
    have : (s.extract 1 s.size).size = s.size - 1 := by simp
    have h0 : s.data.toList ≠ [] := by intro e; rw [e] at hh; cases hh
    have h1 : 1 ≤ s.data.toList.length := List.length_pos_iff.2 h0
    dsimp only; omega
  · obtain ⟨y, hy, rfl⟩ := Option.map_eq_some_iff.1 h
    have hr := runL_le s.data.toList
    dsimp only
    refine ⟨?_, by omega⟩
    rcases Nat.eq_zero_or_pos (runL s.data.toList) with e | e
    · rw [e, List.take_zero] at hy
      rw [show ((⟨([] : List UInt8).toArray⟩ : ByteArray)) = ⟨#[]⟩ from rfl, plainA_nil] at hy
      cases hy
    · exact e

/-! ### The tokens' cells -/
def tokCells (t : Tok) : List Value := [.int .i64 t.kind, .string ⟨t.says.toArray⟩, .int .i64 t.n, .int .i64 t.place]
theorem tokCells_len (l : List Tok) : (l.flatMap tokCells).length = l.length * 4 := by
  induction l with
  | nil => rfl
  | cons a l ih => rw [List.flatMap_cons, List.length_append, ih]; simp [tokCells]; omega

def LexOk (l : List Tok) (w : World) (e : Ending) (w' : World) : Prop := ∃ v, e = .returned (.tuple #[v, .agg #[.int .i64 0, .int .i64 0]]) ∧ w'.ownsRow w.heap.size 95 4 v l.length (l.flatMap tokCells)
def LexBad (x : Int × Int) (e : Ending) : Prop := e = .returned (.tuple #[.slice none 0 0, .agg #[.int .i64 x.1, .int .i64 x.2]])
def LexPost (r : Except (Int × Int) (List Tok)) (w : World) (e : Ending) (w' : World) : Prop :=
  Below w.heap.size w w' ∧ match r with
    | .ok l => LexOk l w e w'
    | .error x => LexBad x e

theorem LexPost.bad {r : Except (Int × Int) (List Tok)} {w w' : World} {a b : Int} (h : r = .error (a, b)) (hb : Below w.heap.size w w') :
    LexPost r w (.returned (.tuple #[.slice none 0 0, .agg #[.int .i64 a, .int .i64 b]])) w' := by subst h; exact ⟨hb, rfl⟩
theorem LexPost.good {r : Except (Int × Int) (List Tok)} {w w' : World} {l : List Tok} {v : Value} (h : r = .ok l) (hb : Below w.heap.size w w')
    (ho : w'.ownsRow w.heap.size 95 4 v l.length (l.flatMap tokCells)) :
    LexPost r w (.returned (.tuple #[v, .agg #[.int .i64 0, .int .i64 0]])) w' := by subst h; exact ⟨hb, v, rfl, ho⟩

theorem badFrom_step (s : ByteArray) (f pos c wd : Nat) (hp : pos < s.size) (hc : (Utf8.decode s pos).1 = c) (hw : (Utf8.decode s pos).2 = wd) :
    badFrom s (f + 1) pos = if c = 65533 ∧ Lib.hasPrefix (s.data.toList.drop pos) [239, 191, 189] = false then some pos else badFrom s f (pos + wd) := by
  rw [badFrom, if_pos hp, hc, hw]
theorem badFrom_end (s : ByteArray) (f pos : Nat) (hp : ¬ pos < s.size) : badFrom s f pos = none := by
  cases f with
  | zero => rfl
  | succ f => rw [badFrom, if_neg hp]

/-- The tokens ahead of those. -/
def pre (acc : List Tok) : Except Int (List Tok) → Except Int (List Tok)
  | .ok l => .ok (acc ++ l)
  | .error e => .error e
theorem pre_nil (r : Except Int (List Tok)) : pre [] r = r := by cases r <;> rfl
theorem pre_map (acc : List Tok) (t : Tok) (r : Except Int (List Tok)) : pre acc (r.map (t :: ·)) = pre (acc ++ [t]) r := by
  cases r with
  | error e => rfl
  | ok l => show Except.ok (acc ++ t :: l) = Except.ok (acc ++ [t] ++ l); simp

theorem lexFrom_stop (s : ByteArray) (f at_ : Nat) (hr : Lib.trimLeftB (s.data.toList.drop at_) 32 = []) : lexFrom s (f + 1) at_ = .ok [⟨0, [], 0, s.size + 1⟩] := by
  rw [lexFrom]; simp only [hr]; rfl
theorem lexFrom_none (s : ByteArray) (f at_ : Nat) (r : List UInt8) (hr : Lib.trimLeftB (s.data.toList.drop at_) 32 = r) (h0 : r ≠ []) (ho : oneA ⟨r.toArray⟩ = none) :
    lexFrom s (f + 1) at_ = .error ((s.size : Int) - r.length + 1) := by
  rw [lexFrom, hr]; simp only [if_neg h0, ho]
theorem lexFrom_some (s : ByteArray) (f at_ : Nat) (r : List UInt8) (t : Tok) (n : Nat) (hr : Lib.trimLeftB (s.data.toList.drop at_) 32 = r) (h0 : r ≠ []) (ho : oneA ⟨r.toArray⟩ = some (t, n)) :
    lexFrom s (f + 1) at_ = (lexFrom s f (s.size - r.length + n)).map ({ t with place := (s.size : Int) - r.length + 1 } :: ·) := by
  rw [lexFrom, hr]; simp only [if_neg h0, ho]

theorem lexA_ok {s : ByteArray} {l : List Tok} (hs : ¬ 1024 < s.size) (hb : badFrom s s.size 0 = none) (h : lexFrom s (s.size + 1) 0 = .ok l) : lexA s = .ok l := by
  rw [lexA, if_neg hs, hb]; dsimp only; rw [h]
theorem lexA_err {s : ByteArray} {e : Int} (hs : ¬ 1024 < s.size) (hb : badFrom s s.size 0 = none) (h : lexFrom s (s.size + 1) 0 = .error e) : lexA s = .error (4, e) := by
  rw [lexA, if_neg hs, hb]; dsimp only; rw [h]
theorem lexA_bad {s : ByteArray} {i : Nat} (hs : ¬ 1024 < s.size) (hb : badFrom s s.size 0 = some i) : lexA s = .error (4, i + 1) := by
  rw [lexA, if_neg hs, hb]

theorem own_below {w w' : World} {base size n : Nat} {e : TypeId} {v : Value} {xs : List Value} (h : w.ownsRow base e size v n xs) (hb : Below w.heap.size w w') : w'.ownsRow base e size v n xs :=
  h.kept ⟨hb.os, hb.tape, hb.output, hb.size, fun i hi _ => hb.block i hi⟩ (row := none) (by cases v.ownBlock <;> simp)

theorem infoTok : (Tryz.prog.info? 95).map (fun i => (i.zero, i.size, i.bytes)) = some (some (.agg #[.int .i64 0, .string ⟨#[]⟩, .int .i64 0, .int .i64 0]), 4, 40) := by kernel_rfl

theorem own_base {w : World} {base b2 size n : Nat} {e : TypeId} {v : Value} {xs : List Value} (h : w.ownsRow base e size v n xs) (hb : b2 ≤ base) : w.ownsRow b2 e size v n xs := by
  refine ⟨h.1, ?_⟩
  rcases h.2 with h1 | ⟨g, cap, cur, h1, h2, h3⟩
  · exact .inl h1
  · exact .inr ⟨g, cap, cur, h1, by omega, h3⟩

theorem cells_grown {w w' : World} {B base size n : Nat} {t e : TypeId} {v : Value} {cs : Array Value} {xs : List Value} (h : CellsAt w B t cs) (ho : w.ownsRow base e size v n xs) (hB : B < base) (hg : w.grownBy w' v.ownBlock) : CellsAt w' B t cs := by
  refine (hg.block B h.lt (fun e' => ?_)).trans h
  have := (ho.lt B e'.symm).1
  omega

theorem below_own {a w w1 : World} {B base size n : Nat} {e : TypeId} {v : Value} {xs : List Value} (ha : Below B a w) (h : w.ownsRow base e size v n xs) (hB : B ≤ base) (hw : B ≤ w.heap.size) (hg : w.grownBy w1 v.ownBlock) : Below B a w1 :=
  ha.grown hg hw (fun k hk => by have := (h.lt k hk).1; omega)

theorem news4 (W : World) (t : TypeId) (a b c d : Value) : ∀ j u, ([a, b, c, d] : List Value)[j]? = some u → (W.alloc (.cells #[a, b, c, d] t)).cell? ((⟨W.heap.size, 0, none⟩ : Addr).add j) = some u := by
  intro j u hj
  have h := (CellsAt.new W t #[a, b, c, d]).cell (0 + j)
  rw [Nat.zero_add] at h
  rw [show (⟨W.heap.size, 0, none⟩ : Addr).add j = ⟨W.heap.size, j, none⟩ by simp [Addr.add, eq_comm], h, ← hj]
  simp
theorem news4g (W : World) (g : Nat) (hg : g = W.heap.size) (t : TypeId) (a b c d : Value) : ∀ j u, ([a, b, c, d] : List Value)[j]? = some u → (W.alloc (.cells #[a, b, c, d] t)).cell? ((⟨g, 0, none⟩ : Addr).add j) = some u := by
  subst hg; exact news4 W t a b c d
theorem ones4 (a c d : Int) (b : ByteArray) : ∀ u ∈ ([.int .i64 a, .string b, .int .i64 c, .int .i64 d] : List Value), u.oneCell' = true := by
  intro u hu
  simp at hu
  rcases hu with rfl | rfl | rfl | rfl <;> rfl

theorem grown_setCell (W : World) (b i : Nat) (v : Value) : W.grownBy (W.setCell ⟨b, i, none⟩ v) (some b) :=
  ⟨rfl, rfl, rfl, by simp [World.setCell], fun k _ hk => by
    have : b ≠ k := fun e => hk (by rw [e])
    simp [World.setCell, Array.getElem?_modify, this]⟩
theorem own_set {W : World} {base size n b : Nat} {e : TypeId} {v : Value} {xs : List Value} (h : W.ownsRow base e size v n xs) (hb : b < base) (i : Nat) (u : Value) : (W.setCell ⟨b, i, none⟩ u).ownsRow base e size v n xs :=
  h.kept (grown_setCell W b i u) (.inr (fun e' => by have := (h.lt b e').1; omega))
theorem flat_snoc (acc : List Tok) (t : Tok) : (acc ++ [t]).flatMap tokCells = acc.flatMap tokCells ++ tokCells t := by simp [List.flatMap_append]

theorem trim_le (l : List UInt8) (c : UInt8) : (Lib.trimLeftB l c).length ≤ l.length := by
  unfold Lib.trimLeftB
  exact (List.dropWhile_sublist _).length_le

set_option maxHeartbeats 8000000 in
set_option maxRecDepth 1000000 in
theorem lex_walk (s : ByteArray) (w : World) (hE : Env w) (hs : s.size ≤ 65536) :
    Calls Tryz.prog 22 #[.string s] w (LexPost (lexA s) w) := by
  obtain ⟨i0, hi, hz0, hz1, hz2⟩ := info_parts infoTok
  have hB0 := (Below.refl w.heap.size w).alloc (Nat.le_refl _) (.cells #[.int .i64 0, .int .i64 0] 31)
  have hC0 := CellsAt.new w 31 #[.int .i64 0, .int .i64 0]
  by_cases hbig : 1024 < s.size
  · have hv : lexA s = .error (6, 1) := by rw [lexA, if_pos hbig]
    have HV := Lib.hid hv
    clear hv hE
    go_enter Tryz.func22, Tryz.ntmps22
    go_wp2
    refine bodyPost_ret (v := .tuple #[.slice none 0 0, .agg #[.int .i64 6, .int .i64 1]]) (by simp [results, Tryz.results22, go_sem]) rfl (LexPost.bad HV.out ((Below.refl w.heap.size w).alloc (Nat.le_refl _) _))
  · have HBIG : Hid (¬ 1024 < s.size) := Lib.hid hbig
    have hsm : s.size ≤ 1024 := by omega
    clear hbig
    go_enter Tryz.func22, Tryz.ntmps22
    go_wp2
    go_loopw [] (fun wr => ∃ (pos fuel : Nat), wr.heap[w.heap.size + 1]? = some (.stringIter s pos) ∧ CellsAt wr w.heap.size 31 #[.int .i64 0, .int .i64 0] ∧ Below w.heap.size w wr ∧ badFrom s fuel pos = badFrom s s.size 0 ∧ s.size ≤ pos + fuel) (fun wr => s.size - wr.iterPos (w.heap.size + 1))
    case atStart =>
      refine ⟨0, s.size, ?_, hC0.alloc _, hB0.alloc (by simp) _, rfl, by omega⟩
      have := World.iter_heap (w.alloc (.cells #[.int .i64 0, .int .i64 0] 31)) s 0
      simpa using this
    case round =>
      obtain ⟨pos, fuel, hit, hC, hbw, hacc, hfu⟩ := hrel
      have hsz : w.heap.size + 1 < wr.heap.size := (Array.getElem?_eq_some_iff.1 hit).1
      by_cases hp : pos < s.size
      · have hnx : ∀ ty, (Instr.next (.pointer (some ⟨w.heap.size + 1, 0, none⟩)) true ty).run Tryz.prog wr = _ := fun ty => Lib.run_next_any_at wr (w.heap.size + 1) s pos ty hit hp
        have hwd := width_pos s pos hp
        have hd1 := decode_le s pos
        obtain ⟨f, rfl⟩ : ∃ f, fuel = f + 1 := ⟨fuel - 1, by omega⟩
        obtain ⟨c, hc⟩ : ∃ c, (Utf8.decode s pos).1 = c := ⟨_, rfl⟩
        obtain ⟨wd, hwde⟩ : ∃ wd, (Utf8.decode s pos).2 = wd := ⟨_, rfl⟩
        have hq := badFrom_step s f pos c wd hp hc hwde
        rw [hc, hwde] at hnx
        rw [hwde] at hwd
        rw [hc] at hd1
        have hit2 := Lib.iterAt_heap wr (w.heap.size + 1) s pos (pos + wd) hit
        have hbw2 := Lib.below_iterAt hbw (k := w.heap.size + 1) (by omega) s (pos + wd)
        have hC2 : CellsAt (wr.iterAt (w.heap.size + 1) s (pos + wd)) w.heap.size 31 #[.int .i64 0, .int .i64 0] := (Lib.iterAt_other wr (w.heap.size + 1) w.heap.size s (pos + wd) (by omega)).trans hC
        rw [hq] at hacc
        have HA := Lib.hid hacc
        clear hacc hc hwde hq hC hbw
        by_cases cF : c = 65533
        · subst cF
          have cP := Tryz.strings_HasPrefix (s.extract pos s.size) ⟨#[239, 191, 189]⟩ (wr.iterAt (w.heap.size + 1) s (pos + wd))
          rw [show (s.extract pos s.size).data.toList = s.data.toList.drop pos by rw [Lib.extract_from]] at cP
          cases hP : Lib.hasPrefix (s.data.toList.drop pos) [239, 191, 189] with
          | true =>
            rw [hP] at HA
            rw [show Lib.hasPrefix (s.data.toList.drop pos) (⟨#[239, 191, 189]⟩ : ByteArray).data.toList = true from hP] at cP
            have HA2 : Hid (badFrom s f (pos + wd) = badFrom s s.size 0) := Lib.hid (by simpa using HA.out)
            clear HA hP
            go_wp2_with (go_at_call 46; refine cP.mono ?_; rintro e w' ⟨rfl, rfl⟩)
            go_roundw
            case rel => exact ⟨pos + wd, f, hit2, hC2, hbw2, HA2.out, by omega⟩
            case measure =>
              simp only [World.iterPos, hit2, hit]
              omega
          | false =>
            rw [hP] at HA
            rw [show Lib.hasPrefix (s.data.toList.drop pos) (⟨#[239, 191, 189]⟩ : ByteArray).data.toList = false from hP] at cP
            have HV := Lib.hid (lexA_bad HBIG.out (show badFrom s s.size 0 = some pos by rw [← HA.out]; simp))
            clear HA hP
            have c0 := hC2.cell 0; have c1 := hC2.cell 1; have f0 := hC2.frozen 0; have f1 := hC2.frozen 1
            simp at c0 c1
            go_wp2_with (go_at_call 46; refine cP.mono ?_; rintro e w' ⟨rfl, rfl⟩)
            refine bodyPost_ret (v := .tuple #[.slice none 0 0, .agg #[.int .i64 4, .int .i64 (pos + 1)]]) (by
              have R := (hC2.set 0 (.int .i64 4)).set 1 (.int .i64 (pos + 1))
              have r0 := R.cell 0; have r1 := R.cell 1
              simp at r0 r1
              simp [results, Tryz.results22, go_sem, r0, r1]) rfl (LexPost.bad HV.out ((hbw2.setCell (p := ⟨_, 0, none⟩) (Nat.le_refl _) _).setCell (p := ⟨_, 1, none⟩) (Nat.le_refl _) _))
        · have HA2 : Hid (badFrom s f (pos + wd) = badFrom s s.size 0) := Lib.hid (by have := HA.out; rwa [if_neg (fun h => cF h.1)] at this)
          have eF : ((c : Int) == 65533) = false := by rw [beq_eq_false_iff_ne]; omega
          clear HA cF
          go_wp2
          go_roundw
          case rel => exact ⟨pos + wd, f, hit2, hC2, hbw2, HA2.out, by omega⟩
          case measure =>
            simp only [World.iterPos, hit2, hit]
            omega
      · have hnx : ∀ ty, (Instr.next (.pointer (some ⟨w.heap.size + 1, 0, none⟩)) true ty).run Tryz.prog wr = _ := fun ty => Lib.run_next_end_at wr (w.heap.size + 1) s pos ty hit hp
        rw [badFrom_end s fuel pos hp] at hacc
        have HN := Lib.hid hacc.symm
        clear hacc
        have hE1 : Env wr := hE.below hbw
        clear hfu hp hsz hC0 hB0
        have hwz := hbw.size
        have hBz : w.heap.size < wr.heap.size := hC.lt
        clear hwz
        go_wp2
        go_loopw [6, 7] (fun v a wr2 => ∃ (at_ fuel : Nat) (acc : List Tok), a = .int .i64 at_ ∧ wr2.ownsRow (w.heap.size + 1) 95 4 v acc.length (acc.flatMap tokCells) ∧ CellsAt wr2 w.heap.size 31 #[.int .i64 0, .int .i64 0] ∧ Below w.heap.size w wr2 ∧ Env wr2 ∧ pre acc (lexFrom s fuel at_) = lexFrom s (s.size + 1) 0 ∧ s.size + 1 ≤ at_ + fuel ∧ at_ ≤ s.size ∧ acc.length ≤ at_) (fun _ a _ => s.size + 1 - (intOf a).toNat)
        case atStart =>
          exact ⟨0, s.size + 1, [], rfl, World.ownsRow_nil _ _ _ _, hC, hbw, hE1, pre_nil _, by omega, by omega, by simp⟩
        case round =>
          clear hC hbw hE1 hBz
          obtain ⟨at_, fuel, acc, rfl, hown, hC, hbw, hE1, hacc, hfu, hat, hal⟩ := hrel
          have hBz : w.heap.size < wr.heap.size := hC.lt
          obtain ⟨f, rfl⟩ : ∃ f, fuel = f + 1 := ⟨fuel - 1, by omega⟩
          have cT := Tryz.strings_TrimLeft_one (s.extract at_ s.size) 32 (by decide) wr
          rw [show (s.extract at_ s.size).data.toList = s.data.toList.drop at_ by rw [Lib.extract_from]] at cT
          have hrl : (Lib.trimLeftB (s.data.toList.drop at_) 32).length ≤ s.size - at_ := by
            refine Nat.le_trans (trim_le _ _) ?_
            rw [List.length_drop, Lib.size_eq]; exact Nat.le_refl _
          obtain ⟨r, hr⟩ : ∃ r, Lib.trimLeftB (s.data.toList.drop at_) 32 = r := ⟨_, rfl⟩
          rw [hr] at cT hrl
          have HA := Lib.hid hacc
          have HR := Lib.hid hr
          clear hacc hr
          by_cases h0 : r = []
          · subst h0
            have HV := Lib.hid (lexA_ok HBIG.out HN.out (by rw [← HA.out, lexFrom_stop s f at_ HR.out]; rfl : lexFrom s (s.size + 1) 0 = .ok (acc ++ [⟨0, [], 0, s.size + 1⟩])))
            have c0 := hC.cell 0; have c1 := hC.cell 1; have f0 := hC.frozen 0; have f1 := hC.frozen 1
            simp at c0 c1
            clear HA HR HN
            go_wp2_with (first
              | (go_at_call 47; refine cT.mono ?_; rintro e w' ⟨rfl, rfl⟩)
              | (at_builtin; go_loud (refine wpList_append_own _ rfl _ _ 54 rfl (w.heap.size + 1) 95 i0 _ 4 40 Tryz.underlying54 hi hz0 hz1 hz2 rfl (by decide) _ _ _ rfl (hown.alloc _) ⟨_, 0, none⟩ 1 1 [.int .i64 0, .string ⟨#[]⟩, .int .i64 0, .int .i64 (s.size + 1)] rfl rfl (news4 _ _ _ _ _ _) (ones4 _ _ _ _) (by unfold maxLen; omega) (by omega) (by simp; omega) ?_; intro v1 w1 hown1 hg1 _; have hC1 := cells_grown (hC.alloc _) (hown.alloc _) (Nat.lt_succ_self _) hg1; have hbw1 := below_own (hbw.alloc (by omega) _) (hown.alloc _) (Nat.le_succ _) (by simp; omega) hg1; clear hown hC hbw; have c0 := hC1.cell 0; have c1 := hC1.cell 1; have f0 := hC1.frozen 0; have f1 := hC1.frozen 1; simp at c0 c1)))
            refine bodyPost_ret (v := .tuple #[v1, .agg #[.int .i64 0, .int .i64 0]]) (by
              have R := (hC1.set 0 (.int .i64 0)).set 1 (.int .i64 0)
              have r0 := R.cell 0; have r1 := R.cell 1
              simp at r0 r1
              simp [results, Tryz.results22, go_sem, r0, r1]) rfl (LexPost.good HV.out ?_ ?_)
            · exact (hbw1.setCell (p := ⟨_, 0, none⟩) (Nat.le_refl _) _).setCell (p := ⟨_, 1, none⟩) (Nat.le_refl _) _
            · rw [List.length_append, flat_snoc]
              exact own_base (own_set (own_set hown1 (Nat.lt_succ_self _) 0 _) (Nat.lt_succ_self _) 1 _) (Nat.le_succ _)
          · have hQ := fun W (hW : Env W) => one_walk ⟨r.toArray⟩ W hW (by show r.toArray.size ≤ _; simp; omega) (by show 1 ≤ r.toArray.size; have := List.length_pos_iff.2 h0; simp only [List.size_toArray]; omega)
            have hb := oneA_bound ⟨r.toArray⟩
            have hr0 := List.length_pos_iff.2 h0
            have cO := hQ wr hE1
            have e0 : (r == []) = false := by rw [beq_eq_false_iff_ne]; exact h0
            cases ho : oneA ⟨r.toArray⟩ with
            | none =>
              have HV := Lib.hid (lexA_err HBIG.out HN.out (by rw [← HA.out, lexFrom_none s f at_ r HR.out h0 ho]; rfl : lexFrom s (s.size + 1) 0 = .error ((s.size : Int) - r.length + 1)))
              rw [ho] at cO
              clear HA HR HN hQ hb ho
              go_wp2_with (first
                | (go_at_call 47; refine cT.mono ?_; rintro e w' ⟨rfl, rfl⟩)
                | (go_at_call 48; refine cO.mono ?_; rintro e w1 ⟨hb1, a, b, c, d, k, rfl⟩; have hC1 := (below_cells hC hb1).alloc (.cells #[.int .i64 a, .string b, .int .i64 c, .int .i64 d] 95); have hbw1 := (below_chain hbw (by omega) hb1).alloc (by have := hb1.size; omega) (.cells #[.int .i64 a, .string b, .int .i64 c, .int .i64 d] 95); clear hown hC hbw hb1; have c0 := hC1.cell 0; have c1 := hC1.cell 1; have f0 := hC1.frozen 0; have f1 := hC1.frozen 1; simp at c0 c1))
              refine bodyPost_ret (v := .tuple #[.slice none 0 0, .agg #[.int .i64 4, .int .i64 ((s.size : Int) - r.length + 1)]]) (by
                have R := (hC1.set 0 (.int .i64 4)).set 1 (.int .i64 ((s.size : Int) - r.length + 1))
                have r0 := R.cell 0; have r1 := R.cell 1
                simp at r0 r1
                simp [results, Tryz.results22, go_sem, r0, r1]) rfl (LexPost.bad HV.out ((hbw1.setCell (p := ⟨_, 0, none⟩) (Nat.le_refl _) _).setCell (p := ⟨_, 1, none⟩) (Nat.le_refl _) _))
            | some x =>
              obtain ⟨⟨tk, ts, tn, tp⟩, n⟩ := x
              have hbn := hb _ ho
              rw [show (⟨r.toArray⟩ : ByteArray).size = r.length from by show r.toArray.size = _; simp] at hbn
              dsimp only at hbn
              have HV := Lib.hid ((pre_map acc _ _).symm.trans ((congrArg (pre acc) (lexFrom_some s f at_ r _ n HR.out h0 ho)).symm.trans HA.out))
              rw [ho] at cO
              clear HA HR hQ hb ho
              go_wp2_with (first
                | (go_at_call 47; refine cT.mono ?_; rintro e w' ⟨rfl, rfl⟩)
                | (go_at_call 48; refine cO.mono ?_; rintro e w1 ⟨hb1, rfl⟩; have hC1 := below_cells hC hb1; have hbw1 := below_chain hbw (by omega) hb1; have hzz := Nat.lt_of_lt_of_le hBz hb1.size; have hown1 := own_below hown hb1; have hT := CellsAt.new w1 95 #[.int .i64 tk, .string ⟨ts.toArray⟩, .int .i64 tn, .int .i64 0]; clear hown hC hbw hb1)
                | (at_builtin; refine wpList_append_own _ rfl _ _ 54 rfl (w.heap.size + 1) 95 i0 _ 4 40 Tryz.underlying54 hi hz0 hz1 hz2 rfl (by decide) _ _ _ rfl ((hown1.alloc _).alloc _) ⟨_, 0, none⟩ 1 1 [.int .i64 tk, .string ⟨ts.toArray⟩, .int .i64 tn, .int .i64 ((s.size : Int) - r.length + 1)] rfl rfl (news4g _ _ (by simp) _ _ _ _ _) (ones4 _ _ _ _) (by unfold maxLen; omega) (by omega) (by simp; omega) ?_; intro v1 w2 hown2 hg2 _; have hC2 := cells_grown ((hC1.alloc _).alloc _) ((hown1.alloc _).alloc _) (Nat.lt_succ_self _) hg2; have hbw2 := below_own ((hbw1.alloc (by omega) _).alloc (by simp; omega) _) ((hown1.alloc _).alloc _) (Nat.le_succ _) (by simp; omega) hg2; have hE3 := hE.below hbw2; clear hC1 hbw1 hg2 hown1))
              go_roundw
              case rel =>
                refine ⟨s.size - r.length + n, f, acc ++ [⟨tk, ts, tn, (s.size : Int) - r.length + 1⟩], by go_num, ?_, hC2, hbw2, hE3, HV.out, by omega, by omega, by rw [List.length_append]; simp; omega⟩
                rw [List.length_append, flat_snoc]
                exact hown2
              case measure => simp [intOf]; omega

theorem own_shape {w : World} {base size n : Nat} {e : TypeId} {v : Value} {xs : List Value} (h : w.ownsRow base e size v n xs) (hn : 0 < n) :
    ∃ g cap, v = .slice (some ⟨g, 0, none⟩) n cap ∧ g < w.heap.size ∧ n ≤ cap ∧ ∀ j, j < n * size → w.cell? ⟨g, j, none⟩ = xs[j]? := by
  rcases h.2 with ⟨_, h2⟩ | ⟨g, cap, cur, h1, h2, h3, h4, h5, h6, h7⟩
  · omega
  · subst h1
    exact ⟨g, cap, rfl, (Array.getElem?_eq_some_iff.1 h3).1, h4, fun j hj => h.cellAt j hj⟩

end Go.Proofs.YtebblpmocheelaaGreatDoor
