/- The walk of the law LexBlanks. -/
import Derived.Test.YtebblpmocheelaaDoorLexR3
import Derived.Test.YtebblpmocheelaaDoorLexL2
import Derived.Deep.QuietTactic
import Derived.BigQuiet
namespace Go.Proofs.YtebblpmocheelaaDoor
open Go.RowKit Go.Lib

/-! ### How long the tokens are -/
theorem quotedFrom_len (t : ByteArray) : ∀ (f pos : Nat) (st : Bool) (acc : List UInt8) (x : List UInt8 × Nat), pos ≤ t.size → quotedFrom t f pos st acc = some x → x.1.length ≤ acc.length + 4 * (t.size - pos) := by
  intro f
  induction f with
  | zero => intro pos st acc x _ h; simp [quotedFrom] at h
  | succ f ih =>
    intro pos st acc x hpl h
    rw [quotedFrom] at h
    split at h
    · rename_i hp
      have hw := width_le t pos hp
      have hw1 := width_pos t pos hp
      split at h
      · cases h
      · split at h
        · cases h
        · split at h
          · injection h with h; subst h; dsimp only; omega
          · split at h
            · have := ih _ _ _ _ (by omega) h; omega
            · have := ih _ _ _ _ (by omega) h
              rw [List.length_append] at this
              have h4 := runeCells_le ((Utf8.decode t pos).1 : Int)
              rw [runeCells_length] at h4
              omega
    · cases h

theorem oneA_len (s : ByteArray) (x : Tok × Nat) (h : oneA s = some x) : x.1.says.length ≤ 4 * s.size := by
  have hz := size_eq s
  have hb := oneA_bound s x h
  unfold oneA at h
  split at h
  · injection h with h; subst h; simp only [List.length_cons, List.length_nil]; omega
  split at h
  · injection h with h; subst h; simp only [List.length_cons, List.length_nil]; omega
  split at h
  · injection h with h; subst h; simp only [List.length_cons, List.length_nil]; omega
  split at h
  · injection h with h; subst h; simp only [List.length_cons, List.length_nil]; omega
  split at h
  · obtain ⟨y, hy, rfl⟩ := Option.map_eq_some_iff.1 h
    have := quotedFrom_len _ _ _ _ _ _ (Nat.zero_le _) hy
    have h1 : (s.extract 1 s.size).size = s.size - 1 := by simp
    simp only [List.length_nil] at this
    dsimp only; omega
  · obtain ⟨y, hy, rfl⟩ := Option.map_eq_some_iff.1 h
    dsimp only
    rw [List.length_take]; omega

theorem lexFrom_len (s : ByteArray) : ∀ (f at_ : Nat) (l : List Tok), at_ ≤ s.size → lexFrom s f at_ = .ok l → l.length + at_ ≤ s.size + 1 ∧ ∀ t ∈ l, t.says.length ≤ 4 * s.size := by
  intro f
  induction f with
  | zero => intro at_ l _ h; cases h
  | succ f ih =>
    intro at_ l hat h
    by_cases hr : trimLeftB (s.data.toList.drop at_) 32 = []
    · rw [lexFrom_stop s f at_ hr] at h
      injection h with h; subst h
      refine ⟨by simp; omega, fun t ht => ?_⟩
      rw [List.mem_singleton] at ht; subst ht
      exact Nat.zero_le _
    · cases ho : oneA ⟨(trimLeftB (s.data.toList.drop at_) 32).toArray⟩ with
      | none => rw [lexFrom_none s f at_ _ rfl hr ho] at h; cases h
      | some x =>
        obtain ⟨u, n⟩ := x
        have hb := oneA_bound _ _ ho
        have hln := oneA_len _ _ ho
        have htl := trim_le (s.data.toList.drop at_) 32
        rw [List.length_drop, ← size_eq] at htl
        rw [mk_size] at hb hln
        rw [lexFrom_some s f at_ _ u n rfl hr ho] at h
        dsimp only at hb hln
        cases hrec : lexFrom s f (s.size - (trimLeftB (s.data.toList.drop at_) 32).length + n) with
        | error e => rw [hrec] at h; cases h
        | ok l2 =>
          rw [hrec] at h
          have h' : Except.ok _ = Except.ok l := h
          injection h' with h'
          subst h'
          obtain ⟨h1, h2⟩ := ih _ _ (by omega) hrec
          refine ⟨by simp; omega, ?_⟩
          intro t ht
          rcases List.mem_cons.1 ht with rfl | ht
          · dsimp only; omega
          · exact h2 t ht

theorem lexA_len {s : ByteArray} {l : List Tok} (h : lexA s = .ok l) : l.length ≤ s.size + 1 ∧ ∀ t ∈ l, t.says.length ≤ 4 * s.size :=
  lexFrom_len s _ 0 l (Nat.zero_le _) (lexA_from h)

/-- What the law writes for a token. -/
def goText (t : Tok) : List UInt8 := if t.kind = 4 then quoteA ⟨t.says.toArray⟩ else t.says
def goJoin (k : Nat) (l : List Tok) : List UInt8 := l.flatMap fun t => goText t ++ blanks k

theorem goText_ok {t : Tok} (h : TokOk t) : goText t = tokText t := by
  unfold goText tokText
  split
  · rename_i hk
    rcases h with ⟨h1, _⟩ | ⟨_, _, hv, h10⟩ | ⟨a, r, hs, ha, hr, hp⟩
    · rw [h1] at hk; exact absurd hk (by decide)
    · have ht : isTextL t.says = true := by
        unfold isTextL
        rw [contains_one, valid_of hv, decide_eq_false h10]; rfl
      have := quoteA_eq ⟨t.says.toArray⟩
      rw [if_pos ht] at this
      exact this
    · rcases plainA_kind hp with h | h | h <;> rw [h] at hk <;> exact absurd hk (by decide)
  · rfl

theorem goJoin_ok (k : Nat) (l : List Tok) (h : ∀ t ∈ l, TokOk t) : goJoin k l = joinT k l := by
  induction l with
  | nil => rfl
  | cons t l ih =>
    show (goText t ++ blanks k) ++ goJoin k l = (tokText t ++ blanks k) ++ joinT k l
    rw [goText_ok (h t List.mem_cons_self), ih (fun x hx => h x (List.mem_cons_of_mem _ hx))]

theorem goJoin_end (k : Nat) (toks : List Tok) (p : Int) (h : ∀ t ∈ toks, TokOk t) : goJoin k (toks ++ [⟨0, [], 0, p⟩]) = joinT k toks ++ blanks k := by
  unfold goJoin
  rw [List.flatMap_append]
  have := goJoin_ok k toks h
  unfold goJoin at this
  rw [this]
  congr 1
  show ([] ++ blanks k) ++ [] = blanks k
  simp

theorem goText_len (t : Tok) : (goText t).length ≤ 2 * t.says.length + 2 := by
  unfold goText
  split
  · rw [quoteA_eq]
    split
    · have := (escB_len t.says).2
      show (34 :: (escB t.says ++ [34])).length ≤ _
      simp; omega
    · simp
  · omega

theorem goJoin_len (k B : Nat) (hk : k ≤ 3) : ∀ l : List Tok, (∀ t ∈ l, t.says.length ≤ B) → (goJoin k l).length ≤ l.length * (2 * B + 5) := by
  intro l
  induction l with
  | nil => intro _; simp [goJoin]
  | cons t l ih =>
    intro h
    have h1 := goText_len t
    have h2 := h t List.mem_cons_self
    have h3 := ih (fun x hx => h x (List.mem_cons_of_mem _ hx))
    show ((goText t ++ blanks k) ++ goJoin k l).length ≤ _
    have hb : (blanks k).length = k := by simp [blanks]
    rw [List.length_append, List.length_append, hb, List.length_cons, Nat.add_mul]
    omega

/-- WHAT THE LAW ASKS, in plain words. -/
theorem blanks_same {s : ByteArray} {l : List Tok} (h : lexA s = .ok l) (k : Nat) (hk : 1 ≤ k) (hlen : (goJoin k l).length ≤ 1024) :
    ∃ m, lexA ⟨(goJoin k l).toArray⟩ = .ok m ∧ m.map strip = l.map strip := by
  obtain ⟨toks, p, rfl, hok⟩ := lexA_struct h
  rw [goJoin_end k toks p hok] at hlen ⊢
  obtain ⟨m, h1, h2⟩ := lexA_join toks k hk hok hlen
  exact ⟨m, h1, by rw [h2]; simp [strip]⟩
/-! ### The walk -/
/-- The tokens' cells lie in block g. -/
structure Row (W : World) (g : Nat) (l : List Tok) : Prop where
  lt : g < W.heap.size
  c0 : ∀ i t, l[i]? = some t → W.cell? ⟨g, i * 4, none⟩ = some (.int .i64 t.kind)
  c1 : ∀ i t, l[i]? = some t → W.cell? ⟨g, i * 4 + 1, none⟩ = some (.string ⟨t.says.toArray⟩)
  c2 : ∀ i t, l[i]? = some t → W.cell? ⟨g, i * 4 + 2, none⟩ = some (.int .i64 t.n)
  c3 : ∀ i t, l[i]? = some t → W.cell? ⟨g, i * 4 + 3, none⟩ = some (.int .i64 t.place)

theorem flat_at (l : List Tok) : ∀ (i : Nat) (t : Tok) (j : Nat), l[i]? = some t → j < 4 → (l.flatMap tokCells)[i * 4 + j]? = (tokCells t)[j]? := by
  induction l with
  | nil => intro i t j h; simp at h
  | cons a l ih =>
    intro i t j h hj
    rw [List.flatMap_cons]
    cases i with
    | zero =>
      rw [List.getElem?_cons_zero] at h
      injection h with h; subst h
      rw [Nat.zero_mul, Nat.zero_add, List.getElem?_append_left (by show j < (tokCells a).length; simp [tokCells]; exact hj)]
    | succ i =>
      rw [List.getElem?_cons_succ] at h
      rw [List.getElem?_append_right (by show (tokCells a).length ≤ _; simp [tokCells]; omega)]
      have := ih i t j h hj
      rw [← this]
      congr 1
      show (i + 1) * 4 + j - (tokCells a).length = _
      simp [tokCells]; omega

theorem Row.of {W : World} {base g cap : Nat} {e : TypeId} {l : List Tok} (h : W.ownsRow base e 4 (.slice (some ⟨g, 0, none⟩) l.length cap) l.length (l.flatMap tokCells)) (hg : g < W.heap.size) : Row W g l := by
  have key : ∀ i t j, l[i]? = some t → j < 4 → W.cell? ⟨g, i * 4 + j, none⟩ = (tokCells t)[j]? := by
    intro i t j ht hj
    obtain ⟨hi, _⟩ := List.getElem?_eq_some_iff.1 ht
    rw [h.cellAt (i * 4 + j) (by omega), flat_at l i t j ht hj]
  exact ⟨hg, fun i t h => key i t 0 h (by omega), fun i t h => key i t 1 h (by omega), fun i t h => key i t 2 h (by omega), fun i t h => key i t 3 h (by omega)⟩
theorem Row.step {W W' : World} {g : Nat} {l : List Tok} (h : Row W g l) (hb : Below W.heap.size W W') : Row W' g l :=
  ⟨Nat.lt_of_lt_of_le h.lt hb.size, fun i t ht => (hb.cell h.lt).trans (h.c0 i t ht), fun i t ht => (hb.cell h.lt).trans (h.c1 i t ht), fun i t ht => (hb.cell h.lt).trans (h.c2 i t ht), fun i t ht => (hb.cell h.lt).trans (h.c3 i t ht)⟩
theorem Row.alloc {W : World} {g : Nat} {l : List Tok} (h : Row W g l) (o : Obj) : Row (W.alloc o) g l := h.step ((Below.refl _ W).alloc (Nat.le_refl _) o)

theorem goJoin_snoc (k : Nat) (l : List Tok) (i : Nat) (t : Tok) (h : l[i]? = some t) : goJoin k (l.take (i + 1)) = goJoin k (l.take i) ++ (goText t ++ blanks k) := by
  obtain ⟨hi, he⟩ := List.getElem?_eq_some_iff.1 h
  rw [List.take_succ_eq_append_getElem hi, he]
  unfold goJoin
  rw [List.flatMap_append]
  simp

set_option maxHeartbeats 8000000 in
set_option maxRecDepth 1000000 in
theorem lexBlanks_walk (s : ByteArray) (b : Int) (w : World) (hE : Env w) (hs : s.size ≤ 9223372036854775807) (hb0 : -9223372036854775808 ≤ b) (hb1 : b ≤ 9223372036854775807) :
    Calls Tryd.prog 4 #[.string s, .int .i64 b] w fun e w' => e = .returned (.bool true) ∧ Below w.heap.size w w' := by
  have cA := alive_walk w hE
  by_cases hbig : 300 < s.size
  · go_enter Tryd.func4, Tryd.ntmps4
    go_wp2_with (go_at_call 7; refine cA.mono ?_; rintro e w1 ⟨rfl, hb1⟩)
    go_ret
    exact ⟨rfl, hb1⟩
  by_cases hlo : b < 1
  · go_enter Tryd.func4, Tryd.ntmps4
    go_wp2_with (go_at_call 7; refine cA.mono ?_; rintro e w1 ⟨rfl, hb1⟩)
    go_ret
    exact ⟨rfl, hb1⟩
  by_cases hhi : 3 < b
  · go_enter Tryd.func4, Tryd.ntmps4
    go_wp2_with (go_at_call 7; refine cA.mono ?_; rintro e w1 ⟨rfl, hb1⟩)
    go_ret
    exact ⟨rfl, hb1⟩
  obtain ⟨k, rfl⟩ : ∃ k : Nat, b = k := ⟨b.toNat, by omega⟩
  have hk1 : 1 ≤ k := by omega
  have hk3 : k ≤ 3 := by omega
  have hsm : s.size ≤ 65536 := by omega
  have hL := fun W (hW : Env W) => lex_walk s W hW hsm
  clear hlo hhi hb0 hb1
  cases hr : lexA s with
  | error x =>
    obtain ⟨xe, xa⟩ := x
    have hxe : xe ≠ 0 := lexA_errs hr
    have hxb : (xe == 0) = false := by rw [beq_eq_false_iff_ne]; exact hxe
    rw [hr] at hL
    clear hr
    go_enter Tryd.func4, Tryd.ntmps4
    go_wp2_with fail
    refine cA.mono ?_
    clear cA
    rintro e w1 ⟨rfl, hB1⟩
    go_wp2_with fail
    refine (hL w1 (hE.below hB1)).mono ?_
    rintro e w2 ⟨hb2, rfl⟩
    have hB2 := below_chain hB1 hB1.size hb2
    have hB3 := hB2.alloc hB2.size (.cells #[.int .i64 xe, .int .i64 xa] 28)
    go_wp2_with fail
    go_ret
    exact ⟨rfl, hB3⟩
  | ok l =>
    obtain ⟨hln, hsl⟩ := lexA_len hr
    have hpos := lexA_pos hr
    have hsame := fun h => blanks_same hr k hk1 h
    have hJ := goJoin_len k 1200 hk3 l (fun t ht => by have := hsl t ht; omega)
    have hsl2 : ∀ t ∈ l, t.says.length ≤ 1200 := fun t ht => by have := hsl t ht; omega
    have HSL := Lib.hid hsl2
    have HSAME := Lib.hid hsame
    have hll : l.length ≤ 301 := by omega
    have hTl : (goJoin k l).length ≤ 1000000 := by
      have : l.length * (2 * 1200 + 5) ≤ 301 * 2405 := Nat.mul_le_mul_right 2405 hll
      omega
    rw [hr] at hL
    clear hr hsame hsl hsl2 hJ hln
    go_enter Tryd.func4, Tryd.ntmps4
    go_wp2_with fail
    refine cA.mono ?_
    clear cA
    rintro e w1 ⟨rfl, hB1⟩
    go_wp2_with fail
    refine (hL w1 (hE.below hB1)).mono ?_
    rintro e w2 ⟨hb2, v, rfl, hown⟩
    have hB2 := below_chain hB1 hB1.size hb2
    obtain ⟨g, cap, rfl, hg, hcap, hcell⟩ := own_shape hown hpos
    have hrow := (Row.of hown hg).alloc (.cells #[.int .i64 0, .int .i64 0] 28)
    have hF := CellsAt.new w2 28 #[.int .i64 0, .int .i64 0]
    have hB3 := hB2.alloc hB2.size (.cells #[.int .i64 0, .int .i64 0] 28)
    clear hown hcell hL hb2
    go_wp2_with fail
    go_loopw [7, 40] (fun tv i wr => ∃ j : Nat, j ≤ l.length ∧ i = .int .i64 j ∧ tv = .string ⟨(goJoin k (l.take j)).toArray⟩ ∧ Row wr g l ∧ Below w.heap.size w wr) (fun _ i _ => l.length - (intOf i).toNat)
    case atStart => exact ⟨0, Nat.zero_le _, rfl, rfl, hrow, hB3⟩
    case round =>
      clear hrow hB3 hF
      obtain ⟨j, hj, rfl, rfl, hrow, hB⟩ := hrel
      by_cases hlt : j < l.length
      · obtain ⟨t, ht⟩ : ∃ t, l[j]? = some t := ⟨_, List.getElem?_eq_getElem hlt⟩
        have c0 := hrow.c0 j t ht
        have c1 := hrow.c1 j t ht
        have c2 := hrow.c2 j t ht
        have c3 := hrow.c3 j t ht
        have hglt := hrow.lt
        have HN := Lib.hid (goJoin_snoc k l j t ht)
        have hsz := HSL.out t (List.mem_of_getElem? ht)
        clear ht
        have hTj : (goJoin k (l.take j)).length ≤ 1000000 := by
          have := goJoin_len k 1200 hk3 (l.take j) (fun x hx => HSL.out x (List.mem_of_mem_take hx))
          have h2 : (l.take j).length ≤ 301 := by rw [List.length_take]; omega
          have h3 : (l.take j).length * (2 * 1200 + 5) ≤ 301 * 2405 := Nat.mul_le_mul_right 2405 h2
          omega
        have hgt := goText_len t
        have hbk : (⟨#[32, 32, 32]⟩ : ByteArray).extract 0 k = ⟨(blanks k).toArray⟩ := by
          obtain rfl | rfl | rfl : k = 1 ∨ k = 2 ∨ k = 3 := by omega
          all_goals decide
        have HBK := Lib.hid hbk
        clear hbk
        have hB4 := hB.alloc hB.size (.cells #[.int .i64 t.kind, .string ⟨t.says.toArray⟩, .int .i64 t.n, .int .i64 t.place] 33)
        have hrow4 := hrow.alloc (.cells #[.int .i64 t.kind, .string ⟨t.says.toArray⟩, .int .i64 t.n, .int .i64 t.place] 33)
        by_cases hk4 : t.kind = 4
        · have hgo : goText t = quoteA ⟨t.says.toArray⟩ := by unfold goText; rw [if_pos hk4]
          have cQ := refQuote_walk ⟨t.says.toArray⟩ _ (hE.below hB4) (by rw [mk_size]; omega)
          rw [← hgo] at cQ
          have NX : Hid ((⟨(goJoin k (l.take j)).toArray⟩ : ByteArray) ++ ⟨(goText t).toArray⟩ ++ (⟨#[32, 32, 32]⟩ : ByteArray).extract 0 k = ⟨(goJoin k (l.take (j + 1))).toArray⟩) := Lib.hid (by
            rw [HBK.out, HN.out, str_app, str_app, List.append_assoc])
          have e4 : (t.kind == 4) = true := by rw [beq_iff_eq]; exact hk4
          clear hgo hk4 HN HBK
          generalize goText t = gt at cQ NX hgt
          go_wp2_with (go_at_call 13; refine cQ.mono ?_; rintro e w5 ⟨rfl, hb5⟩)
          go_roundw
          case rel => exact ⟨j + 1, by omega, by go_num, by rw [NX.out], hrow4.step hb5, below_chain hB4 hB4.size hb5⟩
          case measure => simp [intOf]; omega
        · have hgo : goText t = t.says := by unfold goText; rw [if_neg hk4]
          have NX : Hid ((⟨(goJoin k (l.take j)).toArray⟩ : ByteArray) ++ ⟨t.says.toArray⟩ ++ (⟨#[32, 32, 32]⟩ : ByteArray).extract 0 k = ⟨(goJoin k (l.take (j + 1))).toArray⟩) := Lib.hid (by
            rw [HBK.out, HN.out, hgo, str_app, str_app, List.append_assoc])
          have e4 : (t.kind == 4) = false := by rw [beq_eq_false_iff_ne]; exact hk4
          clear hgo hk4 HN HBK hgt
          go_wp2_with fail
          go_roundw
          case rel => exact ⟨j + 1, by omega, by go_num, by rw [NX.out], hrow4, hB4⟩
          case measure => simp [intOf]; omega
      · have hje : j = l.length := by omega
        subst hje
        rw [List.take_length]
        clear hj hlt
        by_cases hTbig : 1024 < (goJoin k l).length
        · clear HSAME
          go_wp2_with fail
          go_ret
          exact ⟨rfl, hB⟩
        · obtain ⟨m, hm, hst⟩ := HSAME.out (by omega)
          have cL := fun W (hW : Env W) => lex_walk ⟨(goJoin k l).toArray⟩ W hW (by rw [mk_size]; omega)
          rw [hm] at cL
          have hmp := lexA_pos hm
          have hml : m.length = l.length := by have := congrArg List.length hst; simpa using this
          have HST := Lib.hid hst
          clear hm hst HSAME
          go_wp2_with fail
          refine (cL wr (hE.below hB)).mono ?_
          rintro e w5 ⟨hb5, v5, rfl, hown5⟩
          have hB5 := below_chain hB hB.size hb5
          have hrow5 := (hrow.step hb5).alloc (.cells #[.int .i64 0, .int .i64 0] 28)
          obtain ⟨g5, cap5, rfl, hg5, hcap5, hcell5⟩ := own_shape hown5 hmp
          have hrow6 := (Row.of hown5 hg5).alloc (.cells #[.int .i64 0, .int .i64 0] 28)
          have hB6 := hB5.alloc hB5.size (.cells #[.int .i64 0, .int .i64 0] 28)
          clear hown5 hcell5 cL hb5 hrow hB
          rw [hml] at hcap5 ⊢
          go_wp2_with fail
          go_loopw [78] (fun i wr => ∃ j : Nat, j ≤ l.length ∧ i = .int .i64 j ∧ Row wr g l ∧ Row wr g5 m ∧ Below w.heap.size w wr) (fun i _ => l.length - (intOf i).toNat)
          case atStart => exact ⟨0, Nat.zero_le _, rfl, hrow5, hrow6, hB6⟩
          case round =>
            clear hrow5 hrow6 hB6
            obtain ⟨j, hj, rfl, hrow, hrow2, hB⟩ := hrel
            by_cases hlt : j < l.length
            · obtain ⟨t, ht⟩ : ∃ t, l[j]? = some t := ⟨_, List.getElem?_eq_getElem hlt⟩
              obtain ⟨u, hu⟩ : ∃ u, m[j]? = some u := ⟨_, List.getElem?_eq_getElem (by omega)⟩
              have hst : strip t = strip u := by
                have h1 := congrArg (·[j]?) HST.out
                simp only [List.getElem?_map, ht, hu, Option.map_some, Option.some.injEq] at h1
                exact h1.symm
              obtain ⟨tk, ts, tn, tp⟩ := t
              obtain ⟨uk, us, un, up⟩ := u
              simp only [strip, Prod.mk.injEq] at hst
              obtain ⟨rfl, rfl, rfl⟩ := hst
              have c0 := hrow.c0 j _ ht
              have c1 := hrow.c1 j _ ht
              have c2 := hrow.c2 j _ ht
              have d0 := hrow2.c0 j _ hu
              have d1 := hrow2.c1 j _ hu
              have d2 := hrow2.c2 j _ hu
              dsimp only at c0 c1 c2 d0 d1 d2
              have hglt := hrow.lt
              have hglt2 := hrow2.lt
              have hltI : (j : Int) < (l.length : Int) := by omega
              clear ht hu
              go_wp2_with fail
              go_quiet (fail)
              go_wp2
              go_roundw
              case rel => exact ⟨j + 1, by omega, by go_num, hrow.step (below_drewN (Below.refl _ _) _), hrow2.step (below_drewN (Below.refl _ _) _), below_drewN hB _⟩
              case measure => simp [intOf]; omega
            · go_wp2_with fail
              go_ret
              exact ⟨rfl, hB⟩
end Go.Proofs.YtebblpmocheelaaDoor
