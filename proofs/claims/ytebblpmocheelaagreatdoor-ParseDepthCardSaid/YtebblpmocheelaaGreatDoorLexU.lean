/- Plain laws of texts that are UTF-8: made of runes' bytes, one behind another; quoting them, and reading them back. No program in sight. -/
import Derived.Test.YtebblpmocheelaaGreatDoorLexP
import Derived.Laws.RangeString
import Derived.Laws.RangeAny
namespace Go.Proofs.YtebblpmocheelaaGreatDoor
open Go.Lib

/-! ### A rune's bytes -/
/-- e are the bytes of the rune c, whatever follows. -/
structure Chunk (c : Nat) (e : List UInt8) : Prop where
  ne : e ≠ []
  dec : ∀ t, decodeL (e ++ t) = (c, e.length)
  enc : encodeRune (c : Int) = e
  kind : (∃ b, e = [b] ∧ b.toNat < 128 ∧ c = b.toNat) ∨ ((∀ b ∈ e, 128 ≤ b.toNat) ∧ 128 ≤ c ∧ 2 ≤ e.length)

inductive Val : List UInt8 → Prop
  | nil : Val []
  | cons (c : Nat) (e t : List UInt8) : Chunk c e → Val t → Val (e ++ t)

theorem chunk_ascii (b : UInt8) (h : b.toNat < 128) : Chunk b.toNat [b] := by
  refine ⟨by simp, fun t => decodeL_ascii b t h, ?_, .inl ⟨b, rfl, h, rfl⟩⟩
  unfold encodeRune
  rw [encodeRuneZ_one (by omega) (by omega)]
  simp

theorem decodeN_two (n b0 b1 b2 b3 : Nat) (c1 : b0 / 32 = 6) (c2 : 1 < n) (c3 : b1 / 64 = 2) (cv : 128 ≤ b0 % 32 * 64 + b1 % 64) : decodeN n b0 b1 b2 b3 = (b0 % 32 * 64 + b1 % 64, 2) := by
  unfold decodeN
  rw [if_neg (by omega), if_pos ⟨c1, c2, c3⟩, if_pos cv]
theorem decodeN_three (n b0 b1 b2 b3 : Nat) (c1 : b0 / 16 = 14) (c2 : 2 < n) (c3 : b1 / 64 = 2) (c4 : b2 / 64 = 2) (cv : 2048 ≤ b0 % 16 * 4096 + b1 % 64 * 64 + b2 % 64)
    (cs : b0 % 16 * 4096 + b1 % 64 * 64 + b2 % 64 < 55296 ∨ 57344 ≤ b0 % 16 * 4096 + b1 % 64 * 64 + b2 % 64) : decodeN n b0 b1 b2 b3 = (b0 % 16 * 4096 + b1 % 64 * 64 + b2 % 64, 3) := by
  unfold decodeN
  rw [if_neg (by omega), if_neg (by omega), if_pos ⟨c1, ⟨by omega, c3⟩, c2, c4⟩, if_pos (by omega)]
theorem decodeN_four (n b0 b1 b2 b3 : Nat) (c1 : b0 / 8 = 30) (c2 : 3 < n) (c3 : b1 / 64 = 2) (c4 : b2 / 64 = 2) (c5 : b3 / 64 = 2) (cv : 65536 ≤ b0 % 8 * 262144 + b1 % 64 * 4096 + b2 % 64 * 64 + b3 % 64)
    (cw : b0 % 8 * 262144 + b1 % 64 * 4096 + b2 % 64 * 64 + b3 % 64 ≤ 1114111) : decodeN n b0 b1 b2 b3 = (b0 % 8 * 262144 + b1 % 64 * 4096 + b2 % 64 * 64 + b3 % 64, 4) := by
  unfold decodeN
  rw [if_neg (by omega), if_neg (by omega), if_neg (by omega), if_pos ⟨c1, ⟨by omega, c3⟩, ⟨by omega, c4⟩, c2, c5⟩, if_pos (by omega)]

theorem app_getD (e t : List UInt8) (k : Nat) (h : k < e.length) : (e ++ t).getD k 0 = e.getD k 0 := by
  simp [List.getD, List.getElem?_append_left h]

theorem take_getD (l : List UInt8) (n k : Nat) (h : k < n) : (l.take n).getD k 0 = l.getD k 0 := getD_takeU l n k h

theorem lead_ge (x : Nat) (h : x / 64 = 2) : 128 ≤ x := by omega

/-- The first rune of bytes that are UTF-8 there. -/
theorem chunk_of (l : List UInt8) (hne : l ≠ []) (hv : ¬ ((decodeL l).1 = 65533 ∧ (decodeL l).2 = 1)) : Chunk (decodeL l).1 (l.take (decodeL l).2) := by
  have hl : 0 < l.length := List.length_pos_iff.2 hne
  have hle := decodeL_le l hne
  have henc := encode_decode l hne hv
  have hlen : (l.take (decodeL l).2).length = (decodeL l).2 := by rw [List.length_take]; omega
  have k0 := (l.getD 0 0).toNat_lt
  have k1 := (l.getD 1 0).toNat_lt
  have k2 := (l.getD 2 0).toNat_lt
  have k3 := (l.getD 3 0).toNat_lt
  obtain ⟨c, hc⟩ : ∃ c, (decodeL l).1 = c := ⟨_, rfl⟩
  obtain ⟨n, hn⟩ : ∃ n, (decodeL l).2 = n := ⟨_, rfl⟩
  have hd : decodeL l = (c, n) := by rw [← hc, ← hn]
  rw [hc, hn] at hv henc
  rw [hn] at hle hlen
  rw [hc, hn]
  have hdl := hd
  rw [decodeL_N] at hd
  rcases decodeN_shape l.length (l.getD 0 0).toNat (l.getD 1 0).toNat (l.getD 2 0).toNat (l.getD 3 0).toNat with ⟨c1, e⟩ | ⟨c1, c2, c3, cv, e⟩ | ⟨c1, c2, c3, c4, cv, cs, e⟩ | ⟨c1, c2, c3, c4, c5, cv, cw, e⟩ | e
  · rw [e] at hd
    injection hd with h1 h2
    subst h2
    rw [takeA l hl] at henc hlen ⊢
    subst h1
    exact chunk_ascii _ c1
  · rw [e] at hd
    injection hd with h1 h2
    subst h2
    rw [takeB l (by omega)] at henc hlen ⊢
    refine ⟨by simp, fun t => ?_, henc, .inr ⟨?_, by omega, by simp⟩⟩
    · rw [decodeL_N, decodeN_two _ _ _ _ _ (by simpa using c1) (by simp) (by simpa using c3) (by simpa using cv)]
      simp [← h1]
    · intro b hb
      simp only [List.mem_cons, List.not_mem_nil, or_false] at hb
      rcases hb with rfl | rfl <;> omega
  · rw [e] at hd
    injection hd with h1 h2
    subst h2
    rw [takeC l (by omega)] at henc hlen ⊢
    refine ⟨by simp, fun t => ?_, henc, .inr ⟨?_, by omega, by simp⟩⟩
    · rw [decodeL_N, decodeN_three _ _ _ _ _ (by simpa using c1) (by simp) (by simpa using c3) (by simpa using c4) (by simpa using cv) (by simpa using cs)]
      simp [← h1]
    · intro b hb
      simp only [List.mem_cons, List.not_mem_nil, or_false] at hb
      rcases hb with rfl | rfl | rfl <;> omega
  · rw [e] at hd
    injection hd with h1 h2
    subst h2
    rw [takeD l (by omega)] at henc hlen ⊢
    refine ⟨by simp, fun t => ?_, henc, .inr ⟨?_, by omega, by simp⟩⟩
    · rw [decodeL_N, decodeN_four _ _ _ _ _ (by simpa using c1) (by simp) (by simpa using c3) (by simpa using c4) (by simpa using c5) (by simpa using cv) (by simpa using cw)]
      simp [← h1]
    · intro b hb
      simp only [List.mem_cons, List.not_mem_nil, or_false] at hb
      rcases hb with rfl | rfl | rfl | rfl <;> omega
  · rw [e] at hd
    injection hd with h1 h2
    exact absurd ⟨h1.symm, h2.symm⟩ hv

/-- The bytes that stand for what is no rune. -/
theorem chunk_err : Chunk 65533 [239, 191, 189] := by
  refine ⟨by simp, fun t => ?_, by decide, .inr ⟨by decide, by decide, by decide⟩⟩
  rw [decodeL_N, decodeN_three _ _ _ _ _ (by simp) (by simp) (by simp) (by simp) (by simp) (by simp)]
  simp

/-- Whatever was read is written as a rune's bytes. -/
theorem chunk_read (l : List UInt8) (hne : l ≠ []) : Chunk (decodeL l).1 (encodeRune ((decodeL l).1 : Int)) := by
  by_cases h : (decodeL l).1 = 65533 ∧ (decodeL l).2 = 1
  · rw [h.1]
    have : encodeRune ((65533 : Nat) : Int) = [239, 191, 189] := by decide
    rw [this]
    exact chunk_err
  · have := chunk_of l hne h
    rw [this.enc]
    exact this

theorem val_of : ∀ (n : Nat) (l : List UInt8), l.length ≤ n → validD l = true → Val l := by
  intro n
  induction n with
  | zero =>
    intro l hn _
    have : l = [] := List.eq_nil_of_length_eq_zero (by omega)
    subst this; exact .nil
  | succ n ih =>
    intro l hn hv
    by_cases hne : l = []
    · subst hne; exact .nil
    · rw [validD_step l hne] at hv
      split at hv
      · cases hv
      · rename_i hb
        have hw := decodeL_width l
        have hl : 0 < l.length := List.length_pos_iff.2 hne
        have := Val.cons _ _ _ (chunk_of l hne hb) (ih (l.drop (decodeL l).2) (by rw [List.length_drop]; omega) hv)
        rwa [List.take_append_drop] at this

theorem chunk_good {c : Nat} {e : List UInt8} (h : Chunk c e) : ¬ (c = 65533 ∧ e.length = 1) := by
  rintro ⟨rfl, h2⟩
  rcases h.kind with ⟨b, rfl, h3, h4⟩ | ⟨_, _, h3⟩
  · have := b.toNat_lt; omega
  · omega

theorem valid_of {l : List UInt8} (h : Val l) : validD l = true := by
  induction h with
  | nil => rfl
  | cons c e t hc _ ih =>
    rw [validD_step _ (by have := hc.ne; simp [this]), hc.dec t]
    dsimp only
    rw [if_neg (chunk_good hc), List.drop_left' rfl]
    exact ih

theorem Val.append {l m : List UInt8} (h : Val l) (k : Val m) : Val (l ++ m) := by
  induction h with
  | nil => exact k
  | cons c e t hc _ ih => rw [List.append_assoc]; exact .cons c e _ hc ih
theorem Val.single {c : Nat} {e : List UInt8} (h : Chunk c e) : Val e := by
  have := Val.cons c e [] h .nil
  rwa [List.append_nil] at this
theorem Val.ascii (l : List UInt8) (h : ∀ b ∈ l, b.toNat < 128) : Val l := by
  induction l with
  | nil => exact .nil
  | cons b t ih => exact .cons _ [b] t (chunk_ascii b (h b List.mem_cons_self)) (ih (fun x hx => h x (List.mem_cons_of_mem _ hx)))

/-! ### Quoting -/
/-- A text's letters, each of the two marked. -/
def escB (l : List UInt8) : List UInt8 := l.flatMap fun b => if b = 34 ∨ b = 92 then [92, b] else [b]
theorem escB_append (l m : List UInt8) : escB (l ++ m) = escB l ++ escB m := List.flatMap_append
theorem escB_high (e : List UInt8) (h : ∀ b ∈ e, 128 ≤ b.toNat) : escB e = e := by
  induction e with
  | nil => rfl
  | cons b t ih =>
    have hb := h b List.mem_cons_self
    have h1 : ¬ (b = 34 ∨ b = 92) := by
      rintro (rfl | rfl)
      · exact absurd hb (by decide)
      · exact absurd hb (by decide)
    show (if b = 34 ∨ b = 92 then [92, b] else [b]) ++ escB t = _
    rw [if_neg h1, ih (fun x hx => h x (List.mem_cons_of_mem _ hx))]
    rfl
theorem escB_val {l : List UInt8} (h : Val l) : Val (escB l) := by
  induction h with
  | nil => exact .nil
  | cons c e t hc _ ih =>
    rw [escB_append]
    refine Val.append ?_ ih
    rcases hc.kind with ⟨b, rfl, hb, _⟩ | ⟨hh, _, _⟩
    · show Val ((if b = 34 ∨ b = 92 then [92, b] else [b]) ++ [])
      rw [List.append_nil]
      split
      · exact Val.ascii _ (by intro x hx; simp at hx; rcases hx with rfl | rfl; decide; exact hb)
      · exact Val.ascii _ (by intro x hx; simp at hx; subst hx; exact hb)
    · rw [escB_high e hh]; exact Val.single hc
theorem escB_len (l : List UInt8) : l.length ≤ (escB l).length ∧ (escB l).length ≤ 2 * l.length := by
  induction l with
  | nil => exact ⟨Nat.le_refl _, Nat.le_refl _⟩
  | cons b t ih =>
    have : escB (b :: t) = (if b = 34 ∨ b = 92 then [92, b] else [b]) ++ escB t := rfl
    rw [this, List.length_append]
    split <;> simp <;> omega

theorem byte34 (b : UInt8) : b.toNat = 34 ↔ b = 34 := ⟨fun h => UInt8.toNat_inj.1 h, fun h => by rw [h]; rfl⟩
theorem byte92 (b : UInt8) : b.toNat = 92 ↔ b = 92 := ⟨fun h => UInt8.toNat_inj.1 h, fun h => by rw [h]; rfl⟩
theorem byte10 (b : UInt8) : b.toNat = 10 ↔ b = 10 := ⟨fun h => UInt8.toNat_inj.1 h, fun h => by rw [h]; rfl⟩

theorem drop_pos (s : ByteArray) (pos : Nat) {m : List UInt8} (h : s.data.toList.drop pos = m) (hm : m ≠ []) : pos < s.size := by
  rw [size_eq]
  rcases Nat.lt_or_ge pos s.data.toList.length with h1 | h1
  · exact h1
  · rw [List.drop_eq_nil_of_le h1] at h; exact absurd h.symm hm

theorem drop_more (s : ByteArray) (pos : Nat) {e m : List UInt8} (h : s.data.toList.drop pos = e ++ m) : s.data.toList.drop (pos + e.length) = m := by
  rw [← List.drop_drop, h, List.drop_left' rfl]

theorem decode_chunk (s : ByteArray) (pos : Nat) {c : Nat} {e m : List UInt8} (hc : Chunk c e) (h : s.data.toList.drop pos = e ++ m) : Utf8.decode s pos = (c, e.length) := by
  rw [← decodeL_drop, h, hc.dec m]

/-- What Quote writes. -/
theorem escFrom_val {l : List UInt8} (h : Val l) : ∀ (s : ByteArray) (f pos : Nat), s.data.toList.drop pos = l → l.length ≤ f → escFrom s f pos = escB l := by
  induction h with
  | nil =>
    intro s f pos hd _
    have : ¬ pos < s.size := by
      intro hp
      have := congrArg List.length hd
      rw [List.length_drop, ← size_eq, List.length_nil] at this
      omega
    cases f with
    | zero => rfl
    | succ f => rw [escFrom, if_neg this]; rfl
  | cons c e t hc _ ih =>
    intro s f pos hd hf
    have hlen : 0 < e.length := List.length_pos_iff.2 hc.ne
    rw [List.length_append] at hf
    obtain ⟨f', rfl⟩ : ∃ f', f = f' + 1 := ⟨f - 1, by omega⟩
    rw [escFrom, if_pos (drop_pos s pos hd (by simp [hc.ne])), decode_chunk s pos hc hd]
    dsimp only
    rw [ih s f' (pos + e.length) (drop_more s pos hd) (by omega), hc.enc, escB_append]
    congr 1
    rcases hc.kind with ⟨b, rfl, hb, rfl⟩ | ⟨hh, hc2, _⟩
    · simp only [byte34, byte92]
      show _ = (if b = 34 ∨ b = 92 then [92, b] else [b]) ++ []
      rw [List.append_nil]
      split <;> rfl
    · rw [if_neg (by omega), escB_high e hh]; rfl

theorem quoteA_eq (s : ByteArray) : quoteA s = if isTextL s.data.toList then 34 :: (escB s.data.toList ++ [34]) else [] := by
  unfold quoteA
  split
  · rename_i h
    unfold isTextL at h
    rw [Bool.and_eq_true] at h
    rw [escFrom_val (val_of _ _ (Nat.le_refl _) h.1) s s.size 0 (List.drop_zero) (by rw [size_eq]; exact Nat.le_refl _)]
  · rfl

/-! ### Reading what is quoted -/
theorem quoted_read {l : List UInt8} (h : Val l) : ∀ (t : ByteArray) (f pos : Nat) (acc R : List UInt8), (10 : UInt8) ∉ l → t.data.toList.drop pos = escB l ++ 34 :: R → (escB l).length < f →
    quotedFrom t f pos false acc = some (acc ++ l, pos + (escB l).length + 2) := by
  induction h with
  | nil =>
    intro t f pos acc R _ hd hf
    obtain ⟨f', rfl⟩ : ∃ f', f = f' + 1 := ⟨f - 1, by omega⟩
    have hd' : t.data.toList.drop pos = [34] ++ R := hd
    rw [quotedFrom, if_pos (drop_pos t pos hd' (by simp)), decode_chunk t pos (chunk_ascii 34 (by decide)) hd']
    simp [escB]
  | cons c e m hc _ ih =>
    intro t f pos acc R h10 hd hf
    have hlen : 0 < e.length := List.length_pos_iff.2 hc.ne
    rw [escB_append] at hd hf
    rw [List.append_assoc] at hd
    rw [List.length_append] at hf
    have h10m : (10 : UInt8) ∉ m := fun hm => h10 (List.mem_append_right _ hm)
    obtain ⟨f', rfl⟩ : ∃ f', f = f' + 1 := ⟨f - 1, by omega⟩
    rcases hc.kind with ⟨b, rfl, hb, rfl⟩ | ⟨hh, hc2, _⟩
    · have hb10 : b.toNat ≠ 10 := by
        intro hx
        rw [byte10] at hx; subst hx
        exact h10 (by simp)
      by_cases hs : b = 34 ∨ b = 92
      · have he : escB [b] = [92, b] := by show (if b = 34 ∨ b = 92 then [92, b] else [b]) ++ [] = _; rw [if_pos hs]; rfl
        rw [he] at hd hf
        have hd' : t.data.toList.drop pos = [92] ++ ([b] ++ (escB m ++ 34 :: R)) := hd
        have hd2 := drop_more t pos hd'
        have hd3 := drop_more t _ hd2
        obtain ⟨f2, rfl⟩ : ∃ f2, f' = f2 + 1 := ⟨f' - 1, by simp at hf; omega⟩
        rw [quotedFrom, if_pos (drop_pos t pos hd' (by simp)), decode_chunk t pos (chunk_ascii 92 (by decide)) hd']
        dsimp only
        rw [if_neg (by decide), if_neg (by simp), if_neg (by simp), if_pos (by simp)]
        rw [quotedFrom, if_pos (drop_pos t _ hd2 (by simp)), decode_chunk t _ (chunk_ascii b hb) hd2]
        dsimp only
        rw [if_neg hb10, if_neg (by rintro ⟨_, h1, h2⟩; rcases hs with h | h; exact h1 ((byte34 b).2 h); exact h2 ((byte92 b).2 h)), if_neg (by simp), if_neg (by simp), (chunk_ascii b hb).enc]
        rw [ih t f2 _ (acc ++ [b]) R h10m hd3 (by simp at hf; omega), escB_append, he]
        simp; omega
      · have he : escB [b] = [b] := by show (if b = 34 ∨ b = 92 then [92, b] else [b]) ++ [] = _; rw [if_neg hs]; rfl
        rw [he] at hd hf
        have hd3 := drop_more t pos hd
        rw [quotedFrom, if_pos (drop_pos t pos hd (by simp)), decode_chunk t pos (chunk_ascii b hb) hd]
        dsimp only
        rw [if_neg hb10, if_neg (by simp), if_neg (by rintro ⟨_, h⟩; exact hs (.inl ((byte34 b).1 h))), if_neg (by rintro ⟨_, h⟩; exact hs (.inr ((byte92 b).1 h))), (chunk_ascii b hb).enc]
        rw [ih t f' _ (acc ++ [b]) R h10m hd3 (by simp at hf; omega), escB_append, he]
        simp; omega
    · rw [escB_high e hh] at hd hf
      have hd3 := drop_more t pos hd
      rw [quotedFrom, if_pos (drop_pos t pos hd (by simp [hc.ne])), decode_chunk t pos hc hd]
      dsimp only
      rw [if_neg (by omega), if_neg (by simp), if_neg (by omega), if_neg (by omega), hc.enc]
      rw [ih t f' _ (acc ++ e) R h10m hd3 (by omega), escB_append, escB_high e hh]
      simp; omega

/-- What is read out of quotes is UTF-8, without a line feed. -/
theorem quotedFrom_text (t : ByteArray) : ∀ (f pos : Nat) (st : Bool) (acc : List UInt8) (x : List UInt8 × Nat), Val acc → (10 : UInt8) ∉ acc → quotedFrom t f pos st acc = some x → Val x.1 ∧ (10 : UInt8) ∉ x.1 := by
  intro f
  induction f with
  | zero => intro pos st acc x _ _ h; simp [quotedFrom] at h
  | succ f ih =>
    intro pos st acc x hv h10 h
    rw [quotedFrom] at h
    split at h
    · rename_i hp
      split at h
      · cases h
      · rename_i hc10
        split at h
        · cases h
        · split at h
          · injection h with h; subst h; exact ⟨hv, h10⟩
          · split at h
            · exact ih _ _ _ _ hv h10 h
            · have hne : t.data.toList.drop pos ≠ [] := by
                intro e
                have := congrArg List.length e
                rw [List.length_drop, ← size_eq, List.length_nil] at this
                omega
              have hch := chunk_read _ hne
              rw [decodeL_drop] at hch
              refine ih _ _ _ _ (hv.append (Val.single hch)) ?_ h
              rw [List.mem_append]
              rintro (h1 | h1)
              · exact h10 h1
              · rcases hch.kind with ⟨b, he, hb, hbc⟩ | ⟨hh, _, _⟩
                · rw [he, List.mem_singleton] at h1
                  rw [← h1] at hbc
                  exact hc10 hbc
                · exact absurd (hh 10 h1) (by decide)
    · cases h
end Go.Proofs.YtebblpmocheelaaGreatDoor
