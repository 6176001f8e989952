/- What package parse of the program computes, as plain Lean functions over tokens: no program in sight. -/
import Derived.Test.YtebblpmocheelaaGreatDoorLexP
namespace Go.Proofs.YtebblpmocheelaaGreatDoor
open Go.Lib

/-- A filter: its kind, name, text, kids. -/
inductive F where
  | mk (op : Int) (name text : List UInt8) (kids : List F)

structure M where
  name : List UInt8
  not : Bool
  value : List UInt8
  deriving DecidableEq

structure Q where
  since : Int
  till : Int
  ms : List M
  filter : F
  desc : Bool
  limit : Int
  page : List UInt8

abbrev Err := Int × Int

def hdT (ts : List Tok) : Tok := ts.headD ⟨0, [], 0, 0⟩
/-- Behind the next token; the end stays. -/
def nextR (ts : List Tok) : List Tok := if (hdT ts).kind = 0 then ts else ts.drop 1
/-- Is a token a word, or a sign, of these letters? -/
def isIt (t : Tok) (s : List UInt8) : Bool := (decide (t.kind = 2) || decide (t.kind = 5)) && decide (t.says = s)
def mustR (ts : List Tok) (s : List UInt8) : Except Err (List Tok) := if isIt (hdT ts) s = true then .ok (nextR ts) else .error (5, (hdT ts).place)
def kindR (ts : List Tok) (k : Int) : Except Err (Tok × List Tok) := if (hdT ts).kind = k then .ok (hdT ts, nextR ts) else .error (5, (hdT ts).place)
def textR (ts : List Tok) : Except Err (List UInt8 × List Tok) := match kindR ts 4 with
  | .ok x => .ok (x.1.says, x.2)
  | .error e => .error e
def numberR (ts : List Tok) (s : List UInt8) (can : Int → Bool) : Except Err (Int × List Tok) := match mustR ts s with
  | .error e => .error e
  | .ok r => match kindR r 3 with
    | .error e => .error e
    | .ok x => if can x.1.n = true then .ok (x.1.n, x.2) else .error (6, x.1.place)

def wNot : List UInt8 := [110, 111, 116]
def wOpen : List UInt8 := [40]
def wShut : List UInt8 := [41]
def wTrue : List UInt8 := [116, 114, 117, 101]
def wFalse : List UInt8 := [102, 97, 108, 115, 101]
def wWord : List UInt8 := [119, 111, 114, 100]
def wHas : List UInt8 := [104, 97, 115]
def wField : List UInt8 := [102, 105, 101, 108, 100]
def wEq : List UInt8 := [61]
def wNe : List UInt8 := [33, 61]
def wAnd : List UInt8 := [97, 110, 100]
def wOr : List UInt8 := [111, 114]
def wWhere : List UInt8 := [119, 104, 101, 114, 101]
def wFrom : List UInt8 := [102, 114, 111, 109]
def wTo : List UInt8 := [116, 111]
def wFind : List UInt8 := [102, 105, 110, 100]
def wDesc : List UInt8 := [100, 101, 115, 99]
def wLimit : List UInt8 := [108, 105, 109, 105, 116]
def wPage : List UInt8 := [112, 97, 103, 101]

/-- What a row of kids is. -/
def rowF (op : Int) (kids : List F) : F := match kids with
  | [f] => f
  | _ => F.mk op [] [] kids
/-- Filters with a word between. -/
def rowR (op : Int) (word : List UInt8) (next : List Tok → Except Err (F × List Tok)) : Nat → List F → List Tok → Except Err (F × List Tok)
  | 0, _, _ => .error (0, 0)
  | m + 1, kids, ts =>
    if kids.length = 0 then
      match next ts with
      | .error e => .error e
      | .ok x => rowR op word next m (kids ++ [x.1]) x.2
    else if isIt (hdT ts) word = true then
      match next (nextR ts) with
      | .error e => .error e
      | .ok x => rowR op word next m (kids ++ [x.1]) x.2
    else .ok (rowF op kids, ts)
def andR (atom : List Tok → Except Err (F × List Tok)) (ts : List Tok) : Except Err (F × List Tok) := rowR 7 wAnd atom (ts.length + 1) [] ts
def orR (atom : List Tok → Except Err (F × List Tok)) (ts : List Tok) : Except Err (F × List Tok) := rowR 8 wOr (andR atom) (ts.length + 1) [] ts

def leafR (op : Int) (ts : List Tok) : Except Err (F × List Tok) := match textR ts with
  | .error e => .error e
  | .ok x => .ok (F.mk op [] x.1 [], x.2)
def fieldR (ts : List Tok) : Except Err (F × List Tok) := match kindR ts 1 with
  | .error e => .error e
  | .ok x => match mustR x.2 wEq with
    | .error e => .error e
    | .ok r => match textR r with
      | .error e => .error e
      | .ok y => .ok (F.mk 5 x.1.says y.1 [], y.2)
def notR (r : Except Err (F × List Tok)) : Except Err (F × List Tok) := match r with
  | .error e => .error e
  | .ok x => .ok (F.mk 6 [] [] [x.1], x.2)
def shutR (r : Except Err (F × List Tok)) : Except Err (F × List Tok) := match r with
  | .error e => .error e
  | .ok x => match mustR x.2 wShut with
    | .error e => .error e
    | .ok r => .ok (x.1, r)
/-- parse's atom, of tokens, at a depth. -/
def atomR : Nat → Nat → List Tok → Except Err (F × List Tok)
  | 0, _, _ => .error (0, 0)
  | n + 1, d, ts =>
    if isIt (hdT ts) wNot = true then (if 8 ≤ d then .error (6, (hdT ts).place) else notR (atomR n (d + 1) (nextR ts)))
    else if isIt (hdT ts) wOpen = true then (if 8 ≤ d then .error (6, (hdT ts).place) else shutR (orR (atomR n (d + 1)) (nextR ts)))
    else if isIt (hdT ts) wTrue = true then .ok (F.mk 1 [] [] [], nextR ts)
    else if isIt (hdT ts) wFalse = true then .ok (F.mk 2 [] [] [], nextR ts)
    else if isIt (hdT ts) wWord = true then leafR 3 (nextR ts)
    else if isIt (hdT ts) wHas = true then leafR 4 (nextR ts)
    else if isIt (hdT ts) wField = true then fieldR (nextR ts)
    else .error (5, (hdT ts).place)

/-- One matcher, behind "where". -/
def matcherR (ts : List Tok) : Except Err (M × List Tok) := match kindR ts 1 with
  | .error e => .error e
  | .ok x =>
    if isIt (hdT x.2) wNe = true then
      match textR (nextR x.2) with
      | .error e => .error e
      | .ok y => .ok (⟨x.1.says, true, y.1⟩, y.2)
    else match mustR x.2 wEq with
      | .error e => .error e
      | .ok r => match textR r with
        | .error e => .error e
        | .ok y => .ok (⟨x.1.says, false, y.1⟩, y.2)
def matchersR : Nat → List M → List Tok → Except Err (List M × List Tok)
  | 0, _, _ => .error (0, 0)
  | m + 1, out, ts =>
    if isIt (hdT ts) wWhere = true then
      if out.length = 4 then .error (6, (hdT ts).place)
      else match matcherR (nextR ts) with
        | .error e => .error e
        | .ok x => matchersR m (out ++ [x.1]) x.2
    else .ok (out, ts)

def timeOk (n : Int) : Bool := decide (-1099511627776 ≤ n) && decide (n ≤ 1099511627776)
def limitOk (n : Int) : Bool := decide (1 ≤ n) && decide (n ≤ 50)
def timesR (ts : List Tok) : Except Err (Int × Int × List Tok) := match numberR ts wFrom timeOk with
  | .error e => .error e
  | .ok x => match numberR x.2 wTo timeOk with
    | .error e => .error e
    | .ok y => if y.1 < x.1 then .error (7, (hdT x.2).place) else .ok (x.1, y.1, y.2)
def findR (ts : List Tok) : Except Err (F × List Tok) := if isIt (hdT ts) wFind = true then orR (atomR (ts.length + 1) 0) (nextR ts) else .ok (F.mk 1 [] [] [], ts)
def pageR (ts : List Tok) : Except Err (List UInt8 × List Tok) := if isIt (hdT ts) wPage = true then textR (nextR ts) else .ok ([], ts)
def descR (ts : List Tok) : List Tok := if isIt (hdT ts) wDesc = true then nextR ts else ts
def queryR (ts : List Tok) : Except Err Q := match timesR ts with
  | .error e => .error e
  | .ok a => match matchersR (a.2.2.length + 1) [] a.2.2 with
    | .error e => .error e
    | .ok b => match findR b.2 with
      | .error e => .error e
      | .ok c => match numberR (descR c.2) wLimit limitOk with
        | .error e => .error e
        | .ok d => match pageR d.2 with
          | .error e => .error e
          | .ok p => match kindR p.2 0 with
            | .error e => .error e
            | .ok _ => .ok ⟨a.1, a.2.1, b.1, c.1, isIt (hdT c.2) wDesc, d.1, p.1⟩
/-- parse.Parse. -/
def parseA (s : ByteArray) : Except Err Q := match lexA s with
  | .error e => .error e
  | .ok l => queryR l

/-! ### What is taken -/
theorem nextR_le (ts : List Tok) : (nextR ts).length ≤ ts.length := by
  unfold nextR
  split
  · exact Nat.le_refl _
  · rw [List.length_drop]; omega
theorem nextR_lt (ts : List Tok) (h : (hdT ts).kind ≠ 0) : (nextR ts).length < ts.length := by
  unfold nextR
  rw [if_neg h, List.length_drop]
  cases ts with
  | nil => exact absurd rfl h
  | cons t r => simp
theorem isIt_kind {t : Tok} {s : List UInt8} (h : isIt t s = true) : t.kind ≠ 0 := by
  unfold isIt at h
  simp only [Bool.and_eq_true, Bool.or_eq_true, decide_eq_true_eq] at h
  rcases h.1 with h | h <;> rw [h] <;> decide
theorem isIt_lt {ts : List Tok} {s : List UInt8} (h : isIt (hdT ts) s = true) : (nextR ts).length < ts.length := nextR_lt ts (isIt_kind h)
theorem mustR_lt {ts r : List Tok} {s : List UInt8} (h : mustR ts s = .ok r) : r.length < ts.length := by
  unfold mustR at h
  split at h
  · rename_i hi; injection h with h; subst h; exact isIt_lt hi
  · cases h
theorem kindR_le {ts : List Tok} {k : Int} {x : Tok × List Tok} (h : kindR ts k = .ok x) : x.2.length ≤ ts.length := by
  unfold kindR at h
  split at h
  · injection h with h; subst h; exact nextR_le ts
  · cases h
theorem kindR_lt {ts : List Tok} {k : Int} {x : Tok × List Tok} (hk : k ≠ 0) (h : kindR ts k = .ok x) : x.2.length < ts.length := by
  unfold kindR at h
  split at h
  · rename_i hi; injection h with h; subst h; exact nextR_lt ts (by rw [hi]; exact hk)
  · cases h
theorem textR_lt {ts : List Tok} {x : List UInt8 × List Tok} (h : textR ts = .ok x) : x.2.length < ts.length := by
  unfold textR at h
  split at h
  · rename_i y hy; injection h with h; subst h; exact kindR_lt (by decide) hy
  · cases h
theorem leafR_lt {op : Int} {ts : List Tok} {x : F × List Tok} (h : leafR op ts = .ok x) : x.2.length < ts.length := by
  unfold leafR at h
  split at h
  · cases h
  · rename_i y hy; injection h with h; subst h; exact textR_lt hy
theorem fieldR_lt {ts : List Tok} {x : F × List Tok} (h : fieldR ts = .ok x) : x.2.length < ts.length := by
  unfold fieldR at h
  split at h
  · cases h
  · rename_i y hy
    split at h
    · cases h
    · rename_i r hr
      split at h
      · cases h
      · rename_i z hz
        injection h with h; subst h
        have := kindR_lt (by decide) hy
        have := mustR_lt hr
        have := textR_lt hz
        dsimp only; omega

/-- Each takes at least one. -/
def Takes (next : List Tok → Except Err (F × List Tok)) : Prop := ∀ ts x, next ts = .ok x → x.2.length < ts.length
theorem rowR_lt {op : Int} {word : List UInt8} {next : List Tok → Except Err (F × List Tok)} (hn : Takes next) : ∀ (m : Nat) (kids : List F) (ts : List Tok) (x : F × List Tok), rowR op word next m kids ts = .ok x →
    x.2.length ≤ ts.length ∧ (kids.length = 0 → x.2.length < ts.length) := by
  intro m
  induction m with
  | zero => intro kids ts x h; cases h
  | succ m ih =>
    intro kids ts x h
    rw [rowR] at h
    split at h
    · split at h
      · cases h
      · rename_i y hy
        have h1 := hn ts y hy
        have h2 := (ih _ _ _ h).1
        exact ⟨by omega, fun _ => by omega⟩
    · rename_i h0
      split at h
      · rename_i hi
        split at h
        · cases h
        · rename_i y hy
          have h1 := hn _ y hy
          have h2 := (ih _ _ _ h).1
          have h3 := isIt_lt hi
          exact ⟨by omega, fun h => absurd h h0⟩
      · injection h with h; subst h
        exact ⟨Nat.le_refl _, fun h => absurd h h0⟩
theorem andR_takes {atom : List Tok → Except Err (F × List Tok)} (h : Takes atom) : Takes (andR atom) := fun _ _ hx => (rowR_lt h _ _ _ _ hx).2 rfl
theorem orR_takes {atom : List Tok → Except Err (F × List Tok)} (h : Takes atom) : Takes (orR atom) := fun _ _ hx => (rowR_lt (andR_takes h) _ _ _ _ hx).2 rfl
theorem atomR_takes : ∀ n d, Takes (atomR n d) := by
  intro n
  induction n with
  | zero => intro d ts x h; cases h
  | succ n ih =>
    intro d ts x h
    rw [atomR] at h
    split at h
    · rename_i hi
      split at h
      · cases h
      · unfold notR at h
        split at h
        · cases h
        · rename_i y hy
          injection h with h; subst h
          have := ih _ _ _ hy
          have := isIt_lt hi
          dsimp only; omega
    split at h
    · rename_i hi
      split at h
      · cases h
      · unfold shutR at h
        split at h
        · cases h
        · rename_i y hy
          split at h
          · cases h
          · rename_i r hr
            injection h with h; subst h
            have := orR_takes (ih _) _ _ hy
            have := mustR_lt hr
            have := isIt_lt hi
            dsimp only; omega
    split at h
    · rename_i hi; injection h with h; subst h; exact isIt_lt hi
    split at h
    · rename_i hi; injection h with h; subst h; exact isIt_lt hi
    split at h
    · rename_i hi; have := leafR_lt h; have := isIt_lt hi; omega
    split at h
    · rename_i hi; have := leafR_lt h; have := isIt_lt hi; omega
    split at h
    · rename_i hi; have := fieldR_lt h; have := isIt_lt hi; omega
    · cases h
end Go.Proofs.YtebblpmocheelaaGreatDoor
