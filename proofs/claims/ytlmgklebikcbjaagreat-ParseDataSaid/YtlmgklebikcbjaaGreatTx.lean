/-
  The plain model of what stands behind a stroke, a bracket, a sign: names, strings, digits; of a token. No program here.
-/
import Derived.Test.YtlmgklebikcbjaaGreatLx
namespace Go.Proofs.YtlmgklebikcbjaaGreat
set_option linter.unusedVariables false

/-- what a reader of bytes answers: an error, or the bytes and what stands behind them -/
inductive Res where
  | bad (e : Int)
  | ok (out rest : List UInt8)
deriving DecidableEq

/-- a name, behind its stroke -/
def nm : List UInt8 → List UInt8 → Res
  | [], out => .ok out []
  | c :: s, out =>
    if rg (c8 c) = true then
      if c8 c = 35 then
        match s with
        | x :: y :: t => if dig (c8 x) < 0 ∨ dig (c8 y) < 0 ∨ 16 * dig (c8 x) + dig (c8 y) = 0 then .bad 4 else if 127 ≤ out.length then .bad 3 else nm t (out ++ [byteOf (16 * dig (c8 x) + dig (c8 y))])
        | _ => .bad 4
      else if 127 ≤ out.length then .bad 3 else nm s (out ++ [c])
    else .ok out (c :: s)

theorem nm_cons (c : UInt8) (s out : List UInt8) : nm (c :: s) out = if rg (c8 c) = true then
      if c8 c = 35 then
        if dig (hd s) < 0 ∨ dig (hd s.tail) < 0 ∨ 16 * dig (hd s) + dig (hd s.tail) = 0 then .bad 4 else if 127 ≤ out.length then .bad 3 else nm (s.drop 2) (out ++ [byteOf (16 * dig (hd s) + dig (hd s.tail))])
      else if 127 ≤ out.length then .bad 3 else nm s (out ++ [c])
    else .ok out (c :: s) := by
  have dn : dig (-1) = -1 := by decide
  rcases s with _ | ⟨x, _ | ⟨y, t⟩⟩ <;> simp [nm, hd, dn]

/-- an end of line's second sign -/
def sk : List UInt8 → List UInt8
  | [] => []
  | x :: t => if c8 x = 10 then t else x :: t

/-- digits behind the first: the number, the rest -/
def oc : Nat → Int → List UInt8 → Int × List UInt8
  | 0, n, s => (n, s)
  | k + 1, n, [] => (n, [])
  | k + 1, n, x :: s => if 48 ≤ c8 x ∧ c8 x ≤ 55 then oc k (8 * n + (c8 x - 48)) s else (n, x :: s)

/-- behind a backslash and a sign: the byte, -1: none; the rest -/
def es (c : Int) (s : List UInt8) : Int × List UInt8 :=
  if c = 110 then (10, s) else if c = 114 then (13, s) else if c = 116 then (9, s) else if c = 98 then (8, s) else if c = 102 then (12, s)
  else if c = 10 then (-1, s) else if c = 13 then (-1, sk s)
  else if 48 ≤ c ∧ c ≤ 55 then ((oc 2 (c - 48) s).1 % 256, (oc 2 (c - 48) s).2)
  else (c, s)

/-- one part of a string: the byte, -1: none; the rest; -/
def tx : Nat → List UInt8 → Nat → List UInt8 → Res
  | 0, _, _, _ => .bad 2
  | _ + 1, [], _, _ => .bad 2
  | k + 1, x :: s, o, out =>
    if c8 x = 92 then
      if hd s < 0 then .bad 2
      else if (es (hd s) s.tail).1 < 0 then tx k (es (hd s) s.tail).2 o out else if 32767 ≤ out.length then .bad 3 else tx k (es (hd s) s.tail).2 o (out ++ [byteOf (es (hd s) s.tail).1])
    else if c8 x = 41 ∧ o = 1 then .ok out s
    else if 32767 ≤ out.length then .bad 3
    else if c8 x = 10 then tx k s o (out ++ [10])
    else if c8 x = 13 then tx k (sk s) o (out ++ [10])
    else tx k s (if c8 x = 40 then o + 1 else if c8 x = 41 then o - 1 else o) (out ++ [x])

theorem sk_len (s : List UInt8) : (sk s).length ≤ s.length := by
  cases s with
  | nil => exact Nat.le_refl _
  | cons x t => rw [sk]; split <;> simp
theorem oc_len : ∀ (k : Nat) (n : Int) (s : List UInt8), (oc k n s).2.length ≤ s.length
  | 0, n, s => Nat.le_refl _
  | k + 1, n, [] => Nat.le_refl _
  | k + 1, n, x :: s => by
    rw [oc]; split
    · have := oc_len k (8 * n + (c8 x - 48)) s; rw [List.length_cons]; omega
    · exact Nat.le_refl _
theorem es_len (c : Int) (s : List UInt8) : (es c s).2.length ≤ s.length := by
  have h1 := sk_len s
  have h2 := oc_len 2 (c - 48) s
  unfold es
  repeat (split; · first | exact Nat.le_refl _ | exact h1 | exact h2)
  exact Nat.le_refl _

/-- enough is enough -/
theorem tx_more : ∀ (k m : Nat) (s : List UInt8) (o : Nat) (out : List UInt8), s.length < k → s.length < m → tx k s o out = tx m s o out
  | 0, m, s, o, out, h, _ => absurd h (Nat.not_lt_zero _)
  | k + 1, 0, s, o, out, _, h => absurd h (Nat.not_lt_zero _)
  | k + 1, m + 1, [], o, out, _, _ => rfl
  | k + 1, m + 1, x :: s, o, out, h, h' => by
    rw [List.length_cons] at h h'
    have hs := sk_len s
    have ih := tx_more k m
    rw [tx, tx]
    have he := es_len (hd s) s.tail
    rw [List.length_tail] at he
    simp only [ih s _ _ (by omega) (by omega), ih (sk s) _ _ (by omega) (by omega), ih (es (hd s) s.tail).2 _ _ (by omega) (by omega)]

/-- a string, behind its bracket, within so many brackets -/
def TX (s : List UInt8) (o : Nat) (out : List UInt8) : Res := tx (s.length + 1) s o out

theorem TX_nil (o : Nat) (out : List UInt8) : TX [] o out = .bad 2 := rfl
theorem TX_cons (x : UInt8) (s : List UInt8) (o : Nat) (out : List UInt8) : TX (x :: s) o out =
    if c8 x = 92 then
      if hd s < 0 then .bad 2
      else if (es (hd s) s.tail).1 < 0 then TX (es (hd s) s.tail).2 o out else if 32767 ≤ out.length then .bad 3 else TX (es (hd s) s.tail).2 o (out ++ [byteOf (es (hd s) s.tail).1])
    else if c8 x = 41 ∧ o = 1 then .ok out s
    else if 32767 ≤ out.length then .bad 3
    else if c8 x = 10 then TX s o (out ++ [10])
    else if c8 x = 13 then TX (sk s) o (out ++ [10])
    else TX s (if c8 x = 40 then o + 1 else if c8 x = 41 then o - 1 else o) (out ++ [x]) := by
  have hs := sk_len s
  have e0 : TX (x :: s) o out = tx (s.length + 1 + 1) (x :: s) o out := rfl
  rw [e0, tx]
  unfold TX
  have he := es_len (hd s) s.tail
  rw [List.length_tail] at he
  rw [tx_more (s.length + 1) ((sk s).length + 1) (sk s) _ _ (by omega) (by omega)]
  simp only [tx_more (s.length + 1) ((es (hd s) s.tail).2.length + 1) (es (hd s) s.tail).2 _ _ (by omega) (by omega)]

/-- digits by pairs, behind the sign; half: the first of a pair, -1: none -/
def hx : List UInt8 → Int → List UInt8 → Res
  | [], _, _ => .bad 2
  | x :: s, h, out =>
    if wh (c8 x) = true then hx s h out
    else if c8 x = 62 then
      if h < 0 then .ok out s else if 32767 ≤ out.length then .bad 3 else .ok (out ++ [byteOf (16 * h)]) s
    else if dig (c8 x) < 0 then .bad 4
    else if h < 0 then hx s (dig (c8 x)) out
    else if 32767 ≤ out.length then .bad 3
    else hx s (-1) (out ++ [byteOf (16 * h + dig (c8 x))])

/-- how many regular signs stand there -/
def rn : List UInt8 → Nat
  | [] => 0
  | x :: s => if rg (c8 x) = true then 1 + rn s else 0
theorem rn_le : ∀ s : List UInt8, rn s ≤ s.length
  | [] => Nat.le_refl _
  | x :: s => by have := rn_le s; rw [rn, List.length_cons]; split <;> omega
end Go.Proofs.YtlmgklebikcbjaaGreat
