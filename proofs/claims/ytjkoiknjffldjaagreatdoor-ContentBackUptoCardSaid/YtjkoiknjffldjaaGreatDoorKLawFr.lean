/-
  Plain laws of printed numbers: places behind a point, without their last noughts. No program here.
-/
import Derived.Test.YtjkoiknjffldjaaGreatDoorKLawDec
/-
  Plain laws of printed numbers: places behind a point, without their last noughts. No program here.
-/
namespace Go.Proofs.YtjkoiknjffldjaaGreatDoor
set_option linter.unusedVariables false

/-- a nought more behind the point changes nothing -/
theorem fr_zero (k : Nat) (l : List UInt8) (n : Nat) (h : l.length < k) : fr k (l ++ [48]) n = fr k l n := by
  rw [fr_eq, fr_eq, List.take_of_length_le (by simp; omega), List.take_of_length_le (by omega), vl_snoc, List.length_append, List.length_singleton]
  have e : (48 : UInt8).toNat - 48 = 0 := by decide
  rw [e, Nat.add_zero, show k - l.length = (k - (l.length + 1)) + 1 by omega, Nat.pow_succ, Nat.mul_comm 10 (vl l n), Nat.mul_assoc, Nat.mul_comm 10]

/-- the last noughts of digits, but for the first digit, are struck (fuel: the length) -/
def trim : Nat → List UInt8 → List UInt8
  | 0, l => l
  | k + 1, l => if 1 < l.length ∧ l.getLast? = some 48 then trim k l.dropLast else l

theorem fr_trim : ∀ (k : Nat) (l : List UInt8) (n : Nat), l.length ≤ 5 → fr 5 (trim k l) n = fr 5 l n
  | 0, l, n, h => rfl
  | k + 1, l, n, h => by
    rw [trim]
    by_cases hc : 1 < l.length ∧ l.getLast? = some 48
    · rw [if_pos hc, fr_trim k l.dropLast n (by rw [List.length_dropLast]; omega)]
      have e : l = l.dropLast ++ [48] := by
        obtain ⟨h1, h2⟩ := hc
        have hne : l ≠ [] := by intro q; subst q; simp at h1
        have h3 := List.dropLast_concat_getLast hne
        rw [List.getLast?_eq_some_getLast hne] at h2
        injection h2 with h2
        rw [h2] at h3
        exact h3.symm
      conv => rhs; rw [e]
      rw [fr_zero 5 l.dropLast n (by rw [List.length_dropLast]; omega)]
    · rw [if_neg hc]
end Go.Proofs.YtjkoiknjffldjaaGreatDoor
