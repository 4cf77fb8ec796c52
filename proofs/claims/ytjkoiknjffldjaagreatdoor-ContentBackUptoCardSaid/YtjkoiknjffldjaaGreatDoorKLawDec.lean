/-
  Plain laws of printed numbers: the digits of a number say it. No program here.
-/
import Derived.Test.YtjkoiknjffldjaaGreatDoorKLawBl
import Derived.Test.YtjkoiknjffldjaaGreatDoorJb
/-
  Plain laws of printed numbers: the digits of a number say it. No program here.
-/
namespace Go.Proofs.YtjkoiknjffldjaaGreatDoor
set_option linter.unusedVariables false

/-- a digit -/
def dg1 (n : Nat) : UInt8 := UInt8.ofNat (48 + n % 10)
/-- a number's digits; at most k behind the first -/
def dec : Nat → Nat → List UInt8
  | 0, n => [dg1 n]
  | k + 1, n => if n < 10 then [dg1 n] else dec k (n / 10) ++ [dg1 n]

theorem dg1_nat (n : Nat) : (dg1 n).toNat = 48 + n % 10 := by
  unfold dg1; rw [UInt8.toNat_ofNat', Nat.mod_eq_of_lt (by omega)]
theorem dg1_isd (n : Nat) : isd (c8 (dg1 n)) = true := by
  rw [isd_iff]; unfold c8; rw [dg1_nat]; omega
theorem dec_isd : ∀ (k n : Nat), ∀ x ∈ dec k n, isd (c8 x) = true
  | 0, n, x, h => by simp [dec] at h; rw [h]; exact dg1_isd n
  | k + 1, n, x, h => by
    rw [dec] at h
    split at h
    · simp at h; rw [h]; exact dg1_isd n
    · rw [List.mem_append] at h
      rcases h with h | h
      · exact dec_isd k _ x h
      · simp at h; rw [h]; exact dg1_isd n
theorem vl_dec : ∀ (k n : Nat), n < 10 ^ (k + 1) → vl (dec k n) 0 = n
  | 0, n, h => by
    have : n < 10 := by simpa using h
    simp [dec, vl, dg1_nat]; omega
  | k + 1, n, h => by
    rw [dec]
    by_cases hn : n < 10
    · rw [if_pos hn]; simp [vl, dg1_nat]; omega
    · have h2 : n / 10 < 10 ^ (k + 1) := by
        rw [Nat.pow_succ] at h
        omega
      rw [if_neg hn, vl_snoc, vl_dec k _ h2, dg1_nat]
      omega
theorem dec_ne (k n : Nat) : dec k n ≠ [] := by
  cases k with
  | zero => simp [dec]
  | succ k => rw [dec]; split <;> simp

theorem dgs_all : ∀ (l r : List UInt8), (∀ x ∈ l, isd (c8 x) = true) → ¬ isd (hd r) = true → dgs (l ++ r) = l.length
  | [], r, _, hr => by
    cases r with
    | nil => rfl
    | cons x t => rw [List.nil_append, dgs, if_neg (by rw [hd_cons] at hr; exact hr)]; rfl
  | x :: l, r, h, hr => by
    rw [List.cons_append, dgs, if_pos (h x (by simp)), dgs_all l r (fun y hy => h y (by simp [hy])) hr, List.length_cons]; omega

/-- a whole number as it is printed -/
def pwh (n : Int) : List UInt8 := (if n < 0 then [45] else []) ++ dec 19 n.natAbs

theorem hd_dec (k n : Nat) (r : List UInt8) : isd (hd (dec k n ++ r)) = true := by
  cases hq : dec k n with
  | nil => exact absurd hq (dec_ne k n)
  | cons x t => exact dec_isd k n x (by rw [hq]; simp)

theorem np_pwh (n : Int) (h : -2147483647 ≤ n) (h' : n ≤ 2147483647) : np (pwh n) = (n, true, 0) := by
  have hv := vl_dec 19 n.natAbs (by omega)
  have hd1 := hd_dec 19 n.natAbs []
  rw [List.append_nil, isd_iff] at hd1
  have hds : dgs (dec 19 n.natAbs) = (dec 19 n.natAbs).length := by
    have := dgs_all (dec 19 n.natAbs) [] (dec_isd 19 _) (by decide)
    rwa [List.append_nil] at this
  have hlen : 0 < (dec 19 n.natAbs).length := List.length_pos_iff.2 (dec_ne _ _)
  have key : ∀ g : Int, numb g ((dec 19 n.natAbs).take (dgs (dec 19 n.natAbs))) ((dec 19 n.natAbs).drop (dgs (dec 19 n.natAbs))) = (g * (n.natAbs : Int), true, 0) := fun g => by
    rw [hds, List.take_length, List.drop_length, numb, if_neg (by omega), hv, if_neg (by omega)]
  unfold pwh np
  by_cases hn : n < 0
  · have s1 : sgn (45 :: dec 19 n.natAbs) = -1 := by unfold sgn; rw [hd_cons, if_pos (show c8 45 = 45 by decide)]
    have s2 : uns (45 :: dec 19 n.natAbs) = dec 19 n.natAbs := by unfold uns; rw [if_pos (.inr (show c8 45 = 45 by decide))]; rfl
    rw [if_pos hn, List.singleton_append, s1, s2, key]
    congr 1; omega
  · have s1 : sgn (dec 19 n.natAbs) = 1 := by unfold sgn; rw [if_neg (by omega)]
    have s2 : uns (dec 19 n.natAbs) = dec 19 n.natAbs := by unfold uns; rw [if_neg (by omega)]
    rw [if_neg hn, List.nil_append, s1, s2, key]
    congr 1; omega
end Go.Proofs.YtjkoiknjffldjaaGreatDoor
