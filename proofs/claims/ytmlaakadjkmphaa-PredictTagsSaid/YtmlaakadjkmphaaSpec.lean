/-
  What predict computes, in plain lists: rows undone, rows done. No program here.
-/
import Derived.Test.YtmlaakadjkmphaaMem
import Derived.Test.YtmlaakadjkmphaaGuess
import Derived.Test.YtmlaakadjkmphaaShape
import Derived.Test.YtmlaakadjkmphaaParts
namespace Go.Proofs.Ytmlaakadjkmphaa
open Go.RowKit
set_option linter.unusedVariables false

def byteOf (n : Int) : UInt8 := UInt8.ofNat (n % 256).toNat
theorem byteOf_nat (n : Int) : ((byteOf n).toNat : Int) = n % 256 := by
  unfold byteOf
  rw [UInt8.toNat_ofNat', Nat.mod_eq_of_lt (by omega)]
  omega

theorem rowAt_length {b : List UInt8} {n r : Nat} (h : (r + 1) * n ≤ b.length) : (rowAt b n r).length = n := by
  unfold rowAt
  rw [Nat.succ_mul] at h
  rw [List.length_take, List.length_drop]; omega
theorem rows_le {L M R r : Nat} (hM : 1 ≤ M) (hR : R = L / M) (h : r < R) : (r + 1) * M ≤ L := by
  subst hR
  have h1 : (r + 1) * M ≤ (L / M) * M := Nat.mul_le_mul_right M h
  have h2 := Nat.div_mul_le_self L M
  omega

/-- one byte undone -/
def undo1 (tag : Int) (c : Nat) (above x r : List UInt8) (k : Nat) : UInt8 := byteOf (b8 x k + guessI tag (lfI r k c) (b8 above k) (lfI above k c))
/-- the first k bytes of a row undone -/
def undoTo (tag : Int) (c : Nat) (above x : List UInt8) : Nat → List UInt8
  | 0 => []
  | k + 1 => undoTo tag c above x k ++ [undo1 tag c above x (undoTo tag c above x k) k]
theorem undoTo_length (tag : Int) (c : Nat) (above x : List UInt8) (k : Nat) : (undoTo tag c above x k).length = k := by
  induction k with
  | zero => rfl
  | succ k ih => simp [undoTo, ih]

/-- one byte done -/
def do1 (tag : Int) (c : Nat) (above x : List UInt8) (k : Nat) : UInt8 := byteOf (b8 x k - guessI tag (lfI x k c) (b8 above k) (lfI above k c))
def doTo (tag : Int) (c : Nat) (above x : List UInt8) : Nat → List UInt8
  | 0 => []
  | k + 1 => doTo tag c above x k ++ [do1 tag c above x k]
theorem doTo_length (tag : Int) (c : Nat) (above x : List UInt8) (k : Nat) : (doTo tag c above x k).length = k := by
  induction k with
  | zero => rfl
  | succ k ih => simp [doTo, ih]

/-- after r rows: what came out, and the row ahead; none: a tag that is none -/
def decTo (head c n : Nat) (b : List UInt8) : Nat → Option (List UInt8 × List UInt8)
  | 0 => some ([], [])
  | r + 1 => match decTo head c n b r with
    | none => none
    | some (out, above) =>
      let x := rowAt b (head + n) r
      let tag := if head = 1 then b8 x 0 else 1
      if 4 < tag then none else some (out ++ undoTo tag c above (x.drop head) n, undoTo tag c above (x.drop head) n)

theorem decTo_none (head c n : Nat) (b : List UInt8) {r R : Nat} (h : decTo head c n b r = none) (hr : r ≤ R) : decTo head c n b R = none := by
  induction R with
  | zero => obtain rfl : r = 0 := by omega
            exact h
  | succ R ih =>
    by_cases he : r = R + 1
    · subst he; exact h
    · simp only [decTo, ih (by omega)]

theorem decTo_bad {c n r : Nat} {b out above : List UInt8} (h : decTo 1 c n b r = some (out, above)) (ht : 4 < b8 (rowAt b (1 + n) r) 0) : decTo 1 c n b (r + 1) = none := by
  simp [decTo, h, ht]
theorem decTo_step1 {c n r : Nat} {b out above : List UInt8} (h : decTo 1 c n b r = some (out, above)) (ht : ¬ 4 < b8 (rowAt b (1 + n) r) 0) :
    decTo 1 c n b (r + 1) = some (out ++ undoTo (b8 (rowAt b (1 + n) r) 0) c above ((rowAt b (1 + n) r).drop 1) n, undoTo (b8 (rowAt b (1 + n) r) 0) c above ((rowAt b (1 + n) r).drop 1) n) := by
  simp [decTo, h, ht]
theorem decTo_step0 {c n r : Nat} {b out above : List UInt8} (h : decTo 0 c n b r = some (out, above)) :
    decTo 0 c n b (r + 1) = some (out ++ undoTo 1 c above ((rowAt b (0 + n) r).drop 0) n, undoTo 1 c above ((rowAt b (0 + n) r).drop 0) n) := by
  simp [decTo, h]

/-- after r rows: what came out -/
def encTo (tagged : Bool) (tag : Int) (c n : Nat) (b : List UInt8) : Nat → List UInt8
  | 0 => []
  | r + 1 => encTo tagged tag c n b r ++ (if tagged then [byteOf tag] else []) ++ doTo tag c (if r = 0 then [] else rowAt b n (r - 1)) (rowAt b n r) n

def headOf (p : Int) : Nat := if 10 ≤ p then 1 else 0
def tagOf (p : Int) : Int := if p = 15 then 2 else if 10 ≤ p then p - 10 else 1

def decEnd : Option (List UInt8 × List UInt8) → List UInt8 × Int
  | none => ([], 4)
  | some (out, _) => (out, 0)

def decode (p c m : Int) (b : List UInt8) : List UInt8 × Int :=
  if mayB p c m = false then ([], 1)
  else if p = 1 then (b, 0)
  else if b.length % (headOf p + c.toNat * m.toNat) ≠ 0 then ([], 4)
  else decEnd (decTo (headOf p) c.toNat (c.toNat * m.toNat) b (b.length / (headOf p + c.toNat * m.toNat)))

def encode (p c m : Int) (b : List UInt8) : List UInt8 × Int :=
  if mayB p c m = false then ([], 1)
  else if p = 1 then (b, 0)
  else if b.length % (c.toNat * m.toNat) ≠ 0 then ([], 4)
  else (encTo (decide (10 ≤ p)) (tagOf p) c.toNat (c.toNat * m.toNat) b (b.length / (c.toNat * m.toNat)), 0)
end Go.Proofs.Ytmlaakadjkmphaa
