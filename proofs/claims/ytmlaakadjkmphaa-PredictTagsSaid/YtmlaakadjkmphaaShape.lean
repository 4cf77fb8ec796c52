/-
  May, shape, at: whether a shape may be; what stands around a byte of a row. Conditions: the place lies in the row.
-/
import Derived.Test.YtmlaakadjkmphaaMem
import Derived.Test.YtmlaakadjkmphaaProg
import Derived.Test.YtmlaakadjkmphaaGuess
namespace Go.Proofs.Ytmlaakadjkmphaa
open Go.RowKit
set_option linter.unusedVariables false

def mayB (p c m : Int) : Bool := decide ((p = 1 ∨ p = 2 ∨ (10 ≤ p ∧ p ≤ 15)) ∧ 1 ≤ c ∧ c ≤ 4 ∧ 1 ≤ m ∧ m ≤ 4096)

set_option maxHeartbeats 2000000 in
theorem may_any (p c m : Int) (w : World) :
    Calls Try.prog 14 #[.agg #[.int .i64 p, .int .i64 c, .int .i64 m]] w fun e w' => e = .returned (.bool (mayB p c m)) ∧ Below w.heap.size w w' := by
  go_enter Try.func14, Try.ntmps14
  go_wp2
  all_goals (go_ret; refine ⟨ret_bool ?_, by first | exact (Below.refl _ _).alloc (Nat.le_refl _) _ ⟩; unfold mayB; rw [Bool.eq_iff_iff]; simp at *; omega)
set_option maxHeartbeats 2000000 in
theorem rmay_any (p c m : Int) (w : World) :
    Calls Try.prog 17 #[.agg #[.int .i64 p, .int .i64 c, .int .i64 m]] w fun e w' => e = .returned (.bool (mayB p c m)) ∧ Below w.heap.size w w' := by
  go_enter Try.func17, Try.ntmps17
  go_wp2
  all_goals (go_ret; refine ⟨ret_bool ?_, by first | exact (Below.refl _ _).alloc (Nat.le_refl _) _ ⟩; unfold mayB; rw [Bool.eq_iff_iff]; simp at *; omega)
theorem shape_any (p c m : Int) (w : World) :
    Calls Try.prog 10 #[.agg #[.int .i64 p, .int .i64 c, .int .i64 m]] w fun e w' => e = .returned (.agg #[.int .i64 p, .int .i64 c, .int .i64 m]) ∧ Below w.heap.size w w' := by
  go_enter Try.func10, Try.ntmps10
  go_wp2
  exact bodyPost_ret (v := .agg #[.int .i64 p, .int .i64 c, .int .i64 m]) (by simp [results, Try.results10, go_sem]) rfl ⟨rfl, (by repeat (first | exact Below.refl _ _ | refine Below.alloc ?_ (by simp) _ | refine below_drewN ?_ _ | refine Below.setCell ?_ (by simp) _))⟩

/-- what stands left of a byte, above it, beyond it -/
def lfI (r : List UInt8) (k c : Nat) : Int := if c ≤ k then b8 r (k - c) else 0
theorem b8_nil (k : Nat) : b8 [] k = 0 := by simp [b8]

set_option maxHeartbeats 2000000 in
theorem at_any (ar aa : Option Addr) (cr ca : Nat) (lr la : List UInt8) (i c : Nat) (w : World) (hr : Rd w ar lr) (ha : Rd w aa la) (hi : i < lr.length) (hl : la = [] ∨ la.length = lr.length) (hm : lr.length ≤ 20000) (hc : 1 ≤ c) (hc' : c ≤ 4) :
    Calls Try.prog 19 #[.slice ar lr.length cr, .slice aa la.length ca, .int .i64 i, .int .i64 c] w fun e w' =>
      e = .returned (.agg #[.int .i64 (lfI lr i c), .int .i64 (b8 la i), .int .i64 (lfI la i c)]) ∧ Below w.heap.size w w' := by
  obtain ⟨b1, o1, rfl, hs1, hc1⟩ := hr.some (by omega)
  have g1 := hc1 (i - c) (by omega)
  rcases hl with rfl | hl
  · by_cases hci : c ≤ i
    · have e1 : lfI lr i c = b8 lr (i - c) := if_pos hci
      have e2 : lfI [] i c = 0 := by simp [lfI, b8_nil]
      rw [e1, e2, b8_nil]
      have h0 := b8_ge lr (i - c)
      have h0' := b8_le lr (i - c)
      clear hc1 hr ha e1 e2
      go_enter Try.func19, Try.ntmps19
      go_wp2
      exact bodyPost_ret (v := .agg #[.int .i64 (b8 lr (i - c)), .int .i64 0, .int .i64 0]) (by simp [results, Try.results19, go_sem]) rfl ⟨rfl, (by repeat (first | exact Below.refl _ _ | refine Below.alloc ?_ (by simp) _ | refine below_drewN ?_ _ | refine Below.setCell ?_ (by simp) _))⟩
    · have e1 : lfI lr i c = 0 := if_neg hci
      have e2 : lfI [] i c = 0 := by simp [lfI, b8_nil]
      rw [e1, e2, b8_nil]
      clear hc1 hr ha e1 e2
      go_enter Try.func19, Try.ntmps19
      go_wp2
      exact bodyPost_ret (v := .agg #[.int .i64 0, .int .i64 0, .int .i64 0]) (by simp [results, Try.results19, go_sem]) rfl ⟨rfl, (by repeat (first | exact Below.refl _ _ | refine Below.alloc ?_ (by simp) _ | refine below_drewN ?_ _ | refine Below.setCell ?_ (by simp) _))⟩
  · obtain ⟨b2, o2, rfl, hs2, hc2⟩ := ha.some (by omega)
    have g2 := hc2 i (by omega)
    have g3 := hc2 (i - c) (by omega)
    have k0 := b8_ge la i
    have k0' := b8_le la i
    have hla : 0 < la.length := by omega
    by_cases hci : c ≤ i
    · have e1 : lfI lr i c = b8 lr (i - c) := if_pos hci
      have e2 : lfI la i c = b8 la (i - c) := if_pos hci
      rw [e1, e2]
      have h0 := b8_ge lr (i - c)
      have h0' := b8_le lr (i - c)
      have j0 := b8_ge la (i - c)
      have j0' := b8_le la (i - c)
      rw [hl] at hla ⊢
      clear hc1 hc2 hr ha e1 e2 hl
      go_enter Try.func19, Try.ntmps19
      go_wp2
      exact bodyPost_ret (v := .agg #[.int .i64 (b8 lr (i - c)), .int .i64 (b8 la i), .int .i64 (b8 la (i - c))]) (by simp [results, Try.results19, go_sem]) rfl ⟨rfl, (by repeat (first | exact Below.refl _ _ | refine Below.alloc ?_ (by simp) _ | refine below_drewN ?_ _ | refine Below.setCell ?_ (by simp) _))⟩
    · have e1 : lfI lr i c = 0 := if_neg hci
      have e2 : lfI la i c = 0 := if_neg hci
      rw [e1, e2]
      rw [hl] at hla ⊢
      clear hc1 hc2 hr ha e1 e2 hl
      go_enter Try.func19, Try.ntmps19
      go_wp2
      exact bodyPost_ret (v := .agg #[.int .i64 0, .int .i64 (b8 la i), .int .i64 0]) (by simp [results, Try.results19, go_sem]) rfl ⟨rfl, (by repeat (first | exact Below.refl _ _ | refine Below.alloc ?_ (by simp) _ | refine below_drewN ?_ _ | refine Below.setCell ?_ (by simp) _))⟩
end Go.Proofs.Ytmlaakadjkmphaa
