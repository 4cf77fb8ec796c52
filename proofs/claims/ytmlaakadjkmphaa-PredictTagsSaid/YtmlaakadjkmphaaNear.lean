/-
  The reference rules: far, paeth, guess, near: what stands around a byte of plain rows. Conditions: ranges.
-/
import Derived.Test.YtmlaakadjkmphaaMem
import Derived.Test.YtmlaakadjkmphaaProg
import Derived.Test.YtmlaakadjkmphaaGuess
namespace Go.Proofs.Ytmlaakadjkmphaa
open Go.RowKit
set_option linter.unusedVariables false

theorem rfar_any (a b : Int) (w : World) (ha : -1000 ≤ a) (ha' : a ≤ 1000) (hb : -1000 ≤ b) (hb' : b ≤ 1000) :
    Calls Try.prog 30 #[.int .i64 a, .int .i64 b] w fun e w' => e = .returned (.int .i64 (absd a b)) ∧ w = w' := by
  go_enter Try.func30, Try.ntmps30
  go_wp2
  all_goals (go_ret; exact ⟨by unfold absd; refine ret_int ?_; simp; omega, rfl⟩)
set_option maxHeartbeats 800000 in
theorem paeth_any (a b c : Int) (w : World) (ha : 0 ≤ a) (ha' : a ≤ 255) (hb : 0 ≤ b) (hb' : b ≤ 255) (hc : 0 ≤ c) (hc' : c ≤ 255) :
    Calls Try.prog 28 #[.int .i64 a, .int .i64 b, .int .i64 c] w fun e w' => e = .returned (.int .i64 (paethI a b c)) ∧ w = w' := by
  go_enter Try.func28, Try.ntmps28
  go_wp2_with (go_at_call 30; refine (rfar_any _ _ _ (by omega) (by omega) (by omega) (by omega)).mono ?_; rintro e w' ⟨rfl, rfl⟩)
  all_goals (go_ret; refine ⟨?_, rfl⟩; unfold paethI; simp [*])
  all_goals omega
set_option maxHeartbeats 800000 in
theorem rguess_any (tag : Int) (a b c : Int) (w : World) (ht : 0 ≤ tag) (ht' : tag ≤ 4) (ha : 0 ≤ a) (ha' : a ≤ 255) (hb : 0 ≤ b) (hb' : b ≤ 255) (hc : 0 ≤ c) (hc' : c ≤ 255) :
    Calls Try.prog 22 #[.int .i64 tag, .int .i64 a, .int .i64 b, .int .i64 c] w fun e w' => e = .returned (.int .i64 (guessI tag a b c)) ∧ w = w' := by
  have h5 : tag = 0 ∨ tag = 1 ∨ tag = 2 ∨ tag = 3 ∨ tag = 4 := by omega
  rcases h5 with rfl | rfl | rfl | rfl | rfl
  all_goals
    go_enter Try.func22, Try.ntmps22
    go_wp2_with (go_at_call 28; refine (paeth_any _ _ _ _ ha ha' hb hb' hc hc').mono ?_; rintro e w' ⟨rfl, rfl⟩)
    go_ret
    exact ⟨by simp [guessI], rfl⟩

def nrA (l : List UInt8) (at_ c n : Int) : Int := if c ≤ at_ % n then b8 l (at_ - c).toNat else 0
def nrB (l : List UInt8) (at_ n : Int) : Int := if n ≤ at_ then b8 l (at_ - n).toNat else 0
def nrC (l : List UInt8) (at_ c n : Int) : Int := if n ≤ at_ ∧ c ≤ at_ % n then b8 l (at_ - n - c).toNat else 0

set_option maxHeartbeats 800000 in
theorem near0 (p c m i : Int) (al : Option Addr) (cl : Nat) (l : List UInt8) (w : World) (h : Rd w al l) (hi : 0 ≤ i) (hi' : i ≤ l.length) (hl : l.length ≤ 20000) (hc : 1 ≤ c) (hc' : c ≤ 4) (hn : 1 ≤ c * m) (hn' : c * m ≤ 20000) (hx : c ≤ i % (c * m)) (hy : c * m ≤ i) :
    Calls Try.prog 21 #[.agg #[.int .i64 p, .int .i64 c, .int .i64 m], .slice al l.length cl, .int .i64 i] w fun e w' =>
      e = .returned (.tuple #[.int .i64 (nrA l i c (c * m)), .int .i64 (nrB l i (c * m)), .int .i64 (nrC l i c (c * m))]) ∧ Below w.heap.size w w' := by
  have z1 : ¬ (c * m = 0) := by omega
  have eA : nrA l i c (c * m) = b8 l (i - c).toNat := by unfold nrA; rw [if_pos hx]
  have eB : nrB l i (c * m) = b8 l (i - c * m).toNat := by unfold nrB; rw [if_pos hy]
  have eC : nrC l i c (c * m) = b8 l (i - c * m - c).toNat := by unfold nrC; rw [if_pos ⟨hy, hx⟩]
  rw [eA, eB, eC]
  clear eA eB eC
  have md := Int.emod_nonneg i z1
  have mq := Int.emod_lt_of_pos i (show 0 < c * m by omega)
  have me : i % (c * m) ≤ i := by
    by_cases q : i < c * m
    · rw [Int.emod_eq_of_lt hi q]; omega
    · omega
  obtain ⟨b1, o1, rfl, hs1, hc1⟩ := h.some (by omega)
  have g1 := hc1 (i - c).toNat (by omega)
  have g1a := b8_ge l (i - c).toNat
  have g1b := b8_le l (i - c).toNat
  have g2 := hc1 (i - c * m).toNat (by omega)
  have g2a := b8_ge l (i - c * m).toNat
  have g2b := b8_le l (i - c * m).toNat
  have hcn : c ≤ i - c * m := by
    have := Int.emod_add_mul_ediv i (c * m)
    have h1 : 1 ≤ i / (c * m) := (Int.le_ediv_iff_mul_le (by omega)).2 (by omega)
    have h2 : c * m * 1 ≤ c * m * (i / (c * m)) := Int.mul_le_mul_of_nonneg_left h1 (by omega)
    omega
  have g3 := hc1 (i - c * m - c).toNat (by omega)
  have g3a := b8_ge l (i - c * m - c).toNat
  have g3b := b8_le l (i - c * m - c).toNat
  clear hc1
  clear h
  go_enter Try.func21, Try.ntmps21
  go_wp2
  go_quiet (fail)
  go_wp2
  go_quiet (fail)
  go_wp2
  go_ret3
  exact ⟨rfl, (by repeat (first | exact Below.refl _ _ | refine Below.alloc ?_ (by simp) _ | refine below_drewN ?_ _ | refine Below.setCell ?_ (by simp) _))⟩

set_option maxHeartbeats 800000 in
theorem near1 (p c m i : Int) (al : Option Addr) (cl : Nat) (l : List UInt8) (w : World) (h : Rd w al l) (hi : 0 ≤ i) (hi' : i ≤ l.length) (hl : l.length ≤ 20000) (hc : 1 ≤ c) (hc' : c ≤ 4) (hn : 1 ≤ c * m) (hn' : c * m ≤ 20000) (hx : c ≤ i % (c * m)) (hy : ¬ c * m ≤ i) :
    Calls Try.prog 21 #[.agg #[.int .i64 p, .int .i64 c, .int .i64 m], .slice al l.length cl, .int .i64 i] w fun e w' =>
      e = .returned (.tuple #[.int .i64 (nrA l i c (c * m)), .int .i64 (nrB l i (c * m)), .int .i64 (nrC l i c (c * m))]) ∧ Below w.heap.size w w' := by
  have z1 : ¬ (c * m = 0) := by omega
  have eA : nrA l i c (c * m) = b8 l (i - c).toNat := by unfold nrA; rw [if_pos hx]
  have eB : nrB l i (c * m) = 0 := by unfold nrB; rw [if_neg hy]
  have eC : nrC l i c (c * m) = 0 := by unfold nrC; rw [if_neg (fun q => hy q.1)]
  rw [eA, eB, eC]
  clear eA eB eC
  have md := Int.emod_nonneg i z1
  have mq := Int.emod_lt_of_pos i (show 0 < c * m by omega)
  have me : i % (c * m) ≤ i := by
    by_cases q : i < c * m
    · rw [Int.emod_eq_of_lt hi q]; omega
    · omega
  obtain ⟨b1, o1, rfl, hs1, hc1⟩ := h.some (by omega)
  have g1 := hc1 (i - c).toNat (by omega)
  have g1a := b8_ge l (i - c).toNat
  have g1b := b8_le l (i - c).toNat
  clear hc1
  clear h
  go_enter Try.func21, Try.ntmps21
  go_wp2
  go_quiet (fail)
  go_wp2
  go_ret3
  exact ⟨rfl, (by repeat (first | exact Below.refl _ _ | refine Below.alloc ?_ (by simp) _ | refine below_drewN ?_ _ | refine Below.setCell ?_ (by simp) _))⟩

set_option maxHeartbeats 800000 in
theorem near2 (p c m i : Int) (al : Option Addr) (cl : Nat) (l : List UInt8) (w : World) (h : Rd w al l) (hi : 0 ≤ i) (hi' : i ≤ l.length) (hl : l.length ≤ 20000) (hc : 1 ≤ c) (hc' : c ≤ 4) (hn : 1 ≤ c * m) (hn' : c * m ≤ 20000) (hx : ¬ c ≤ i % (c * m)) (hy : c * m ≤ i) :
    Calls Try.prog 21 #[.agg #[.int .i64 p, .int .i64 c, .int .i64 m], .slice al l.length cl, .int .i64 i] w fun e w' =>
      e = .returned (.tuple #[.int .i64 (nrA l i c (c * m)), .int .i64 (nrB l i (c * m)), .int .i64 (nrC l i c (c * m))]) ∧ Below w.heap.size w w' := by
  have z1 : ¬ (c * m = 0) := by omega
  have eA : nrA l i c (c * m) = 0 := by unfold nrA; rw [if_neg hx]
  have eB : nrB l i (c * m) = b8 l (i - c * m).toNat := by unfold nrB; rw [if_pos hy]
  have eC : nrC l i c (c * m) = 0 := by unfold nrC; rw [if_neg (fun q => hx q.2)]
  rw [eA, eB, eC]
  clear eA eB eC
  have md := Int.emod_nonneg i z1
  have mq := Int.emod_lt_of_pos i (show 0 < c * m by omega)
  have me : i % (c * m) ≤ i := by
    by_cases q : i < c * m
    · rw [Int.emod_eq_of_lt hi q]; omega
    · omega
  obtain ⟨b1, o1, rfl, hs1, hc1⟩ := h.some (by omega)
  have g2 := hc1 (i - c * m).toNat (by omega)
  have g2a := b8_ge l (i - c * m).toNat
  have g2b := b8_le l (i - c * m).toNat
  clear hc1
  clear h
  go_enter Try.func21, Try.ntmps21
  go_wp2
  go_quiet (fail)
  go_wp2
  go_quiet (fail)
  go_wp2
  go_ret3
  exact ⟨rfl, (by repeat (first | exact Below.refl _ _ | refine Below.alloc ?_ (by simp) _ | refine below_drewN ?_ _ | refine Below.setCell ?_ (by simp) _))⟩

set_option maxHeartbeats 800000 in
theorem near3 (p c m i : Int) (al : Option Addr) (cl : Nat) (l : List UInt8) (w : World) (h : Rd w al l) (hi : 0 ≤ i) (hi' : i ≤ l.length) (hl : l.length ≤ 20000) (hc : 1 ≤ c) (hc' : c ≤ 4) (hn : 1 ≤ c * m) (hn' : c * m ≤ 20000) (hx : ¬ c ≤ i % (c * m)) (hy : ¬ c * m ≤ i) :
    Calls Try.prog 21 #[.agg #[.int .i64 p, .int .i64 c, .int .i64 m], .slice al l.length cl, .int .i64 i] w fun e w' =>
      e = .returned (.tuple #[.int .i64 (nrA l i c (c * m)), .int .i64 (nrB l i (c * m)), .int .i64 (nrC l i c (c * m))]) ∧ Below w.heap.size w w' := by
  have z1 : ¬ (c * m = 0) := by omega
  have eA : nrA l i c (c * m) = 0 := by unfold nrA; rw [if_neg hx]
  have eB : nrB l i (c * m) = 0 := by unfold nrB; rw [if_neg hy]
  have eC : nrC l i c (c * m) = 0 := by unfold nrC; rw [if_neg (fun q => hy q.1)]
  rw [eA, eB, eC]
  clear eA eB eC
  have md := Int.emod_nonneg i z1
  have mq := Int.emod_lt_of_pos i (show 0 < c * m by omega)
  have me : i % (c * m) ≤ i := by
    by_cases q : i < c * m
    · rw [Int.emod_eq_of_lt hi q]; omega
    · omega
  clear h
  go_enter Try.func21, Try.ntmps21
  go_wp2
  go_quiet (fail)
  go_wp2
  go_ret3
  exact ⟨rfl, (by repeat (first | exact Below.refl _ _ | refine Below.alloc ?_ (by simp) _ | refine below_drewN ?_ _ | refine Below.setCell ?_ (by simp) _))⟩

theorem near_any (p c m i : Int) (al : Option Addr) (cl : Nat) (l : List UInt8) (w : World) (h : Rd w al l) (hi : 0 ≤ i) (hi' : i ≤ l.length) (hl : l.length ≤ 20000) (hc : 1 ≤ c) (hc' : c ≤ 4) (hn : 1 ≤ c * m) (hn' : c * m ≤ 20000) :
    Calls Try.prog 21 #[.agg #[.int .i64 p, .int .i64 c, .int .i64 m], .slice al l.length cl, .int .i64 i] w fun e w' =>
      e = .returned (.tuple #[.int .i64 (nrA l i c (c * m)), .int .i64 (nrB l i (c * m)), .int .i64 (nrC l i c (c * m))]) ∧ Below w.heap.size w w' := by
  by_cases hx : c ≤ i % (c * m) <;> by_cases hy : c * m ≤ i
  · exact near0 p c m i al cl l w h hi hi' hl hc hc' hn hn' hx hy
  · exact near1 p c m i al cl l w h hi hi' hl hc hc' hn hn' hx hy
  · exact near2 p c m i al cl l w h hi hi' hl hc hc' hn hn' hx hy
  · exact near3 p c m i al cl l w h hi hi' hl hc hc' hn hn' hx hy
end Go.Proofs.Ytmlaakadjkmphaa
