/-
  The rules by which a byte is guessed (predict.around): each returns its guess and writes nothing that was there. No conditions beside the ranges of bytes.
-/
import Derived.Test.YtmlaakadjkmphaaProg
import Derived.Test.YtmlaakadjkmphaaMem
namespace Go.Proofs.Ytmlaakadjkmphaa
open Go.RowKit
set_option linter.unusedVariables false
def absd (a b : Int) : Int := if a ≤ b then b - a else a - b
def paethI (a b c : Int) : Int := if absd (a+b-c) a ≤ absd (a+b-c) b ∧ absd (a+b-c) a ≤ absd (a+b-c) c then a else if absd (a+b-c) b ≤ absd (a+b-c) c then b else c
def guessI (tag a b c : Int) : Int := if tag = 0 then 0 else if tag = 1 then a else if tag = 2 then b else if tag = 3 then (a + b) / 2 else paethI a b c
theorem far_any (a b : Int) (w : World) (ha : -1000 ≤ a) (ha' : a ≤ 1000) (hb : -1000 ≤ b) (hb' : b ≤ 1000) :
    Calls Try.prog 29 #[.int .i64 a, .int .i64 b] w fun e w' => e = .returned (.int .i64 (absd a b)) ∧ w = w' := by
  go_enter Try.func29, Try.ntmps29
  go_wp2
  all_goals (go_ret; exact ⟨by unfold absd; congr 2; simp; omega, rfl⟩)
theorem nearest_any (a b c : Int) (w : World) (ha : 0 ≤ a) (ha' : a ≤ 255) (hb : 0 ≤ b) (hb' : b ≤ 255) (hc : 0 ≤ c) (hc' : c ≤ 255) :
    Calls Try.prog 27 #[.agg #[.int .i64 a, .int .i64 b, .int .i64 c]] w fun e w' => e = .returned (.int .i64 (paethI a b c)) ∧ Below w.heap.size w w' := by
  go_enter Try.func27, Try.ntmps27
  go_wp2_with fail
  go_quiet ((go_at_call 29; exact Calls.quiet_of_same ((far_any _ _ _ (by omega) (by omega) (by omega) (by omega)).mono fun e w' ⟨h1, h2⟩ => ⟨h1, h2.symm⟩)))
  go_wp2
  all_goals (go_ret; refine ⟨?_, below_drewN ((Below.refl _ _).alloc (Nat.le_refl _) _) _⟩; unfold paethI; simp [*])
  all_goals omega
theorem none_any (a b c : Int) (w : World) :
    Calls Try.prog 23 #[.agg #[.int .i64 a, .int .i64 b, .int .i64 c]] w fun e w' => e = .returned (.int .i64 0) ∧ Below w.heap.size w w' := by
  go_enter Try.func23, Try.ntmps23
  go_wp2
  go_ret
  exact ⟨rfl, (Below.refl _ _).alloc (Nat.le_refl _) _⟩
theorem first_any (a b c : Int) (w : World) :
    Calls Try.prog 24 #[.agg #[.int .i64 a, .int .i64 b, .int .i64 c]] w fun e w' => e = .returned (.int .i64 a) ∧ Below w.heap.size w w' := by
  go_enter Try.func24, Try.ntmps24
  go_wp2
  go_ret
  exact ⟨rfl, (Below.refl _ _).alloc (Nat.le_refl _) _⟩
theorem upper_any (a b c : Int) (w : World) :
    Calls Try.prog 25 #[.agg #[.int .i64 a, .int .i64 b, .int .i64 c]] w fun e w' => e = .returned (.int .i64 b) ∧ Below w.heap.size w w' := by
  go_enter Try.func25, Try.ntmps25
  go_wp2
  go_ret
  exact ⟨rfl, (Below.refl _ _).alloc (Nat.le_refl _) _⟩
theorem half_any (a b c : Int) (w : World) (ha : 0 ≤ a) (ha' : a ≤ 255) (hb : 0 ≤ b) (hb' : b ≤ 255):
    Calls Try.prog 26 #[.agg #[.int .i64 a, .int .i64 b, .int .i64 c]] w fun e w' => e = .returned (.int .i64 ((a + b)/2)) ∧ Below w.heap.size w w' := by
  go_enter Try.func26, Try.ntmps26
  go_wp2
  go_ret
  exact ⟨rfl, (Below.refl _ _).alloc (Nat.le_refl _) _⟩

set_option maxHeartbeats 1000000 in
theorem guess0 (a b c : Int) (w : World) (ha : 0 ≤ a) (ha' : a ≤ 255) (hb : 0 ≤ b) (hb' : b ≤ 255) (hc : 0 ≤ c) (hc' : c ≤ 255) :
    Calls Try.prog 20 #[.agg #[.int .i64 a, .int .i64 b, .int .i64 c], .int .i64 0] w fun e w' => e = .returned (.int .i64 (guessI 0 a b c)) ∧ Below w.heap.size w w' := by
  have hmf : ∀ (fn : Fn) (first cap : Array Value) (w : World), (Instr.makeFunc fn first cap).run Try.prog w = .ok (.func fn first cap) w := fun _ _ _ _ => rfl
  go_enter Try.func20, Try.ntmps20
  go_wp2_with (go_at_call 23; refine (none_any a b c _).mono ?_; rintro e w' ⟨rfl, hb1⟩)
  go_ret
  refine ⟨by simp [guessI], Below.trans (((Below.refl _ _).alloc (Nat.le_refl _) _).alloc (by simp) _) (hb1.mono (by simp; omega))⟩

set_option maxHeartbeats 1000000 in
theorem guess1 (a b c : Int) (w : World) (ha : 0 ≤ a) (ha' : a ≤ 255) (hb : 0 ≤ b) (hb' : b ≤ 255) (hc : 0 ≤ c) (hc' : c ≤ 255) :
    Calls Try.prog 20 #[.agg #[.int .i64 a, .int .i64 b, .int .i64 c], .int .i64 1] w fun e w' => e = .returned (.int .i64 (guessI 1 a b c)) ∧ Below w.heap.size w w' := by
  have hmf : ∀ (fn : Fn) (first cap : Array Value) (w : World), (Instr.makeFunc fn first cap).run Try.prog w = .ok (.func fn first cap) w := fun _ _ _ _ => rfl
  go_enter Try.func20, Try.ntmps20
  go_wp2_with (go_at_call 24; refine (first_any a b c _).mono ?_; rintro e w' ⟨rfl, hb1⟩)
  go_ret
  refine ⟨by simp [guessI], Below.trans (((Below.refl _ _).alloc (Nat.le_refl _) _).alloc (by simp) _) (hb1.mono (by simp; omega))⟩

set_option maxHeartbeats 1000000 in
theorem guess2 (a b c : Int) (w : World) (ha : 0 ≤ a) (ha' : a ≤ 255) (hb : 0 ≤ b) (hb' : b ≤ 255) (hc : 0 ≤ c) (hc' : c ≤ 255) :
    Calls Try.prog 20 #[.agg #[.int .i64 a, .int .i64 b, .int .i64 c], .int .i64 2] w fun e w' => e = .returned (.int .i64 (guessI 2 a b c)) ∧ Below w.heap.size w w' := by
  have hmf : ∀ (fn : Fn) (first cap : Array Value) (w : World), (Instr.makeFunc fn first cap).run Try.prog w = .ok (.func fn first cap) w := fun _ _ _ _ => rfl
  go_enter Try.func20, Try.ntmps20
  go_wp2_with (go_at_call 25; refine (upper_any a b c _).mono ?_; rintro e w' ⟨rfl, hb1⟩)
  go_ret
  refine ⟨by simp [guessI], Below.trans (((Below.refl _ _).alloc (Nat.le_refl _) _).alloc (by simp) _) (hb1.mono (by simp; omega))⟩

set_option maxHeartbeats 1000000 in
theorem guess3 (a b c : Int) (w : World) (ha : 0 ≤ a) (ha' : a ≤ 255) (hb : 0 ≤ b) (hb' : b ≤ 255) (hc : 0 ≤ c) (hc' : c ≤ 255) :
    Calls Try.prog 20 #[.agg #[.int .i64 a, .int .i64 b, .int .i64 c], .int .i64 3] w fun e w' => e = .returned (.int .i64 (guessI 3 a b c)) ∧ Below w.heap.size w w' := by
  have hmf : ∀ (fn : Fn) (first cap : Array Value) (w : World), (Instr.makeFunc fn first cap).run Try.prog w = .ok (.func fn first cap) w := fun _ _ _ _ => rfl
  go_enter Try.func20, Try.ntmps20
  go_wp2_with (go_at_call 26; refine (half_any a b c _ ha ha' hb hb').mono ?_; rintro e w' ⟨rfl, hb1⟩)
  go_ret
  refine ⟨by simp [guessI], Below.trans (((Below.refl _ _).alloc (Nat.le_refl _) _).alloc (by simp) _) (hb1.mono (by simp; omega))⟩

set_option maxHeartbeats 1000000 in
theorem guess4 (a b c : Int) (w : World) (ha : 0 ≤ a) (ha' : a ≤ 255) (hb : 0 ≤ b) (hb' : b ≤ 255) (hc : 0 ≤ c) (hc' : c ≤ 255) :
    Calls Try.prog 20 #[.agg #[.int .i64 a, .int .i64 b, .int .i64 c], .int .i64 4] w fun e w' => e = .returned (.int .i64 (guessI 4 a b c)) ∧ Below w.heap.size w w' := by
  have hmf : ∀ (fn : Fn) (first cap : Array Value) (w : World), (Instr.makeFunc fn first cap).run Try.prog w = .ok (.func fn first cap) w := fun _ _ _ _ => rfl
  go_enter Try.func20, Try.ntmps20
  go_wp2_with (go_at_call 27; refine (nearest_any a b c _ ha ha' hb hb' hc hc').mono ?_; rintro e w' ⟨rfl, hb1⟩)
  go_ret
  refine ⟨by simp [guessI], Below.trans (((Below.refl _ _).alloc (Nat.le_refl _) _).alloc (by simp) _) (hb1.mono (by simp; omega))⟩

theorem guess_any (tag : Int) (a b c : Int) (w : World) (ht : 0 ≤ tag) (ht' : tag ≤ 4) (ha : 0 ≤ a) (ha' : a ≤ 255) (hb : 0 ≤ b) (hb' : b ≤ 255) (hc : 0 ≤ c) (hc' : c ≤ 255) :
    Calls Try.prog 20 #[.agg #[.int .i64 a, .int .i64 b, .int .i64 c], .int .i64 tag] w fun e w' => e = .returned (.int .i64 (guessI tag a b c)) ∧ Below w.heap.size w w' := by
  have h5 : tag = 0 ∨ tag = 1 ∨ tag = 2 ∨ tag = 3 ∨ tag = 4 := by omega
  rcases h5 with rfl | rfl | rfl | rfl | rfl
  · exact guess0 a b c w ha ha' hb hb' hc hc'
  · exact guess1 a b c w ha ha' hb hb' hc hc'
  · exact guess2 a b c w ha ha' hb hb' hc hc'
  · exact guess3 a b c w ha ha' hb hb' hc hc'
  · exact guess4 a b c w ha ha' hb hb' hc hc'
end Go.Proofs.Ytmlaakadjkmphaa
