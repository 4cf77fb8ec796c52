/-
  predict.Decode where it undoes nothing: refused, plain, or no whole number of rows.
-/
import Derived.Test.YtmlaakadjkmphaaSpec
import Derived.Test.YtmlaakadjkmphaaParts
namespace Go.Proofs.Ytmlaakadjkmphaa
open Go.RowKit
set_option linter.unusedVariables false

theorem ret_err {v : Value} {k : IntKind} {a b : Int} (h : a = b) : Ending.returned (.tuple #[v, .int k a]) = .returned (.tuple #[v, .int k b]) := by rw [h]

def DecPost (p c m : Int) (l : List UInt8) (w : World) (e : Ending) (w' : World) : Prop :=
  ∃ u, e = .returned (.tuple #[u, .int .i64 (decode p c m l).2]) ∧ OwnB w' w.heap.size 5 u (decode p c m l).1 ∧ Below w.heap.size w w'

theorem decode_arg {p c m : Int} {l : List UInt8} (h : mayB p c m = false) : decode p c m l = ([], 1) := by unfold decode; rw [if_pos h]
theorem decode_plain {c m : Int} {l : List UInt8} (h : mayB 1 c m = true) : decode 1 c m l = (l, 0) := by unfold decode; rw [if_neg (by rw [h]; simp), if_pos rfl]
theorem decode_form {p c m : Int} {l : List UInt8} (h : mayB p c m = true) (hp : ¬ p = 1) (hl : ¬ l.length % (headOf p + c.toNat * m.toNat) = 0) : decode p c m l = ([], 4) := by
  unfold decode; rw [if_neg (by rw [h]; simp), if_neg hp, if_pos hl]

theorem decpost_of {p c m : Int} {l out : List UInt8} {er : Int} {w w' : World} {u : Value} {e : Ending} (hd : decode p c m l = (out, er)) (he : e = .returned (.tuple #[u, .int .i64 er])) (ho : OwnB w' w.heap.size 5 u out) (hb : Below w.heap.size w w') : DecPost p c m l w e w' :=
  ⟨u, by rw [hd]; exact he, by rw [hd]; exact ho, hb⟩

theorem box3 {w W : World} {a b c : Value} {t : TypeId} (h : Below (w.alloc (.cells #[a, b, c] t)).heap.size (w.alloc (.cells #[a, b, c] t)) W) : W.cell? ⟨w.heap.size, 0, none⟩ = some a ∧ W.cell? ⟨w.heap.size, 1, none⟩ = some b ∧ W.cell? ⟨w.heap.size, 2, none⟩ = some c ∧ Below w.heap.size w W := by
  refine ⟨?_, ?_, ?_, Below.trans ((Below.refl _ _).alloc (Nat.le_refl _) _) (h.mono (by simp))⟩ <;> (rw [h.cell (by simp), World.cell?_alloc_at _ _ _ _ rfl]; rfl)

set_option maxHeartbeats 1000000 in
theorem dec_arg (p c m : Int) (v : Value) (l : List UInt8) (w : World) (h : mayB p c m = false) :
    Calls Try.prog 9 #[.agg #[.int .i64 p, .int .i64 c, .int .i64 m], v] w (DecPost p c m l w) := by
  have hd := decode_arg (l := l) h
  go_enter Try.func9, Try.ntmps9
  go_wp2_with (go_at_call 14; refine (may_any p c m _).mono ?_; rintro e w' ⟨rfl, hb⟩; rw [h])
  go_ret2
  exact decpost_of hd rfl (OwnB.nil _ _ _) (Below.trans ((Below.refl _ _).alloc (Nat.le_refl _) _) (hb.mono (by simp)))

set_option maxHeartbeats 1000000 in
theorem dec_plain (c m : Int) (v : Value) (l : List UInt8) (w : World) (h : mayB 1 c m = true) (hv : Sl w v l) (hl : l.length ≤ 20000) :
    Calls Try.prog 9 #[.agg #[.int .i64 1, .int .i64 c, .int .i64 m], v] w (DecPost 1 c m l w) := by
  have hd := decode_plain (l := l) h
  obtain ⟨ao, cap, rfl, c1, c2, c3, c4⟩ := hv
  go_enter Try.func9, Try.ntmps9
  go_wp2_with (first
    | (go_at_call 14; refine (may_any 1 c m _).mono ?_; rintro e w' ⟨rfl, hb⟩; rw [h]; obtain ⟨e0, e1, e2, hb⟩ := box3 hb)
    | (at_builtin; refine wpList_append_bytes by26 rfl _ _ rfl w.heap.size (.slice none 0 0) [] l rfl (OwnB.nil _ _ _) _ _ _ rfl rfl c3 (c4.up (by assumption)) (by simp; omega) ((by assumption : Below w.heap.size w _).size) ?_; rintro v1 w1 hown hg -))
  go_ret2
  have hb1 : Below w.heap.size w w1 := by
    refine Below.grown (by assumption) hg (Below.size (by assumption)) ?_
    intro k hk; exact absurd hk (by simp [Value.ownBlock])
  exact decpost_of hd rfl (by simpa using hown) hb1

theorem head_01 (p : Int) : (headOf p = 1 ∧ 10 ≤ p) ∨ (headOf p = 0 ∧ ¬ 10 ≤ p) := by
  unfold headOf; by_cases h : 10 ≤ p
  · exact .inl ⟨if_pos h, h⟩
  · exact .inr ⟨if_neg h, h⟩

theorem may_bounds {p c m : Int} (h : mayB p c m = true) : ((p = 1 ∨ p = 2 ∨ (10 ≤ p ∧ p ≤ 15)) ∧ 1 ≤ c ∧ c ≤ 4 ∧ 1 ≤ m ∧ m ≤ 4096) := by
  unfold mayB at h; exact of_decide_eq_true h

theorem cm_bounds {c m : Nat} (h1 : 1 ≤ c) (h2 : c ≤ 4) (h3 : 1 ≤ m) (h4 : m ≤ 4096) : 1 ≤ c * m ∧ c * m ≤ 16384 :=
  ⟨Nat.mul_pos h1 h3, Nat.mul_le_mul h2 h4⟩

set_option maxHeartbeats 1000000 in
theorem dec_form (p : Int) (c m N M : Nat) (v : Value) (l : List UInt8) (w : World) (h : mayB p c m = true) (hp : ¬ p = 1) (HN : Hid (N = c * m)) (HM : Hid (M = headOf p + N)) (hv : Sl w v l) (hl : l.length ≤ 20000) (hm : ¬ l.length % M = 0) :
    Calls Try.prog 9 #[.agg #[.int .i64 p, .int .i64 c, .int .i64 m], v] w (DecPost p c m l w) := by
  have hN := HN.out
  have hM := HM.out
  have hd := decode_form (l := l) h hp (by simpa [← hN, ← hM] using hm)
  obtain ⟨b1, b2, b3, b4, b5⟩ := may_bounds h
  have hcm := cm_bounds (c := c) (m := m) (by omega) (by omega) (by omega) (by omega)
  have hcm' : (c : Int) * (m : Int) = (N : Int) := by rw [hN]; simp
  have hp1 : (p == 1) = false := by simpa using hp
  have hN1 : 1 ≤ N := by omega
  have hN2 : N ≤ 16384 := by omega
  have hdm : decide (l.length % M = 0) = false := by simpa using hm
  have HD := hid hdm
  clear hm hcm hN hp hdm
  rcases head_01 p with ⟨hh, hp10⟩ | ⟨hh, hp10⟩ <;> rw [hh] at hM
  · have hsum : (1 : Int) + (N : Int) = (M : Int) := by omega
    have hM1 : 1 ≤ M := by omega
    have hM2 : M ≤ 20001 := by omega
    clear hM
    go_enter Try.func9, Try.ntmps9
    go_wp2_with (first
      | (go_at_call 14; refine (may_any p c m _).mono ?_; rintro e w' ⟨rfl, hb⟩; rw [h]; obtain ⟨e0, e1, e2, hb⟩ := box3 hb)
      | (go_at_call 18; refine (parts_any v l M _ (hv.up (by assumption)) hl (by omega) (by omega)).mono ?_; rintro e w1 ⟨u, rfl, hrows, hb1⟩; rw [HD.out]))
    go_ret2
    exact decpost_of hd rfl (OwnB.nil _ _ _) (Below.trans (by assumption) (hb1.mono (Below.size (by assumption))))
  · have hsum : (0 : Int) + (N : Int) = (M : Int) := by omega
    have hM1 : 1 ≤ M := by omega
    have hM2 : M ≤ 20001 := by omega
    obtain rfl : M = N := by omega
    clear hM
    go_enter Try.func9, Try.ntmps9
    go_wp2_with (first
      | (go_at_call 14; refine (may_any p c m _).mono ?_; rintro e w' ⟨rfl, hb⟩; rw [h]; obtain ⟨e0, e1, e2, hb⟩ := box3 hb)
      | (go_at_call 18; refine (parts_any v l M _ (hv.up (by assumption)) hl (by omega) (by omega)).mono ?_; rintro e w1 ⟨u, rfl, hrows, hb1⟩; rw [HD.out]))
    go_ret2
    exact decpost_of hd rfl (OwnB.nil _ _ _) (Below.trans (by assumption) (hb1.mono (Below.size (by assumption))))
end Go.Proofs.Ytmlaakadjkmphaa
