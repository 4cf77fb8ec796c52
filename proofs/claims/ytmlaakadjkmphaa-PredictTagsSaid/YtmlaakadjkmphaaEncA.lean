/-
  predict.Encode where it makes no differences: refused, plain, or no whole number of rows.
-/
import Derived.Test.YtmlaakadjkmphaaDecB
namespace Go.Proofs.Ytmlaakadjkmphaa
open Go.RowKit
set_option linter.unusedVariables false

def EncPost (p c m : Int) (l : List UInt8) (w : World) (e : Ending) (w' : World) : Prop :=
  ∃ u, e = .returned (.tuple #[u, .int .i64 (encode p c m l).2]) ∧ OwnB w' w.heap.size 5 u (encode p c m l).1 ∧ Below w.heap.size w w'

theorem encode_arg {p c m : Int} {l : List UInt8} (h : mayB p c m = false) : encode p c m l = ([], 1) := by unfold encode; rw [if_pos h]
theorem encode_plain {c m : Int} {l : List UInt8} (h : mayB 1 c m = true) : encode 1 c m l = (l, 0) := by unfold encode; rw [if_neg (by rw [h]; simp), if_pos rfl]
theorem encode_form {p c m : Int} {l : List UInt8} (h : mayB p c m = true) (hp : ¬ p = 1) (hl : ¬ l.length % (c.toNat * m.toNat) = 0) : encode p c m l = ([], 4) := by
  unfold encode; rw [if_neg (by rw [h]; simp), if_neg hp, if_pos hl]
theorem encode_rows {p c m : Int} {l : List UInt8} {N : Nat} (h : mayB p c m = true) (hp : ¬ p = 1) (hN : N = c.toNat * m.toNat) (hl : l.length % N = 0) :
    encode p c m l = (encTo (decide (10 ≤ p)) (tagOf p) c.toNat N l (l.length / N), 0) := by
  subst hN
  unfold encode; rw [if_neg (by rw [h]; simp), if_neg hp, if_neg (by simpa using hl)]
theorem below_then {w W W' : World} (p : Below w.heap.size w W) (q : Below W.heap.size W W') : Below w.heap.size w W' := p.trans (q.mono p.size)
theorem tag_one (T : Int) (h0 : 0 ≤ T) (h1 : T ≤ 5) : UInt8.ofNat T.toNat = byteOf T := by
  unfold byteOf; congr 2; omega

theorem encpost_of {p c m : Int} {l out : List UInt8} {er : Int} {w w' : World} {u : Value} {e : Ending} (hd : encode p c m l = (out, er)) (he : e = .returned (.tuple #[u, .int .i64 er])) (ho : OwnB w' w.heap.size 5 u out) (hb : Below w.heap.size w w') : EncPost p c m l w e w' :=
  ⟨u, by rw [hd]; exact he, by rw [hd]; exact ho, hb⟩

set_option maxHeartbeats 1000000 in
theorem enc_arg (p c m : Int) (v : Value) (l : List UInt8) (w : World) (h : mayB p c m = false) :
    Calls Try.prog 13 #[.agg #[.int .i64 p, .int .i64 c, .int .i64 m], v] w (EncPost p c m l w) := by
  have hd := encode_arg (l := l) h
  go_enter Try.func13, Try.ntmps13
  go_wp2_with (go_at_call 14; refine (may_any p c m _).mono ?_; rintro e w' ⟨rfl, hb⟩; rw [h])
  go_ret2
  exact encpost_of hd rfl (OwnB.nil _ _ _) (Below.trans ((Below.refl _ _).alloc (Nat.le_refl _) _) (hb.mono (by simp)))

set_option maxHeartbeats 1000000 in
theorem enc_plain (c m : Int) (v : Value) (l : List UInt8) (w : World) (h : mayB 1 c m = true) (hv : Sl w v l) (hl : l.length ≤ 20000) :
    Calls Try.prog 13 #[.agg #[.int .i64 1, .int .i64 c, .int .i64 m], v] w (EncPost 1 c m l w) := by
  have hd := encode_plain (l := l) h
  obtain ⟨ao, cap, rfl, c1, c2, c3, c4⟩ := hv
  go_enter Try.func13, Try.ntmps13
  go_wp2_with (first
    | (go_at_call 14; refine (may_any 1 c m _).mono ?_; rintro e w' ⟨rfl, hb⟩; rw [h]; obtain ⟨e0, e1, e2, hb⟩ := box3 hb)
    | (at_builtin; refine wpList_append_bytes by26 rfl _ _ rfl w.heap.size (.slice none 0 0) [] l rfl (OwnB.nil _ _ _) _ _ _ rfl rfl c3 (c4.up (by assumption)) (by simp; omega) ((by assumption : Below w.heap.size w _).size) ?_; rintro v1 w1 hown hg -))
  go_ret2
  have hb1 : Below w.heap.size w w1 := by
    refine Below.grown (by assumption) hg (Below.size (by assumption)) ?_
    intro k hk; exact absurd hk (by simp [Value.ownBlock])
  exact encpost_of hd rfl (by simpa using hown) hb1

set_option maxHeartbeats 1000000 in
theorem enc_form (p : Int) (c m N : Nat) (v : Value) (l : List UInt8) (w : World) (h : mayB p c m = true) (hp : ¬ p = 1) (HN : Hid (N = c * m)) (hv : Sl w v l) (hl : l.length ≤ 20000) (hm : ¬ l.length % N = 0) :
    Calls Try.prog 13 #[.agg #[.int .i64 p, .int .i64 c, .int .i64 m], v] w (EncPost p c m l w) := by
  have hN := HN.out
  have hd := encode_form (l := l) h hp (by simpa [← hN] using hm)
  obtain ⟨b1, b2, b3, b4, b5⟩ := may_bounds h
  have hcm := cm_bounds (c := c) (m := m) (by omega) (by omega) (by omega) (by omega)
  have hcm' : (c : Int) * (m : Int) = (N : Int) := by rw [hN]; simp
  have hp1 : (p == 1) = false := by simpa using hp
  have hN1 : 1 ≤ N := by omega
  have hN2 : N ≤ 16384 := by omega
  have hdm : decide (l.length % N = 0) = false := by simpa using hm
  have HD := hid hdm
  clear hm hcm hN hp hdm
  go_enter Try.func13, Try.ntmps13
  go_wp2_with (first
      | (go_at_call 14; refine (may_any p c m _).mono ?_; rintro e w' ⟨rfl, hb⟩; rw [h]; obtain ⟨e0, e1, e2, hb⟩ := box3 hb)
      | (go_at_call 18; refine (parts_any v l N _ (hv.up (by assumption)) hl (by omega) (by omega)).mono ?_; rintro e w1 ⟨u, rfl, hrows, hb1⟩; rw [HD.out]))
  go_ret2
  exact encpost_of hd rfl (OwnB.nil _ _ _) (Below.trans (by assumption) (hb1.mono (Below.size (by assumption))))
end Go.Proofs.Ytmlaakadjkmphaa
