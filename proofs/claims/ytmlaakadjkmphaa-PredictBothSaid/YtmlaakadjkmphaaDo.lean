/-
  The reference Do whole: for whatever shape and bytes it answers what the plain law says. Conditions: lengths.
-/
import Derived.Test.YtmlaakadjkmphaaDoA
import Derived.Test.YtmlaakadjkmphaaDoB
import Derived.Test.YtmlaakadjkmphaaDoC
namespace Go.Proofs.Ytmlaakadjkmphaa
open Go.RowKit
set_option linter.unusedVariables false

set_option maxHeartbeats 1000000 in
theorem do_arg (p c m : Int) (v : Value) (l : List UInt8) (w : World) (h : mayB p c m = false) :
    Calls Try.prog 16 #[.agg #[.int .i64 p, .int .i64 c, .int .i64 m], v] w (DoPost p c m l w) := by
  have hd := encode_arg (l := l) h
  go_enter Try.func16, Try.ntmps16
  go_wp2_with (go_at_call 17; refine (rmay_any p c m _).mono ?_; rintro e w' ⟨rfl, hb⟩; rw [h])
  go_ret2
  exact dopost_of hd rfl (OwnB.nil _ _ _) (Below.trans ((Below.refl _ _).alloc (Nat.le_refl _) _) (hb.mono (by simp)))

set_option maxHeartbeats 1000000 in
theorem do_plain (c m : Int) (v : Value) (l : List UInt8) (w : World) (h : mayB 1 c m = true) (hv : Sl w v l) (hl : l.length ≤ 20000) :
    Calls Try.prog 16 #[.agg #[.int .i64 1, .int .i64 c, .int .i64 m], v] w (DoPost 1 c m l w) := by
  have hd := encode_plain (l := l) h
  obtain ⟨ao, cap, rfl, c1, c2, c3, c4⟩ := hv
  go_enter Try.func16, Try.ntmps16
  go_wp2_with (first
    | (go_at_call 17; refine (rmay_any 1 c m _).mono ?_; rintro e w' ⟨rfl, hb⟩; rw [h]; obtain ⟨e0, e1, e2, hb⟩ := box3 hb)
    | (go_at_call 12; refine (copy_any ao cap l _ (c4.up (by assumption)) (by omega)).mono ?_; rintro e w1 ⟨u, rfl, hown, hb1⟩))
  go_ret2
  exact dopost_of hd rfl (hown.mono (Below.size (by assumption))) (Below.trans (by assumption) (hb1.mono (Below.size (by assumption))))

set_option maxHeartbeats 1000000 in
theorem do_form (p : Int) (c m N : Nat) (v : Value) (l : List UInt8) (w : World) (h : mayB p c m = true) (hp : ¬ p = 1) (HN : Hid (N = c * m)) (hv : Sl w v l) (hl : l.length ≤ 20000) (hm : ¬ l.length % N = 0) :
    Calls Try.prog 16 #[.agg #[.int .i64 p, .int .i64 c, .int .i64 m], v] w (DoPost p c m l w) := by
  have hN := HN.out
  have hd := encode_form (l := l) h hp (by simpa [← hN] using hm)
  obtain ⟨b1, b2, b3, b4, b5⟩ := may_bounds h
  have hcm := cm_bounds (c := c) (m := m) (by omega) (by omega) (by omega) (by omega)
  have hcm' : (c : Int) * (m : Int) = (N : Int) := by rw [hN]; simp
  have hp1 : (p == 1) = false := by simpa using hp
  have hN1 : 1 ≤ N := by omega
  have hN2 : N ≤ 16384 := by omega
  obtain ⟨ao, cap, rfl, c1, c2, c3, c4⟩ := hv
  have hmz : ((l.length : Int) % (N : Int) != 0) = true := by
    rw [bne_iff_ne]; omega
  clear hm hcm hN hp
  go_enter Try.func16, Try.ntmps16
  go_wp2_with (go_at_call 17; refine (rmay_any p c m _).mono ?_; rintro e w' ⟨rfl, hb⟩; rw [h]; obtain ⟨e0, e1, e2, hb⟩ := box3 hb)
  go_ret2
  exact dopost_of hd rfl (OwnB.nil _ _ _) hb

theorem do_any (p c m : Int) (v : Value) (l : List UInt8) (w : World) (hv : Sl w v l) (hl : l.length ≤ 19000) :
    Calls Try.prog 16 #[.agg #[.int .i64 p, .int .i64 c, .int .i64 m], v] w (DoPost p c m l w) := by
  by_cases h : mayB p c m = true
  · obtain ⟨b1, b2, b3, b4, b5⟩ := may_bounds h
    by_cases hp : p = 1
    · subst hp; exact do_plain c m v l w h hv (by omega)
    · obtain ⟨c, rfl⟩ := Int.eq_ofNat_of_zero_le (show 0 ≤ c by omega)
      obtain ⟨m, rfl⟩ := Int.eq_ofNat_of_zero_le (show 0 ≤ m by omega)
      by_cases hm : l.length % (c * m) = 0
      · by_cases h10 : 10 ≤ p
        · by_cases h15 : p = 15
          · exact do_rowsB p c m (c * m) v l w h hp rfl h15 hv hl hm
          · exact do_rowsC p c m (c * m) v l w h hp rfl h10 h15 hv hl hm
        · exact do_rowsA p c m (c * m) v l w h hp rfl (by omega) hv hl hm
      · exact do_form p c m (c * m) v l w h hp rfl hv (by omega) hm
  · exact do_arg p c m v l w (by simpa using h)
end Go.Proofs.Ytmlaakadjkmphaa
