/-
  Numbers: digits, what stands behind a point, Parse; the program's walks. Conditions: sizes.
-/
import Derived.Test.YtlmgklebikcbjaaGreatKx
import Derived.Test.YtlmgklebikcbjaaGreatTok
import Derived.Test.YtlmgklebikcbjaaGreatText
namespace Go.Proofs.YtlmgklebikcbjaaGreat
open Go.RowKit
set_option linter.unusedVariables false

theorem vl_snoc (l : List UInt8) (x : UInt8) : ∀ n, vl (l ++ [x]) n = 10 * vl l n + (x.toNat - 48) := by
  induction l with
  | nil => intro n; rfl
  | cons y l ih => intro n; exact ih _
theorem take_of_drop {s t : List UInt8} {x : UInt8} {k : Nat} (h : s.drop k = x :: t) : s.take (k + 1) = s.take k ++ [x] := by
  have h2 : s[k]? = some x := by
    have h3 : (s.drop k)[0]? = some x := by rw [h]; rfl
    rwa [List.getElem?_drop, Nat.add_zero] at h3
  rw [List.take_add_one, h2]; rfl
theorem isd_iff (c : Int) : isd c = true ↔ 48 ≤ c ∧ c ≤ 57 := by simp [isd]
theorem dgs_step {s : List UInt8} (h : isd (hd s) = true) : dgs s = 1 + dgs s.tail := by
  cases s with
  | nil => exact absurd h (by decide)
  | cons x t => rw [hd_cons] at h; rw [dgs, if_pos h]; rfl
theorem dgs_stop {s : List UInt8} (h : ¬ isd (hd s) = true) : dgs s = 0 := by
  cases s with
  | nil => rfl
  | cons x t => rw [hd_cons] at h; rw [dgs, if_neg h]
theorem dgs_le : ∀ s : List UInt8, dgs s ≤ s.length
  | [] => Nat.le_refl _
  | x :: s => by have := dgs_le s; rw [dgs, List.length_cons]; split <;> omega

section
variable {w0 w w' : World} {cp : Nat} {b : List UInt8} {i : Nat} {s t : List UInt8} {u : Value} {out : List UInt8} {x : UInt8}

set_option maxHeartbeats 1600000 in
theorem digits_k (h : Kc w0 w cp b i s u out) :
    Calls Tryz.prog 120 #[.pointer (some ⟨cp, 0, none⟩)] w fun e w' => ∃ z : Int, ∃ q : Bool, (vl (s.take (dgs s)) 0 ≤ 2147483647 → z = (vl (s.take (dgs s)) 0 : Int)) ∧ q = decide (vl (s.take (dgs s)) 0 ≤ 2147483647) ∧ 0 ≤ z ∧ z ≤ 2147483647 ∧ e = .returned (.tuple #[.int .i64 z, .int .i64 (dgs s), .bool q]) ∧ Kc w0 w' cp b (i + dgs s) (s.drop (dgs s)) u out := by
  have hs0 := h.at_
  have hs1 := h.sm
  have hs2 : s.length ≤ 1000000 := by omega
  have hle := dgs_le s
  clear hs0 hs1
  go_enter Tryz.func120, Tryz.ntmps120
  go_wp2
  go_loopw [5, 6, 7] (fun v5 v6 v7 wr => ∃ k : Nat, ∃ z : Int, ∃ q : Bool, v6 = .int .i64 k ∧ v5 = .int .i64 z ∧ v7 = .bool q ∧ (vl (s.take k) 0 ≤ 2147483647 → z = (vl (s.take k) 0 : Int)) ∧ (2147483647 < vl (s.take k) 0 → z = 2147483647) ∧ q = decide (vl (s.take k) 0 ≤ 2147483647) ∧ 0 ≤ z ∧ z ≤ 2147483647 ∧ dgs s = k + dgs (s.drop k) ∧ Kc w0 wr cp b (i + k) (s.drop k) u out) (fun _ v6 _ _ => s.length - (intOf v6).toNat)
  case atStart => exact ⟨0, 0, true, rfl, rfl, rfl, fun _ => by simp [vl], fun q => by simp [vl] at q, by simp [vl], by omega, by omega, by simp, h⟩
  case round =>
    clear h
    obtain ⟨k, z, q, rfl, rfl, rfl, hz1, hz2, hq, z0, z1, hk, hC⟩ := hrel
    obtain ⟨wo, rfl⟩ : ∃ wo : World, wo = wr := ⟨_, rfl⟩
    have HK := hid hk
    have hk1 : k ≤ s.length := by omega
    generalize hs' : s.drop k = s' at hC
    have HS := hid hs'
    clear hk hs'
    have HZ1 := hid hz1
    have HZ2 := hid hz2
    have HQ := hid hq
    clear hz1 hz2 hq
    by_cases hr : isd (hd s') = true
    · obtain ⟨x, t, rfl⟩ : ∃ x t, s' = x :: t := by
        rcases s' with _ | ⟨x, t⟩
        · exact absurd hr (by decide)
        · exact ⟨x, t, rfl⟩
      have hlt := lt_of_drop HS.out
      have ht := hid (drop_succ_of HS.out)
      have hv : vl (s.take (k + 1)) 0 = 10 * vl (s.take k) 0 + (x.toNat - 48) := by rw [take_of_drop HS.out, vl_snoc]
      have HV := hid hv
      have hdg : dgs s = k + 1 + dgs t := by
        have h1 := HK.out
        rw [HS.out, dgs_step hr, List.tail_cons] at h1
        omega
      have HD := hid hdg
      rw [hd_cons, isd_iff] at hr
      have x0 := hr.1
      have x1 := hr.2
      have t1 : decide (48 ≤ c8 x) = true := decide_eq_true x0
      have t2 : decide (c8 x ≤ 57) = true := decide_eq_true x1
      have hx : c8 x - 48 = ((x.toNat - 48 : Nat) : Int) := by unfold c8 at *; omega
      have HX := hid hx
      have key : ∀ z' : Int, z' = z * 10 + (c8 x - 48) → (vl (s.take (k + 1)) 0 ≤ 2147483647 → z' = (vl (s.take (k + 1)) 0 : Int)) ∧ (z' ≤ 2147483647 → vl (s.take (k + 1)) 0 ≤ 2147483647) := by
        intro z' hz'
        have h1 := HZ1.out
        have h2 := HZ2.out
        rw [hx] at hz'
        rw [hv]
        constructor
        · intro hh; rw [hz', h1 (by omega)]; omega
        · intro hh
          rcases Nat.lt_or_ge 2147483647 (vl (s.take k) 0) with g | g
          · have := h2 g; omega
          · have := h1 g; omega
      have KEY := hid key
      clear hr hv hdg hx key
      by_cases hbig : 2147483647 < z * 10 + (c8 x - 48)
      · have t3 : decide (2147483647 < z * 10 + (c8 x - 48)) = true := decide_eq_true hbig
        go_wp2_with (first | (go_at_call 39; refine (kpeek0 hC).mono ?_; rintro e w1 ⟨rfl, hC, -⟩; first | rw [hd_cons] | rw [hd_nil] | skip) | (go_at_call 55; refine (knext_cons hC).mono ?_; rintro e w1 ⟨rfl, hC⟩))
        have hno : ¬ vl (s.take (k + 1)) 0 ≤ 2147483647 := fun hh => by have := (KEY.out _ rfl).1 hh; omega
        exact ⟨⟨k + 1, 2147483647, false, by go_num, rfl, rfl, fun hh => absurd hh hno, fun _ => rfl, (decide_eq_false hno).symm, by omega, by omega, by rw [HD.out, ht.out], by rw [ht.out]; exact hC⟩, by simp [intOf]; omega⟩
      · have t3 : decide (2147483647 < z * 10 + (c8 x - 48)) = false := decide_eq_false hbig
        go_wp2_with (first | (go_at_call 39; refine (kpeek0 hC).mono ?_; rintro e w1 ⟨rfl, hC, -⟩; first | rw [hd_cons] | rw [hd_nil] | skip) | (go_at_call 55; refine (knext_cons hC).mono ?_; rintro e w1 ⟨rfl, hC⟩))
        have hyes := (KEY.out _ rfl).2 (by omega)
        exact ⟨⟨k + 1, _, q, by go_num, rfl, rfl, fun hh => (KEY.out _ rfl).1 hh, fun hh => by omega, by
          rw [HQ.out, decide_eq_true hyes, decide_eq_true]; have := HV.out; omega, by omega, by omega, by rw [HD.out, ht.out], by rw [ht.out]; exact hC⟩, by simp [intOf]; omega⟩
    · have e1 : dgs s = k := by have h1 := HK.out; rw [HS.out, dgs_stop hr] at h1; exact h1
      have E := hid e1
      have hr2 : ¬ (48 ≤ hd s' ∧ hd s' ≤ 57) := fun g => hr ((isd_iff _).2 g)
      clear e1 hr
      by_cases h48 : 48 ≤ hd s'
      · have t1 : decide (48 ≤ hd s') = true := decide_eq_true h48
        have t2 : decide (hd s' ≤ 57) = false := decide_eq_false (by omega)
        clear hr2
        go_wp2_with (first | (go_at_call 39; refine (kpeek0 hC).mono ?_; rintro e w1 ⟨rfl, hC, -⟩; first | rw [hd_cons] | rw [hd_nil] | skip))
        go_ret3
        rw [E.out, HS.out]
        exact ⟨_, _, HZ1.out, HQ.out, z0, z1, rfl, hC⟩
      · have t1 : decide (48 ≤ hd s') = false := decide_eq_false h48
        clear hr2
        go_wp2_with (first | (go_at_call 39; refine (kpeek0 hC).mono ?_; rintro e w1 ⟨rfl, hC, -⟩; first | rw [hd_cons] | rw [hd_nil] | skip))
        go_ret3
        rw [E.out, HS.out]
        exact ⟨_, _, HZ1.out, HQ.out, z0, z1, rfl, hC⟩

theorem fr_eq : ∀ (k : Nat) (l : List UInt8) (n : Nat), fr k l n = vl (l.take k) n * 10 ^ (k - l.length)
  | 0, l, n => by simp [fr, vl]
  | k + 1, [], n => by
    rw [fr, fr_eq k [] (10 * n)]
    simp [vl, Nat.pow_succ]
    rw [Nat.mul_comm 10 n, Nat.mul_assoc, Nat.mul_comm 10]
  | k + 1, x :: l, n => by
    rw [fr, fr_eq k l _]
    simp [vl]

set_option maxHeartbeats 1600000 in
theorem behind_k (h : Kc w0 w cp b i s u out) :
    Calls Tryz.prog 121 #[.pointer (some ⟨cp, 0, none⟩)] w fun e w' => fr 5 (s.take (dgs s)) 0 ≤ 99999 ∧ e = .returned (.tuple #[.int .i64 (fr 5 (s.take (dgs s)) 0 : Nat), .int .i64 (dgs s)]) ∧ Kc w0 w' cp b (i + dgs s) (s.drop (dgs s)) u out := by
  have hs0 := h.at_
  have hs1 := h.sm
  have hs2 : s.length ≤ 1000000 := by omega
  have hle := dgs_le s
  clear hs0 hs1
  go_enter Tryz.func121, Tryz.ntmps121
  go_wp2
  go_loopw [4, 5, 6] (fun v4 v5 v6 wr => ∃ k z : Nat, v5 = .int .i64 k ∧ v4 = .int .i64 z ∧ z = vl ((s.take k).take 5) 0 ∧ z < 10 ^ (min k 5) ∧ dgs s = k + dgs (s.drop k) ∧ Kc w0 wr cp b (i + k) (s.drop k) u out) (fun _ v5 _ _ => s.length - (intOf v5).toNat)
  case atStart => exact ⟨0, 0, rfl, rfl, by simp [vl], by simp, by simp, h⟩
  case round =>
    clear h
    obtain ⟨k, z, rfl, rfl, hz, zb, hk, hC⟩ := hrel
    obtain ⟨wo, rfl⟩ : ∃ wo : World, wo = wr := ⟨_, rfl⟩
    have HK := hid hk
    have hk1 : k ≤ s.length := by omega
    generalize hs' : s.drop k = s' at hC
    have HS := hid hs'
    have HZ := hid hz
    have z5 : z < 100000 := Nat.lt_of_lt_of_le zb (by
      have : (10 : Nat) ^ min k 5 ≤ 10 ^ 5 := Nat.pow_le_pow_right (by decide) (Nat.min_le_right _ _)
      exact this)
    have ZB := hid zb
    clear hk hs' hz zb
    by_cases hr : isd (hd s') = true
    · obtain ⟨x, t, rfl⟩ : ∃ x t, s' = x :: t := by
        rcases s' with _ | ⟨x, t⟩
        · exact absurd hr (by decide)
        · exact ⟨x, t, rfl⟩
      have hlt := lt_of_drop HS.out
      have ht := hid (drop_succ_of HS.out)
      have hdg : dgs s = k + 1 + dgs t := by
        have h1 := HK.out
        rw [HS.out, dgs_step hr, List.tail_cons] at h1
        omega
      have HD := hid hdg
      rw [hd_cons, isd_iff] at hr
      have x0 := hr.1
      have x1 := hr.2
      have t1 : decide (48 ≤ c8 x) = true := decide_eq_true x0
      have t2 : decide (c8 x ≤ 57) = true := decide_eq_true x1
      have hx : c8 x - 48 = ((x.toNat - 48 : Nat) : Int) := by unfold c8 at *; omega
      have hx9 : x.toNat - 48 ≤ 9 := by unfold c8 at *; omega
      have HX := hid hx
      clear hr hdg hx
      by_cases h5 : k < 5
      · have t3 : decide (k < 5) = true := decide_eq_true h5
        have t4 : decide ((k : Int) < 5) = true := decide_eq_true (by omega)
        have hv : 10 * z + (x.toNat - 48) = vl ((s.take (k + 1)).take 5) 0 := by
          have hz := HZ.out
          rw [List.take_take, Nat.min_eq_right (by omega)] at hz
          rw [List.take_take, Nat.min_eq_right (by omega), take_of_drop HS.out, vl_snoc, ← hz]
        have HV := hid hv
        have zb : 10 * z + (x.toNat - 48) < 10 ^ (min (k + 1) 5) := by
          have := ZB.out
          rw [Nat.min_eq_left (by omega)] at this
          rw [Nat.min_eq_left (by omega), Nat.pow_succ]
          omega
        have ZB' := hid zb
        have hsum : (z : Int) * 10 + (c8 x - 48) = ((10 * z + (x.toNat - 48) : Nat) : Int) := by rw [HX.out]; omega
        have HSUM := hid hsum
        clear hv zb hsum
        go_wp2_with (first | (go_at_call 39; refine (kpeek0 hC).mono ?_; rintro e w1 ⟨rfl, hC, -⟩; first | rw [hd_cons] | rw [hd_nil] | skip) | (go_at_call 55; refine (knext_cons hC).mono ?_; rintro e w1 ⟨rfl, hC⟩))
        exact ⟨⟨k + 1, _, by go_num, by rw [HSUM.out], HV.out, ZB'.out, by rw [HD.out, ht.out], by rw [ht.out]; exact hC⟩, by simp [intOf]; omega⟩
      · have t3 : decide (k < 5) = false := decide_eq_false h5
        have t4 : decide ((k : Int) < 5) = false := decide_eq_false (by omega)
        have hv : z = vl ((s.take (k + 1)).take 5) 0 := by
          have hz := HZ.out
          rw [List.take_take, Nat.min_eq_left (by omega)] at hz
          rw [List.take_take, Nat.min_eq_left (by omega), ← hz]
        have HV := hid hv
        have zb : z < 10 ^ (min (k + 1) 5) := by
          have := ZB.out
          rw [Nat.min_eq_right (by omega)] at this
          rw [Nat.min_eq_right (by omega)]
          omega
        have ZB' := hid zb
        clear hv zb
        go_wp2_with (first | (go_at_call 39; refine (kpeek0 hC).mono ?_; rintro e w1 ⟨rfl, hC, -⟩; first | rw [hd_cons] | rw [hd_nil] | skip) | (go_at_call 55; refine (knext_cons hC).mono ?_; rintro e w1 ⟨rfl, hC⟩))
        exact ⟨⟨k + 1, z, by go_num, rfl, HV.out, ZB'.out, by rw [HD.out, ht.out], by rw [ht.out]; exact hC⟩, by simp [intOf]; omega⟩
    · have e1 : dgs s = k := by have h1 := HK.out; rw [HS.out, dgs_stop hr] at h1; exact h1
      have hr2 : ¬ (48 ≤ hd s' ∧ hd s' ≤ 57) := fun g => hr ((isd_iff _).2 g)
      subst e1
      have hfr : ∀ j y : Nat, y = z * 10 ^ (j - dgs s) → dgs s ≤ j → (j = 5 ∨ (5 ≤ j ∧ j = dgs s)) → fr 5 (s.take (dgs s)) 0 = y := by
        intro j y hy h1 h2
        rw [fr_eq, hy, HZ.out, List.length_take, Nat.min_eq_left hle]
        rcases h2 with rfl | ⟨h2, h3⟩
        · rfl
        · rw [show j - dgs s = 0 by omega, show 5 - dgs s = 0 by omega]
      have HFR := hid hfr
      have hzz : z < 10 ^ (dgs s) ∨ 5 ≤ dgs s := by
        rcases Nat.lt_or_ge (dgs s) 5 with g | g
        · left; have := ZB.out; rwa [Nat.min_eq_left (by omega)] at this
        · exact .inr g
      have HZZ := hid hzz
      clear hr hfr hzz
      have t1 : (decide (48 ≤ hd s') = false) ∨ (decide (48 ≤ hd s') = true ∧ decide (hd s' ≤ 57) = false) := by
        by_cases h48 : 48 ≤ hd s'
        · exact .inr ⟨decide_eq_true h48, decide_eq_false (by omega)⟩
        · exact .inl (decide_eq_false h48)
      clear hr2
      rcases t1 with t1 | ⟨t1, t2⟩
      all_goals
        go_wp2_with (first | (go_at_call 39; refine (kpeek0 hC).mono ?_; rintro e w1 ⟨rfl, hC, -⟩; first | rw [hd_cons] | rw [hd_nil] | skip))
        obtain ⟨wp, rfl⟩ : ∃ wp : World, wp = w1 := ⟨_, rfl⟩
        go_loopw [4, 7] (fun v4 v7 wr => ∃ j y : Nat, v7 = .int .i64 j ∧ v4 = .int .i64 y ∧ y = z * 10 ^ (j - dgs s) ∧ dgs s ≤ j ∧ (j ≤ 5 ∨ j = dgs s) ∧ y < 100000 ∧ Kc w0 wr cp b (i + dgs s) s' u out) (fun _ v7 _ => (5 - intOf v7).toNat)
        case atStart => exact ⟨dgs s, z, rfl, rfl, by simp, Nat.le_refl _, .inr rfl, z5, hC⟩
        case round =>
          obtain ⟨j, y, rfl, rfl, hy, hj, hj5, hyb, hC⟩ := hrel
          have HY := hid hy
          have HJ := hid hj5
          clear hy hj5
          by_cases h5 : j < 5
          · have t3 : decide (j < 5) = true := decide_eq_true h5
            have t4 : decide ((j : Int) < 5) = true := decide_eq_true (by omega)
            have hyb' : y * 10 < 100000 := by
              have hz1 : z < 10 ^ dgs s := by
                rcases HZZ.out with g | g
                · exact g
                · omega
              have h1 : y < 10 ^ j := by
                rw [HY.out]
                calc z * 10 ^ (j - dgs s) < 10 ^ dgs s * 10 ^ (j - dgs s) := Nat.mul_lt_mul_of_pos_right hz1 (Nat.pow_pos (by decide))
                  _ = 10 ^ j := by rw [← Nat.pow_add]; congr 1; omega
              have h2 : (10 : Nat) ^ j ≤ 10 ^ 4 := Nat.pow_le_pow_right (by decide) (by omega)
              omega
            have hy' : y * 10 = z * 10 ^ (j + 1 - dgs s) := by
              rw [HY.out, show j + 1 - dgs s = (j - dgs s) + 1 by omega, Nat.pow_succ, Nat.mul_assoc]
            have HY' := hid hy'
            clear hy'
            go_wp2
            exact ⟨⟨j + 1, y * 10, by go_num, by go_num, HY'.out, by omega, .inl (by omega), hyb', hC⟩, by simp [intOf]; omega⟩
          · have t3 : decide (j < 5) = false := decide_eq_false h5
            have t4 : decide ((j : Int) < 5) = false := decide_eq_false (by omega)
            go_wp2
            go_ret2
            have e5 := HFR.out j y HY.out hj (by rcases HJ.out with g | g <;> omega)
            rw [HS.out, e5]
            exact ⟨by omega, rfl, hC⟩
end
end Go.Proofs.YtlmgklebikcbjaaGreat
