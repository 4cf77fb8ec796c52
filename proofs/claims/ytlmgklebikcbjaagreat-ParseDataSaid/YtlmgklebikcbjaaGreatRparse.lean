/-
  The document's Parse: the number that bytes say; the walk. Conditions: sizes.
-/
import Derived.Test.YtlmgklebikcbjaaGreatRhex
import Derived.Test.YtlmgklebikcbjaaGreatParse
namespace Go.Proofs.YtlmgklebikcbjaaGreat
open Go.RowKit
set_option linter.unusedVariables false

/-- points and digits are counted; none: another sign -/
def l1 : List UInt8 → Nat → Nat → Option (Nat × Nat)
  | [], p, d => some (p, d)
  | x :: s, p, d => if c8 x = 46 then l1 s (p + 1) d else if isd (c8 x) = true then l1 s p (d + 1) else none

theorem l1_dgs : ∀ (s : List UInt8) (p d : Nat), l1 s p d = l1 (s.drop (dgs s)) p (d + dgs s)
  | [], p, d => rfl
  | x :: s, p, d => by
    by_cases h : isd (c8 x) = true
    · have h2 := (isd_iff _).1 h
      rw [l1, if_neg (by omega), if_pos h, l1_dgs s p (d + 1), dgs, if_pos h, Nat.add_comm 1 (dgs s), List.drop_succ_cons]
      congr 1; omega
    · rw [dgs, if_neg h]; rfl
theorem l1_mono : ∀ (s : List UInt8) (p d p' d' : Nat), l1 s p d = some (p', d') → p ≤ p'
  | [], p, d, p', d', h => by rw [l1] at h; injection h with h; injection h with h1 h2; omega
  | x :: s, p, d, p', d', h => by
    rw [l1] at h
    split at h
    · have := l1_mono s _ _ _ _ h; omega
    · split at h
      · exact l1_mono s _ _ _ _ h
      · cases h
theorem dgs_end (s : List UInt8) : ¬ isd (hd (s.drop (dgs s))) = true := by
  induction s with
  | nil => decide
  | cons x s ih =>
    rw [dgs]
    by_cases h : isd (c8 x) = true
    · rw [if_pos h, Nat.add_comm, List.drop_succ_cons]; exact ih
    · rw [if_neg h]; exact h
theorem dgs_get : ∀ (s : List UInt8) (k : Nat), k < dgs s → isd (hd (s.drop k)) = true
  | [], k, h => by simp [dgs] at h
  | x :: s, k, h => by
    rw [dgs] at h
    by_cases hx : isd (c8 x) = true
    · rw [if_pos hx] at h
      cases k with
      | zero => exact hx
      | succ k => rw [List.drop_succ_cons]; exact dgs_get s k (by omega)
    · rw [if_neg hx] at h; omega
theorem vl_ge : ∀ (l : List UInt8) (n : Nat), n ≤ vl l n
  | [], n => Nat.le_refl _
  | x :: l, n => by have := vl_ge l (10 * n + (x.toNat - 48)); rw [vl]; omega
theorem vl_app : ∀ (l m : List UInt8) (n : Nat), vl (l ++ m) n = vl m (vl l n)
  | [], m, n => rfl
  | x :: l, m, n => vl_app l m _
theorem vl_take (s : List UInt8) (k m : Nat) (h : k ≤ m) : vl (s.take k) 0 ≤ vl (s.take m) 0 := by
  have : s.take m = s.take k ++ (s.take m).drop k := by
    rw [show s.take k = (s.take m).take k by rw [List.take_take, Nat.min_eq_left h]]
    exact (List.take_append_drop k _).symm
  rw [this, vl_app]; exact vl_ge _ _

theorem l1_cases (s : List UInt8) (g : Int) :
    (l1 s 0 0 = none ∧ numb g (s.take (dgs s)) (s.drop (dgs s)) = (0, false, 4)) ∨
    (∃ p d, l1 s 0 0 = some (p, d) ∧ (1 < p ∨ d = 0) ∧ numb g (s.take (dgs s)) (s.drop (dgs s)) = (0, false, 4)) ∨
    (∃ d, l1 s 0 0 = some (0, d) ∧ ¬ d = 0 ∧ s.drop (dgs s) = [] ∧ dgs s = d) ∨
    (∃ d x f, l1 s 0 0 = some (1, d) ∧ ¬ d = 0 ∧ s.drop (dgs s) = x :: f ∧ c8 x = 46 ∧ dgs f = f.length ∧ dgs s + f.length = d) := by
  have hl : (s.take (dgs s)).length = dgs s := by rw [List.length_take, Nat.min_eq_left (dgs_le s)]
  have hd1 := dgs_end s
  rw [l1_dgs]
  generalize hr : s.drop (dgs s) = r at hd1
  rcases r with _ | ⟨x, f⟩
  · by_cases h0 : dgs s = 0
    · exact .inr (.inl ⟨0, _, rfl, .inr (by omega), by rw [numb, if_pos (by omega)]⟩)
    · exact .inr (.inr (.inl ⟨_, rfl, by omega, rfl, by omega⟩))
  · rw [hd_cons] at hd1
    by_cases hx : c8 x = 46
    · rw [l1, if_pos hx, l1_dgs]
      have hd2 := dgs_end f
      have hfl := dgs_le f
      by_cases hf : dgs f = f.length
      · have e1 : f.drop (dgs f) = [] := List.drop_eq_nil_of_le (by omega)
        rw [e1, l1]
        by_cases h0 : dgs s + f.length = 0
        · exact .inr (.inl ⟨1, _, rfl, .inr (by omega), by rw [numb, if_neg (fun q => q.2.2 (by omega))]⟩)
        · exact .inr (.inr (.inr ⟨_, x, f, rfl, by omega, rfl, hx, hf, by omega⟩))
      · have hn : numb g (s.take (dgs s)) (x :: f) = (0, false, 4) := by rw [numb, if_neg (fun q => hf q.2.1)]
        generalize hr2 : f.drop (dgs f) = r2 at hd2
        rcases r2 with _ | ⟨y, f2⟩
        · have := congrArg List.length hr2; simp at this; omega
        · rw [hd_cons] at hd2
          by_cases hy : c8 y = 46
          · rw [l1, if_pos hy]
            cases hq : l1 f2 (0 + 1 + 1) (0 + dgs s + dgs f) with
            | none => exact .inl ⟨rfl, hn⟩
            | some pd =>
              obtain ⟨p, d⟩ := pd
              have := l1_mono _ _ _ _ _ hq
              exact .inr (.inl ⟨p, d, rfl, .inl (by omega), hn⟩)
          · rw [l1, if_neg hy, if_neg hd2]; exact .inl ⟨rfl, hn⟩
    · rw [l1, if_neg hx, if_neg hd1]
      exact .inl ⟨rfl, by rw [numb, if_neg (fun q => hx q.1)]⟩

set_option maxHeartbeats 6400000 in
set_option maxRecDepth 100000 in
theorem rparse (v : Value) (b : List UInt8) (w : World) (h : Sl w v b) (hl : b.length ≤ 1000000) :
    Calls Tryz.prog 118 #[v] w fun e w' => e = .returned (.tuple #[.int .i64 (np b).1, .bool (np b).2.1, .int .i64 (np b).2.2]) ∧ w = w' := by
  obtain ⟨ao, cap, rfl, c1, c2, c3, c4⟩ := h
  by_cases hb0 : b = []
  · subst hb0
    go_enter Tryz.func118, Tryz.ntmps118
    go_wp2
    go_loop [7, 8, 9] (fun v7 v8 v9 => v7 = .int .i64 0 ∧ v8 = .int .i64 0 ∧ v9 = .int .i64 0) (fun _ _ _ => 0)
    case atStart => exact ⟨rfl, rfl, rfl⟩
    case round =>
      obtain ⟨rfl, rfl, rfl⟩ := hrel
      go_wp2
      go_ret3
      exact ⟨rfl, rfl⟩
  · have hlen : 0 < b.length := List.length_pos_iff.2 hb0
    obtain ⟨bb, oo, rfl, -, hc⟩ := c4.some hlen
    have hhd : hd b = b8 b 0 := by
      cases b with
      | nil => exact absurd rfl hb0
      | cons x t => simp [hd, b8, c8]
    have hcs : ∃ A : Nat, ∃ g : Int, A ≤ b.length ∧ uns b = b.drop A ∧ sgn b = g ∧ ((A = 1 ∧ g = 1 ∧ (b8 b 0 == 43) = true ∧ (b8 b 0 == 45) = false) ∨ (A = 1 ∧ g = -1 ∧ (b8 b 0 == 43) = false ∧ (b8 b 0 == 45) = true) ∨ (A = 0 ∧ g = 1 ∧ (b8 b 0 == 43) = false ∧ (b8 b 0 == 45) = false)) := by
      by_cases q1 : hd b = 43
      · exact ⟨1, 1, by omega, by unfold uns; rw [if_pos (.inl q1), List.drop_one], by unfold sgn; rw [if_neg (by omega)], .inl ⟨rfl, rfl, by rw [← hhd, q1]; rfl, by rw [← hhd, q1]; rfl⟩⟩
      by_cases q2 : hd b = 45
      · exact ⟨1, -1, by omega, by unfold uns; rw [if_pos (.inr q2), List.drop_one], by unfold sgn; rw [if_pos q2], .inr (.inl ⟨rfl, rfl, by rw [← hhd, q2]; rfl, by rw [← hhd, q2]; rfl⟩)⟩
      · exact ⟨0, 1, by omega, by unfold uns; rw [if_neg (by omega)]; rfl, by unfold sgn; rw [if_neg q2], .inr (.inr ⟨rfl, rfl, by rw [← hhd]; simpa using q1, by rw [← hhd]; simpa using q2⟩)⟩
    obtain ⟨A, g, hA, hun, hsg, hcase⟩ := hcs
    have hnp : np b = numb g ((b.drop A).take (dgs (b.drop A))) ((b.drop A).drop (dgs (b.drop A))) := np_eq hsg hun rfl rfl
    have hC := l1_cases (b.drop A) g
    have hdl := dgs_le (b.drop A)
    rw [List.length_drop] at hdl
    generalize hs : b.drop A = s at hnp hC hdl
    generalize hL : l1 s 0 0 = L at hC
    have HSD := hid hs
    have HL : Hid (l1 (b.drop A) 0 0 = L) := hid (by rw [hs]; exact hL)
    generalize hR : np b = R at hnp
    have HNP := hid hnp
    rw [← hnp] at hC
    have HC := hid hC
    have HCELL : Hid (∀ q x t, b.drop q = x :: t → w.cell? ⟨bb, oo + q, none⟩ = some (.int .u8 (c8 x))) := hid (fun q x t hq => by
      have h1 := lt_of_drop hq
      obtain ⟨y, h2, h3⟩ := drop_at h1
      rw [hq] at h2
      injection h2 with h4 _
      rw [hc q h1, ← h3, h4])
    have hc0 : w.cell? ⟨bb, oo, none⟩ = some (.int .u8 (b8 b 0)) := by simpa using hc 0 hlen
    clear hc c4 hhd hb0 hun hsg hnp hC hL hs hR
    have y0 := b8_ge b 0
    have y1 := b8_le b 0
    rcases hcase with ⟨rfl, rfl, q1, q2⟩ | ⟨rfl, rfl, q1, q2⟩ | ⟨rfl, rfl, q1, q2⟩
    · go_enter Tryz.func118, Tryz.ntmps118
      go_wp2_with (fail)
      clear hc0 q1 q2 y0 y1
      go_loop [7, 8, 9] (fun v7 v8 v9 => ∃ p d q : Nat, v7 = .int .i64 p ∧ v8 = .int .i64 d ∧ v9 = .int .i64 q ∧ l1 (b.drop q) p d = L ∧ q ≤ b.length ∧ p + d ≤ q) (fun _ _ v9 => b.length - (intOf v9).toNat)
      case atStart => exact ⟨0, 0, 1, rfl, rfl, rfl, HL.out, hA, by omega⟩
      case round =>
        obtain ⟨p, d, q, rfl, rfl, rfl, hq1, hq2, hq3⟩ := hrel
        by_cases hlt : q < b.length
        · obtain ⟨x, hx1, hx2⟩ := drop_at hlt
          have hcq := HCELL.out q x _ hx1
          rw [hx1, l1] at hq1
          have x0 := c8_ge x
          have x1 := c8_le x
          have tq : decide (q < b.length) = true := decide_eq_true hlt
          by_cases h46 : c8 x = 46
          · rw [if_pos h46] at hq1
            have HQ := hid hq1
            have b46 : (c8 x == 46) = true := by simpa using h46
            clear hx1 hx2 hq1 h46
            go_wp2_with (fail)
            exact ⟨⟨p + 1, d, q + 1, by go_num, rfl, by go_num, HQ.out, by omega, by omega⟩, by simp [intOf]; omega⟩
          rw [if_neg h46] at hq1
          have b46 : (c8 x == 46) = false := by simpa using h46
          by_cases hdg : isd (c8 x) = true
          · rw [if_pos hdg] at hq1
            rw [isd_iff] at hdg
            have t1 : decide (48 ≤ c8 x) = true := decide_eq_true hdg.1
            have t2 : decide (c8 x ≤ 57) = true := decide_eq_true hdg.2
            have HQ := hid hq1
            clear hx1 hx2 hq1 h46 hdg
            go_wp2_with (fail)
            exact ⟨⟨p, d + 1, q + 1, rfl, by go_num, by go_num, HQ.out, by omega, by omega⟩, by simp [intOf]; omega⟩
          · rw [if_neg hdg] at hq1
            rw [isd_iff] at hdg
            have HB : Hid (R = (0, false, 4)) := hid (by
              rcases HC.out with ⟨_, e⟩ | ⟨_, _, e, _⟩ | ⟨_, e, _⟩ | ⟨_, _, _, e, _⟩
              · exact e
              · rw [← hq1] at e; cases e
              · rw [← hq1] at e; cases e
              · rw [← hq1] at e; cases e)
            have tt : decide (48 ≤ c8 x) = false ∨ (decide (48 ≤ c8 x) = true ∧ decide (c8 x ≤ 57) = false) := by
              by_cases h48 : 48 ≤ c8 x
              · exact .inr ⟨decide_eq_true h48, decide_eq_false (by omega)⟩
              · exact .inl (decide_eq_false h48)
            clear hx1 hx2 hq1 h46 hdg
            rcases tt with t1 | ⟨t1, t2⟩
            all_goals
              go_wp2_with (fail)
              go_ret3
              rw [HB.out]
              exact ⟨rfl, rfl⟩
        · rw [List.drop_eq_nil_of_le (by omega), l1] at hq1
          have tq : decide (q < b.length) = false := decide_eq_false hlt
          have HQ := hid hq1
          clear hq1
          rcases HC.out with ⟨e, _⟩ | ⟨p', d', e, hpd, e2⟩ | ⟨d', e, hd0, hr, hdd⟩ | ⟨d', x, f, e, hd0, hr, hx, hf, hdd⟩
          · rw [← HQ.out] at e; cases e
          · rw [← HQ.out] at e
            injection e with e
            injection e with e3 e4
            subst e3; subst e4
            have HB := hid e2
            clear e2
            by_cases hp1 : 1 < p
            · have t1 : decide (1 < p) = true := decide_eq_true hp1
              clear hpd
              go_wp2_with (fail)
              go_ret3
              rw [HB.out]
              exact ⟨rfl, rfl⟩
            · have t1 : decide (1 < p) = false := decide_eq_false hp1
              have hd0 : d = 0 := by omega
              subst hd0
              clear hpd
              go_wp2_with (fail)
              go_ret3
              rw [HB.out]
              exact ⟨rfl, rfl⟩
          · rw [← HQ.out] at e
            injection e with e
            injection e with e3 e4
            subst e3; subst e4
            have bd : (((d : Nat) : Int) == 0) = false := by simp; omega
            have hal : (s.take (dgs s)).length = d := by rw [List.length_take, Nat.min_eq_left (dgs_le s)]; exact hdd
            have HR := HNP.out
            rw [hr, numb, if_neg (by omega)] at HR
            have HBIG : Hid (2147483647 < vl (s.take (dgs s)) 0 → R = (0, false, 5)) := hid (fun hh => by rw [HR, if_pos hh])
            have HOK : Hid (¬ 2147483647 < vl (s.take (dgs s)) 0 → R = (1 * (vl (s.take (dgs s)) 0 : Int), true, 0)) := hid (fun hh => by rw [HR, if_neg hh])
            have HRR := hid hr
            have hds : dgs s ≤ 1000000 := by omega
            clear HR hr hdd hal
            go_wp2_with (fail)
            go_loop [10, 11] (fun v10 v11 => ∃ q k : Nat, ∃ z : Int, v11 = .int .i64 q ∧ v10 = .int .i64 z ∧ 1 + k ≤ q ∧ q ≤ 1 + k ∧ k ≤ dgs s ∧ z = (vl (s.take k) 0 : Int) ∧ 0 ≤ z ∧ z ≤ 2147483647) (fun _ v11 => b.length - (intOf v11).toNat)
            case atStart => exact ⟨1, 0, 0, rfl, rfl, by omega, by omega, by omega, by simp [vl], by omega, by omega⟩
            case round =>
              obtain ⟨q, k, z, rfl, rfl, qa, qb, hk, hz, z0, z1⟩ := hrel
              have HZ := hid hz
              have hdq : Hid (b.drop q = s.drop k) := hid (by rw [← HSD.out, List.drop_drop]; congr 1; omega)
              clear hz
              by_cases hkl : k < dgs s
              · have hg := dgs_get s k hkl
                obtain ⟨x1, t1', hxt⟩ : ∃ x1 t1', s.drop k = x1 :: t1' := by
                  cases hq : s.drop k with
                  | nil => rw [hq] at hg; exact absurd hg (by decide)
                  | cons x1 t1' => exact ⟨x1, t1', rfl⟩
                rw [hxt, hd_cons, isd_iff] at hg
                have g0 := hg.1
                have g1 := hg.2
                have hcq := HCELL.out q x1 t1' (by rw [hdq.out, hxt])
                have hql : q < b.length := lt_of_drop (show b.drop q = x1 :: t1' by rw [hdq.out, hxt])
                have hqq : decide (q < b.length) = true := decide_eq_true hql
                have b46 : (c8 x1 != 46) = true := by simp; omega
                have hv : vl (s.take (k + 1)) 0 = 10 * vl (s.take k) 0 + (x1.toNat - 48) := by rw [take_of_drop hxt, vl_snoc]
                have hx : c8 x1 - 48 = ((x1.toNat - 48 : Nat) : Int) := by unfold c8 at *; omega
                have hv2 : 10 * z + (c8 x1 - 48) = (vl (s.take (k + 1)) 0 : Int) := by rw [hv, hx, HZ.out]; omega
                have HV := hid hv2
                clear hg hxt hv hx
                by_cases hbig : 2147483647 < 10 * z + (c8 x1 - 48)
                · have tb : decide (2147483647 < 10 * z + (c8 x1 - 48)) = true := decide_eq_true hbig
                  have HB := hid (HBIG.out (by have := vl_take s (k + 1) (dgs s) (by omega); omega))
                  clear hv2
                  go_wp2_with (fail)
                  go_ret3
                  rw [HB.out]
                  exact ⟨rfl, rfl⟩
                · have tb : decide (2147483647 < 10 * z + (c8 x1 - 48)) = false := decide_eq_false hbig
                  clear hv2
                  go_wp2_with (fail)
                  exact ⟨⟨q + 1, k + 1, _, by go_num, rfl, by omega, by omega, by omega, HV.out, by omega, by omega⟩, by simp [intOf]; omega⟩
              · obtain rfl : k = dgs s := by omega
                have HO := hid (HOK.out (by have := HZ.out; omega))
                have hqe : ¬ q < b.length := fun hh => by have h1 := hdq.out; rw [HRR.out] at h1; have := congrArg List.length h1; simp at this; omega
                have tqq : decide (q < b.length) = false := decide_eq_false hqe
                go_wp2_with (fail)
                go_ret3
                rw [HO.out, ← HZ.out]
                exact ⟨by first | rfl | simp, rfl⟩
          · rw [← HQ.out] at e
            injection e with e
            injection e with e3 e4
            subst e3; subst e4
            have bd : (((d : Nat) : Int) == 0) = false := by simp; omega
            have hal : (s.take (dgs s)).length = dgs s := by rw [List.length_take, Nat.min_eq_left (dgs_le s)]
            have HR := HNP.out
            rw [hr, numb, if_pos ⟨hx, hf, by omega⟩] at HR
            have HBIG : Hid (2147483647 < vl (s.take (dgs s)) 0 → R = (0, false, 5)) := hid (fun hh => by rw [HR, if_pos hh])
            have HOK : Hid (¬ 2147483647 < vl (s.take (dgs s)) 0 → R = (1 * ((vl (s.take (dgs s)) 0 : Int) * 100000 + (fr 5 f 0 : Int)), false, 0)) := hid (fun hh => by rw [HR, if_neg hh])
            have HRR := hid hr
            have HX := hid hx
            have hfl : f.length ≤ 1000000 := by omega
            have hds : dgs s ≤ 1000000 := by omega
            have HF2 := hid hf
            clear HR hr hdd hal hx hf
            go_wp2_with (fail)
            go_loop [10, 11] (fun v10 v11 => ∃ q k : Nat, ∃ z : Int, v11 = .int .i64 q ∧ v10 = .int .i64 z ∧ 1 + k ≤ q ∧ q ≤ 1 + k ∧ k ≤ dgs s ∧ z = (vl (s.take k) 0 : Int) ∧ 0 ≤ z ∧ z ≤ 2147483647) (fun _ v11 => b.length - (intOf v11).toNat)
            case atStart => exact ⟨1, 0, 0, rfl, rfl, by omega, by omega, by omega, by simp [vl], by omega, by omega⟩
            case round =>
              obtain ⟨q, k, z, rfl, rfl, qa, qb, hk, hz, z0, z1⟩ := hrel
              have HZ := hid hz
              have hdq : Hid (b.drop q = s.drop k) := hid (by rw [← HSD.out, List.drop_drop]; congr 1; omega)
              clear hz
              by_cases hkl : k < dgs s
              · have hg := dgs_get s k hkl
                obtain ⟨x1, t1', hxt⟩ : ∃ x1 t1', s.drop k = x1 :: t1' := by
                  cases hq : s.drop k with
                  | nil => rw [hq] at hg; exact absurd hg (by decide)
                  | cons x1 t1' => exact ⟨x1, t1', rfl⟩
                rw [hxt, hd_cons, isd_iff] at hg
                have g0 := hg.1
                have g1 := hg.2
                have hcq := HCELL.out q x1 t1' (by rw [hdq.out, hxt])
                have hql : q < b.length := lt_of_drop (show b.drop q = x1 :: t1' by rw [hdq.out, hxt])
                have hqq : decide (q < b.length) = true := decide_eq_true hql
                have b46 : (c8 x1 != 46) = true := by simp; omega
                have hv : vl (s.take (k + 1)) 0 = 10 * vl (s.take k) 0 + (x1.toNat - 48) := by rw [take_of_drop hxt, vl_snoc]
                have hx : c8 x1 - 48 = ((x1.toNat - 48 : Nat) : Int) := by unfold c8 at *; omega
                have hv2 : 10 * z + (c8 x1 - 48) = (vl (s.take (k + 1)) 0 : Int) := by rw [hv, hx, HZ.out]; omega
                have HV := hid hv2
                clear hg hxt hv hx
                by_cases hbig : 2147483647 < 10 * z + (c8 x1 - 48)
                · have tb : decide (2147483647 < 10 * z + (c8 x1 - 48)) = true := decide_eq_true hbig
                  have HB := hid (HBIG.out (by have := vl_take s (k + 1) (dgs s) (by omega); omega))
                  clear hv2
                  go_wp2_with (fail)
                  go_ret3
                  rw [HB.out]
                  exact ⟨rfl, rfl⟩
                · have tb : decide (2147483647 < 10 * z + (c8 x1 - 48)) = false := decide_eq_false hbig
                  clear hv2
                  go_wp2_with (fail)
                  exact ⟨⟨q + 1, k + 1, _, by go_num, rfl, by omega, by omega, by omega, HV.out, by omega, by omega⟩, by simp [intOf]; omega⟩
              · obtain rfl : k = dgs s := by omega
                have HO := hid (HOK.out (by have := HZ.out; omega))
                have hqd : b.drop q = x :: f := by rw [hdq.out, HRR.out]
                have hcq := HCELL.out q x f hqd
                have hql := lt_of_drop hqd
                have hqf := congrArg List.length hqd
                rw [List.length_drop, List.length_cons] at hqf
                have hqf' : q + 1 + f.length ≤ b.length ∧ b.length ≤ q + 1 + f.length := by omega
                have HQD := hid hqd
                have tqq : decide (q < b.length) = true := decide_eq_true hql
                have b46 : (c8 x != 46) = false := by rw [HX.out]; rfl
                have hqa := hqf'.1
                have hqb := hqf'.2
                clear hqf hqf' hqd
                go_wp2_with (fail)
                generalize hF : fr 5 f 0 = F at HO
                go_loop [12, 13] (fun v12 v13 => ∃ k y : Nat, v13 = .int .i64 k ∧ v12 = .int .i64 y ∧ k ≤ 5 ∧ fr (5 - k) (f.drop k) y = F ∧ y < 10 ^ k) (fun _ v13 => 5 - (intOf v13).toNat)
                case atStart => exact ⟨0, 0, rfl, rfl, by omega, hF, by decide⟩
                case round =>
                  obtain ⟨k, y, rfl, rfl, hk5, hfr, hyb⟩ := hrel
                  have y5 : y < 100000 := Nat.lt_of_lt_of_le hyb (by
                    have : (10 : Nat) ^ k ≤ 10 ^ 5 := Nat.pow_le_pow_right (by decide) hk5
                    exact this)
                  have HYB := hid hyb
                  by_cases hk : k < 5
                  · have t5 : decide ((k : Int) < 5) = true := decide_eq_true (by omega)
                    have t5' : decide (k < 5) = true := decide_eq_true hk
                    obtain ⟨mm, hmm⟩ : ∃ mm, 5 - k = mm + 1 := ⟨4 - k, by omega⟩
                    have hm2 : 5 - (k + 1) = mm := by omega
                    rw [hmm] at hfr
                    by_cases hkf : k < f.length
                    · obtain ⟨z1', hz1, hz2⟩ := drop_at hkf
                      rw [hz1, fr] at hfr
                      have hdg2 := dgs_get f k (by rw [HF2.out]; exact hkf)
                      rw [hz1, hd_cons, isd_iff] at hdg2
                      have g0 := hdg2.1
                      have g1 := hdg2.2
                      have hcz := HCELL.out (q + 1 + k) z1' (f.drop (k + 1)) (by rw [← List.drop_drop, drop_succ_of HQD.out]; exact hz1)
                      have hsum : 10 * (y : Int) + (c8 z1' - 48) = ((10 * y + (z1'.toNat - 48) : Nat) : Int) := by unfold c8 at *; omega
                      have HSUM := hid hsum
                      have HFR : Hid (fr (5 - (k + 1)) (f.drop (k + 1)) (10 * y + (z1'.toNat - 48)) = F) := hid (by rw [hm2]; exact hfr)
                      have HY2 : Hid (10 * y + (z1'.toNat - 48) < 10 ^ (k + 1)) := hid (by
                        have h1 := HYB.out
                        have h2 : z1'.toNat - 48 ≤ 9 := by unfold c8 at *; omega
                        rw [Nat.pow_succ]; omega)
                      have tl : decide ((q : Int) + 1 + (k : Int) < (b.length : Int)) = true := decide_eq_true (by omega)
                      have tln : decide (q + 1 + k < b.length) = true := decide_eq_true (by omega)
                      clear hz1 hz2 hfr hdg2 hsum hmm hm2 hyb
                      go_wp2_with (fail)
                      exact ⟨⟨k + 1, _, by go_num, by rw [HSUM.out], by omega, HFR.out, HY2.out⟩, by simp [intOf]; omega⟩
                    · rw [List.drop_eq_nil_of_le (by omega), fr] at hfr
                      have HFR : Hid (fr (5 - (k + 1)) (f.drop (k + 1)) (10 * y) = F) := hid (by rw [hm2, List.drop_eq_nil_of_le (by omega)]; exact hfr)
                      have HY2 : Hid (10 * y < 10 ^ (k + 1)) := hid (by
                        have h1 := HYB.out
                        rw [Nat.pow_succ]; omega)
                      have tl : decide ((q : Int) + 1 + (k : Int) < (b.length : Int)) = false := decide_eq_false (by omega)
                      have tln : decide (q + 1 + k < b.length) = false := decide_eq_false (by omega)
                      clear hfr hmm hm2 hyb
                      go_wp2_with (fail)
                      exact ⟨⟨k + 1, 10 * y, by go_num, by go_num, by omega, HFR.out, HY2.out⟩, by simp [intOf]; omega⟩
                  · have t5 : decide ((k : Int) < 5) = false := decide_eq_false (by omega)
                    have t5' : decide (k < 5) = false := decide_eq_false hk
                    have hk0 : 5 - k = 0 := by omega
                    rw [hk0] at hfr
                    have hyF : Hid (y = F) := hid (by simpa [fr] using hfr)
                    clear hfr hk0 hyb
                    go_wp2_with (fail)
                    go_ret3
                    rw [HO.out, ← HZ.out, ← hyF.out]
                    exact ⟨by first | rfl | simp, rfl⟩
    · go_enter Tryz.func118, Tryz.ntmps118
      go_wp2_with (fail)
      clear hc0 q1 q2 y0 y1
      go_loop [7, 8, 9] (fun v7 v8 v9 => ∃ p d q : Nat, v7 = .int .i64 p ∧ v8 = .int .i64 d ∧ v9 = .int .i64 q ∧ l1 (b.drop q) p d = L ∧ q ≤ b.length ∧ p + d ≤ q) (fun _ _ v9 => b.length - (intOf v9).toNat)
      case atStart => exact ⟨0, 0, 1, rfl, rfl, rfl, HL.out, hA, by omega⟩
      case round =>
        obtain ⟨p, d, q, rfl, rfl, rfl, hq1, hq2, hq3⟩ := hrel
        by_cases hlt : q < b.length
        · obtain ⟨x, hx1, hx2⟩ := drop_at hlt
          have hcq := HCELL.out q x _ hx1
          rw [hx1, l1] at hq1
          have x0 := c8_ge x
          have x1 := c8_le x
          have tq : decide (q < b.length) = true := decide_eq_true hlt
          by_cases h46 : c8 x = 46
          · rw [if_pos h46] at hq1
            have HQ := hid hq1
            have b46 : (c8 x == 46) = true := by simpa using h46
            clear hx1 hx2 hq1 h46
            go_wp2_with (fail)
            exact ⟨⟨p + 1, d, q + 1, by go_num, rfl, by go_num, HQ.out, by omega, by omega⟩, by simp [intOf]; omega⟩
          rw [if_neg h46] at hq1
          have b46 : (c8 x == 46) = false := by simpa using h46
          by_cases hdg : isd (c8 x) = true
          · rw [if_pos hdg] at hq1
            rw [isd_iff] at hdg
            have t1 : decide (48 ≤ c8 x) = true := decide_eq_true hdg.1
            have t2 : decide (c8 x ≤ 57) = true := decide_eq_true hdg.2
            have HQ := hid hq1
            clear hx1 hx2 hq1 h46 hdg
            go_wp2_with (fail)
            exact ⟨⟨p, d + 1, q + 1, rfl, by go_num, by go_num, HQ.out, by omega, by omega⟩, by simp [intOf]; omega⟩
          · rw [if_neg hdg] at hq1
            rw [isd_iff] at hdg
            have HB : Hid (R = (0, false, 4)) := hid (by
              rcases HC.out with ⟨_, e⟩ | ⟨_, _, e, _⟩ | ⟨_, e, _⟩ | ⟨_, _, _, e, _⟩
              · exact e
              · rw [← hq1] at e; cases e
              · rw [← hq1] at e; cases e
              · rw [← hq1] at e; cases e)
            have tt : decide (48 ≤ c8 x) = false ∨ (decide (48 ≤ c8 x) = true ∧ decide (c8 x ≤ 57) = false) := by
              by_cases h48 : 48 ≤ c8 x
              · exact .inr ⟨decide_eq_true h48, decide_eq_false (by omega)⟩
              · exact .inl (decide_eq_false h48)
            clear hx1 hx2 hq1 h46 hdg
            rcases tt with t1 | ⟨t1, t2⟩
            all_goals
              go_wp2_with (fail)
              go_ret3
              rw [HB.out]
              exact ⟨rfl, rfl⟩
        · rw [List.drop_eq_nil_of_le (by omega), l1] at hq1
          have tq : decide (q < b.length) = false := decide_eq_false hlt
          have HQ := hid hq1
          clear hq1
          rcases HC.out with ⟨e, _⟩ | ⟨p', d', e, hpd, e2⟩ | ⟨d', e, hd0, hr, hdd⟩ | ⟨d', x, f, e, hd0, hr, hx, hf, hdd⟩
          · rw [← HQ.out] at e; cases e
          · rw [← HQ.out] at e
            injection e with e
            injection e with e3 e4
            subst e3; subst e4
            have HB := hid e2
            clear e2
            by_cases hp1 : 1 < p
            · have t1 : decide (1 < p) = true := decide_eq_true hp1
              clear hpd
              go_wp2_with (fail)
              go_ret3
              rw [HB.out]
              exact ⟨rfl, rfl⟩
            · have t1 : decide (1 < p) = false := decide_eq_false hp1
              have hd0 : d = 0 := by omega
              subst hd0
              clear hpd
              go_wp2_with (fail)
              go_ret3
              rw [HB.out]
              exact ⟨rfl, rfl⟩
          · rw [← HQ.out] at e
            injection e with e
            injection e with e3 e4
            subst e3; subst e4
            have bd : (((d : Nat) : Int) == 0) = false := by simp; omega
            have hal : (s.take (dgs s)).length = d := by rw [List.length_take, Nat.min_eq_left (dgs_le s)]; exact hdd
            have HR := HNP.out
            rw [hr, numb, if_neg (by omega)] at HR
            have HBIG : Hid (2147483647 < vl (s.take (dgs s)) 0 → R = (0, false, 5)) := hid (fun hh => by rw [HR, if_pos hh])
            have HOK : Hid (¬ 2147483647 < vl (s.take (dgs s)) 0 → R = ((-1) * (vl (s.take (dgs s)) 0 : Int), true, 0)) := hid (fun hh => by rw [HR, if_neg hh])
            have HRR := hid hr
            have hds : dgs s ≤ 1000000 := by omega
            clear HR hr hdd hal
            go_wp2_with (fail)
            go_loop [10, 11] (fun v10 v11 => ∃ q k : Nat, ∃ z : Int, v11 = .int .i64 q ∧ v10 = .int .i64 z ∧ 1 + k ≤ q ∧ q ≤ 1 + k ∧ k ≤ dgs s ∧ z = (vl (s.take k) 0 : Int) ∧ 0 ≤ z ∧ z ≤ 2147483647) (fun _ v11 => b.length - (intOf v11).toNat)
            case atStart => exact ⟨1, 0, 0, rfl, rfl, by omega, by omega, by omega, by simp [vl], by omega, by omega⟩
            case round =>
              obtain ⟨q, k, z, rfl, rfl, qa, qb, hk, hz, z0, z1⟩ := hrel
              have HZ := hid hz
              have hdq : Hid (b.drop q = s.drop k) := hid (by rw [← HSD.out, List.drop_drop]; congr 1; omega)
              clear hz
              by_cases hkl : k < dgs s
              · have hg := dgs_get s k hkl
                obtain ⟨x1, t1', hxt⟩ : ∃ x1 t1', s.drop k = x1 :: t1' := by
                  cases hq : s.drop k with
                  | nil => rw [hq] at hg; exact absurd hg (by decide)
                  | cons x1 t1' => exact ⟨x1, t1', rfl⟩
                rw [hxt, hd_cons, isd_iff] at hg
                have g0 := hg.1
                have g1 := hg.2
                have hcq := HCELL.out q x1 t1' (by rw [hdq.out, hxt])
                have hql : q < b.length := lt_of_drop (show b.drop q = x1 :: t1' by rw [hdq.out, hxt])
                have hqq : decide (q < b.length) = true := decide_eq_true hql
                have b46 : (c8 x1 != 46) = true := by simp; omega
                have hv : vl (s.take (k + 1)) 0 = 10 * vl (s.take k) 0 + (x1.toNat - 48) := by rw [take_of_drop hxt, vl_snoc]
                have hx : c8 x1 - 48 = ((x1.toNat - 48 : Nat) : Int) := by unfold c8 at *; omega
                have hv2 : 10 * z + (c8 x1 - 48) = (vl (s.take (k + 1)) 0 : Int) := by rw [hv, hx, HZ.out]; omega
                have HV := hid hv2
                clear hg hxt hv hx
                by_cases hbig : 2147483647 < 10 * z + (c8 x1 - 48)
                · have tb : decide (2147483647 < 10 * z + (c8 x1 - 48)) = true := decide_eq_true hbig
                  have HB := hid (HBIG.out (by have := vl_take s (k + 1) (dgs s) (by omega); omega))
                  clear hv2
                  go_wp2_with (fail)
                  go_ret3
                  rw [HB.out]
                  exact ⟨rfl, rfl⟩
                · have tb : decide (2147483647 < 10 * z + (c8 x1 - 48)) = false := decide_eq_false hbig
                  clear hv2
                  go_wp2_with (fail)
                  exact ⟨⟨q + 1, k + 1, _, by go_num, rfl, by omega, by omega, by omega, HV.out, by omega, by omega⟩, by simp [intOf]; omega⟩
              · obtain rfl : k = dgs s := by omega
                have HO := hid (HOK.out (by have := HZ.out; omega))
                have hqe : ¬ q < b.length := fun hh => by have h1 := hdq.out; rw [HRR.out] at h1; have := congrArg List.length h1; simp at this; omega
                have tqq : decide (q < b.length) = false := decide_eq_false hqe
                go_wp2_with (fail)
                go_ret3
                rw [HO.out, ← HZ.out]
                exact ⟨by first | rfl | simp, rfl⟩
          · rw [← HQ.out] at e
            injection e with e
            injection e with e3 e4
            subst e3; subst e4
            have bd : (((d : Nat) : Int) == 0) = false := by simp; omega
            have hal : (s.take (dgs s)).length = dgs s := by rw [List.length_take, Nat.min_eq_left (dgs_le s)]
            have HR := HNP.out
            rw [hr, numb, if_pos ⟨hx, hf, by omega⟩] at HR
            have HBIG : Hid (2147483647 < vl (s.take (dgs s)) 0 → R = (0, false, 5)) := hid (fun hh => by rw [HR, if_pos hh])
            have HOK : Hid (¬ 2147483647 < vl (s.take (dgs s)) 0 → R = ((-1) * ((vl (s.take (dgs s)) 0 : Int) * 100000 + (fr 5 f 0 : Int)), false, 0)) := hid (fun hh => by rw [HR, if_neg hh])
            have HRR := hid hr
            have HX := hid hx
            have hfl : f.length ≤ 1000000 := by omega
            have hds : dgs s ≤ 1000000 := by omega
            have HF2 := hid hf
            clear HR hr hdd hal hx hf
            go_wp2_with (fail)
            go_loop [10, 11] (fun v10 v11 => ∃ q k : Nat, ∃ z : Int, v11 = .int .i64 q ∧ v10 = .int .i64 z ∧ 1 + k ≤ q ∧ q ≤ 1 + k ∧ k ≤ dgs s ∧ z = (vl (s.take k) 0 : Int) ∧ 0 ≤ z ∧ z ≤ 2147483647) (fun _ v11 => b.length - (intOf v11).toNat)
            case atStart => exact ⟨1, 0, 0, rfl, rfl, by omega, by omega, by omega, by simp [vl], by omega, by omega⟩
            case round =>
              obtain ⟨q, k, z, rfl, rfl, qa, qb, hk, hz, z0, z1⟩ := hrel
              have HZ := hid hz
              have hdq : Hid (b.drop q = s.drop k) := hid (by rw [← HSD.out, List.drop_drop]; congr 1; omega)
              clear hz
              by_cases hkl : k < dgs s
              · have hg := dgs_get s k hkl
                obtain ⟨x1, t1', hxt⟩ : ∃ x1 t1', s.drop k = x1 :: t1' := by
                  cases hq : s.drop k with
                  | nil => rw [hq] at hg; exact absurd hg (by decide)
                  | cons x1 t1' => exact ⟨x1, t1', rfl⟩
                rw [hxt, hd_cons, isd_iff] at hg
                have g0 := hg.1
                have g1 := hg.2
                have hcq := HCELL.out q x1 t1' (by rw [hdq.out, hxt])
                have hql : q < b.length := lt_of_drop (show b.drop q = x1 :: t1' by rw [hdq.out, hxt])
                have hqq : decide (q < b.length) = true := decide_eq_true hql
                have b46 : (c8 x1 != 46) = true := by simp; omega
                have hv : vl (s.take (k + 1)) 0 = 10 * vl (s.take k) 0 + (x1.toNat - 48) := by rw [take_of_drop hxt, vl_snoc]
                have hx : c8 x1 - 48 = ((x1.toNat - 48 : Nat) : Int) := by unfold c8 at *; omega
                have hv2 : 10 * z + (c8 x1 - 48) = (vl (s.take (k + 1)) 0 : Int) := by rw [hv, hx, HZ.out]; omega
                have HV := hid hv2
                clear hg hxt hv hx
                by_cases hbig : 2147483647 < 10 * z + (c8 x1 - 48)
                · have tb : decide (2147483647 < 10 * z + (c8 x1 - 48)) = true := decide_eq_true hbig
                  have HB := hid (HBIG.out (by have := vl_take s (k + 1) (dgs s) (by omega); omega))
                  clear hv2
                  go_wp2_with (fail)
                  go_ret3
                  rw [HB.out]
                  exact ⟨rfl, rfl⟩
                · have tb : decide (2147483647 < 10 * z + (c8 x1 - 48)) = false := decide_eq_false hbig
                  clear hv2
                  go_wp2_with (fail)
                  exact ⟨⟨q + 1, k + 1, _, by go_num, rfl, by omega, by omega, by omega, HV.out, by omega, by omega⟩, by simp [intOf]; omega⟩
              · obtain rfl : k = dgs s := by omega
                have HO := hid (HOK.out (by have := HZ.out; omega))
                have hqd : b.drop q = x :: f := by rw [hdq.out, HRR.out]
                have hcq := HCELL.out q x f hqd
                have hql := lt_of_drop hqd
                have hqf := congrArg List.length hqd
                rw [List.length_drop, List.length_cons] at hqf
                have hqf' : q + 1 + f.length ≤ b.length ∧ b.length ≤ q + 1 + f.length := by omega
                have HQD := hid hqd
                have tqq : decide (q < b.length) = true := decide_eq_true hql
                have b46 : (c8 x != 46) = false := by rw [HX.out]; rfl
                have hqa := hqf'.1
                have hqb := hqf'.2
                clear hqf hqf' hqd
                go_wp2_with (fail)
                generalize hF : fr 5 f 0 = F at HO
                go_loop [12, 13] (fun v12 v13 => ∃ k y : Nat, v13 = .int .i64 k ∧ v12 = .int .i64 y ∧ k ≤ 5 ∧ fr (5 - k) (f.drop k) y = F ∧ y < 10 ^ k) (fun _ v13 => 5 - (intOf v13).toNat)
                case atStart => exact ⟨0, 0, rfl, rfl, by omega, hF, by decide⟩
                case round =>
                  obtain ⟨k, y, rfl, rfl, hk5, hfr, hyb⟩ := hrel
                  have y5 : y < 100000 := Nat.lt_of_lt_of_le hyb (by
                    have : (10 : Nat) ^ k ≤ 10 ^ 5 := Nat.pow_le_pow_right (by decide) hk5
                    exact this)
                  have HYB := hid hyb
                  by_cases hk : k < 5
                  · have t5 : decide ((k : Int) < 5) = true := decide_eq_true (by omega)
                    have t5' : decide (k < 5) = true := decide_eq_true hk
                    obtain ⟨mm, hmm⟩ : ∃ mm, 5 - k = mm + 1 := ⟨4 - k, by omega⟩
                    have hm2 : 5 - (k + 1) = mm := by omega
                    rw [hmm] at hfr
                    by_cases hkf : k < f.length
                    · obtain ⟨z1', hz1, hz2⟩ := drop_at hkf
                      rw [hz1, fr] at hfr
                      have hdg2 := dgs_get f k (by rw [HF2.out]; exact hkf)
                      rw [hz1, hd_cons, isd_iff] at hdg2
                      have g0 := hdg2.1
                      have g1 := hdg2.2
                      have hcz := HCELL.out (q + 1 + k) z1' (f.drop (k + 1)) (by rw [← List.drop_drop, drop_succ_of HQD.out]; exact hz1)
                      have hsum : 10 * (y : Int) + (c8 z1' - 48) = ((10 * y + (z1'.toNat - 48) : Nat) : Int) := by unfold c8 at *; omega
                      have HSUM := hid hsum
                      have HFR : Hid (fr (5 - (k + 1)) (f.drop (k + 1)) (10 * y + (z1'.toNat - 48)) = F) := hid (by rw [hm2]; exact hfr)
                      have HY2 : Hid (10 * y + (z1'.toNat - 48) < 10 ^ (k + 1)) := hid (by
                        have h1 := HYB.out
                        have h2 : z1'.toNat - 48 ≤ 9 := by unfold c8 at *; omega
                        rw [Nat.pow_succ]; omega)
                      have tl : decide ((q : Int) + 1 + (k : Int) < (b.length : Int)) = true := decide_eq_true (by omega)
                      have tln : decide (q + 1 + k < b.length) = true := decide_eq_true (by omega)
                      clear hz1 hz2 hfr hdg2 hsum hmm hm2 hyb
                      go_wp2_with (fail)
                      exact ⟨⟨k + 1, _, by go_num, by rw [HSUM.out], by omega, HFR.out, HY2.out⟩, by simp [intOf]; omega⟩
                    · rw [List.drop_eq_nil_of_le (by omega), fr] at hfr
                      have HFR : Hid (fr (5 - (k + 1)) (f.drop (k + 1)) (10 * y) = F) := hid (by rw [hm2, List.drop_eq_nil_of_le (by omega)]; exact hfr)
                      have HY2 : Hid (10 * y < 10 ^ (k + 1)) := hid (by
                        have h1 := HYB.out
                        rw [Nat.pow_succ]; omega)
                      have tl : decide ((q : Int) + 1 + (k : Int) < (b.length : Int)) = false := decide_eq_false (by omega)
                      have tln : decide (q + 1 + k < b.length) = false := decide_eq_false (by omega)
                      clear hfr hmm hm2 hyb
                      go_wp2_with (fail)
                      exact ⟨⟨k + 1, 10 * y, by go_num, by go_num, by omega, HFR.out, HY2.out⟩, by simp [intOf]; omega⟩
                  · have t5 : decide ((k : Int) < 5) = false := decide_eq_false (by omega)
                    have t5' : decide (k < 5) = false := decide_eq_false hk
                    have hk0 : 5 - k = 0 := by omega
                    rw [hk0] at hfr
                    have hyF : Hid (y = F) := hid (by simpa [fr] using hfr)
                    clear hfr hk0 hyb
                    go_wp2_with (fail)
                    go_ret3
                    rw [HO.out, ← HZ.out, ← hyF.out]
                    exact ⟨by first | rfl | simp, rfl⟩
    · go_enter Tryz.func118, Tryz.ntmps118
      go_wp2_with (fail)
      clear hc0 q1 q2 y0 y1
      go_loop [7, 8, 9] (fun v7 v8 v9 => ∃ p d q : Nat, v7 = .int .i64 p ∧ v8 = .int .i64 d ∧ v9 = .int .i64 q ∧ l1 (b.drop q) p d = L ∧ q ≤ b.length ∧ p + d ≤ q) (fun _ _ v9 => b.length - (intOf v9).toNat)
      case atStart => exact ⟨0, 0, 0, rfl, rfl, rfl, HL.out, hA, by omega⟩
      case round =>
        obtain ⟨p, d, q, rfl, rfl, rfl, hq1, hq2, hq3⟩ := hrel
        by_cases hlt : q < b.length
        · obtain ⟨x, hx1, hx2⟩ := drop_at hlt
          have hcq := HCELL.out q x _ hx1
          rw [hx1, l1] at hq1
          have x0 := c8_ge x
          have x1 := c8_le x
          have tq : decide (q < b.length) = true := decide_eq_true hlt
          by_cases h46 : c8 x = 46
          · rw [if_pos h46] at hq1
            have HQ := hid hq1
            have b46 : (c8 x == 46) = true := by simpa using h46
            clear hx1 hx2 hq1 h46
            go_wp2_with (fail)
            exact ⟨⟨p + 1, d, q + 1, by go_num, rfl, by go_num, HQ.out, by omega, by omega⟩, by simp [intOf]; omega⟩
          rw [if_neg h46] at hq1
          have b46 : (c8 x == 46) = false := by simpa using h46
          by_cases hdg : isd (c8 x) = true
          · rw [if_pos hdg] at hq1
            rw [isd_iff] at hdg
            have t1 : decide (48 ≤ c8 x) = true := decide_eq_true hdg.1
            have t2 : decide (c8 x ≤ 57) = true := decide_eq_true hdg.2
            have HQ := hid hq1
            clear hx1 hx2 hq1 h46 hdg
            go_wp2_with (fail)
            exact ⟨⟨p, d + 1, q + 1, rfl, by go_num, by go_num, HQ.out, by omega, by omega⟩, by simp [intOf]; omega⟩
          · rw [if_neg hdg] at hq1
            rw [isd_iff] at hdg
            have HB : Hid (R = (0, false, 4)) := hid (by
              rcases HC.out with ⟨_, e⟩ | ⟨_, _, e, _⟩ | ⟨_, e, _⟩ | ⟨_, _, _, e, _⟩
              · exact e
              · rw [← hq1] at e; cases e
              · rw [← hq1] at e; cases e
              · rw [← hq1] at e; cases e)
            have tt : decide (48 ≤ c8 x) = false ∨ (decide (48 ≤ c8 x) = true ∧ decide (c8 x ≤ 57) = false) := by
              by_cases h48 : 48 ≤ c8 x
              · exact .inr ⟨decide_eq_true h48, decide_eq_false (by omega)⟩
              · exact .inl (decide_eq_false h48)
            clear hx1 hx2 hq1 h46 hdg
            rcases tt with t1 | ⟨t1, t2⟩
            all_goals
              go_wp2_with (fail)
              go_ret3
              rw [HB.out]
              exact ⟨rfl, rfl⟩
        · rw [List.drop_eq_nil_of_le (by omega), l1] at hq1
          have tq : decide (q < b.length) = false := decide_eq_false hlt
          have HQ := hid hq1
          clear hq1
          rcases HC.out with ⟨e, _⟩ | ⟨p', d', e, hpd, e2⟩ | ⟨d', e, hd0, hr, hdd⟩ | ⟨d', x, f, e, hd0, hr, hx, hf, hdd⟩
          · rw [← HQ.out] at e; cases e
          · rw [← HQ.out] at e
            injection e with e
            injection e with e3 e4
            subst e3; subst e4
            have HB := hid e2
            clear e2
            by_cases hp1 : 1 < p
            · have t1 : decide (1 < p) = true := decide_eq_true hp1
              clear hpd
              go_wp2_with (fail)
              go_ret3
              rw [HB.out]
              exact ⟨rfl, rfl⟩
            · have t1 : decide (1 < p) = false := decide_eq_false hp1
              have hd0 : d = 0 := by omega
              subst hd0
              clear hpd
              go_wp2_with (fail)
              go_ret3
              rw [HB.out]
              exact ⟨rfl, rfl⟩
          · rw [← HQ.out] at e
            injection e with e
            injection e with e3 e4
            subst e3; subst e4
            have bd : (((d : Nat) : Int) == 0) = false := by simp; omega
            have hal : (s.take (dgs s)).length = d := by rw [List.length_take, Nat.min_eq_left (dgs_le s)]; exact hdd
            have HR := HNP.out
            rw [hr, numb, if_neg (by omega)] at HR
            have HBIG : Hid (2147483647 < vl (s.take (dgs s)) 0 → R = (0, false, 5)) := hid (fun hh => by rw [HR, if_pos hh])
            have HOK : Hid (¬ 2147483647 < vl (s.take (dgs s)) 0 → R = (1 * (vl (s.take (dgs s)) 0 : Int), true, 0)) := hid (fun hh => by rw [HR, if_neg hh])
            have HRR := hid hr
            have hds : dgs s ≤ 1000000 := by omega
            clear HR hr hdd hal
            go_wp2_with (fail)
            go_loop [10, 11] (fun v10 v11 => ∃ q k : Nat, ∃ z : Int, v11 = .int .i64 q ∧ v10 = .int .i64 z ∧ 0 + k ≤ q ∧ q ≤ 0 + k ∧ k ≤ dgs s ∧ z = (vl (s.take k) 0 : Int) ∧ 0 ≤ z ∧ z ≤ 2147483647) (fun _ v11 => b.length - (intOf v11).toNat)
            case atStart => exact ⟨0, 0, 0, rfl, rfl, by omega, by omega, by omega, by simp [vl], by omega, by omega⟩
            case round =>
              obtain ⟨q, k, z, rfl, rfl, qa, qb, hk, hz, z0, z1⟩ := hrel
              have HZ := hid hz
              have hdq : Hid (b.drop q = s.drop k) := hid (by rw [← HSD.out, List.drop_drop]; congr 1; omega)
              clear hz
              by_cases hkl : k < dgs s
              · have hg := dgs_get s k hkl
                obtain ⟨x1, t1', hxt⟩ : ∃ x1 t1', s.drop k = x1 :: t1' := by
                  cases hq : s.drop k with
                  | nil => rw [hq] at hg; exact absurd hg (by decide)
                  | cons x1 t1' => exact ⟨x1, t1', rfl⟩
                rw [hxt, hd_cons, isd_iff] at hg
                have g0 := hg.1
                have g1 := hg.2
                have hcq := HCELL.out q x1 t1' (by rw [hdq.out, hxt])
                have hql : q < b.length := lt_of_drop (show b.drop q = x1 :: t1' by rw [hdq.out, hxt])
                have hqq : decide (q < b.length) = true := decide_eq_true hql
                have b46 : (c8 x1 != 46) = true := by simp; omega
                have hv : vl (s.take (k + 1)) 0 = 10 * vl (s.take k) 0 + (x1.toNat - 48) := by rw [take_of_drop hxt, vl_snoc]
                have hx : c8 x1 - 48 = ((x1.toNat - 48 : Nat) : Int) := by unfold c8 at *; omega
                have hv2 : 10 * z + (c8 x1 - 48) = (vl (s.take (k + 1)) 0 : Int) := by rw [hv, hx, HZ.out]; omega
                have HV := hid hv2
                clear hg hxt hv hx
                by_cases hbig : 2147483647 < 10 * z + (c8 x1 - 48)
                · have tb : decide (2147483647 < 10 * z + (c8 x1 - 48)) = true := decide_eq_true hbig
                  have HB := hid (HBIG.out (by have := vl_take s (k + 1) (dgs s) (by omega); omega))
                  clear hv2
                  go_wp2_with (fail)
                  go_ret3
                  rw [HB.out]
                  exact ⟨rfl, rfl⟩
                · have tb : decide (2147483647 < 10 * z + (c8 x1 - 48)) = false := decide_eq_false hbig
                  clear hv2
                  go_wp2_with (fail)
                  exact ⟨⟨q + 1, k + 1, _, by go_num, rfl, by omega, by omega, by omega, HV.out, by omega, by omega⟩, by simp [intOf]; omega⟩
              · obtain rfl : k = dgs s := by omega
                have HO := hid (HOK.out (by have := HZ.out; omega))
                have hqe : ¬ q < b.length := fun hh => by have h1 := hdq.out; rw [HRR.out] at h1; have := congrArg List.length h1; simp at this; omega
                have tqq : decide (q < b.length) = false := decide_eq_false hqe
                go_wp2_with (fail)
                go_ret3
                rw [HO.out, ← HZ.out]
                exact ⟨by first | rfl | simp, rfl⟩
          · rw [← HQ.out] at e
            injection e with e
            injection e with e3 e4
            subst e3; subst e4
            have bd : (((d : Nat) : Int) == 0) = false := by simp; omega
            have hal : (s.take (dgs s)).length = dgs s := by rw [List.length_take, Nat.min_eq_left (dgs_le s)]
            have HR := HNP.out
            rw [hr, numb, if_pos ⟨hx, hf, by omega⟩] at HR
            have HBIG : Hid (2147483647 < vl (s.take (dgs s)) 0 → R = (0, false, 5)) := hid (fun hh => by rw [HR, if_pos hh])
            have HOK : Hid (¬ 2147483647 < vl (s.take (dgs s)) 0 → R = (1 * ((vl (s.take (dgs s)) 0 : Int) * 100000 + (fr 5 f 0 : Int)), false, 0)) := hid (fun hh => by rw [HR, if_neg hh])
            have HRR := hid hr
            have HX := hid hx
            have hfl : f.length ≤ 1000000 := by omega
            have hds : dgs s ≤ 1000000 := by omega
            have HF2 := hid hf
            clear HR hr hdd hal hx hf
            go_wp2_with (fail)
            go_loop [10, 11] (fun v10 v11 => ∃ q k : Nat, ∃ z : Int, v11 = .int .i64 q ∧ v10 = .int .i64 z ∧ 0 + k ≤ q ∧ q ≤ 0 + k ∧ k ≤ dgs s ∧ z = (vl (s.take k) 0 : Int) ∧ 0 ≤ z ∧ z ≤ 2147483647) (fun _ v11 => b.length - (intOf v11).toNat)
            case atStart => exact ⟨0, 0, 0, rfl, rfl, by omega, by omega, by omega, by simp [vl], by omega, by omega⟩
            case round =>
              obtain ⟨q, k, z, rfl, rfl, qa, qb, hk, hz, z0, z1⟩ := hrel
              have HZ := hid hz
              have hdq : Hid (b.drop q = s.drop k) := hid (by rw [← HSD.out, List.drop_drop]; congr 1; omega)
              clear hz
              by_cases hkl : k < dgs s
              · have hg := dgs_get s k hkl
                obtain ⟨x1, t1', hxt⟩ : ∃ x1 t1', s.drop k = x1 :: t1' := by
                  cases hq : s.drop k with
                  | nil => rw [hq] at hg; exact absurd hg (by decide)
                  | cons x1 t1' => exact ⟨x1, t1', rfl⟩
                rw [hxt, hd_cons, isd_iff] at hg
                have g0 := hg.1
                have g1 := hg.2
                have hcq := HCELL.out q x1 t1' (by rw [hdq.out, hxt])
                have hql : q < b.length := lt_of_drop (show b.drop q = x1 :: t1' by rw [hdq.out, hxt])
                have hqq : decide (q < b.length) = true := decide_eq_true hql
                have b46 : (c8 x1 != 46) = true := by simp; omega
                have hv : vl (s.take (k + 1)) 0 = 10 * vl (s.take k) 0 + (x1.toNat - 48) := by rw [take_of_drop hxt, vl_snoc]
                have hx : c8 x1 - 48 = ((x1.toNat - 48 : Nat) : Int) := by unfold c8 at *; omega
                have hv2 : 10 * z + (c8 x1 - 48) = (vl (s.take (k + 1)) 0 : Int) := by rw [hv, hx, HZ.out]; omega
                have HV := hid hv2
                clear hg hxt hv hx
                by_cases hbig : 2147483647 < 10 * z + (c8 x1 - 48)
                · have tb : decide (2147483647 < 10 * z + (c8 x1 - 48)) = true := decide_eq_true hbig
                  have HB := hid (HBIG.out (by have := vl_take s (k + 1) (dgs s) (by omega); omega))
                  clear hv2
                  go_wp2_with (fail)
                  go_ret3
                  rw [HB.out]
                  exact ⟨rfl, rfl⟩
                · have tb : decide (2147483647 < 10 * z + (c8 x1 - 48)) = false := decide_eq_false hbig
                  clear hv2
                  go_wp2_with (fail)
                  exact ⟨⟨q + 1, k + 1, _, by go_num, rfl, by omega, by omega, by omega, HV.out, by omega, by omega⟩, by simp [intOf]; omega⟩
              · obtain rfl : k = dgs s := by omega
                have HO := hid (HOK.out (by have := HZ.out; omega))
                have hqd : b.drop q = x :: f := by rw [hdq.out, HRR.out]
                have hcq := HCELL.out q x f hqd
                have hql := lt_of_drop hqd
                have hqf := congrArg List.length hqd
                rw [List.length_drop, List.length_cons] at hqf
                have hqf' : q + 1 + f.length ≤ b.length ∧ b.length ≤ q + 1 + f.length := by omega
                have HQD := hid hqd
                have tqq : decide (q < b.length) = true := decide_eq_true hql
                have b46 : (c8 x != 46) = false := by rw [HX.out]; rfl
                have hqa := hqf'.1
                have hqb := hqf'.2
                clear hqf hqf' hqd
                go_wp2_with (fail)
                generalize hF : fr 5 f 0 = F at HO
                go_loop [12, 13] (fun v12 v13 => ∃ k y : Nat, v13 = .int .i64 k ∧ v12 = .int .i64 y ∧ k ≤ 5 ∧ fr (5 - k) (f.drop k) y = F ∧ y < 10 ^ k) (fun _ v13 => 5 - (intOf v13).toNat)
                case atStart => exact ⟨0, 0, rfl, rfl, by omega, hF, by decide⟩
                case round =>
                  obtain ⟨k, y, rfl, rfl, hk5, hfr, hyb⟩ := hrel
                  have y5 : y < 100000 := Nat.lt_of_lt_of_le hyb (by
                    have : (10 : Nat) ^ k ≤ 10 ^ 5 := Nat.pow_le_pow_right (by decide) hk5
                    exact this)
                  have HYB := hid hyb
                  by_cases hk : k < 5
                  · have t5 : decide ((k : Int) < 5) = true := decide_eq_true (by omega)
                    have t5' : decide (k < 5) = true := decide_eq_true hk
                    obtain ⟨mm, hmm⟩ : ∃ mm, 5 - k = mm + 1 := ⟨4 - k, by omega⟩
                    have hm2 : 5 - (k + 1) = mm := by omega
                    rw [hmm] at hfr
                    by_cases hkf : k < f.length
                    · obtain ⟨z1', hz1, hz2⟩ := drop_at hkf
                      rw [hz1, fr] at hfr
                      have hdg2 := dgs_get f k (by rw [HF2.out]; exact hkf)
                      rw [hz1, hd_cons, isd_iff] at hdg2
                      have g0 := hdg2.1
                      have g1 := hdg2.2
                      have hcz := HCELL.out (q + 1 + k) z1' (f.drop (k + 1)) (by rw [← List.drop_drop, drop_succ_of HQD.out]; exact hz1)
                      have hsum : 10 * (y : Int) + (c8 z1' - 48) = ((10 * y + (z1'.toNat - 48) : Nat) : Int) := by unfold c8 at *; omega
                      have HSUM := hid hsum
                      have HFR : Hid (fr (5 - (k + 1)) (f.drop (k + 1)) (10 * y + (z1'.toNat - 48)) = F) := hid (by rw [hm2]; exact hfr)
                      have HY2 : Hid (10 * y + (z1'.toNat - 48) < 10 ^ (k + 1)) := hid (by
                        have h1 := HYB.out
                        have h2 : z1'.toNat - 48 ≤ 9 := by unfold c8 at *; omega
                        rw [Nat.pow_succ]; omega)
                      have tl : decide ((q : Int) + 1 + (k : Int) < (b.length : Int)) = true := decide_eq_true (by omega)
                      have tln : decide (q + 1 + k < b.length) = true := decide_eq_true (by omega)
                      clear hz1 hz2 hfr hdg2 hsum hmm hm2 hyb
                      go_wp2_with (fail)
                      exact ⟨⟨k + 1, _, by go_num, by rw [HSUM.out], by omega, HFR.out, HY2.out⟩, by simp [intOf]; omega⟩
                    · rw [List.drop_eq_nil_of_le (by omega), fr] at hfr
                      have HFR : Hid (fr (5 - (k + 1)) (f.drop (k + 1)) (10 * y) = F) := hid (by rw [hm2, List.drop_eq_nil_of_le (by omega)]; exact hfr)
                      have HY2 : Hid (10 * y < 10 ^ (k + 1)) := hid (by
                        have h1 := HYB.out
                        rw [Nat.pow_succ]; omega)
                      have tl : decide ((q : Int) + 1 + (k : Int) < (b.length : Int)) = false := decide_eq_false (by omega)
                      have tln : decide (q + 1 + k < b.length) = false := decide_eq_false (by omega)
                      clear hfr hmm hm2 hyb
                      go_wp2_with (fail)
                      exact ⟨⟨k + 1, 10 * y, by go_num, by go_num, by omega, HFR.out, HY2.out⟩, by simp [intOf]; omega⟩
                  · have t5 : decide ((k : Int) < 5) = false := decide_eq_false (by omega)
                    have t5' : decide (k < 5) = false := decide_eq_false hk
                    have hk0 : 5 - k = 0 := by omega
                    rw [hk0] at hfr
                    have hyF : Hid (y = F) := hid (by simpa [fr] using hfr)
                    clear hfr hk0 hyb
                    go_wp2_with (fail)
                    go_ret3
                    rw [HO.out, ← HZ.out, ← hyF.out]
                    exact ⟨by first | rfl | simp, rfl⟩
end Go.Proofs.YtlmgklebikcbjaaGreat
