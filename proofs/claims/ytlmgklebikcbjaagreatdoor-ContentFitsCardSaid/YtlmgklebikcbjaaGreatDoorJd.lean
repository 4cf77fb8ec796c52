/-
  The document's lexer beside a token that is being filled; number; the walks. Condition: the lexer stands in its bytes.
-/
import Derived.Test.YtlmgklebikcbjaaGreatDoorJb
/-
  The document's Parse: the number that bytes say; the walk. Conditions: sizes.
-/
namespace Go.Proofs.YtlmgklebikcbjaaGreatDoor
open Go.RowKit
set_option linter.unusedVariables false

/-- points and digits are counted; none: another sign -/
def l1 : List UInt8 → Nat → Nat → Option (Nat × Nat)
  | [], p, d => some (p, d)
  | x :: s, p, d => if c8 x = 46 then l1 s (p + 1) d else if isd (c8 x) = true then l1 s p (d + 1) else none

theorem l1_dgs : ∀ (s : List UInt8) (p d : Nat), l1 s p d = l1 (s.drop (dgs s)) p (d + dgs s)
  | [], p, d => rfl
  | x :: s, p, d => by
    by_cases h : isd (c8 x) = true
    · have h2 := (isd_iff _).1 h
      rw [l1, if_neg (by omega), if_pos h, l1_dgs s p (d + 1), dgs, if_pos h, Nat.add_comm 1 (dgs s), List.drop_succ_cons]
      congr 1; omega
    · rw [dgs, if_neg h]; rfl
theorem l1_mono : ∀ (s : List UInt8) (p d p' d' : Nat), l1 s p d = some (p', d') → p ≤ p'
  | [], p, d, p', d', h => by rw [l1] at h; injection h with h; injection h with h1 h2; omega
  | x :: s, p, d, p', d', h => by
    rw [l1] at h
    split at h
    · have := l1_mono s _ _ _ _ h; omega
    · split at h
      · exact l1_mono s _ _ _ _ h
      · cases h
theorem dgs_end (s : List UInt8) : ¬ isd (hd (s.drop (dgs s))) = true := by
  induction s with
  | nil => decide
  | cons x s ih =>
    rw [dgs]
    by_cases h : isd (c8 x) = true
    · rw [if_pos h, Nat.add_comm, List.drop_succ_cons]; exact ih
    · rw [if_neg h]; exact h
theorem dgs_get : ∀ (s : List UInt8) (k : Nat), k < dgs s → isd (hd (s.drop k)) = true
  | [], k, h => by simp [dgs] at h
  | x :: s, k, h => by
    rw [dgs] at h
    by_cases hx : isd (c8 x) = true
    · rw [if_pos hx] at h
      cases k with
      | zero => exact hx
      | succ k => rw [List.drop_succ_cons]; exact dgs_get s k (by omega)
    · rw [if_neg hx] at h; omega
theorem vl_ge : ∀ (l : List UInt8) (n : Nat), n ≤ vl l n
  | [], n => Nat.le_refl _
  | x :: l, n => by have := vl_ge l (10 * n + (x.toNat - 48)); rw [vl]; omega
theorem vl_app : ∀ (l m : List UInt8) (n : Nat), vl (l ++ m) n = vl m (vl l n)
  | [], m, n => rfl
  | x :: l, m, n => vl_app l m _
theorem vl_take (s : List UInt8) (k m : Nat) (h : k ≤ m) : vl (s.take k) 0 ≤ vl (s.take m) 0 := by
  have : s.take m = s.take k ++ (s.take m).drop k := by
    rw [show s.take k = (s.take m).take k by rw [List.take_take, Nat.min_eq_left h]]
    exact (List.take_append_drop k _).symm
  rw [this, vl_app]; exact vl_ge _ _

theorem l1_cases (s : List UInt8) (g : Int) :
    (l1 s 0 0 = none ∧ numb g (s.take (dgs s)) (s.drop (dgs s)) = (0, false, 4)) ∨
    (∃ p d, l1 s 0 0 = some (p, d) ∧ (1 < p ∨ d = 0) ∧ numb g (s.take (dgs s)) (s.drop (dgs s)) = (0, false, 4)) ∨
    (∃ d, l1 s 0 0 = some (0, d) ∧ ¬ d = 0 ∧ s.drop (dgs s) = [] ∧ dgs s = d) ∨
    (∃ d x f, l1 s 0 0 = some (1, d) ∧ ¬ d = 0 ∧ s.drop (dgs s) = x :: f ∧ c8 x = 46 ∧ dgs f = f.length ∧ dgs s + f.length = d) := by
  have hl : (s.take (dgs s)).length = dgs s := by rw [List.length_take, Nat.min_eq_left (dgs_le s)]
  have hd1 := dgs_end s
  rw [l1_dgs]
  generalize hr : s.drop (dgs s) = r at hd1
  rcases r with _ | ⟨x, f⟩
  · by_cases h0 : dgs s = 0
    · exact .inr (.inl ⟨0, _, rfl, .inr (by omega), by rw [numb, if_pos (by omega)]⟩)
    · exact .inr (.inr (.inl ⟨_, rfl, by omega, rfl, by omega⟩))
  · rw [hd_cons] at hd1
    by_cases hx : c8 x = 46
    · rw [l1, if_pos hx, l1_dgs]
      have hd2 := dgs_end f
      have hfl := dgs_le f
      by_cases hf : dgs f = f.length
      · have e1 : f.drop (dgs f) = [] := List.drop_eq_nil_of_le (by omega)
        rw [e1, l1]
        by_cases h0 : dgs s + f.length = 0
        · exact .inr (.inl ⟨1, _, rfl, .inr (by omega), by rw [numb, if_neg (fun q => q.2.2 (by omega))]⟩)
        · exact .inr (.inr (.inr ⟨_, x, f, rfl, by omega, rfl, hx, hf, by omega⟩))
      · have hn : numb g (s.take (dgs s)) (x :: f) = (0, false, 4) := by rw [numb, if_neg (fun q => hf q.2.1)]
        generalize hr2 : f.drop (dgs f) = r2 at hd2
        rcases r2 with _ | ⟨y, f2⟩
        · have := congrArg List.length hr2; simp at this; omega
        · rw [hd_cons] at hd2
          by_cases hy : c8 y = 46
          · rw [l1, if_pos hy]
            cases hq : l1 f2 (0 + 1 + 1) (0 + dgs s + dgs f) with
            | none => exact .inl ⟨rfl, hn⟩
            | some pd =>
              obtain ⟨p, d⟩ := pd
              have := l1_mono _ _ _ _ _ hq
              exact .inr (.inl ⟨p, d, rfl, .inl (by omega), hn⟩)
          · rw [l1, if_neg hy, if_neg hd2]; exact .inl ⟨rfl, hn⟩
    · rw [l1, if_neg hx, if_neg hd1]
      exact .inl ⟨rfl, by rw [numb, if_neg (fun q => hx q.1)]⟩

set_option maxHeartbeats 6400000 in
set_option maxRecDepth 100000 in
theorem rparse (v : Value) (b : List UInt8) (w : World) (h : Sl w v b) (hl : b.length ≤ 4000000) :
    Calls Tryz.prog 157 #[v] w fun e w' => e = .returned (.tuple #[.int .i64 (np b).1, .bool (np b).2.1, .int .i64 (np b).2.2]) ∧ w = w' := by
  obtain ⟨ao, cap, rfl, c1, c2, c3, c4⟩ := h
  by_cases hb0 : b = []
  · subst hb0
    go_enter Tryz.func157, Tryz.ntmps157
    go_wp2
    go_loop [7, 8, 9] (fun v7 v8 v9 => v7 = .int .i64 0 ∧ v8 = .int .i64 0 ∧ v9 = .int .i64 0) (fun _ _ _ => 0)
    case atStart => exact ⟨rfl, rfl, rfl⟩
    case round =>
      obtain ⟨rfl, rfl, rfl⟩ := hrel
      go_wp2
      go_ret3
      exact ⟨rfl, rfl⟩
  · have hlen : 0 < b.length := List.length_pos_iff.2 hb0
    obtain ⟨bb, oo, rfl, -, hc⟩ := c4.some hlen
    have hhd : hd b = b8 b 0 := by
      cases b with
      | nil => exact absurd rfl hb0
      | cons x t => simp [hd, b8, c8]
    have hcs : ∃ A : Nat, ∃ g : Int, A ≤ b.length ∧ uns b = b.drop A ∧ sgn b = g ∧ ((A = 1 ∧ g = 1 ∧ (b8 b 0 == 43) = true ∧ (b8 b 0 == 45) = false) ∨ (A = 1 ∧ g = -1 ∧ (b8 b 0 == 43) = false ∧ (b8 b 0 == 45) = true) ∨ (A = 0 ∧ g = 1 ∧ (b8 b 0 == 43) = false ∧ (b8 b 0 == 45) = false)) := by
      by_cases q1 : hd b = 43
      · exact ⟨1, 1, by omega, by unfold uns; rw [if_pos (.inl q1), List.drop_one], by unfold sgn; rw [if_neg (by omega)], .inl ⟨rfl, rfl, by rw [← hhd, q1]; rfl, by rw [← hhd, q1]; rfl⟩⟩
      by_cases q2 : hd b = 45
      · exact ⟨1, -1, by omega, by unfold uns; rw [if_pos (.inr q2), List.drop_one], by unfold sgn; rw [if_pos q2], .inr (.inl ⟨rfl, rfl, by rw [← hhd, q2]; rfl, by rw [← hhd, q2]; rfl⟩)⟩
      · exact ⟨0, 1, by omega, by unfold uns; rw [if_neg (by omega)]; rfl, by unfold sgn; rw [if_neg q2], .inr (.inr ⟨rfl, rfl, by rw [← hhd]; simpa using q1, by rw [← hhd]; simpa using q2⟩)⟩
    obtain ⟨A, g, hA, hun, hsg, hcase⟩ := hcs
    have hnp : np b = numb g ((b.drop A).take (dgs (b.drop A))) ((b.drop A).drop (dgs (b.drop A))) := np_eq hsg hun rfl rfl
    have hC := l1_cases (b.drop A) g
    have hdl := dgs_le (b.drop A)
    rw [List.length_drop] at hdl
    generalize hs : b.drop A = s at hnp hC hdl
    generalize hL : l1 s 0 0 = L at hC
    have HSD := hid hs
    have HL : Hid (l1 (b.drop A) 0 0 = L) := hid (by rw [hs]; exact hL)
    generalize hR : np b = R at hnp
    have HNP := hid hnp
    rw [← hnp] at hC
    have HC := hid hC
    have HCELL : Hid (∀ q x t, b.drop q = x :: t → w.cell? ⟨bb, oo + q, none⟩ = some (.int .u8 (c8 x))) := hid (fun q x t hq => by
      have h1 := lt_of_drop hq
      obtain ⟨y, h2, h3⟩ := drop_at h1
      rw [hq] at h2
      injection h2 with h4 _
      rw [hc q h1, ← h3, h4])
    have hc0 : w.cell? ⟨bb, oo, none⟩ = some (.int .u8 (b8 b 0)) := by simpa using hc 0 hlen
    clear hc c4 hhd hb0 hun hsg hnp hC hL hs hR
    have y0 := b8_ge b 0
    have y1 := b8_le b 0
    rcases hcase with ⟨rfl, rfl, q1, q2⟩ | ⟨rfl, rfl, q1, q2⟩ | ⟨rfl, rfl, q1, q2⟩
    · go_enter Tryz.func157, Tryz.ntmps157
      go_wp2_with (fail)
      clear hc0 q1 q2 y0 y1
      go_loop [7, 8, 9] (fun v7 v8 v9 => ∃ p d q : Nat, v7 = .int .i64 p ∧ v8 = .int .i64 d ∧ v9 = .int .i64 q ∧ l1 (b.drop q) p d = L ∧ q ≤ b.length ∧ p + d ≤ q) (fun _ _ v9 => b.length - (intOf v9).toNat)
      case atStart => exact ⟨0, 0, 1, rfl, rfl, rfl, HL.out, hA, by omega⟩
      case round =>
        obtain ⟨p, d, q, rfl, rfl, rfl, hq1, hq2, hq3⟩ := hrel
        by_cases hlt : q < b.length
        · obtain ⟨x, hx1, hx2⟩ := drop_at hlt
          have hcq := HCELL.out q x _ hx1
          rw [hx1, l1] at hq1
          have x0 := c8_ge x
          have x1 := c8_le x
          have tq : decide (q < b.length) = true := decide_eq_true hlt
          by_cases h46 : c8 x = 46
          · rw [if_pos h46] at hq1
            have HQ := hid hq1
            have b46 : (c8 x == 46) = true := by simpa using h46
            clear hx1 hx2 hq1 h46
            go_wp2_with (fail)
            exact ⟨⟨p + 1, d, q + 1, by go_num, rfl, by go_num, HQ.out, by omega, by omega⟩, by simp [intOf]; omega⟩
          rw [if_neg h46] at hq1
          have b46 : (c8 x == 46) = false := by simpa using h46
          by_cases hdg : isd (c8 x) = true
          · rw [if_pos hdg] at hq1
            rw [isd_iff] at hdg
            have t1 : decide (48 ≤ c8 x) = true := decide_eq_true hdg.1
            have t2 : decide (c8 x ≤ 57) = true := decide_eq_true hdg.2
            have HQ := hid hq1
            clear hx1 hx2 hq1 h46 hdg
            go_wp2_with (fail)
            exact ⟨⟨p, d + 1, q + 1, rfl, by go_num, by go_num, HQ.out, by omega, by omega⟩, by simp [intOf]; omega⟩
          · rw [if_neg hdg] at hq1
            rw [isd_iff] at hdg
            have HB : Hid (R = (0, false, 4)) := hid (by
              rcases HC.out with ⟨_, e⟩ | ⟨_, _, e, _⟩ | ⟨_, e, _⟩ | ⟨_, _, _, e, _⟩
              · exact e
              · rw [← hq1] at e; cases e
              · rw [← hq1] at e; cases e
              · rw [← hq1] at e; cases e)
            have tt : decide (48 ≤ c8 x) = false ∨ (decide (48 ≤ c8 x) = true ∧ decide (c8 x ≤ 57) = false) := by
              by_cases h48 : 48 ≤ c8 x
              · exact .inr ⟨decide_eq_true h48, decide_eq_false (by omega)⟩
              · exact .inl (decide_eq_false h48)
            clear hx1 hx2 hq1 h46 hdg
            rcases tt with t1 | ⟨t1, t2⟩
            all_goals
              go_wp2_with (fail)
              go_ret3
              rw [HB.out]
              exact ⟨rfl, rfl⟩
        · rw [List.drop_eq_nil_of_le (by omega), l1] at hq1
          have tq : decide (q < b.length) = false := decide_eq_false hlt
          have HQ := hid hq1
          clear hq1
          rcases HC.out with ⟨e, _⟩ | ⟨p', d', e, hpd, e2⟩ | ⟨d', e, hd0, hr, hdd⟩ | ⟨d', x, f, e, hd0, hr, hx, hf, hdd⟩
          · rw [← HQ.out] at e; cases e
          · rw [← HQ.out] at e
            injection e with e
            injection e with e3 e4
            subst e3; subst e4
            have HB := hid e2
            clear e2
            by_cases hp1 : 1 < p
            · have t1 : decide (1 < p) = true := decide_eq_true hp1
              clear hpd
              go_wp2_with (fail)
              go_ret3
              rw [HB.out]
              exact ⟨rfl, rfl⟩
            · have t1 : decide (1 < p) = false := decide_eq_false hp1
              have hd0 : d = 0 := by omega
              subst hd0
              clear hpd
              go_wp2_with (fail)
              go_ret3
              rw [HB.out]
              exact ⟨rfl, rfl⟩
          · rw [← HQ.out] at e
            injection e with e
            injection e with e3 e4
            subst e3; subst e4
            have bd : (((d : Nat) : Int) == 0) = false := by simp; omega
            have hal : (s.take (dgs s)).length = d := by rw [List.length_take, Nat.min_eq_left (dgs_le s)]; exact hdd
            have HR := HNP.out
            rw [hr, numb, if_neg (by omega)] at HR
            have HBIG : Hid (2147483647 < vl (s.take (dgs s)) 0 → R = (0, false, 5)) := hid (fun hh => by rw [HR, if_pos hh])
            have HOK : Hid (¬ 2147483647 < vl (s.take (dgs s)) 0 → R = (1 * (vl (s.take (dgs s)) 0 : Int), true, 0)) := hid (fun hh => by rw [HR, if_neg hh])
            have HRR := hid hr
            have hds : dgs s ≤ 4000000 := by omega
            clear HR hr hdd hal
            go_wp2_with (fail)
            go_loop [10, 11] (fun v10 v11 => ∃ q k : Nat, ∃ z : Int, v11 = .int .i64 q ∧ v10 = .int .i64 z ∧ 1 + k ≤ q ∧ q ≤ 1 + k ∧ k ≤ dgs s ∧ z = (vl (s.take k) 0 : Int) ∧ 0 ≤ z ∧ z ≤ 2147483647) (fun _ v11 => b.length - (intOf v11).toNat)
            case atStart => exact ⟨1, 0, 0, rfl, rfl, by omega, by omega, by omega, by simp [vl], by omega, by omega⟩
            case round =>
              obtain ⟨q, k, z, rfl, rfl, qa, qb, hk, hz, z0, z1⟩ := hrel
              have HZ := hid hz
              have hdq : Hid (b.drop q = s.drop k) := hid (by rw [← HSD.out, List.drop_drop]; congr 1; omega)
              clear hz
              by_cases hkl : k < dgs s
              · have hg := dgs_get s k hkl
                obtain ⟨x1, t1', hxt⟩ : ∃ x1 t1', s.drop k = x1 :: t1' := by
                  cases hq : s.drop k with
                  | nil => rw [hq] at hg; exact absurd hg (by decide)
                  | cons x1 t1' => exact ⟨x1, t1', rfl⟩
                rw [hxt, hd_cons, isd_iff] at hg
                have g0 := hg.1
                have g1 := hg.2
                have hcq := HCELL.out q x1 t1' (by rw [hdq.out, hxt])
                have hql : q < b.length := lt_of_drop (show b.drop q = x1 :: t1' by rw [hdq.out, hxt])
                have hqq : decide (q < b.length) = true := decide_eq_true hql
                have b46 : (c8 x1 != 46) = true := by simp; omega
                have hv : vl (s.take (k + 1)) 0 = 10 * vl (s.take k) 0 + (x1.toNat - 48) := by rw [take_of_drop hxt, vl_snoc]
                have hx : c8 x1 - 48 = ((x1.toNat - 48 : Nat) : Int) := by unfold c8 at *; omega
                have hv2 : 10 * z + (c8 x1 - 48) = (vl (s.take (k + 1)) 0 : Int) := by rw [hv, hx, HZ.out]; omega
                have HV := hid hv2
                clear hg hxt hv hx
                by_cases hbig : 2147483647 < 10 * z + (c8 x1 - 48)
                · have tb : decide (2147483647 < 10 * z + (c8 x1 - 48)) = true := decide_eq_true hbig
                  have HB := hid (HBIG.out (by have := vl_take s (k + 1) (dgs s) (by omega); omega))
                  clear hv2
                  go_wp2_with (fail)
                  go_ret3
                  rw [HB.out]
                  exact ⟨rfl, rfl⟩
                · have tb : decide (2147483647 < 10 * z + (c8 x1 - 48)) = false := decide_eq_false hbig
                  clear hv2
                  go_wp2_with (fail)
                  exact ⟨⟨q + 1, k + 1, _, by go_num, rfl, by omega, by omega, by omega, HV.out, by omega, by omega⟩, by simp [intOf]; omega⟩
              · obtain rfl : k = dgs s := by omega
                have HO := hid (HOK.out (by have := HZ.out; omega))
                have hqe : ¬ q < b.length := fun hh => by have h1 := hdq.out; rw [HRR.out] at h1; have := congrArg List.length h1; simp at this; omega
                have tqq : decide (q < b.length) = false := decide_eq_false hqe
                go_wp2_with (fail)
                go_ret3
                rw [HO.out, ← HZ.out]
                exact ⟨by first | rfl | simp, rfl⟩
          · rw [← HQ.out] at e
            injection e with e
            injection e with e3 e4
            subst e3; subst e4
            have bd : (((d : Nat) : Int) == 0) = false := by simp; omega
            have hal : (s.take (dgs s)).length = dgs s := by rw [List.length_take, Nat.min_eq_left (dgs_le s)]
            have HR := HNP.out
            rw [hr, numb, if_pos ⟨hx, hf, by omega⟩] at HR
            have HBIG : Hid (2147483647 < vl (s.take (dgs s)) 0 → R = (0, false, 5)) := hid (fun hh => by rw [HR, if_pos hh])
            have HOK : Hid (¬ 2147483647 < vl (s.take (dgs s)) 0 → R = (1 * ((vl (s.take (dgs s)) 0 : Int) * 100000 + (fr 5 f 0 : Int)), false, 0)) := hid (fun hh => by rw [HR, if_neg hh])
            have HRR := hid hr
            have HX := hid hx
            have hfl : f.length ≤ 4000000 := by omega
            have hds : dgs s ≤ 4000000 := by omega
            have HF2 := hid hf
            clear HR hr hdd hal hx hf
            go_wp2_with (fail)
            go_loop [10, 11] (fun v10 v11 => ∃ q k : Nat, ∃ z : Int, v11 = .int .i64 q ∧ v10 = .int .i64 z ∧ 1 + k ≤ q ∧ q ≤ 1 + k ∧ k ≤ dgs s ∧ z = (vl (s.take k) 0 : Int) ∧ 0 ≤ z ∧ z ≤ 2147483647) (fun _ v11 => b.length - (intOf v11).toNat)
            case atStart => exact ⟨1, 0, 0, rfl, rfl, by omega, by omega, by omega, by simp [vl], by omega, by omega⟩
            case round =>
              obtain ⟨q, k, z, rfl, rfl, qa, qb, hk, hz, z0, z1⟩ := hrel
              have HZ := hid hz
              have hdq : Hid (b.drop q = s.drop k) := hid (by rw [← HSD.out, List.drop_drop]; congr 1; omega)
              clear hz
              by_cases hkl : k < dgs s
              · have hg := dgs_get s k hkl
                obtain ⟨x1, t1', hxt⟩ : ∃ x1 t1', s.drop k = x1 :: t1' := by
                  cases hq : s.drop k with
                  | nil => rw [hq] at hg; exact absurd hg (by decide)
                  | cons x1 t1' => exact ⟨x1, t1', rfl⟩
                rw [hxt, hd_cons, isd_iff] at hg
                have g0 := hg.1
                have g1 := hg.2
                have hcq := HCELL.out q x1 t1' (by rw [hdq.out, hxt])
                have hql : q < b.length := lt_of_drop (show b.drop q = x1 :: t1' by rw [hdq.out, hxt])
                have hqq : decide (q < b.length) = true := decide_eq_true hql
                have b46 : (c8 x1 != 46) = true := by simp; omega
                have hv : vl (s.take (k + 1)) 0 = 10 * vl (s.take k) 0 + (x1.toNat - 48) := by rw [take_of_drop hxt, vl_snoc]
                have hx : c8 x1 - 48 = ((x1.toNat - 48 : Nat) : Int) := by unfold c8 at *; omega
                have hv2 : 10 * z + (c8 x1 - 48) = (vl (s.take (k + 1)) 0 : Int) := by rw [hv, hx, HZ.out]; omega
                have HV := hid hv2
                clear hg hxt hv hx
                by_cases hbig : 2147483647 < 10 * z + (c8 x1 - 48)
                · have tb : decide (2147483647 < 10 * z + (c8 x1 - 48)) = true := decide_eq_true hbig
                  have HB := hid (HBIG.out (by have := vl_take s (k + 1) (dgs s) (by omega); omega))
                  clear hv2
                  go_wp2_with (fail)
                  go_ret3
                  rw [HB.out]
                  exact ⟨rfl, rfl⟩
                · have tb : decide (2147483647 < 10 * z + (c8 x1 - 48)) = false := decide_eq_false hbig
                  clear hv2
                  go_wp2_with (fail)
                  exact ⟨⟨q + 1, k + 1, _, by go_num, rfl, by omega, by omega, by omega, HV.out, by omega, by omega⟩, by simp [intOf]; omega⟩
              · obtain rfl : k = dgs s := by omega
                have HO := hid (HOK.out (by have := HZ.out; omega))
                have hqd : b.drop q = x :: f := by rw [hdq.out, HRR.out]
                have hcq := HCELL.out q x f hqd
                have hql := lt_of_drop hqd
                have hqf := congrArg List.length hqd
                rw [List.length_drop, List.length_cons] at hqf
                have hqf' : q + 1 + f.length ≤ b.length ∧ b.length ≤ q + 1 + f.length := by omega
                have HQD := hid hqd
                have tqq : decide (q < b.length) = true := decide_eq_true hql
                have b46 : (c8 x != 46) = false := by rw [HX.out]; rfl
                have hqa := hqf'.1
                have hqb := hqf'.2
                clear hqf hqf' hqd
                go_wp2_with (fail)
                generalize hF : fr 5 f 0 = F at HO
                go_loop [12, 13] (fun v12 v13 => ∃ k y : Nat, v13 = .int .i64 k ∧ v12 = .int .i64 y ∧ k ≤ 5 ∧ fr (5 - k) (f.drop k) y = F ∧ y < 10 ^ k) (fun _ v13 => 5 - (intOf v13).toNat)
                case atStart => exact ⟨0, 0, rfl, rfl, by omega, hF, by decide⟩
                case round =>
                  obtain ⟨k, y, rfl, rfl, hk5, hfr, hyb⟩ := hrel
                  have y5 : y < 100000 := Nat.lt_of_lt_of_le hyb (by
                    have : (10 : Nat) ^ k ≤ 10 ^ 5 := Nat.pow_le_pow_right (by decide) hk5
                    exact this)
                  have HYB := hid hyb
                  by_cases hk : k < 5
                  · have t5 : decide ((k : Int) < 5) = true := decide_eq_true (by omega)
                    have t5' : decide (k < 5) = true := decide_eq_true hk
                    obtain ⟨mm, hmm⟩ : ∃ mm, 5 - k = mm + 1 := ⟨4 - k, by omega⟩
                    have hm2 : 5 - (k + 1) = mm := by omega
                    rw [hmm] at hfr
                    by_cases hkf : k < f.length
                    · obtain ⟨z1', hz1, hz2⟩ := drop_at hkf
                      rw [hz1, fr] at hfr
                      have hdg2 := dgs_get f k (by rw [HF2.out]; exact hkf)
                      rw [hz1, hd_cons, isd_iff] at hdg2
                      have g0 := hdg2.1
                      have g1 := hdg2.2
                      have hcz := HCELL.out (q + 1 + k) z1' (f.drop (k + 1)) (by rw [← List.drop_drop, drop_succ_of HQD.out]; exact hz1)
                      have hsum : 10 * (y : Int) + (c8 z1' - 48) = ((10 * y + (z1'.toNat - 48) : Nat) : Int) := by unfold c8 at *; omega
                      have HSUM := hid hsum
                      have HFR : Hid (fr (5 - (k + 1)) (f.drop (k + 1)) (10 * y + (z1'.toNat - 48)) = F) := hid (by rw [hm2]; exact hfr)
                      have HY2 : Hid (10 * y + (z1'.toNat - 48) < 10 ^ (k + 1)) := hid (by
                        have h1 := HYB.out
                        have h2 : z1'.toNat - 48 ≤ 9 := by unfold c8 at *; omega
                        rw [Nat.pow_succ]; omega)
                      have tl : decide ((q : Int) + 1 + (k : Int) < (b.length : Int)) = true := decide_eq_true (by omega)
                      have tln : decide (q + 1 + k < b.length) = true := decide_eq_true (by omega)
                      clear hz1 hz2 hfr hdg2 hsum hmm hm2 hyb
                      go_wp2_with (fail)
                      exact ⟨⟨k + 1, _, by go_num, by rw [HSUM.out], by omega, HFR.out, HY2.out⟩, by simp [intOf]; omega⟩
                    · rw [List.drop_eq_nil_of_le (by omega), fr] at hfr
                      have HFR : Hid (fr (5 - (k + 1)) (f.drop (k + 1)) (10 * y) = F) := hid (by rw [hm2, List.drop_eq_nil_of_le (by omega)]; exact hfr)
                      have HY2 : Hid (10 * y < 10 ^ (k + 1)) := hid (by
                        have h1 := HYB.out
                        rw [Nat.pow_succ]; omega)
                      have tl : decide ((q : Int) + 1 + (k : Int) < (b.length : Int)) = false := decide_eq_false (by omega)
                      have tln : decide (q + 1 + k < b.length) = false := decide_eq_false (by omega)
                      clear hfr hmm hm2 hyb
                      go_wp2_with (fail)
                      exact ⟨⟨k + 1, 10 * y, by go_num, by go_num, by omega, HFR.out, HY2.out⟩, by simp [intOf]; omega⟩
                  · have t5 : decide ((k : Int) < 5) = false := decide_eq_false (by omega)
                    have t5' : decide (k < 5) = false := decide_eq_false hk
                    have hk0 : 5 - k = 0 := by omega
                    rw [hk0] at hfr
                    have hyF : Hid (y = F) := hid (by simpa [fr] using hfr)
                    clear hfr hk0 hyb
                    go_wp2_with (fail)
                    go_ret3
                    rw [HO.out, ← HZ.out, ← hyF.out]
                    exact ⟨by first | rfl | simp, rfl⟩
    · go_enter Tryz.func157, Tryz.ntmps157
      go_wp2_with (fail)
      clear hc0 q1 q2 y0 y1
      go_loop [7, 8, 9] (fun v7 v8 v9 => ∃ p d q : Nat, v7 = .int .i64 p ∧ v8 = .int .i64 d ∧ v9 = .int .i64 q ∧ l1 (b.drop q) p d = L ∧ q ≤ b.length ∧ p + d ≤ q) (fun _ _ v9 => b.length - (intOf v9).toNat)
      case atStart => exact ⟨0, 0, 1, rfl, rfl, rfl, HL.out, hA, by omega⟩
      case round =>
        obtain ⟨p, d, q, rfl, rfl, rfl, hq1, hq2, hq3⟩ := hrel
        by_cases hlt : q < b.length
        · obtain ⟨x, hx1, hx2⟩ := drop_at hlt
          have hcq := HCELL.out q x _ hx1
          rw [hx1, l1] at hq1
          have x0 := c8_ge x
          have x1 := c8_le x
          have tq : decide (q < b.length) = true := decide_eq_true hlt
          by_cases h46 : c8 x = 46
          · rw [if_pos h46] at hq1
            have HQ := hid hq1
            have b46 : (c8 x == 46) = true := by simpa using h46
            clear hx1 hx2 hq1 h46
            go_wp2_with (fail)
            exact ⟨⟨p + 1, d, q + 1, by go_num, rfl, by go_num, HQ.out, by omega, by omega⟩, by simp [intOf]; omega⟩
          rw [if_neg h46] at hq1
          have b46 : (c8 x == 46) = false := by simpa using h46
          by_cases hdg : isd (c8 x) = true
          · rw [if_pos hdg] at hq1
            rw [isd_iff] at hdg
            have t1 : decide (48 ≤ c8 x) = true := decide_eq_true hdg.1
            have t2 : decide (c8 x ≤ 57) = true := decide_eq_true hdg.2
            have HQ := hid hq1
            clear hx1 hx2 hq1 h46 hdg
            go_wp2_with (fail)
            exact ⟨⟨p, d + 1, q + 1, rfl, by go_num, by go_num, HQ.out, by omega, by omega⟩, by simp [intOf]; omega⟩
          · rw [if_neg hdg] at hq1
            rw [isd_iff] at hdg
            have HB : Hid (R = (0, false, 4)) := hid (by
              rcases HC.out with ⟨_, e⟩ | ⟨_, _, e, _⟩ | ⟨_, e, _⟩ | ⟨_, _, _, e, _⟩
              · exact e
              · rw [← hq1] at e; cases e
              · rw [← hq1] at e; cases e
              · rw [← hq1] at e; cases e)
            have tt : decide (48 ≤ c8 x) = false ∨ (decide (48 ≤ c8 x) = true ∧ decide (c8 x ≤ 57) = false) := by
              by_cases h48 : 48 ≤ c8 x
              · exact .inr ⟨decide_eq_true h48, decide_eq_false (by omega)⟩
              · exact .inl (decide_eq_false h48)
            clear hx1 hx2 hq1 h46 hdg
            rcases tt with t1 | ⟨t1, t2⟩
            all_goals
              go_wp2_with (fail)
              go_ret3
              rw [HB.out]
              exact ⟨rfl, rfl⟩
        · rw [List.drop_eq_nil_of_le (by omega), l1] at hq1
          have tq : decide (q < b.length) = false := decide_eq_false hlt
          have HQ := hid hq1
          clear hq1
          rcases HC.out with ⟨e, _⟩ | ⟨p', d', e, hpd, e2⟩ | ⟨d', e, hd0, hr, hdd⟩ | ⟨d', x, f, e, hd0, hr, hx, hf, hdd⟩
          · rw [← HQ.out] at e; cases e
          · rw [← HQ.out] at e
            injection e with e
            injection e with e3 e4
            subst e3; subst e4
            have HB := hid e2
            clear e2
            by_cases hp1 : 1 < p
            · have t1 : decide (1 < p) = true := decide_eq_true hp1
              clear hpd
              go_wp2_with (fail)
              go_ret3
              rw [HB.out]
              exact ⟨rfl, rfl⟩
            · have t1 : decide (1 < p) = false := decide_eq_false hp1
              have hd0 : d = 0 := by omega
              subst hd0
              clear hpd
              go_wp2_with (fail)
              go_ret3
              rw [HB.out]
              exact ⟨rfl, rfl⟩
          · rw [← HQ.out] at e
            injection e with e
            injection e with e3 e4
            subst e3; subst e4
            have bd : (((d : Nat) : Int) == 0) = false := by simp; omega
            have hal : (s.take (dgs s)).length = d := by rw [List.length_take, Nat.min_eq_left (dgs_le s)]; exact hdd
            have HR := HNP.out
            rw [hr, numb, if_neg (by omega)] at HR
            have HBIG : Hid (2147483647 < vl (s.take (dgs s)) 0 → R = (0, false, 5)) := hid (fun hh => by rw [HR, if_pos hh])
            have HOK : Hid (¬ 2147483647 < vl (s.take (dgs s)) 0 → R = ((-1) * (vl (s.take (dgs s)) 0 : Int), true, 0)) := hid (fun hh => by rw [HR, if_neg hh])
            have HRR := hid hr
            have hds : dgs s ≤ 4000000 := by omega
            clear HR hr hdd hal
            go_wp2_with (fail)
            go_loop [10, 11] (fun v10 v11 => ∃ q k : Nat, ∃ z : Int, v11 = .int .i64 q ∧ v10 = .int .i64 z ∧ 1 + k ≤ q ∧ q ≤ 1 + k ∧ k ≤ dgs s ∧ z = (vl (s.take k) 0 : Int) ∧ 0 ≤ z ∧ z ≤ 2147483647) (fun _ v11 => b.length - (intOf v11).toNat)
            case atStart => exact ⟨1, 0, 0, rfl, rfl, by omega, by omega, by omega, by simp [vl], by omega, by omega⟩
            case round =>
              obtain ⟨q, k, z, rfl, rfl, qa, qb, hk, hz, z0, z1⟩ := hrel
              have HZ := hid hz
              have hdq : Hid (b.drop q = s.drop k) := hid (by rw [← HSD.out, List.drop_drop]; congr 1; omega)
              clear hz
              by_cases hkl : k < dgs s
              · have hg := dgs_get s k hkl
                obtain ⟨x1, t1', hxt⟩ : ∃ x1 t1', s.drop k = x1 :: t1' := by
                  cases hq : s.drop k with
                  | nil => rw [hq] at hg; exact absurd hg (by decide)
                  | cons x1 t1' => exact ⟨x1, t1', rfl⟩
                rw [hxt, hd_cons, isd_iff] at hg
                have g0 := hg.1
                have g1 := hg.2
                have hcq := HCELL.out q x1 t1' (by rw [hdq.out, hxt])
                have hql : q < b.length := lt_of_drop (show b.drop q = x1 :: t1' by rw [hdq.out, hxt])
                have hqq : decide (q < b.length) = true := decide_eq_true hql
                have b46 : (c8 x1 != 46) = true := by simp; omega
                have hv : vl (s.take (k + 1)) 0 = 10 * vl (s.take k) 0 + (x1.toNat - 48) := by rw [take_of_drop hxt, vl_snoc]
                have hx : c8 x1 - 48 = ((x1.toNat - 48 : Nat) : Int) := by unfold c8 at *; omega
                have hv2 : 10 * z + (c8 x1 - 48) = (vl (s.take (k + 1)) 0 : Int) := by rw [hv, hx, HZ.out]; omega
                have HV := hid hv2
                clear hg hxt hv hx
                by_cases hbig : 2147483647 < 10 * z + (c8 x1 - 48)
                · have tb : decide (2147483647 < 10 * z + (c8 x1 - 48)) = true := decide_eq_true hbig
                  have HB := hid (HBIG.out (by have := vl_take s (k + 1) (dgs s) (by omega); omega))
                  clear hv2
                  go_wp2_with (fail)
                  go_ret3
                  rw [HB.out]
                  exact ⟨rfl, rfl⟩
                · have tb : decide (2147483647 < 10 * z + (c8 x1 - 48)) = false := decide_eq_false hbig
                  clear hv2
                  go_wp2_with (fail)
                  exact ⟨⟨q + 1, k + 1, _, by go_num, rfl, by omega, by omega, by omega, HV.out, by omega, by omega⟩, by simp [intOf]; omega⟩
              · obtain rfl : k = dgs s := by omega
                have HO := hid (HOK.out (by have := HZ.out; omega))
                have hqe : ¬ q < b.length := fun hh => by have h1 := hdq.out; rw [HRR.out] at h1; have := congrArg List.length h1; simp at this; omega
                have tqq : decide (q < b.length) = false := decide_eq_false hqe
                go_wp2_with (fail)
                go_ret3
                rw [HO.out, ← HZ.out]
                exact ⟨by first | rfl | simp, rfl⟩
          · rw [← HQ.out] at e
            injection e with e
            injection e with e3 e4
            subst e3; subst e4
            have bd : (((d : Nat) : Int) == 0) = false := by simp; omega
            have hal : (s.take (dgs s)).length = dgs s := by rw [List.length_take, Nat.min_eq_left (dgs_le s)]
            have HR := HNP.out
            rw [hr, numb, if_pos ⟨hx, hf, by omega⟩] at HR
            have HBIG : Hid (2147483647 < vl (s.take (dgs s)) 0 → R = (0, false, 5)) := hid (fun hh => by rw [HR, if_pos hh])
            have HOK : Hid (¬ 2147483647 < vl (s.take (dgs s)) 0 → R = ((-1) * ((vl (s.take (dgs s)) 0 : Int) * 100000 + (fr 5 f 0 : Int)), false, 0)) := hid (fun hh => by rw [HR, if_neg hh])
            have HRR := hid hr
            have HX := hid hx
            have hfl : f.length ≤ 4000000 := by omega
            have hds : dgs s ≤ 4000000 := by omega
            have HF2 := hid hf
            clear HR hr hdd hal hx hf
            go_wp2_with (fail)
            go_loop [10, 11] (fun v10 v11 => ∃ q k : Nat, ∃ z : Int, v11 = .int .i64 q ∧ v10 = .int .i64 z ∧ 1 + k ≤ q ∧ q ≤ 1 + k ∧ k ≤ dgs s ∧ z = (vl (s.take k) 0 : Int) ∧ 0 ≤ z ∧ z ≤ 2147483647) (fun _ v11 => b.length - (intOf v11).toNat)
            case atStart => exact ⟨1, 0, 0, rfl, rfl, by omega, by omega, by omega, by simp [vl], by omega, by omega⟩
            case round =>
              obtain ⟨q, k, z, rfl, rfl, qa, qb, hk, hz, z0, z1⟩ := hrel
              have HZ := hid hz
              have hdq : Hid (b.drop q = s.drop k) := hid (by rw [← HSD.out, List.drop_drop]; congr 1; omega)
              clear hz
              by_cases hkl : k < dgs s
              · have hg := dgs_get s k hkl
                obtain ⟨x1, t1', hxt⟩ : ∃ x1 t1', s.drop k = x1 :: t1' := by
                  cases hq : s.drop k with
                  | nil => rw [hq] at hg; exact absurd hg (by decide)
                  | cons x1 t1' => exact ⟨x1, t1', rfl⟩
                rw [hxt, hd_cons, isd_iff] at hg
                have g0 := hg.1
                have g1 := hg.2
                have hcq := HCELL.out q x1 t1' (by rw [hdq.out, hxt])
                have hql : q < b.length := lt_of_drop (show b.drop q = x1 :: t1' by rw [hdq.out, hxt])
                have hqq : decide (q < b.length) = true := decide_eq_true hql
                have b46 : (c8 x1 != 46) = true := by simp; omega
                have hv : vl (s.take (k + 1)) 0 = 10 * vl (s.take k) 0 + (x1.toNat - 48) := by rw [take_of_drop hxt, vl_snoc]
                have hx : c8 x1 - 48 = ((x1.toNat - 48 : Nat) : Int) := by unfold c8 at *; omega
                have hv2 : 10 * z + (c8 x1 - 48) = (vl (s.take (k + 1)) 0 : Int) := by rw [hv, hx, HZ.out]; omega
                have HV := hid hv2
                clear hg hxt hv hx
                by_cases hbig : 2147483647 < 10 * z + (c8 x1 - 48)
                · have tb : decide (2147483647 < 10 * z + (c8 x1 - 48)) = true := decide_eq_true hbig
                  have HB := hid (HBIG.out (by have := vl_take s (k + 1) (dgs s) (by omega); omega))
                  clear hv2
                  go_wp2_with (fail)
                  go_ret3
                  rw [HB.out]
                  exact ⟨rfl, rfl⟩
                · have tb : decide (2147483647 < 10 * z + (c8 x1 - 48)) = false := decide_eq_false hbig
                  clear hv2
                  go_wp2_with (fail)
                  exact ⟨⟨q + 1, k + 1, _, by go_num, rfl, by omega, by omega, by omega, HV.out, by omega, by omega⟩, by simp [intOf]; omega⟩
              · obtain rfl : k = dgs s := by omega
                have HO := hid (HOK.out (by have := HZ.out; omega))
                have hqd : b.drop q = x :: f := by rw [hdq.out, HRR.out]
                have hcq := HCELL.out q x f hqd
                have hql := lt_of_drop hqd
                have hqf := congrArg List.length hqd
                rw [List.length_drop, List.length_cons] at hqf
                have hqf' : q + 1 + f.length ≤ b.length ∧ b.length ≤ q + 1 + f.length := by omega
                have HQD := hid hqd
                have tqq : decide (q < b.length) = true := decide_eq_true hql
                have b46 : (c8 x != 46) = false := by rw [HX.out]; rfl
                have hqa := hqf'.1
                have hqb := hqf'.2
                clear hqf hqf' hqd
                go_wp2_with (fail)
                generalize hF : fr 5 f 0 = F at HO
                go_loop [12, 13] (fun v12 v13 => ∃ k y : Nat, v13 = .int .i64 k ∧ v12 = .int .i64 y ∧ k ≤ 5 ∧ fr (5 - k) (f.drop k) y = F ∧ y < 10 ^ k) (fun _ v13 => 5 - (intOf v13).toNat)
                case atStart => exact ⟨0, 0, rfl, rfl, by omega, hF, by decide⟩
                case round =>
                  obtain ⟨k, y, rfl, rfl, hk5, hfr, hyb⟩ := hrel
                  have y5 : y < 100000 := Nat.lt_of_lt_of_le hyb (by
                    have : (10 : Nat) ^ k ≤ 10 ^ 5 := Nat.pow_le_pow_right (by decide) hk5
                    exact this)
                  have HYB := hid hyb
                  by_cases hk : k < 5
                  · have t5 : decide ((k : Int) < 5) = true := decide_eq_true (by omega)
                    have t5' : decide (k < 5) = true := decide_eq_true hk
                    obtain ⟨mm, hmm⟩ : ∃ mm, 5 - k = mm + 1 := ⟨4 - k, by omega⟩
                    have hm2 : 5 - (k + 1) = mm := by omega
                    rw [hmm] at hfr
                    by_cases hkf : k < f.length
                    · obtain ⟨z1', hz1, hz2⟩ := drop_at hkf
                      rw [hz1, fr] at hfr
                      have hdg2 := dgs_get f k (by rw [HF2.out]; exact hkf)
                      rw [hz1, hd_cons, isd_iff] at hdg2
                      have g0 := hdg2.1
                      have g1 := hdg2.2
                      have hcz := HCELL.out (q + 1 + k) z1' (f.drop (k + 1)) (by rw [← List.drop_drop, drop_succ_of HQD.out]; exact hz1)
                      have hsum : 10 * (y : Int) + (c8 z1' - 48) = ((10 * y + (z1'.toNat - 48) : Nat) : Int) := by unfold c8 at *; omega
                      have HSUM := hid hsum
                      have HFR : Hid (fr (5 - (k + 1)) (f.drop (k + 1)) (10 * y + (z1'.toNat - 48)) = F) := hid (by rw [hm2]; exact hfr)
                      have HY2 : Hid (10 * y + (z1'.toNat - 48) < 10 ^ (k + 1)) := hid (by
                        have h1 := HYB.out
                        have h2 : z1'.toNat - 48 ≤ 9 := by unfold c8 at *; omega
                        rw [Nat.pow_succ]; omega)
                      have tl : decide ((q : Int) + 1 + (k : Int) < (b.length : Int)) = true := decide_eq_true (by omega)
                      have tln : decide (q + 1 + k < b.length) = true := decide_eq_true (by omega)
                      clear hz1 hz2 hfr hdg2 hsum hmm hm2 hyb
                      go_wp2_with (fail)
                      exact ⟨⟨k + 1, _, by go_num, by rw [HSUM.out], by omega, HFR.out, HY2.out⟩, by simp [intOf]; omega⟩
                    · rw [List.drop_eq_nil_of_le (by omega), fr] at hfr
                      have HFR : Hid (fr (5 - (k + 1)) (f.drop (k + 1)) (10 * y) = F) := hid (by rw [hm2, List.drop_eq_nil_of_le (by omega)]; exact hfr)
                      have HY2 : Hid (10 * y < 10 ^ (k + 1)) := hid (by
                        have h1 := HYB.out
                        rw [Nat.pow_succ]; omega)
                      have tl : decide ((q : Int) + 1 + (k : Int) < (b.length : Int)) = false := decide_eq_false (by omega)
                      have tln : decide (q + 1 + k < b.length) = false := decide_eq_false (by omega)
                      clear hfr hmm hm2 hyb
                      go_wp2_with (fail)
                      exact ⟨⟨k + 1, 10 * y, by go_num, by go_num, by omega, HFR.out, HY2.out⟩, by simp [intOf]; omega⟩
                  · have t5 : decide ((k : Int) < 5) = false := decide_eq_false (by omega)
                    have t5' : decide (k < 5) = false := decide_eq_false hk
                    have hk0 : 5 - k = 0 := by omega
                    rw [hk0] at hfr
                    have hyF : Hid (y = F) := hid (by simpa [fr] using hfr)
                    clear hfr hk0 hyb
                    go_wp2_with (fail)
                    go_ret3
                    rw [HO.out, ← HZ.out, ← hyF.out]
                    exact ⟨by first | rfl | simp, rfl⟩
    · go_enter Tryz.func157, Tryz.ntmps157
      go_wp2_with (fail)
      clear hc0 q1 q2 y0 y1
      go_loop [7, 8, 9] (fun v7 v8 v9 => ∃ p d q : Nat, v7 = .int .i64 p ∧ v8 = .int .i64 d ∧ v9 = .int .i64 q ∧ l1 (b.drop q) p d = L ∧ q ≤ b.length ∧ p + d ≤ q) (fun _ _ v9 => b.length - (intOf v9).toNat)
      case atStart => exact ⟨0, 0, 0, rfl, rfl, rfl, HL.out, hA, by omega⟩
      case round =>
        obtain ⟨p, d, q, rfl, rfl, rfl, hq1, hq2, hq3⟩ := hrel
        by_cases hlt : q < b.length
        · obtain ⟨x, hx1, hx2⟩ := drop_at hlt
          have hcq := HCELL.out q x _ hx1
          rw [hx1, l1] at hq1
          have x0 := c8_ge x
          have x1 := c8_le x
          have tq : decide (q < b.length) = true := decide_eq_true hlt
          by_cases h46 : c8 x = 46
          · rw [if_pos h46] at hq1
            have HQ := hid hq1
            have b46 : (c8 x == 46) = true := by simpa using h46
            clear hx1 hx2 hq1 h46
            go_wp2_with (fail)
            exact ⟨⟨p + 1, d, q + 1, by go_num, rfl, by go_num, HQ.out, by omega, by omega⟩, by simp [intOf]; omega⟩
          rw [if_neg h46] at hq1
          have b46 : (c8 x == 46) = false := by simpa using h46
          by_cases hdg : isd (c8 x) = true
          · rw [if_pos hdg] at hq1
            rw [isd_iff] at hdg
            have t1 : decide (48 ≤ c8 x) = true := decide_eq_true hdg.1
            have t2 : decide (c8 x ≤ 57) = true := decide_eq_true hdg.2
            have HQ := hid hq1
            clear hx1 hx2 hq1 h46 hdg
            go_wp2_with (fail)
            exact ⟨⟨p, d + 1, q + 1, rfl, by go_num, by go_num, HQ.out, by omega, by omega⟩, by simp [intOf]; omega⟩
          · rw [if_neg hdg] at hq1
            rw [isd_iff] at hdg
            have HB : Hid (R = (0, false, 4)) := hid (by
              rcases HC.out with ⟨_, e⟩ | ⟨_, _, e, _⟩ | ⟨_, e, _⟩ | ⟨_, _, _, e, _⟩
              · exact e
              · rw [← hq1] at e; cases e
              · rw [← hq1] at e; cases e
              · rw [← hq1] at e; cases e)
            have tt : decide (48 ≤ c8 x) = false ∨ (decide (48 ≤ c8 x) = true ∧ decide (c8 x ≤ 57) = false) := by
              by_cases h48 : 48 ≤ c8 x
              · exact .inr ⟨decide_eq_true h48, decide_eq_false (by omega)⟩
              · exact .inl (decide_eq_false h48)
            clear hx1 hx2 hq1 h46 hdg
            rcases tt with t1 | ⟨t1, t2⟩
            all_goals
              go_wp2_with (fail)
              go_ret3
              rw [HB.out]
              exact ⟨rfl, rfl⟩
        · rw [List.drop_eq_nil_of_le (by omega), l1] at hq1
          have tq : decide (q < b.length) = false := decide_eq_false hlt
          have HQ := hid hq1
          clear hq1
          rcases HC.out with ⟨e, _⟩ | ⟨p', d', e, hpd, e2⟩ | ⟨d', e, hd0, hr, hdd⟩ | ⟨d', x, f, e, hd0, hr, hx, hf, hdd⟩
          · rw [← HQ.out] at e; cases e
          · rw [← HQ.out] at e
            injection e with e
            injection e with e3 e4
            subst e3; subst e4
            have HB := hid e2
            clear e2
            by_cases hp1 : 1 < p
            · have t1 : decide (1 < p) = true := decide_eq_true hp1
              clear hpd
              go_wp2_with (fail)
              go_ret3
              rw [HB.out]
              exact ⟨rfl, rfl⟩
            · have t1 : decide (1 < p) = false := decide_eq_false hp1
              have hd0 : d = 0 := by omega
              subst hd0
              clear hpd
              go_wp2_with (fail)
              go_ret3
              rw [HB.out]
              exact ⟨rfl, rfl⟩
          · rw [← HQ.out] at e
            injection e with e
            injection e with e3 e4
            subst e3; subst e4
            have bd : (((d : Nat) : Int) == 0) = false := by simp; omega
            have hal : (s.take (dgs s)).length = d := by rw [List.length_take, Nat.min_eq_left (dgs_le s)]; exact hdd
            have HR := HNP.out
            rw [hr, numb, if_neg (by omega)] at HR
            have HBIG : Hid (2147483647 < vl (s.take (dgs s)) 0 → R = (0, false, 5)) := hid (fun hh => by rw [HR, if_pos hh])
            have HOK : Hid (¬ 2147483647 < vl (s.take (dgs s)) 0 → R = (1 * (vl (s.take (dgs s)) 0 : Int), true, 0)) := hid (fun hh => by rw [HR, if_neg hh])
            have HRR := hid hr
            have hds : dgs s ≤ 4000000 := by omega
            clear HR hr hdd hal
            go_wp2_with (fail)
            go_loop [10, 11] (fun v10 v11 => ∃ q k : Nat, ∃ z : Int, v11 = .int .i64 q ∧ v10 = .int .i64 z ∧ 0 + k ≤ q ∧ q ≤ 0 + k ∧ k ≤ dgs s ∧ z = (vl (s.take k) 0 : Int) ∧ 0 ≤ z ∧ z ≤ 2147483647) (fun _ v11 => b.length - (intOf v11).toNat)
            case atStart => exact ⟨0, 0, 0, rfl, rfl, by omega, by omega, by omega, by simp [vl], by omega, by omega⟩
            case round =>
              obtain ⟨q, k, z, rfl, rfl, qa, qb, hk, hz, z0, z1⟩ := hrel
              have HZ := hid hz
              have hdq : Hid (b.drop q = s.drop k) := hid (by rw [← HSD.out, List.drop_drop]; congr 1; omega)
              clear hz
              by_cases hkl : k < dgs s
              · have hg := dgs_get s k hkl
                obtain ⟨x1, t1', hxt⟩ : ∃ x1 t1', s.drop k = x1 :: t1' := by
                  cases hq : s.drop k with
                  | nil => rw [hq] at hg; exact absurd hg (by decide)
                  | cons x1 t1' => exact ⟨x1, t1', rfl⟩
                rw [hxt, hd_cons, isd_iff] at hg
                have g0 := hg.1
                have g1 := hg.2
                have hcq := HCELL.out q x1 t1' (by rw [hdq.out, hxt])
                have hql : q < b.length := lt_of_drop (show b.drop q = x1 :: t1' by rw [hdq.out, hxt])
                have hqq : decide (q < b.length) = true := decide_eq_true hql
                have b46 : (c8 x1 != 46) = true := by simp; omega
                have hv : vl (s.take (k + 1)) 0 = 10 * vl (s.take k) 0 + (x1.toNat - 48) := by rw [take_of_drop hxt, vl_snoc]
                have hx : c8 x1 - 48 = ((x1.toNat - 48 : Nat) : Int) := by unfold c8 at *; omega
                have hv2 : 10 * z + (c8 x1 - 48) = (vl (s.take (k + 1)) 0 : Int) := by rw [hv, hx, HZ.out]; omega
                have HV := hid hv2
                clear hg hxt hv hx
                by_cases hbig : 2147483647 < 10 * z + (c8 x1 - 48)
                · have tb : decide (2147483647 < 10 * z + (c8 x1 - 48)) = true := decide_eq_true hbig
                  have HB := hid (HBIG.out (by have := vl_take s (k + 1) (dgs s) (by omega); omega))
                  clear hv2
                  go_wp2_with (fail)
                  go_ret3
                  rw [HB.out]
                  exact ⟨rfl, rfl⟩
                · have tb : decide (2147483647 < 10 * z + (c8 x1 - 48)) = false := decide_eq_false hbig
                  clear hv2
                  go_wp2_with (fail)
                  exact ⟨⟨q + 1, k + 1, _, by go_num, rfl, by omega, by omega, by omega, HV.out, by omega, by omega⟩, by simp [intOf]; omega⟩
              · obtain rfl : k = dgs s := by omega
                have HO := hid (HOK.out (by have := HZ.out; omega))
                have hqe : ¬ q < b.length := fun hh => by have h1 := hdq.out; rw [HRR.out] at h1; have := congrArg List.length h1; simp at this; omega
                have tqq : decide (q < b.length) = false := decide_eq_false hqe
                go_wp2_with (fail)
                go_ret3
                rw [HO.out, ← HZ.out]
                exact ⟨by first | rfl | simp, rfl⟩
          · rw [← HQ.out] at e
            injection e with e
            injection e with e3 e4
            subst e3; subst e4
            have bd : (((d : Nat) : Int) == 0) = false := by simp; omega
            have hal : (s.take (dgs s)).length = dgs s := by rw [List.length_take, Nat.min_eq_left (dgs_le s)]
            have HR := HNP.out
            rw [hr, numb, if_pos ⟨hx, hf, by omega⟩] at HR
            have HBIG : Hid (2147483647 < vl (s.take (dgs s)) 0 → R = (0, false, 5)) := hid (fun hh => by rw [HR, if_pos hh])
            have HOK : Hid (¬ 2147483647 < vl (s.take (dgs s)) 0 → R = (1 * ((vl (s.take (dgs s)) 0 : Int) * 100000 + (fr 5 f 0 : Int)), false, 0)) := hid (fun hh => by rw [HR, if_neg hh])
            have HRR := hid hr
            have HX := hid hx
            have hfl : f.length ≤ 4000000 := by omega
            have hds : dgs s ≤ 4000000 := by omega
            have HF2 := hid hf
            clear HR hr hdd hal hx hf
            go_wp2_with (fail)
            go_loop [10, 11] (fun v10 v11 => ∃ q k : Nat, ∃ z : Int, v11 = .int .i64 q ∧ v10 = .int .i64 z ∧ 0 + k ≤ q ∧ q ≤ 0 + k ∧ k ≤ dgs s ∧ z = (vl (s.take k) 0 : Int) ∧ 0 ≤ z ∧ z ≤ 2147483647) (fun _ v11 => b.length - (intOf v11).toNat)
            case atStart => exact ⟨0, 0, 0, rfl, rfl, by omega, by omega, by omega, by simp [vl], by omega, by omega⟩
            case round =>
              obtain ⟨q, k, z, rfl, rfl, qa, qb, hk, hz, z0, z1⟩ := hrel
              have HZ := hid hz
              have hdq : Hid (b.drop q = s.drop k) := hid (by rw [← HSD.out, List.drop_drop]; congr 1; omega)
              clear hz
              by_cases hkl : k < dgs s
              · have hg := dgs_get s k hkl
                obtain ⟨x1, t1', hxt⟩ : ∃ x1 t1', s.drop k = x1 :: t1' := by
                  cases hq : s.drop k with
                  | nil => rw [hq] at hg; exact absurd hg (by decide)
                  | cons x1 t1' => exact ⟨x1, t1', rfl⟩
                rw [hxt, hd_cons, isd_iff] at hg
                have g0 := hg.1
                have g1 := hg.2
                have hcq := HCELL.out q x1 t1' (by rw [hdq.out, hxt])
                have hql : q < b.length := lt_of_drop (show b.drop q = x1 :: t1' by rw [hdq.out, hxt])
                have hqq : decide (q < b.length) = true := decide_eq_true hql
                have b46 : (c8 x1 != 46) = true := by simp; omega
                have hv : vl (s.take (k + 1)) 0 = 10 * vl (s.take k) 0 + (x1.toNat - 48) := by rw [take_of_drop hxt, vl_snoc]
                have hx : c8 x1 - 48 = ((x1.toNat - 48 : Nat) : Int) := by unfold c8 at *; omega
                have hv2 : 10 * z + (c8 x1 - 48) = (vl (s.take (k + 1)) 0 : Int) := by rw [hv, hx, HZ.out]; omega
                have HV := hid hv2
                clear hg hxt hv hx
                by_cases hbig : 2147483647 < 10 * z + (c8 x1 - 48)
                · have tb : decide (2147483647 < 10 * z + (c8 x1 - 48)) = true := decide_eq_true hbig
                  have HB := hid (HBIG.out (by have := vl_take s (k + 1) (dgs s) (by omega); omega))
                  clear hv2
                  go_wp2_with (fail)
                  go_ret3
                  rw [HB.out]
                  exact ⟨rfl, rfl⟩
                · have tb : decide (2147483647 < 10 * z + (c8 x1 - 48)) = false := decide_eq_false hbig
                  clear hv2
                  go_wp2_with (fail)
                  exact ⟨⟨q + 1, k + 1, _, by go_num, rfl, by omega, by omega, by omega, HV.out, by omega, by omega⟩, by simp [intOf]; omega⟩
              · obtain rfl : k = dgs s := by omega
                have HO := hid (HOK.out (by have := HZ.out; omega))
                have hqd : b.drop q = x :: f := by rw [hdq.out, HRR.out]
                have hcq := HCELL.out q x f hqd
                have hql := lt_of_drop hqd
                have hqf := congrArg List.length hqd
                rw [List.length_drop, List.length_cons] at hqf
                have hqf' : q + 1 + f.length ≤ b.length ∧ b.length ≤ q + 1 + f.length := by omega
                have HQD := hid hqd
                have tqq : decide (q < b.length) = true := decide_eq_true hql
                have b46 : (c8 x != 46) = false := by rw [HX.out]; rfl
                have hqa := hqf'.1
                have hqb := hqf'.2
                clear hqf hqf' hqd
                go_wp2_with (fail)
                generalize hF : fr 5 f 0 = F at HO
                go_loop [12, 13] (fun v12 v13 => ∃ k y : Nat, v13 = .int .i64 k ∧ v12 = .int .i64 y ∧ k ≤ 5 ∧ fr (5 - k) (f.drop k) y = F ∧ y < 10 ^ k) (fun _ v13 => 5 - (intOf v13).toNat)
                case atStart => exact ⟨0, 0, rfl, rfl, by omega, hF, by decide⟩
                case round =>
                  obtain ⟨k, y, rfl, rfl, hk5, hfr, hyb⟩ := hrel
                  have y5 : y < 100000 := Nat.lt_of_lt_of_le hyb (by
                    have : (10 : Nat) ^ k ≤ 10 ^ 5 := Nat.pow_le_pow_right (by decide) hk5
                    exact this)
                  have HYB := hid hyb
                  by_cases hk : k < 5
                  · have t5 : decide ((k : Int) < 5) = true := decide_eq_true (by omega)
                    have t5' : decide (k < 5) = true := decide_eq_true hk
                    obtain ⟨mm, hmm⟩ : ∃ mm, 5 - k = mm + 1 := ⟨4 - k, by omega⟩
                    have hm2 : 5 - (k + 1) = mm := by omega
                    rw [hmm] at hfr
                    by_cases hkf : k < f.length
                    · obtain ⟨z1', hz1, hz2⟩ := drop_at hkf
                      rw [hz1, fr] at hfr
                      have hdg2 := dgs_get f k (by rw [HF2.out]; exact hkf)
                      rw [hz1, hd_cons, isd_iff] at hdg2
                      have g0 := hdg2.1
                      have g1 := hdg2.2
                      have hcz := HCELL.out (q + 1 + k) z1' (f.drop (k + 1)) (by rw [← List.drop_drop, drop_succ_of HQD.out]; exact hz1)
                      have hsum : 10 * (y : Int) + (c8 z1' - 48) = ((10 * y + (z1'.toNat - 48) : Nat) : Int) := by unfold c8 at *; omega
                      have HSUM := hid hsum
                      have HFR : Hid (fr (5 - (k + 1)) (f.drop (k + 1)) (10 * y + (z1'.toNat - 48)) = F) := hid (by rw [hm2]; exact hfr)
                      have HY2 : Hid (10 * y + (z1'.toNat - 48) < 10 ^ (k + 1)) := hid (by
                        have h1 := HYB.out
                        have h2 : z1'.toNat - 48 ≤ 9 := by unfold c8 at *; omega
                        rw [Nat.pow_succ]; omega)
                      have tl : decide ((q : Int) + 1 + (k : Int) < (b.length : Int)) = true := decide_eq_true (by omega)
                      have tln : decide (q + 1 + k < b.length) = true := decide_eq_true (by omega)
                      clear hz1 hz2 hfr hdg2 hsum hmm hm2 hyb
                      go_wp2_with (fail)
                      exact ⟨⟨k + 1, _, by go_num, by rw [HSUM.out], by omega, HFR.out, HY2.out⟩, by simp [intOf]; omega⟩
                    · rw [List.drop_eq_nil_of_le (by omega), fr] at hfr
                      have HFR : Hid (fr (5 - (k + 1)) (f.drop (k + 1)) (10 * y) = F) := hid (by rw [hm2, List.drop_eq_nil_of_le (by omega)]; exact hfr)
                      have HY2 : Hid (10 * y < 10 ^ (k + 1)) := hid (by
                        have h1 := HYB.out
                        rw [Nat.pow_succ]; omega)
                      have tl : decide ((q : Int) + 1 + (k : Int) < (b.length : Int)) = false := decide_eq_false (by omega)
                      have tln : decide (q + 1 + k < b.length) = false := decide_eq_false (by omega)
                      clear hfr hmm hm2 hyb
                      go_wp2_with (fail)
                      exact ⟨⟨k + 1, 10 * y, by go_num, by go_num, by omega, HFR.out, HY2.out⟩, by simp [intOf]; omega⟩
                  · have t5 : decide ((k : Int) < 5) = false := decide_eq_false (by omega)
                    have t5' : decide (k < 5) = false := decide_eq_false hk
                    have hk0 : 5 - k = 0 := by omega
                    rw [hk0] at hfr
                    have hyF : Hid (y = F) := hid (by simpa [fr] using hfr)
                    clear hfr hk0 hyb
                    go_wp2_with (fail)
                    go_ret3
                    rw [HO.out, ← HZ.out, ← hyF.out]
                    exact ⟨by first | rfl | simp, rfl⟩
end Go.Proofs.YtlmgklebikcbjaaGreatDoor

/-
  The document's run: the regular signs from here on; the walk. Condition: the lexer stands in its bytes.
-/
namespace Go.Proofs.YtlmgklebikcbjaaGreatDoor
open Go.RowKit
set_option linter.unusedVariables false

section
variable {w0 w w' : World} {cp : Nat} {b : List UInt8} {i : Nat} {s t : List UInt8} {u : Value} {out : List UInt8} {x : UInt8}

theorem Cx.below0 (h : Cx w0 w cp b i s u out) : w0.heap.size ≤ w.heap.size := h.held.size

set_option maxHeartbeats 3200000 in
theorem rrun (h : Cx w0 w cp b i s u out) :
    Calls Tryz.prog 139 #[.pointer (some ⟨cp, 0, none⟩)] w fun e w' => ∃ u', e = .returned u' ∧ Cx w0 w' cp b (i + rn s) (s.drop (rn s)) u' (s.take (rn s)) := by
  have hs0 := h.at_
  have hs1 := h.sm
  have c1 := h.c1
  have f1 := h.f1
  have hi0 : i ≤ 4000000 := by omega
  have hle := rn_le s
  have hfin : ∀ k, k = rn s → ((b.drop i).take k) = s.take (rn s) := fun k hk => by rw [h.drp, hk]
  have HFIN := hid hfin
  have hdr := hid h.drp
  clear hfin
  go_enter Tryz.func139, Tryz.ntmps139
  go_wp2_with (fail)
  go_loopw [] (fun wr => ∃ n : Nat, Cx w0 wr cp b (i + n) (s.drop n) u out ∧ rn s = n + rn (s.drop n)) (fun wr => remOf wr cp)
  case atStart => exact ⟨0, h, by simp⟩
  case round =>
    clear h c1 f1
    obtain ⟨n, hC, hn⟩ := hrel
    obtain ⟨wo, rfl⟩ : ∃ wo : World, wo = wr := ⟨_, rfl⟩
    have c1 := hC.c1
    have f1 := hC.f1
    have hm := hid hC.rem
    have hn1 : n ≤ s.length := by omega
    have hin : i + n ≤ 4000000 := by have h1 := hC.at_; have h2 := hC.sm; omega
    have HN := hid hn
    clear hn
    generalize hs' : s.drop n = s' at hC HN hm
    have HS := hid hs'
    clear hs'
    by_cases hr : rg (hd s') = true
    · obtain ⟨x, t, rfl⟩ : ∃ x t, s' = x :: t := by
        rcases s' with _ | ⟨x, t⟩
        · exact absurd hr (by decide)
        · exact ⟨x, t, rfl⟩
      rw [hd_cons] at hr
      have e1 := hid (rn_step (s := x :: t) hr)
      have Hr := hid hr
      clear hr
      have hdt : Hid (s.drop (n + 1) = t) := hid (by rw [← List.drop_drop, HS.out]; rfl)
      go_wp2_with (first | (go_at_call 134; (with_reducible refine (rpeek0 hC).mono ?_); rintro e w1 ⟨rfl, hC, -⟩; have c1 := hC.c1; have f1 := hC.f1; first | rw [hd_cons] | rw [hd_nil] | skip) | (go_at_call 116; (with_reducible refine (rregular_c _ hC).mono ?_); rintro e w1 ⟨rfl, hC⟩; have c1 := hC.c1; have f1 := hC.f1; rw [Hr.out]))
      have hC := hC.adv ((i : Int) + (n : Int) + 1) (by omega)
      exact ⟨⟨n + 1, by rw [hdt.out]; exact hC, by have h1 := HN.out; have h2 := e1.out; rw [hdt.out]; rw [List.tail_cons] at h2; omega⟩, by rw [hC.rem, hm.out]; simp⟩
    · have Hr : Hid (rg (hd s') = false) := hid (by simpa using hr)
      clear hr
      have e1 : n = rn s := by have h1 := HN.out; rw [rn_stop Hr.out] at h1; omega
      have E := hid e1
      clear e1
      have hib : i + n ≤ b.length := by have := hC.at_; omega
      go_wp2_with (first | (go_at_call 134; (with_reducible refine (rpeek0 hC).mono ?_); rintro e w1 ⟨rfl, hC, -⟩; have c1 := hC.c1; have f1 := hC.f1; first | rw [hd_cons] | rw [hd_nil] | skip) | (go_at_call 116; (with_reducible refine (rregular_c _ hC).mono ?_); rintro e w1 ⟨rfl, hC⟩; have c1 := hC.c1; have f1 := hC.f1; rw [Hr.out]))
      obtain ⟨ao, cap, k1, k2⟩ := hC.cur
      have c0 := k1.c0
      have c1 := k1.c1
      obtain ⟨uu, hu, hrun⟩ := sl_part bytesTy (t := 27) k1.rd k1.le k1.mx k1.ni i (i + n) (by omega) hib
      rw [Nat.add_sub_cancel_left, HFIN.out n E.out] at hu
      have hrun : ∀ w', (Instr.slice 27 (.slice ao b.length cap) (some (.int .i64 (i : Int))) (some (.int .i64 ((i : Int) + (n : Int)))) none).run Tryz.prog w' = .ok uu w' := fun w' => by simpa only [Int.natCast_add] using hrun w'
      have hl : (s.take (rn s)).length ≤ 140737488355328 := by rw [List.length_take]; omega
      go_region_held3 (fun w' => w'.cell? ⟨cp, 0, none⟩ = some (.slice ao b.length cap) ∧ w'.cell? ⟨cp, 1, none⟩ = some (.int .i64 ((i : Int) + (n : Int)))) (first | go_keep | skip) (first | (go_at_call 78; refine (copy_sl uu _ _ (hu.up (below_drewN (Below.refl _ _) _)) hl).mono ?_; rintro e w2 ⟨v2, rfl, hv, hb⟩; have hC2 := (k1.same (below_drewN (Below.refl _ _) _)).same hb; have k0 := hC2.c0; have k00 := hC2.c1))
      go_wp2
      go_ret
      rw [← E.out, HS.out]
      have hv2 : OwnB w2 w0.heap.size 5 v2 (s.take n) := by rw [E.out]; exact OwnB.base hv hC.size
      exact ⟨_, rfl, ((hC.drew _).below hb).take hv2⟩
end
end Go.Proofs.YtlmgklebikcbjaaGreatDoor

/-
  The document's lexer beside a token that is being filled; number; the walks. Condition: the lexer stands in its bytes.
-/
namespace Go.Proofs.YtlmgklebikcbjaaGreatDoor
open Go.RowKit
set_option linter.unusedVariables false

/-- a lexer of the document, and block tp a token k, a, n, vb, made since w0 -/
structure Tx (w0 w : World) (cp tp : Nat) (b : List UInt8) (i : Nat) (s : List UInt8) (k a n : Int) (vb u : Value) (out : List UInt8) : Prop where
  cx : Cx w0 w cp b i s u out
  lo : w0.heap.size ≤ tp
  hi : tp < w.heap.size
  hu : u.ownBlock ≠ some tp
  t0 : w.cell? ⟨tp, 0, none⟩ = some (.int .i64 k)
  t1 : w.cell? ⟨tp, 1, none⟩ = some (.int .i64 a)
  t2 : w.cell? ⟨tp, 2, none⟩ = some (.int .i64 n)
  t3 : w.cell? ⟨tp, 3, none⟩ = some vb
  g0 : w.frozen? ⟨tp, 0, none⟩ = false
  g2 : w.frozen? ⟨tp, 2, none⟩ = false
  g3 : w.frozen? ⟨tp, 3, none⟩ = false

section
variable {w0 w w' : World} {cp tp : Nat} {b : List UInt8} {i j : Nat} {s t : List UInt8} {k a n : Int} {vb u : Value} {out : List UInt8} {x : UInt8}

theorem Cx.cpb (h : Cx w0 w cp b i s u out) : cp < w0.heap.size := by
  obtain ⟨ao, cap, h1, h2⟩ := h.cur; exact h2.cp
theorem Tx.ne (h : Tx w0 w cp tp b i s k a n vb u out) : cp ≠ tp := by have := h.cx.cpb; have := h.lo; omega
theorem Tx.ne' (h : Tx w0 w cp tp b i s k a n vb u out) : tp ≠ cp := h.ne.symm

theorem Tx.below (h : Tx w0 w cp tp b i s k a n vb u out) (hb : Below w.heap.size w w') : Tx w0 w' cp tp b i s k a n vb u out := by
  have hf : ∀ o, w'.frozen? ⟨tp, o, none⟩ = w.frozen? ⟨tp, o, none⟩ := fun o => hb.frozen (p := ⟨tp, o, none⟩) h.hi
  exact ⟨h.cx.below hb, h.lo, Nat.lt_of_lt_of_le h.hi hb.size, h.hu, cell_up' hb h.t0, cell_up' hb h.t1, cell_up' hb h.t2, cell_up' hb h.t3, by rw [hf]; exact h.g0, by rw [hf]; exact h.g2, by rw [hf]; exact h.g3⟩
theorem Tx.drew (h : Tx w0 w cp tp b i s k a n vb u out) (m : Nat) : Tx w0 (w.drewN m) cp tp b i s k a n vb u out := h.below (below_drewN (Below.refl _ _) m)

/-- a store to a block made since -/
theorem Cx.store (h : Cx w0 w cp b i s u out) (ht : w0.heap.size ≤ tp) (hu : u.ownBlock ≠ some tp) (o : Nat) (v : Value) : Cx w0 (w.setCell ⟨tp, o, none⟩ v) cp b i s u out := by
  obtain ⟨ao, cap, h1, h2⟩ := h.cur
  have hcp := h2.cp
  have g2 : cp ≠ tp := by omega
  refine ⟨h.drp, ⟨ao, cap, h1.held (p := tp) (q := tp) (Held.set w ⟨tp, o, none⟩ v (.inl rfl)) g2 g2 (fun hb aa ha => ?_), h2⟩, h.held.trans (Held.set w ⟨tp, o, none⟩ v (.inr (.inr ht))), OwnB.held (p := tp) (q := tp) h.row (Held.set w ⟨tp, o, none⟩ v (.inl rfl)) (fun g hg => ?_), fun k hk => (cset_ne (fun q => g2 (congrArg Addr.block q).symm)).trans (h.off k hk)⟩
  · have := h2.ao hb aa ha
    exact ⟨by omega, by omega⟩
  · have : g ≠ tp := fun q => hu (by rw [hg, q])
    exact ⟨this, this⟩

theorem Tx.kind (h : Tx w0 w cp tp b i s k a n vb u out) (k' : Int) : Tx w0 (w.setCell ⟨tp, 0, none⟩ (.int .i64 k')) cp tp b i s k' a n vb u out := by
  refine ⟨h.cx.store h.lo h.hu _ _, h.lo, by simp; exact h.hi, h.hu, cset h.t0, ?_, ?_, ?_, ?_, ?_, ?_⟩
  · rw [cset_ne (by simp)]; exact h.t1
  · rw [cset_ne (by simp)]; exact h.t2
  · rw [cset_ne (by simp)]; exact h.t3
  · rw [World.frozen?_setCell]; exact h.g0
  · rw [World.frozen?_setCell]; exact h.g2
  · rw [World.frozen?_setCell]; exact h.g3
theorem Tx.num (h : Tx w0 w cp tp b i s k a n vb u out) (n' : Int) : Tx w0 (w.setCell ⟨tp, 2, none⟩ (.int .i64 n')) cp tp b i s k a n' vb u out := by
  refine ⟨h.cx.store h.lo h.hu _ _, h.lo, by simp; exact h.hi, h.hu, ?_, ?_, cset h.t2, ?_, ?_, ?_, ?_⟩
  · rw [cset_ne (by simp)]; exact h.t0
  · rw [cset_ne (by simp)]; exact h.t1
  · rw [cset_ne (by simp)]; exact h.t3
  · rw [World.frozen?_setCell]; exact h.g0
  · rw [World.frozen?_setCell]; exact h.g2
  · rw [World.frozen?_setCell]; exact h.g3
theorem Tx.byt (h : Tx w0 w cp tp b i s k a n vb u out) (v : Value) : Tx w0 (w.setCell ⟨tp, 3, none⟩ v) cp tp b i s k a n v u out := by
  refine ⟨h.cx.store h.lo h.hu _ _, h.lo, by simp; exact h.hi, h.hu, ?_, ?_, ?_, cset h.t3, ?_, ?_, ?_⟩
  · rw [cset_ne (by simp)]; exact h.t0
  · rw [cset_ne (by simp)]; exact h.t1
  · rw [cset_ne (by simp)]; exact h.t2
  · rw [World.frozen?_setCell]; exact h.g0
  · rw [World.frozen?_setCell]; exact h.g2
  · rw [World.frozen?_setCell]; exact h.g3
theorem Tx.to (h : Tx w0 w cp tp b i s k a n vb u out) (j : Nat) (m : Int) (hm : m = j) (hj : j ≤ b.length) : Tx w0 (w.setCell ⟨cp, 1, none⟩ (.int .i64 m)) cp tp b j (b.drop j) k a n vb u out := by
  have hne := h.ne
  refine ⟨h.cx.to j m hm hj, h.lo, by simp; exact h.hi, h.hu, ?_, ?_, ?_, ?_, ?_, ?_, ?_⟩
  · rw [cset_ne (fun q => hne (congrArg Addr.block q))]; exact h.t0
  · rw [cset_ne (fun q => hne (congrArg Addr.block q))]; exact h.t1
  · rw [cset_ne (fun q => hne (congrArg Addr.block q))]; exact h.t2
  · rw [cset_ne (fun q => hne (congrArg Addr.block q))]; exact h.t3
  · rw [World.frozen?_setCell]; exact h.g0
  · rw [World.frozen?_setCell]; exact h.g2
  · rw [World.frozen?_setCell]; exact h.g3
theorem Tx.adv (h : Tx w0 w cp tp b i (x :: t) k a n vb u out) (m : Int) (hm : m = (i : Int) + 1) : Tx w0 (w.setCell ⟨cp, 1, none⟩ (.int .i64 m)) cp tp b (i + 1) t k a n vb u out := by
  have h1 := lt_of_drop h.cx.drp
  have := h.to (i + 1) m (by omega) (by omega)
  rwa [drop_succ_of h.cx.drp] at this

theorem Tx.bare (h : Tx w0 w cp tp b i s k a n vb u out) : Tx w0 w cp tp b i s k a n vb (.slice none 0 0) [] :=
  ⟨h.cx.bare, h.lo, h.hi, (fun q => by cases q), h.t0, h.t1, h.t2, h.t3, h.g0, h.g2, h.g3⟩

/-- behind a callee that moves the lexer alone -/
theorem Tx.after (h : Tx w0 w cp tp b i s k a n vb u out) {w2 : World} {u2 : Value} {out2 : List UInt8} (c : Cx w w2 cp b j t u2 out2) : Tx w0 w2 cp tp b j t k a n vb u2 out2 := by
  have hc : ∀ o, w2.cell? ⟨tp, o, none⟩ = w.cell? ⟨tp, o, none⟩ := fun o => c.held.cell (a := ⟨tp, o, none⟩) h.hi h.ne' h.ne'
  have hf : ∀ o, w2.frozen? ⟨tp, o, none⟩ = w.frozen? ⟨tp, o, none⟩ := fun o => c.held.frozen (a := ⟨tp, o, none⟩) h.hi h.ne' h.ne'
  refine ⟨h.cx.join c, h.lo, Nat.lt_of_lt_of_le h.hi c.held.size, fun q => ?_, by rw [hc]; exact h.t0, by rw [hc]; exact h.t1, by rw [hc]; exact h.t2, by rw [hc]; exact h.t3, by rw [hf]; exact h.g0, by rw [hf]; exact h.g2, by rw [hf]; exact h.g3⟩
  have := (World.ownsRow.lt c.row tp q).1
  have := h.hi
  omega
theorem Cx.joinY (h : Cx w0 w cp b i s u out) {w2 : World} (c : Cy w w2 cp b) : Cy w0 w2 cp b := by
  obtain ⟨ao, cap, h1, h2⟩ := h.cur
  obtain ⟨⟨ao', cap', m, q0, q1, q2, q3, q4, q5, q6, q7, q8, q9⟩, hh, ho⟩ := c
  have e := q9.c0
  rw [h1.c0] at e
  injection e with e
  injection e with e1 e2 e3
  subst e1; subst e3
  exact ⟨⟨_, _, m, q0, q1, q2, q3, q4, q5, q6, q7, q8, h2⟩, h.held.then' hh, fun k hk => (ho k hk).trans (h.off k hk)⟩
theorem Tx.bad (h : Tx w0 w cp tp b i s k a n vb u out) {w2 : World} (c : Cy w w2 cp b) : Cy w0 w2 cp b ∧ w2.cell? ⟨tp, 1, none⟩ = some (.int .i64 a) ∧ w2.cell? ⟨tp, 3, none⟩ = some vb ∧ w2.frozen? ⟨tp, 3, none⟩ = false ∧ tp < w2.heap.size := by
  refine ⟨h.cx.joinY c, ?_, ?_, ?_, Nat.lt_of_lt_of_le h.hi c.held.size⟩
  · rw [c.held.cell (a := ⟨tp, 1, none⟩) h.hi h.ne' h.ne']; exact h.t1
  · rw [c.held.cell (a := ⟨tp, 3, none⟩) h.hi h.ne' h.ne']; exact h.t3
  · rw [c.held.frozen (a := ⟨tp, 3, none⟩) h.hi h.ne' h.ne']; exact h.g3
theorem Cy.store (h : Cy w0 w cp b) (ht : w0.heap.size ≤ tp) (o : Nat) (v : Value) : Cy w0 (w.setCell ⟨tp, o, none⟩ v) cp b := by
  obtain ⟨⟨ao, cap, m, q0, q1, q2, q3, q4, q5, q6, q7, q8, q9⟩, hh, ho⟩ := h
  have hcp := q9.cp
  have hne : (⟨tp, o, none⟩ : Addr) ≠ ⟨cp, 0, none⟩ := fun q => by have h8 := congrArg Addr.block q; simp at h8; omega
  have hne1 : (⟨tp, o, none⟩ : Addr) ≠ ⟨cp, 1, none⟩ := fun q => by have h8 := congrArg Addr.block q; simp at h8; omega
  refine ⟨⟨ao, cap, m, by rw [cset_ne hne]; exact q0, by rw [cset_ne hne1]; exact q1, by rw [World.frozen?_setCell]; exact q2, q3.held (p := tp) (q := tp) (Held.set w ⟨tp, o, none⟩ v (.inl rfl)) (fun hb aa ha => ?_), q4, q5, q6, q7, q8, q9⟩, hh.trans (Held.set w ⟨tp, o, none⟩ v (.inr (.inr ht))), fun k hk => (cset_ne (fun q => by have h8 := congrArg Addr.block q; simp at h8; omega)).trans (ho k hk)⟩
  have := q9.ao hb aa ha
  exact ⟨by omega, by omega⟩

theorem tpeek0 (h : Tx w0 w cp tp b i s k a n vb u out) :
    Calls Tryz.prog 134 #[.pointer (some ⟨cp, 0, none⟩), .int .i64 0] w fun e w' => e = .returned (.int .i64 (hd s)) ∧ Tx w0 w' cp tp b i s k a n vb u out := by
  refine (rpeek0 h.cx).mono ?_
  rintro e w' ⟨rfl, -, m, rfl⟩
  exact ⟨rfl, h.drew m⟩
theorem tpeek1 (h : Tx w0 w cp tp b i s k a n vb u out) :
    Calls Tryz.prog 134 #[.pointer (some ⟨cp, 0, none⟩), .int .i64 1] w fun e w' => e = .returned (.int .i64 (hd s.tail)) ∧ Tx w0 w' cp tp b i s k a n vb u out := by
  refine (rpeek1 h.cx).mono ?_
  rintro e w' ⟨rfl, -, m, rfl⟩
  exact ⟨rfl, h.drew m⟩
theorem tregular (c : Int) (h : Tx w0 w cp tp b i s k a n vb u out) :
    Calls Tryz.prog 116 #[.int .i64 c] w fun e w' => e = .returned (.bool (rg c)) ∧ Tx w0 w' cp tp b i s k a n vb u out := by
  refine (rregular_any c w).mono ?_
  rintro e w' ⟨rfl, m, rfl⟩
  exact ⟨rfl, h.drew m⟩

/-- what the document's token leaves in its token -/
def TokR (T : TRes) (w0 : World) (cp tp : Nat) (b : List UInt8) (a : Int) (e : Ending) (w' : World) : Prop :=
  match T with
  | .bad x => e = .returned (.int .i64 x) ∧ Cy w0 w' cp b ∧ w'.cell? ⟨tp, 1, none⟩ = some (.int .i64 a) ∧ tp < w'.heap.size
  | .tok k n out rest => e = .returned (.int .i64 0) ∧ ∃ i u, Tx w0 w' cp tp b i rest k a n u u out

set_option maxHeartbeats 1600000 in
set_option maxRecDepth 100000 in
theorem rnumber (h : Tx w0 w cp tp b i s k a 0 (.slice none 0 0) u out) :
    Calls Tryz.prog 138 #[.pointer (some ⟨cp, 0, none⟩), .pointer (some ⟨tp, 0, none⟩)] w fun e w' => TokR (numT s) w0 cp tp b a e w' := by
  have hT := h
  have hat := hT.cx.at_
  have hsm := hT.cx.sm
  have hl : (s.take (rn s)).length ≤ 4000000 := by rw [List.length_take]; omega
  generalize hR : np (s.take (rn s)) = R
  generalize hTT : numT s = T
  unfold numT at hTT
  rw [hR] at hTT
  obtain ⟨n, whole, err⟩ := R
  have HR := hid hR
  have HTT := hid hTT
  clear hR hat hsm h hTT
  cases whole with
  | true =>
    go_enter Tryz.func138, Tryz.ntmps138
    go_wp2_with (first | (go_at_call 139; refine (rrun hT.cx.fresh).mono ?_; rintro e w1 ⟨u1, rfl, hC⟩; have hT := hT.after hC) | (go_at_call 157; refine (rparse _ _ _ (Sl.own hT.cx.row) hl).mono ?_; rintro e w2 ⟨rfl, rfl⟩; rw [HR.out]; have t0 := hT.t0; have t2 := hT.t2; have g0 := hT.g0; have g2 := hT.g2))
    go_ret
    have hN := fun y z n => ((hT.kind y).kind z).num n
    rw [← HTT.out]
    by_cases he : err = 0
    · subst he
      exact ⟨rfl, _, _, (hN _ _ _).bare⟩
    · rw [if_neg he]
      exact ⟨rfl, (hN _ _ _).cx.cy, (hN _ _ _).t1, (hN _ _ _).hi⟩
  | false =>
    go_enter Tryz.func138, Tryz.ntmps138
    go_wp2_with (first | (go_at_call 139; refine (rrun hT.cx.fresh).mono ?_; rintro e w1 ⟨u1, rfl, hC⟩; have hT := hT.after hC) | (go_at_call 157; refine (rparse _ _ _ (Sl.own hT.cx.row) hl).mono ?_; rintro e w2 ⟨rfl, rfl⟩; rw [HR.out]; have t0 := hT.t0; have t2 := hT.t2; have g0 := hT.g0; have g2 := hT.g2))
    go_ret
    have hN := fun y n => (hT.kind y).num n
    rw [← HTT.out]
    by_cases he : err = 0
    · subst he
      exact ⟨rfl, _, _, (hN _ _).bare⟩
    · rw [if_neg he]
      exact ⟨rfl, (hN _ _).cx.cy, (hN _ _).t1, (hN _ _).hi⟩
end
end Go.Proofs.YtlmgklebikcbjaaGreatDoor
