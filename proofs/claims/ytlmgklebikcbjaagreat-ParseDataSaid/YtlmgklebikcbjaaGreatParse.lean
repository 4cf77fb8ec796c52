/-
  fixed.Parse: the number that bytes say; the program's walk. Conditions: sizes.
-/
import Derived.Test.YtlmgklebikcbjaaGreatNum
namespace Go.Proofs.YtlmgklebikcbjaaGreat
open Go.RowKit
set_option linter.unusedVariables false

theorem Kc.eqs {w0 w : World} {cp : Nat} {b : List UInt8} {i : Nat} {s t : List UInt8} {u : Value} {out : List UInt8} (h : Kc w0 w cp b i s u out) (e : s = t) : Kc w0 w cp b i t u out := e ▸ h

theorem np_eq {b s a r : List UInt8} {g : Int} (h1 : sgn b = g) (h2 : uns b = s) (h3 : s.take (dgs s) = a) (h4 : s.drop (dgs s) = r) : np b = numb g a r := by
  subst h1 h2 h3 h4; rfl

set_option maxHeartbeats 3200000 in
theorem parse_k (v : Value) (b : List UInt8) (w : World) (h : Sl w v b) (hl : b.length ≤ 1000000) :
    Calls Tryz.prog 114 #[v] w fun e w' => e = .returned (.tuple #[.int .i64 (np b).1, .bool (np b).2.1, .int .i64 (np b).2.2]) ∧ Below w.heap.size w w' := by
  have hcs : ∃ s : List UInt8, ∃ g : Int, uns b = s ∧ s.length ≤ b.length ∧ sgn b = g ∧ (g = 1 ∨ g = -1) ∧ ((pfx [43] b = true ∧ b.drop 1 = s ∧ g = 1) ∨ (pfx [43] b = false ∧ pfx [45] b = true ∧ b.drop 1 = s ∧ g = -1) ∨ (pfx [43] b = false ∧ pfx [45] b = false ∧ b = s ∧ g = 1)) := by
    by_cases q1 : hd b = 43
    · exact ⟨b.tail, 1, by unfold uns; rw [if_pos (.inl q1)], by simp, by unfold sgn; rw [if_neg (by omega)], .inl rfl, .inl ⟨by rw [pfx1]; exact decide_eq_true q1, by simp, rfl⟩⟩
    by_cases q2 : hd b = 45
    · exact ⟨b.tail, -1, by unfold uns; rw [if_pos (.inr q2)], by simp, by unfold sgn; rw [if_pos q2], .inr rfl, .inr (.inl ⟨by rw [pfx1]; exact decide_eq_false q1, by rw [pfx1]; exact decide_eq_true q2, by simp, rfl⟩)⟩
    · exact ⟨b, 1, by unfold uns; rw [if_neg (by omega)], Nat.le_refl _, by unfold sgn; rw [if_neg q2], .inl rfl, .inr (.inr ⟨by rw [pfx1]; exact decide_eq_false q1, by rw [pfx1]; exact decide_eq_false q2, rfl, rfl⟩)⟩
  obtain ⟨s, g, hun, hsl, hsg, hg, hcase⟩ := hcs
  have hnp := np_eq hsg hun rfl rfl
  generalize hR : np b = R
  rw [hR] at hnp
  have hdl := dgs_le s
  generalize hr : s.drop (dgs s) = r at hnp
  generalize ha : s.take (dgs s) = a at hnp
  have hal : a.length = dgs s := by rw [← ha, List.length_take, Nat.min_eq_left hdl]
  have hrl : r.length ≤ 1000000 := by rw [← hr, List.length_drop]; omega
  have HA := hid ha
  have HRR := hid hr
  have HAL := hid hal
  have hk1 : dgs s ≤ 1000000 := by omega
  clear hun hsg ha hr hal hR
  have hv : vl a 0 ≤ 2147483647 ∨ 2147483647 < vl a 0 := by omega
  rcases r with _ | ⟨x, f⟩
  · have H3 : Hid (pfx [46] [] = false) := hid rfl
    by_cases h0 : a.length = 0
    · rw [show numb g a [] = (0, false, 4) from by rw [numb, if_pos h0]] at hnp
      subst hnp
      have b0 : ((dgs s : Int) == 0) = true := by have := HAL.out; simp; omega
      clear h0
      rcases hcase with ⟨q1, q3, rfl⟩ | ⟨q1, q2, q3, rfl⟩ | ⟨q1, q2, q3, rfl⟩
      all_goals
        have H1 := hid q1
        have E1 := hid q3
        first | have H2 := hid q2 | have H2 := trivial
        clear q1 q3 hg
        try clear q2
        go_enter Tryz.func114, Tryz.ntmps114
        go_wp2_with (first | (go_at_call 31; refine (cursor_new v b _ h hl).mono ?_; rintro e w1 ⟨rfl, ⟨ao, cap, hcur⟩, hb1, hsz⟩; have hC := Kc.start hcur; clear hcur; have hC := hC.eqs (show _ = b from rfl)) | (go_at_call 37; refine (kmatch_yes _ (by decide) H1.out hC).mono ?_; rintro e w1 ⟨rfl, hC⟩) | (go_at_call 37; refine (kmatch_no _ (by decide) H1.out hC).mono ?_; rintro e w1 ⟨rfl, hC⟩) | (go_at_call 37; refine (kmatch_yes _ (by decide) H2.out hC).mono ?_; rintro e w1 ⟨rfl, hC⟩) | (go_at_call 37; refine (kmatch_no _ (by decide) H2.out hC).mono ?_; rintro e w1 ⟨rfl, hC⟩) | (go_at_call 120; refine (digits_k (hC.eqs E1.out)).mono ?_; rintro e w2 ⟨z, q, hz, hq, z0, z1, rfl, hC⟩; rw [HA.out] at hz hq; have hC := hC.eqs HRR.out; have HZ := hid hz; clear hz; clear hq) | (go_at_call 37; refine (kmatch_no _ (by decide) H3.out hC).mono ?_; rintro e w1 ⟨rfl, hC⟩) | (go_at_call 30; refine (kleft hC).mono ?_; rintro e w1 ⟨rfl, rfl⟩))
        go_ret3
        refine ⟨rfl, ?_⟩
        exact hb1.trans (hC.held.below hb1.size (Nat.le_refl _) (Nat.le_refl _))
    · have b0 : ((dgs s : Int) == 0) = false := by have := HAL.out; simp; omega
      rcases hv with hv | hv
      · rw [show numb g a [] = (g * (vl a 0 : Int), true, 0) from by rw [numb, if_neg h0, if_neg (by omega)]] at hnp
        subst hnp
        have Hq := hid (decide_eq_true hv)
        have HV := hid hv
        clear h0 hv
        rcases hcase with ⟨q1, q3, rfl⟩ | ⟨q1, q2, q3, rfl⟩ | ⟨q1, q2, q3, rfl⟩
        all_goals
          have H1 := hid q1
          have E1 := hid q3
          first | have H2 := hid q2 | have H2 := trivial
          clear q1 q3 hg
          try clear q2
          go_enter Tryz.func114, Tryz.ntmps114
          go_wp2_with (first | (go_at_call 31; refine (cursor_new v b _ h hl).mono ?_; rintro e w1 ⟨rfl, ⟨ao, cap, hcur⟩, hb1, hsz⟩; have hC := Kc.start hcur; clear hcur; have hC := hC.eqs (show _ = b from rfl)) | (go_at_call 37; refine (kmatch_yes _ (by decide) H1.out hC).mono ?_; rintro e w1 ⟨rfl, hC⟩) | (go_at_call 37; refine (kmatch_no _ (by decide) H1.out hC).mono ?_; rintro e w1 ⟨rfl, hC⟩) | (go_at_call 37; refine (kmatch_yes _ (by decide) H2.out hC).mono ?_; rintro e w1 ⟨rfl, hC⟩) | (go_at_call 37; refine (kmatch_no _ (by decide) H2.out hC).mono ?_; rintro e w1 ⟨rfl, hC⟩) | (go_at_call 120; refine (digits_k (hC.eqs E1.out)).mono ?_; rintro e w2 ⟨z, q, hz, hq, z0, z1, rfl, hC⟩; rw [HA.out] at hz hq; have hC := hC.eqs HRR.out; have HZ := hid hz; clear hz; rw [Hq.out] at hq; subst hq) | (go_at_call 37; refine (kmatch_no _ (by decide) H3.out hC).mono ?_; rintro e w1 ⟨rfl, hC⟩) | (go_at_call 30; refine (kleft hC).mono ?_; rintro e w1 ⟨rfl, rfl⟩))
          go_ret3
          refine ⟨by rw [HZ.out HV.out]; first | rfl | simp, ?_⟩
          exact hb1.trans (hC.held.below hb1.size (Nat.le_refl _) (Nat.le_refl _))
      · rw [show numb g a [] = (0, false, 5) from by rw [numb, if_neg h0, if_pos hv]] at hnp
        subst hnp
        have Hq := hid (decide_eq_false (show ¬ vl a 0 ≤ 2147483647 by omega))
        clear h0 hv
        rcases hcase with ⟨q1, q3, rfl⟩ | ⟨q1, q2, q3, rfl⟩ | ⟨q1, q2, q3, rfl⟩
        all_goals
          have H1 := hid q1
          have E1 := hid q3
          first | have H2 := hid q2 | have H2 := trivial
          clear q1 q3 hg
          try clear q2
          go_enter Tryz.func114, Tryz.ntmps114
          go_wp2_with (first | (go_at_call 31; refine (cursor_new v b _ h hl).mono ?_; rintro e w1 ⟨rfl, ⟨ao, cap, hcur⟩, hb1, hsz⟩; have hC := Kc.start hcur; clear hcur; have hC := hC.eqs (show _ = b from rfl)) | (go_at_call 37; refine (kmatch_yes _ (by decide) H1.out hC).mono ?_; rintro e w1 ⟨rfl, hC⟩) | (go_at_call 37; refine (kmatch_no _ (by decide) H1.out hC).mono ?_; rintro e w1 ⟨rfl, hC⟩) | (go_at_call 37; refine (kmatch_yes _ (by decide) H2.out hC).mono ?_; rintro e w1 ⟨rfl, hC⟩) | (go_at_call 37; refine (kmatch_no _ (by decide) H2.out hC).mono ?_; rintro e w1 ⟨rfl, hC⟩) | (go_at_call 120; refine (digits_k (hC.eqs E1.out)).mono ?_; rintro e w2 ⟨z, q, hz, hq, z0, z1, rfl, hC⟩; rw [HA.out] at hz hq; have hC := hC.eqs HRR.out; have HZ := hid hz; clear hz; rw [Hq.out] at hq; subst hq) | (go_at_call 37; refine (kmatch_no _ (by decide) H3.out hC).mono ?_; rintro e w1 ⟨rfl, hC⟩) | (go_at_call 30; refine (kleft hC).mono ?_; rintro e w1 ⟨rfl, rfl⟩))
          go_ret3
          refine ⟨rfl, ?_⟩
          exact hb1.trans (hC.held.below hb1.size (Nat.le_refl _) (Nat.le_refl _))
  · by_cases hx : c8 x = 46
    · have H3 : Hid (pfx [46] (x :: f) = true) := hid (by rw [pfx1]; exact decide_eq_true hx)
      have hfl := dgs_le f
      rw [List.length_cons] at hrl
      by_cases hf : dgs f = f.length
      · have HF : Hid (f.drop (dgs f) = []) := hid (List.drop_eq_nil_of_le (by omega))
        have HT : Hid (f.take (dgs f) = f) := hid (List.take_of_length_le (by omega))
        by_cases h0 : a.length + f.length = 0
        · rw [show numb g a (x :: f) = (0, false, 4) from by rw [numb, if_neg (fun q => q.2.2 h0)]] at hnp
          subst hnp
          have b0 : ((dgs s : Int) + (dgs f : Int) == 0) = true := by have := HAL.out; simp; omega
          clear h0 hf hx
          rcases hcase with ⟨q1, q3, rfl⟩ | ⟨q1, q2, q3, rfl⟩ | ⟨q1, q2, q3, rfl⟩
          all_goals
            have H1 := hid q1
            have E1 := hid q3
            first | have H2 := hid q2 | have H2 := trivial
            clear q1 q3 hg
            try clear q2
            go_enter Tryz.func114, Tryz.ntmps114
            go_wp2_with (first | (go_at_call 31; refine (cursor_new v b _ h hl).mono ?_; rintro e w1 ⟨rfl, ⟨ao, cap, hcur⟩, hb1, hsz⟩; have hC := Kc.start hcur; clear hcur; have hC := hC.eqs (show _ = b from rfl)) | (go_at_call 37; refine (kmatch_yes _ (by decide) H1.out hC).mono ?_; rintro e w1 ⟨rfl, hC⟩) | (go_at_call 37; refine (kmatch_no _ (by decide) H1.out hC).mono ?_; rintro e w1 ⟨rfl, hC⟩) | (go_at_call 37; refine (kmatch_yes _ (by decide) H2.out hC).mono ?_; rintro e w1 ⟨rfl, hC⟩) | (go_at_call 37; refine (kmatch_no _ (by decide) H2.out hC).mono ?_; rintro e w1 ⟨rfl, hC⟩) | (go_at_call 120; refine (digits_k (hC.eqs E1.out)).mono ?_; rintro e w2 ⟨z, q, hz, hq, z0, z1, rfl, hC⟩; rw [HA.out] at hz hq; have hC := hC.eqs HRR.out; have HZ := hid hz; clear hz; clear hq) | (go_at_call 37; refine (kmatch_yes _ (by decide) H3.out hC).mono ?_; rintro e w1 ⟨rfl, hC⟩) | (go_at_call 121; refine (behind_k (hC.eqs (show _ = f from rfl))).mono ?_; rintro e w3 ⟨y1, rfl, hC⟩; have hC := hC.eqs HF.out) | (go_at_call 30; refine (kleft hC).mono ?_; rintro e w1 ⟨rfl, rfl⟩))
            go_ret3
            refine ⟨rfl, ?_⟩
            exact hb1.trans (hC.held.below hb1.size (Nat.le_refl _) (Nat.le_refl _))
        · have b0 : ((dgs s : Int) + (dgs f : Int) == 0) = false := by have := HAL.out; simp; omega
          rcases hv with hv | hv
          · rw [show numb g a (x :: f) = (g * ((vl a 0 : Int) * 100000 + (fr 5 f 0 : Int)), false, 0) from by rw [numb, if_pos ⟨hx, hf, h0⟩, if_neg (by omega)]] at hnp
            subst hnp
            have Hq := hid (decide_eq_true hv)
            have HV := hid hv
            clear h0 hv hf hx
            rcases hcase with ⟨q1, q3, rfl⟩ | ⟨q1, q2, q3, rfl⟩ | ⟨q1, q2, q3, rfl⟩
            all_goals
              have H1 := hid q1
              have E1 := hid q3
              first | have H2 := hid q2 | have H2 := trivial
              clear q1 q3 hg
              try clear q2
              go_enter Tryz.func114, Tryz.ntmps114
              go_wp2_with (first | (go_at_call 31; refine (cursor_new v b _ h hl).mono ?_; rintro e w1 ⟨rfl, ⟨ao, cap, hcur⟩, hb1, hsz⟩; have hC := Kc.start hcur; clear hcur; have hC := hC.eqs (show _ = b from rfl)) | (go_at_call 37; refine (kmatch_yes _ (by decide) H1.out hC).mono ?_; rintro e w1 ⟨rfl, hC⟩) | (go_at_call 37; refine (kmatch_no _ (by decide) H1.out hC).mono ?_; rintro e w1 ⟨rfl, hC⟩) | (go_at_call 37; refine (kmatch_yes _ (by decide) H2.out hC).mono ?_; rintro e w1 ⟨rfl, hC⟩) | (go_at_call 37; refine (kmatch_no _ (by decide) H2.out hC).mono ?_; rintro e w1 ⟨rfl, hC⟩) | (go_at_call 120; refine (digits_k (hC.eqs E1.out)).mono ?_; rintro e w2 ⟨z, q, hz, hq, z0, z1, rfl, hC⟩; rw [HA.out] at hz hq; have hC := hC.eqs HRR.out; have HZ := hid hz; clear hz; rw [Hq.out] at hq; subst hq) | (go_at_call 37; refine (kmatch_yes _ (by decide) H3.out hC).mono ?_; rintro e w1 ⟨rfl, hC⟩) | (go_at_call 121; refine (behind_k (hC.eqs (show _ = f from rfl))).mono ?_; rintro e w3 ⟨y1, rfl, hC⟩; have hC := hC.eqs HF.out) | (go_at_call 30; refine (kleft hC).mono ?_; rintro e w1 ⟨rfl, rfl⟩))
              go_ret3
              refine ⟨by rw [HZ.out HV.out, HT.out]; first | rfl | simp, ?_⟩
              exact hb1.trans (hC.held.below hb1.size (Nat.le_refl _) (Nat.le_refl _))
          · rw [show numb g a (x :: f) = (0, false, 5) from by rw [numb, if_pos ⟨hx, hf, h0⟩, if_pos hv]] at hnp
            subst hnp
            have Hq := hid (decide_eq_false (show ¬ vl a 0 ≤ 2147483647 by omega))
            clear h0 hv hf hx
            rcases hcase with ⟨q1, q3, rfl⟩ | ⟨q1, q2, q3, rfl⟩ | ⟨q1, q2, q3, rfl⟩
            all_goals
              have H1 := hid q1
              have E1 := hid q3
              first | have H2 := hid q2 | have H2 := trivial
              clear q1 q3 hg
              try clear q2
              go_enter Tryz.func114, Tryz.ntmps114
              go_wp2_with (first | (go_at_call 31; refine (cursor_new v b _ h hl).mono ?_; rintro e w1 ⟨rfl, ⟨ao, cap, hcur⟩, hb1, hsz⟩; have hC := Kc.start hcur; clear hcur; have hC := hC.eqs (show _ = b from rfl)) | (go_at_call 37; refine (kmatch_yes _ (by decide) H1.out hC).mono ?_; rintro e w1 ⟨rfl, hC⟩) | (go_at_call 37; refine (kmatch_no _ (by decide) H1.out hC).mono ?_; rintro e w1 ⟨rfl, hC⟩) | (go_at_call 37; refine (kmatch_yes _ (by decide) H2.out hC).mono ?_; rintro e w1 ⟨rfl, hC⟩) | (go_at_call 37; refine (kmatch_no _ (by decide) H2.out hC).mono ?_; rintro e w1 ⟨rfl, hC⟩) | (go_at_call 120; refine (digits_k (hC.eqs E1.out)).mono ?_; rintro e w2 ⟨z, q, hz, hq, z0, z1, rfl, hC⟩; rw [HA.out] at hz hq; have hC := hC.eqs HRR.out; have HZ := hid hz; clear hz; rw [Hq.out] at hq; subst hq) | (go_at_call 37; refine (kmatch_yes _ (by decide) H3.out hC).mono ?_; rintro e w1 ⟨rfl, hC⟩) | (go_at_call 121; refine (behind_k (hC.eqs (show _ = f from rfl))).mono ?_; rintro e w3 ⟨y1, rfl, hC⟩; have hC := hC.eqs HF.out) | (go_at_call 30; refine (kleft hC).mono ?_; rintro e w1 ⟨rfl, rfl⟩))
              go_ret3
              refine ⟨rfl, ?_⟩
              exact hb1.trans (hC.held.below hb1.size (Nat.le_refl _) (Nat.le_refl _))
      · rw [show numb g a (x :: f) = (0, false, 4) from by rw [numb, if_neg (fun q => hf q.2.1)]] at hnp
        subst hnp
        obtain ⟨y, f2, HF0⟩ : ∃ y f2, f.drop (dgs f) = y :: f2 := by
          cases hq : f.drop (dgs f) with
          | nil => have := congrArg List.length hq; simp at this; omega
          | cons y f2 => exact ⟨y, f2, rfl⟩
        have hf2 := congrArg List.length HF0
        rw [List.length_cons, List.length_drop] at hf2
        have hf2' : f2.length ≤ 1000000 := by omega
        have HF := hid HF0
        clear hf hx HF0 hf2
        rcases hcase with ⟨q1, q3, rfl⟩ | ⟨q1, q2, q3, rfl⟩ | ⟨q1, q2, q3, rfl⟩
        all_goals
          have H1 := hid q1
          have E1 := hid q3
          first | have H2 := hid q2 | have H2 := trivial
          clear q1 q3 hg
          try clear q2
          go_enter Tryz.func114, Tryz.ntmps114
          go_wp2_with (first | (go_at_call 31; refine (cursor_new v b _ h hl).mono ?_; rintro e w1 ⟨rfl, ⟨ao, cap, hcur⟩, hb1, hsz⟩; have hC := Kc.start hcur; clear hcur; have hC := hC.eqs (show _ = b from rfl)) | (go_at_call 37; refine (kmatch_yes _ (by decide) H1.out hC).mono ?_; rintro e w1 ⟨rfl, hC⟩) | (go_at_call 37; refine (kmatch_no _ (by decide) H1.out hC).mono ?_; rintro e w1 ⟨rfl, hC⟩) | (go_at_call 37; refine (kmatch_yes _ (by decide) H2.out hC).mono ?_; rintro e w1 ⟨rfl, hC⟩) | (go_at_call 37; refine (kmatch_no _ (by decide) H2.out hC).mono ?_; rintro e w1 ⟨rfl, hC⟩) | (go_at_call 120; refine (digits_k (hC.eqs E1.out)).mono ?_; rintro e w2 ⟨z, q, hz, hq, z0, z1, rfl, hC⟩; rw [HA.out] at hz hq; have hC := hC.eqs HRR.out; have HZ := hid hz; clear hz; clear hq) | (go_at_call 37; refine (kmatch_yes _ (by decide) H3.out hC).mono ?_; rintro e w1 ⟨rfl, hC⟩) | (go_at_call 121; refine (behind_k (hC.eqs (show _ = f from rfl))).mono ?_; rintro e w3 ⟨y1, rfl, hC⟩; have hC := hC.eqs HF.out) | (go_at_call 30; refine (kleft hC).mono ?_; rintro e w1 ⟨rfl, rfl⟩))
          go_ret3
          refine ⟨rfl, ?_⟩
          exact hb1.trans (hC.held.below hb1.size (Nat.le_refl _) (Nat.le_refl _))
    · have H3 : Hid (pfx [46] (x :: f) = false) := hid (by rw [pfx1]; exact decide_eq_false hx)
      rw [show numb g a (x :: f) = (0, false, 4) from by rw [numb, if_neg (fun q => hx q.1)]] at hnp
      subst hnp
      rw [List.length_cons] at hrl
      clear hx
      rcases hcase with ⟨q1, q3, rfl⟩ | ⟨q1, q2, q3, rfl⟩ | ⟨q1, q2, q3, rfl⟩
      all_goals
        have H1 := hid q1
        have E1 := hid q3
        first | have H2 := hid q2 | have H2 := trivial
        clear q1 q3 hg
        try clear q2
        go_enter Tryz.func114, Tryz.ntmps114
        go_wp2_with (first | (go_at_call 31; refine (cursor_new v b _ h hl).mono ?_; rintro e w1 ⟨rfl, ⟨ao, cap, hcur⟩, hb1, hsz⟩; have hC := Kc.start hcur; clear hcur; have hC := hC.eqs (show _ = b from rfl)) | (go_at_call 37; refine (kmatch_yes _ (by decide) H1.out hC).mono ?_; rintro e w1 ⟨rfl, hC⟩) | (go_at_call 37; refine (kmatch_no _ (by decide) H1.out hC).mono ?_; rintro e w1 ⟨rfl, hC⟩) | (go_at_call 37; refine (kmatch_yes _ (by decide) H2.out hC).mono ?_; rintro e w1 ⟨rfl, hC⟩) | (go_at_call 37; refine (kmatch_no _ (by decide) H2.out hC).mono ?_; rintro e w1 ⟨rfl, hC⟩) | (go_at_call 120; refine (digits_k (hC.eqs E1.out)).mono ?_; rintro e w2 ⟨z, q, hz, hq, z0, z1, rfl, hC⟩; rw [HA.out] at hz hq; have hC := hC.eqs HRR.out; have HZ := hid hz; clear hz; clear hq) | (go_at_call 37; refine (kmatch_no _ (by decide) H3.out hC).mono ?_; rintro e w1 ⟨rfl, hC⟩) | (go_at_call 30; refine (kleft hC).mono ?_; rintro e w1 ⟨rfl, rfl⟩))
        go_ret3
        refine ⟨rfl, ?_⟩
        exact hb1.trans (hC.held.below hb1.size (Nat.le_refl _) (Nat.le_refl _))
end Go.Proofs.YtlmgklebikcbjaaGreat
