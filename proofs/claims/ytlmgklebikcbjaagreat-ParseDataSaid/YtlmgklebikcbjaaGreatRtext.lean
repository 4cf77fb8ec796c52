/-
  The document's ends of line, escapes, strings, digits; the walks. Condition: the lexer stands in its bytes.
-/
import Derived.Test.YtlmgklebikcbjaaGreatRname
import Derived.Test.YtlmgklebikcbjaaGreatText
namespace Go.Proofs.YtlmgklebikcbjaaGreat
open Go.RowKit
set_option linter.unusedVariables false

section
variable {w0 w w' : World} {cp : Nat} {b : List UInt8} {i : Nat} {s t : List UInt8} {u : Value} {out : List UInt8} {x : UInt8}

set_option maxHeartbeats 800000 in
theorem reol_no (h1 : ¬ hd s = 10) (h2 : ¬ hd s = 13) (h : Cx w0 w cp b i s u out) :
    Calls Tryz.prog 53 #[.pointer (some ⟨cp, 0, none⟩)] w fun e w' => e = .returned (.bool false) ∧ Cx w0 w' cp b i s u out := by
  have hC := h
  have b1 : (hd s == 10) = false := by simpa using h1
  have b2 : (hd s == 13) = false := by simpa using h2
  clear h h1 h2
  go_enter Tryz.func53, Tryz.ntmps53
  go_wp2_with (first | (go_at_call 49; (with_reducible refine (rpeek0 hC).mono ?_); rintro e w1 ⟨rfl, hC, -⟩; have c1 := hC.c1; have f1 := hC.f1; first | rw [hd_cons] | rw [hd_nil] | skip))
  go_ret
  exact ⟨rfl, hC⟩
set_option maxHeartbeats 800000 in
theorem reol10 (h1 : c8 x = 10) (h : Cx w0 w cp b i (x :: t) u out) :
    Calls Tryz.prog 53 #[.pointer (some ⟨cp, 0, none⟩)] w fun e w' => e = .returned (.bool true) ∧ Cx w0 w' cp b (i + 1) t u out := by
  have hC := h
  have b1 : (c8 x == 10) = true := by simpa using h1
  have b2 : (c8 x == 13) = false := by simp [h1]
  have hi : i ≤ 1000000 := by have h1 := hC.at_; have h2 := hC.sm; omega
  clear h h1
  go_enter Tryz.func53, Tryz.ntmps53
  go_wp2_with (first | (go_at_call 49; (with_reducible refine (rpeek0 hC).mono ?_); rintro e w1 ⟨rfl, hC, -⟩; have c1 := hC.c1; have f1 := hC.f1; first | rw [hd_cons] | rw [hd_nil] | skip))
  go_ret
  exact ⟨rfl, hC.adv _ rfl⟩
set_option maxHeartbeats 1600000 in
theorem reol13 (h1 : c8 x = 13) (h : Cx w0 w cp b i (x :: t) u out) :
    Calls Tryz.prog 53 #[.pointer (some ⟨cp, 0, none⟩)] w fun e w' => e = .returned (.bool true) ∧ ∃ j, Cx w0 w' cp b j (sk t) u out := by
  have hC := h
  have b2 : (c8 x == 13) = true := by simpa using h1
  have hi : i ≤ 1000000 := by have h1 := hC.at_; have h2 := hC.sm; omega
  clear h h1
  by_cases h10 : hd t = 10
  · obtain ⟨y, t, rfl⟩ : ∃ y t', t = y :: t' := by
      rcases t with _ | ⟨y, t⟩
      · rw [hd_nil] at h10; omega
      · exact ⟨y, t, rfl⟩
    have E : Hid (sk (y :: t) = t) := hid (by rw [hd_cons] at h10; rw [sk, if_pos h10])
    have b1 : (c8 y == 10) = true := by rw [hd_cons] at h10; simpa using h10
    have hb : i + 2 ≤ b.length := by have := hC.at_; simp at this; omega
    have HD : Hid (b.drop (i + 2) = t) := hid (by rw [← List.drop_drop, hC.drp]; rfl)
    clear h10
    go_enter Tryz.func53, Tryz.ntmps53
    go_wp2_with (first | (go_at_call 49; (with_reducible refine (rpeek0 hC).mono ?_); rintro e w1 ⟨rfl, hC, -⟩; have c1 := hC.c1; have f1 := hC.f1; first | rw [hd_cons] | rw [hd_nil] | skip) | (go_at_call 49; (with_reducible refine (rpeek1 hC).mono ?_); rintro e w1 ⟨rfl, hC, -⟩; have c1 := hC.c1; have f1 := hC.f1; rw [List.tail_cons, hd_cons]))
    go_ret
    have hC := hC.to (i + 2) ((i : Int) + 2) (by omega) hb
    rw [HD.out] at hC
    rw [E.out]
    exact ⟨rfl, _, hC⟩
  · have E : Hid (sk t = t) := hid (by
      rcases t with _ | ⟨y, t⟩
      · rfl
      · rw [hd_cons] at h10; rw [sk, if_neg h10])
    have b1 : (hd t == 10) = false := by simpa using h10
    clear h10
    go_enter Tryz.func53, Tryz.ntmps53
    go_wp2_with (first | (go_at_call 49; (with_reducible refine (rpeek0 hC).mono ?_); rintro e w1 ⟨rfl, hC, -⟩; have c1 := hC.c1; have f1 := hC.f1; first | rw [hd_cons] | rw [hd_nil] | skip) | (go_at_call 49; (with_reducible refine (rpeek1 hC).mono ?_); rintro e w1 ⟨rfl, hC, -⟩; have c1 := hC.c1; have f1 := hC.f1; rw [List.tail_cons]))
    go_ret
    rw [E.out]
    exact ⟨rfl, _, hC.adv _ rfl⟩

set_option maxHeartbeats 1600000 in
theorem rescape (h : Cx w0 w cp b i (x :: t) u out) :
    Calls Tryz.prog 117 #[.pointer (some ⟨cp, 0, none⟩)] w fun e w' => e = .returned (.int .i64 (es (c8 x) t).1) ∧ ∃ j, Cx w0 w' cp b j (es (c8 x) t).2 u out := by
  generalize hR : es (c8 x) t = R
  have hC := h
  have hi : i ≤ 1000000 := by have h1 := hC.at_; have h2 := hC.sm; omega
  clear h
  by_cases q10 : c8 x = 10
  · have hR : R = (-1, t) := by rw [← hR]; unfold es; simp [q10]
    subst hR
    go_enter Tryz.func117, Tryz.ntmps117
    go_wp2_with (first | (go_at_call 53; (with_reducible refine (reol10 q10 hC).mono ?_); rintro e w1 ⟨rfl, hC⟩; have c1 := hC.c1; have f1 := hC.f1))
    go_ret
    exact ⟨rfl, _, hC⟩
  by_cases q13 : c8 x = 13
  · have hR : R = (-1, sk t) := by rw [← hR]; unfold es; simp [q13]
    subst hR
    go_enter Tryz.func117, Tryz.ntmps117
    go_wp2_with (first | (go_at_call 53; (with_reducible refine (reol13 q13 hC).mono ?_); rintro e w1 ⟨rfl, i, hC⟩; have c1 := hC.c1; have f1 := hC.f1))
    go_ret
    exact ⟨rfl, _, hC⟩
  have H10 : Hid (¬ hd (x :: t) = 10) := hid (by rw [hd_cons]; exact q10)
  have H13 : Hid (¬ hd (x :: t) = 13) := hid (by rw [hd_cons]; exact q13)
  by_cases q110 : c8 x = 110
  · have hR : R = (10, t) := by rw [← hR]; unfold es; simp [q110]
    subst hR
    have b110 : (c8 x == 110) = true := by simpa using q110
    skip
    have t0 : decide (48 ≤ c8 x) = true := decide_eq_true (by omega)
    have t1 : decide (c8 x ≤ 55) = false := decide_eq_false (by omega)
    clear q10 q13 q110
    go_enter Tryz.func117, Tryz.ntmps117
    go_wp2_with (first | (go_at_call 53; (with_reducible refine (reol_no H10.out H13.out hC).mono ?_); rintro e w1 ⟨rfl, hC⟩; have c1 := hC.c1; have f1 := hC.f1) | (go_at_call 49; (with_reducible refine (rpeek0 hC).mono ?_); rintro e w1 ⟨rfl, hC, -⟩; have c1 := hC.c1; have f1 := hC.f1; first | rw [hd_cons] | rw [hd_nil] | skip))
    go_ret
    exact ⟨rfl, _, hC.adv _ rfl⟩
  by_cases q114 : c8 x = 114
  · have hR : R = (13, t) := by rw [← hR]; unfold es; simp [q114]
    subst hR
    have b114 : (c8 x == 114) = true := by simpa using q114
    have b110 : (c8 x == 110) = false := by simpa using q110
    have t0 : decide (48 ≤ c8 x) = true := decide_eq_true (by omega)
    have t1 : decide (c8 x ≤ 55) = false := decide_eq_false (by omega)
    clear q10 q13 q110 q114
    go_enter Tryz.func117, Tryz.ntmps117
    go_wp2_with (first | (go_at_call 53; (with_reducible refine (reol_no H10.out H13.out hC).mono ?_); rintro e w1 ⟨rfl, hC⟩; have c1 := hC.c1; have f1 := hC.f1) | (go_at_call 49; (with_reducible refine (rpeek0 hC).mono ?_); rintro e w1 ⟨rfl, hC, -⟩; have c1 := hC.c1; have f1 := hC.f1; first | rw [hd_cons] | rw [hd_nil] | skip))
    go_ret
    exact ⟨rfl, _, hC.adv _ rfl⟩
  by_cases q116 : c8 x = 116
  · have hR : R = (9, t) := by rw [← hR]; unfold es; simp [q116]
    subst hR
    have b116 : (c8 x == 116) = true := by simpa using q116
    have b110 : (c8 x == 110) = false := by simpa using q110
    have b114 : (c8 x == 114) = false := by simpa using q114
    have t0 : decide (48 ≤ c8 x) = true := decide_eq_true (by omega)
    have t1 : decide (c8 x ≤ 55) = false := decide_eq_false (by omega)
    clear q10 q13 q110 q114 q116
    go_enter Tryz.func117, Tryz.ntmps117
    go_wp2_with (first | (go_at_call 53; (with_reducible refine (reol_no H10.out H13.out hC).mono ?_); rintro e w1 ⟨rfl, hC⟩; have c1 := hC.c1; have f1 := hC.f1) | (go_at_call 49; (with_reducible refine (rpeek0 hC).mono ?_); rintro e w1 ⟨rfl, hC, -⟩; have c1 := hC.c1; have f1 := hC.f1; first | rw [hd_cons] | rw [hd_nil] | skip))
    go_ret
    exact ⟨rfl, _, hC.adv _ rfl⟩
  by_cases q98 : c8 x = 98
  · have hR : R = (8, t) := by rw [← hR]; unfold es; simp [q98]
    subst hR
    have b98 : (c8 x == 98) = true := by simpa using q98
    have b110 : (c8 x == 110) = false := by simpa using q110
    have b114 : (c8 x == 114) = false := by simpa using q114
    have b116 : (c8 x == 116) = false := by simpa using q116
    have t0 : decide (48 ≤ c8 x) = true := decide_eq_true (by omega)
    have t1 : decide (c8 x ≤ 55) = false := decide_eq_false (by omega)
    clear q10 q13 q110 q114 q116 q98
    go_enter Tryz.func117, Tryz.ntmps117
    go_wp2_with (first | (go_at_call 53; (with_reducible refine (reol_no H10.out H13.out hC).mono ?_); rintro e w1 ⟨rfl, hC⟩; have c1 := hC.c1; have f1 := hC.f1) | (go_at_call 49; (with_reducible refine (rpeek0 hC).mono ?_); rintro e w1 ⟨rfl, hC, -⟩; have c1 := hC.c1; have f1 := hC.f1; first | rw [hd_cons] | rw [hd_nil] | skip))
    go_ret
    exact ⟨rfl, _, hC.adv _ rfl⟩
  by_cases q102 : c8 x = 102
  · have hR : R = (12, t) := by rw [← hR]; unfold es; simp [q102]
    subst hR
    have b102 : (c8 x == 102) = true := by simpa using q102
    have b110 : (c8 x == 110) = false := by simpa using q110
    have b114 : (c8 x == 114) = false := by simpa using q114
    have b116 : (c8 x == 116) = false := by simpa using q116
    have b98 : (c8 x == 98) = false := by simpa using q98
    have t0 : decide (48 ≤ c8 x) = true := decide_eq_true (by omega)
    have t1 : decide (c8 x ≤ 55) = false := decide_eq_false (by omega)
    clear q10 q13 q110 q114 q116 q98 q102
    go_enter Tryz.func117, Tryz.ntmps117
    go_wp2_with (first | (go_at_call 53; (with_reducible refine (reol_no H10.out H13.out hC).mono ?_); rintro e w1 ⟨rfl, hC⟩; have c1 := hC.c1; have f1 := hC.f1) | (go_at_call 49; (with_reducible refine (rpeek0 hC).mono ?_); rintro e w1 ⟨rfl, hC, -⟩; have c1 := hC.c1; have f1 := hC.f1; first | rw [hd_cons] | rw [hd_nil] | skip))
    go_ret
    exact ⟨rfl, _, hC.adv _ rfl⟩
  by_cases q8 : 48 ≤ c8 x ∧ c8 x ≤ 55
  · have hR : oc 3 0 (x :: t) = oc 2 (c8 x - 48) t ∧ R = ((oc 2 (c8 x - 48) t).1 % 256, (oc 2 (c8 x - 48) t).2) := by
      refine ⟨?_, ?_⟩
      · rw [oc, if_pos q8]; congr 1; omega
      · rw [← hR]; unfold es
        rw [if_neg q110, if_neg q114, if_neg q116, if_neg q98, if_neg q102, if_neg q10, if_neg q13, if_pos q8]
    obtain ⟨hO, rfl⟩ := hR
    generalize oc 2 (c8 x - 48) t = O at hO ⊢
    have t1 : decide (48 ≤ c8 x) = true := decide_eq_true q8.1
    have t2 : decide (c8 x ≤ 55) = true := decide_eq_true q8.2
    clear q10 q13 q110 q114 q116 q98 q102 q8
    go_enter Tryz.func117, Tryz.ntmps117
    go_wp2_with (first | (go_at_call 53; (with_reducible refine (reol_no H10.out H13.out hC).mono ?_); rintro e w1 ⟨rfl, hC⟩; have c1 := hC.c1; have f1 := hC.f1) | (go_at_call 49; (with_reducible refine (rpeek0 hC).mono ?_); rintro e w1 ⟨rfl, hC, -⟩; have c1 := hC.c1; have f1 := hC.f1; first | rw [hd_cons] | rw [hd_nil] | skip))
    obtain ⟨wp, rfl⟩ : ∃ wp : World, wp = w1 := ⟨_, rfl⟩
    go_loopw [4, 5] (fun v4 v5 wr => ∃ i s k n, ∃ z : Int, k ≤ 3 ∧ z + (k : Nat) ≤ 3 ∧ 3 ≤ z + (k : Nat) ∧ v5 = .int .i64 z ∧ v4 = .int .i64 n ∧ 0 ≤ n ∧ (k = 3 → n ≤ 0) ∧ (k = 2 → n ≤ 7) ∧ (k = 1 → n ≤ 63) ∧ n ≤ 511 ∧ Cx w0 wr cp b i s u out ∧ oc k n s = O) (fun _ v5 _ => (3 - intOf v5).toNat)
    case atStart => exact ⟨i, _, 3, 0, 0, by omega, by omega, by omega, rfl, rfl, by omega, by omega, by omega, by omega, by omega, hC, hO⟩
    case round =>
      clear hC hO
      obtain ⟨i, s, k, n, z, hk, z1, z2, rfl, rfl, n0, n3, n2, n1, n5, hC, hR⟩ := hrel
      obtain ⟨wo, rfl⟩ : ∃ wo : World, wo = wr := ⟨_, rfl⟩
      have c1 := hC.c1
      have f1 := hC.f1
      have hi : i ≤ 1000000 := by have h1 := hC.at_; have h2 := hC.sm; omega
      have g0 := hd_ge s
      have g1 := hd_le s
      have a255 := and255' n0 n5
      by_cases hz : k = 0
      · subst hz
        have t1 : decide (z < 3) = false := decide_eq_false (by omega)
        have e0 : oc 0 n s = (n, s) := rfl
        rw [e0] at hR
        subst hR
        clear n1 n2 n3 hk e0
        go_wp2_with (fail)
        go_ret
        exact ⟨rfl, _, hC⟩
      · have t1 : decide (z < 3) = true := decide_eq_true (by omega)
        by_cases h1 : 48 ≤ hd s ∧ hd s ≤ 55
        · obtain ⟨k', rfl⟩ : ∃ k', k = k' + 1 := ⟨k - 1, by omega⟩
          obtain ⟨y, r, rfl⟩ : ∃ y r, s = y :: r := by
            rcases s with _ | ⟨y, r⟩
            · rw [hd_nil] at h1; omega
            · exact ⟨y, r, rfl⟩
          rw [hd_cons] at h1
          rw [oc, if_pos h1] at hR
          have t2 : decide (48 ≤ c8 y) = true := decide_eq_true h1.1
          have t3 : decide (c8 y ≤ 55) = true := decide_eq_true h1.2
          have n8 : k' = 2 → n ≤ 0 := fun q => n3 (by omega)
          have n9 : k' = 1 → n ≤ 7 := fun q => n2 (by omega)
          have n10 : n ≤ 63 := by
            rcases (by omega : k' = 0 ∨ k' = 1 ∨ k' = 2) with q | q | q
            · exact n1 (by omega)
            · have := n9 q; omega
            · have := n8 q; omega
          have y0 := h1.1
          have y1 := h1.2
          have HS : Hid (8 * n + c8 y - 48 = 8 * n + (c8 y - 48)) := hid (by omega)
          have N8 := hid n8
          have N9 := hid n9
          have HR := hid hR
          clear hR n1 n2 n3 h1 a255 n8 n9
          go_wp2_with (first | (go_at_call 49; (with_reducible refine (rpeek0 hC).mono ?_); rintro e w1 ⟨rfl, hC, -⟩; have c1 := hC.c1; have f1 := hC.f1; first | rw [hd_cons] | rw [hd_nil] | skip))
          have hC := hC.adv _ rfl
          exact ⟨⟨_, _, k', _, _, by omega, by omega, by omega, rfl, rfl, by omega, fun q => by omega, fun q => by have := N8.out q; omega, fun q => by have := N9.out q; omega, by omega, hC, by rw [HS.out]; exact HR.out⟩, by simp [intOf]; omega⟩
        · rw [oc_stop h1] at hR
          subst hR
          clear n1 n2 n3
          by_cases h2 : 48 ≤ hd s
          · have t2 : decide (48 ≤ hd s) = true := decide_eq_true h2
            have t3 : decide (hd s ≤ 55) = false := decide_eq_false (by omega)
            go_wp2_with (first | (go_at_call 49; (with_reducible refine (rpeek0 hC).mono ?_); rintro e w1 ⟨rfl, hC, -⟩; have c1 := hC.c1; have f1 := hC.f1; first | rw [hd_cons] | rw [hd_nil] | skip))
            go_ret
            exact ⟨rfl, _, hC⟩
          · have t2 : decide (48 ≤ hd s) = false := decide_eq_false h2
            go_wp2_with (first | (go_at_call 49; (with_reducible refine (rpeek0 hC).mono ?_); rintro e w1 ⟨rfl, hC, -⟩; have c1 := hC.c1; have f1 := hC.f1; first | rw [hd_cons] | rw [hd_nil] | skip))
            go_ret
            exact ⟨rfl, _, hC⟩
  have hR : R = (c8 x, t) := by
    rw [← hR]; unfold es
    rw [if_neg q110, if_neg q114, if_neg q116, if_neg q98, if_neg q102, if_neg q10, if_neg q13, if_neg q8]
  subst hR
  have b110 : (c8 x == 110) = false := by simpa using q110
  have b114 : (c8 x == 114) = false := by simpa using q114
  have b116 : (c8 x == 116) = false := by simpa using q116
  have b98 : (c8 x == 98) = false := by simpa using q98
  have b102 : (c8 x == 102) = false := by simpa using q102
  have tt : decide (48 ≤ c8 x) = false ∨ (decide (48 ≤ c8 x) = true ∧ decide (c8 x ≤ 55) = false) := by
    by_cases h48 : 48 ≤ c8 x
    · exact .inr ⟨decide_eq_true h48, decide_eq_false (by omega)⟩
    · exact .inl (decide_eq_false h48)
  clear q10 q13 q110 q114 q116 q98 q102 q8
  rcases tt with t1 | ⟨t1, t2⟩
  all_goals
    go_enter Tryz.func117, Tryz.ntmps117
    go_wp2_with (first | (go_at_call 53; (with_reducible refine (reol_no H10.out H13.out hC).mono ?_); rintro e w1 ⟨rfl, hC⟩; have c1 := hC.c1; have f1 := hC.f1) | (go_at_call 49; (with_reducible refine (rpeek0 hC).mono ?_); rintro e w1 ⟨rfl, hC, -⟩; have c1 := hC.c1; have f1 := hC.f1; first | rw [hd_cons] | rw [hd_nil] | skip))
    go_ret
    exact ⟨rfl, _, hC.adv _ rfl⟩
end
end Go.Proofs.YtlmgklebikcbjaaGreat
