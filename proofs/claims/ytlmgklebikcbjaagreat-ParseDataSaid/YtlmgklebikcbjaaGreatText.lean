/-
  text: what stands behind a bracket; ends of line, escapes, octal digits; the program's walks. Condition: the lexer's row is the call's own.
-/
import Derived.Test.YtlmgklebikcbjaaGreatName
namespace Go.Proofs.YtlmgklebikcbjaaGreat
open Go.RowKit
set_option linter.unusedVariables false

theorem c8_inj {x y : UInt8} (h : c8 x = c8 y) : x = y := by unfold c8 at h; exact UInt8.toNat_inj.1 (by omega)
theorem pfx1 (a : UInt8) (s : List UInt8) : pfx [a] s = decide (hd s = c8 a) := by
  cases s with
  | nil => have := c8_ge a; rw [hd_nil, decide_eq_false (by omega)]; rfl
  | cons x t =>
    rw [hd_cons]
    by_cases h : x = a
    · subst h; simp [pfx]
    · rw [decide_eq_false (fun q => h (c8_inj q))]; simp [pfx, h]

section
variable {w0 w : World} {lp cp : Nat} {b : List UInt8} {i : Nat} {s : List UInt8} {m v u : Value} {out : List UInt8}

theorem eol_l (c : Int) (h : Lx w0 w lp cp b i s m v u out) :
    Calls Tryz.prog 113 #[.pointer (some ⟨lp, 0, none⟩), .int .i64 c] w fun e w' => e = .returned (.tuple #[]) ∧ ∃ j, Lx w0 w' lp cp b j (if c = 13 then sk s else s) m v u out := by
  have hL := h
  have p0 := hL.p0
  by_cases hc : c = 13
  · subst hc
    have t1 : ((13 : Int) == 13) = true := rfl
    rw [if_pos rfl]
    by_cases hh : hd s = 10
    · have hp : pfx [10] s = true := by rw [pfx1]; exact decide_eq_true hh
      obtain ⟨x, t, rfl⟩ : ∃ x t, s = x :: t := by
        rcases s with _ | ⟨x, t⟩
        · rw [hd_nil] at hh; omega
        · exact ⟨x, t, rfl⟩
      have E : sk (x :: t) = t := by rw [hd_cons] at hh; rw [sk, if_pos hh]
      rw [E]
      have H := hid hp
      clear hh hp E h
      go_enter Tryz.func113, Tryz.ntmps113
      go_wp2_with (first | (go_at_call 37; refine (match_yes _ (by decide) H.out hL).mono ?_; rintro e w1 ⟨rfl, hL⟩; have p0 := hL.p0))
      ((try simp only [Exit.inBlock, Exit.then]); first | refine bodyPost_ret (results_none rfl _ _ _) rfl ?_ | refine bodyPost_end (results_none rfl _ _ _) rfl ?_)
      exact ⟨rfl, _, hL⟩
    · have hp : pfx [10] s = false := by rw [pfx1]; exact decide_eq_false hh
      have E : sk s = s := by
        rcases s with _ | ⟨x, t⟩
        · rfl
        · rw [hd_cons] at hh; rw [sk, if_neg hh]
      rw [E]
      have H := hid hp
      clear hh hp E h
      go_enter Tryz.func113, Tryz.ntmps113
      go_wp2_with (first | (go_at_call 37; refine (match_no _ (by decide) H.out hL).mono ?_; rintro e w1 ⟨rfl, hL⟩; have p0 := hL.p0))
      ((try simp only [Exit.inBlock, Exit.then]); first | refine bodyPost_ret (results_none rfl _ _ _) rfl ?_ | refine bodyPost_end (results_none rfl _ _ _) rfl ?_)
      exact ⟨rfl, _, hL⟩
  · have t1 : (c == 13) = false := by simpa using hc
    rw [if_neg hc]
    clear hc h
    go_enter Tryz.func113, Tryz.ntmps113
    go_wp2_with (fail)
    ((try simp only [Exit.inBlock, Exit.then]); first | refine bodyPost_ret (results_none rfl _ _ _) rfl ?_ | refine bodyPost_end (results_none rfl _ _ _) rfl ?_)
    exact ⟨rfl, _, hL⟩

theorem or64 : ∀ (a : Fin 64) (b : Fin 8), bits BinOp.or IntKind.i64 ((a.1 : Int) * 8) (b.1 : Int) = 8 * (a.1 : Int) + (b.1 : Int) := by decide +kernel
theorem or64' {a b : Int} (h1 : 0 ≤ a) (h2 : a ≤ 63) (h3 : 0 ≤ b) (h4 : b ≤ 7) : bits BinOp.or IntKind.i64 (a * 8) b = 8 * a + b := by
  obtain ⟨m, rfl⟩ := Int.eq_ofNat_of_zero_le h1
  obtain ⟨n, rfl⟩ := Int.eq_ofNat_of_zero_le h3
  exact or64 ⟨m, by omega⟩ ⟨n, by omega⟩
theorem and255 : ∀ (a : Fin 512), bits BinOp.and IntKind.i64 (a.1 : Int) 255 = (a.1 : Int) % 256 := by decide +kernel
theorem and255' {a : Int} (h1 : 0 ≤ a) (h2 : a ≤ 511) : bits BinOp.and IntKind.i64 a 255 = a % 256 := by
  obtain ⟨m, rfl⟩ := Int.eq_ofNat_of_zero_le h1
  exact and255 ⟨m, by omega⟩

theorem oc_stop {k : Nat} {n : Int} {s : List UInt8} (h : ¬ (48 ≤ hd s ∧ hd s ≤ 55)) : oc k n s = (n, s) := by
  cases k with
  | zero => rfl
  | succ k => cases s with
    | nil => rfl
    | cons x s => rw [hd_cons] at h; rw [oc, if_neg h]

/-- digits behind the first: k more may come -/
theorem oc_bd : ∀ (k : Nat) (n : Int) (s : List UInt8), 0 ≤ n → 0 ≤ (oc k n s).1
  | 0, n, s, h => h
  | k + 1, n, [], h => h
  | k + 1, n, x :: s, h => by
    rw [oc]; split
    · exact oc_bd k _ s (by omega)
    · exact h

set_option maxHeartbeats 1600000 in
theorem octal_l (c : Int) (hc : 48 ≤ c) (hc' : c ≤ 55) (h : Lx w0 w lp cp b i s m v u out) :
    Calls Tryz.prog 119 #[.pointer (some ⟨lp, 0, none⟩), .int .i64 c] w fun e w' => e = .returned (.int .i64 ((oc 2 (c - 48) s).1 % 256)) ∧ ∃ j, Lx w0 w' lp cp b j (oc 2 (c - 48) s).2 m v u out := by
  generalize hR : oc 2 (c - 48) s = R
  go_enter Tryz.func119, Tryz.ntmps119
  go_wp2
  go_loopw [5, 6] (fun v5 v6 wr => ∃ i s k n, ∃ z : Int, k ≤ 2 ∧ z + (k : Nat) ≤ 2 ∧ 2 ≤ z + (k : Nat) ∧ v6 = .int .i64 z ∧ v5 = .int .i64 n ∧ 0 ≤ n ∧ (k = 2 → n ≤ 7) ∧ (k = 1 → n ≤ 63) ∧ n ≤ 511 ∧ Lx w0 wr lp cp b i s m v u out ∧ oc k n s = R) (fun _ v6 _ => (2 - intOf v6).toNat)
  case atStart => exact ⟨i, s, 2, _, 0, by omega, by omega, by omega, rfl, rfl, by omega, by omega, by omega, by omega, h, hR⟩
  case round =>
    clear h hR
    obtain ⟨i, s, k, n, z, hk, z1, z2, rfl, rfl, n0, n2, n1, n5, hL, hR⟩ := hrel
    obtain ⟨wo, rfl⟩ : ∃ wo : World, wo = wr := ⟨_, rfl⟩
    have p0 := hL.p0
    have g0 := hd_ge s
    have g1 := hd_le s
    have a255 := and255' n0 n5
    by_cases hz : k = 0
    · subst hz
      have t1 : decide (z < 2) = false := decide_eq_false (by omega)
      have e0 : oc 0 n s = (n, s) := rfl
      rw [e0] at hR
      subst hR
      clear n1 n2 hk e0
      go_wp2_with (fail)
      go_ret
      exact ⟨rfl, _, hL⟩
    · have t1 : decide (z < 2) = true := decide_eq_true (by omega)
      by_cases h1 : 48 ≤ hd s ∧ hd s ≤ 55
      · obtain ⟨k', rfl⟩ : ∃ k', k = k' + 1 := ⟨k - 1, by omega⟩
        obtain ⟨x, t, rfl⟩ : ∃ x t, s = x :: t := by
          rcases s with _ | ⟨x, t⟩
          · rw [hd_nil] at h1; omega
          · exact ⟨x, t, rfl⟩
        rw [hd_cons] at h1
        rw [oc, if_pos h1] at hR
        have t2 : decide (48 ≤ c8 x) = true := decide_eq_true h1.1
        have t3 : decide (c8 x ≤ 55) = true := decide_eq_true h1.2
        have n7 : n ≤ 63 := by
          rcases (by omega : k' = 0 ∨ k' = 1) with q | q
          · exact n1 (by omega)
          · have := n2 (by omega); omega
        have n8 : k' = 1 → n ≤ 7 := fun q => n2 (by omega)
        have o64 := or64' n0 n7 (b := c8 x - 48) (by omega) (by omega)
        have y0 := h1.1
        have y1 := h1.2
        have N8 := hid n8
        have HR := hid hR
        clear hR n1 n2 h1 a255 n8
        go_wp2_with (first | (go_at_call 39; refine (peek0 hL).mono ?_; rintro e w1 ⟨rfl, hL, -⟩; have p0 := hL.p0; first | rw [hd_cons] | rw [hd_nil] | skip) | (go_at_call 55; refine (next_cons hL).mono ?_; rintro e w1 ⟨rfl, hL⟩; have p0 := hL.p0))
        exact ⟨⟨_, _, k', _, _, by omega, by omega, by omega, rfl, rfl, by omega, by omega, fun q => by have := N8.out q; omega, by omega, hL, HR.out⟩, by simp [intOf]; omega⟩
      · rw [oc_stop h1] at hR
        subst hR
        clear n1 n2
        by_cases h2 : 48 ≤ hd s
        · have t2 : decide (48 ≤ hd s) = true := decide_eq_true h2
          have t3 : decide (hd s ≤ 55) = false := decide_eq_false (by omega)
          go_wp2_with (first | (go_at_call 39; refine (peek0 hL).mono ?_; rintro e w1 ⟨rfl, hL, -⟩; have p0 := hL.p0; first | rw [hd_cons] | rw [hd_nil] | skip))
          go_ret
          exact ⟨rfl, _, hL⟩
        · have t2 : decide (48 ≤ hd s) = false := decide_eq_false h2
          go_wp2_with (first | (go_at_call 39; refine (peek0 hL).mono ?_; rintro e w1 ⟨rfl, hL, -⟩; have p0 := hL.p0; first | rw [hd_cons] | rw [hd_nil] | skip))
          go_ret
          exact ⟨rfl, _, hL⟩

set_option maxHeartbeats 1600000 in
theorem escape_l (c : Int) (hc : 0 ≤ c) (h : Lx w0 w lp cp b i s m v u out) :
    Calls Tryz.prog 112 #[.pointer (some ⟨lp, 0, none⟩), .int .i64 c] w fun e w' => e = .returned (.int .i64 (es c s).1) ∧ ∃ j, Lx w0 w' lp cp b j (es c s).2 m v u out := by
  generalize hR : es c s = R
  have hL := h
  unfold es at hR
  by_cases q0 : c = 110
  · rw [if_pos q0] at hR; subst hR; subst q0
    go_enter Tryz.func112, Tryz.ntmps112
    go_wp2
    go_ret
    exact ⟨rfl, _, hL⟩
  rw [if_neg q0] at hR
  by_cases q1 : c = 114
  · rw [if_pos q1] at hR; subst hR; subst q1
    go_enter Tryz.func112, Tryz.ntmps112
    go_wp2
    go_ret
    exact ⟨rfl, _, hL⟩
  rw [if_neg q1] at hR
  by_cases q2 : c = 116
  · rw [if_pos q2] at hR; subst hR; subst q2
    go_enter Tryz.func112, Tryz.ntmps112
    go_wp2
    go_ret
    exact ⟨rfl, _, hL⟩
  rw [if_neg q2] at hR
  by_cases q3 : c = 98
  · rw [if_pos q3] at hR; subst hR; subst q3
    go_enter Tryz.func112, Tryz.ntmps112
    go_wp2
    go_ret
    exact ⟨rfl, _, hL⟩
  rw [if_neg q3] at hR
  by_cases q4 : c = 102
  · rw [if_pos q4] at hR; subst hR; subst q4
    go_enter Tryz.func112, Tryz.ntmps112
    go_wp2
    go_ret
    exact ⟨rfl, _, hL⟩
  rw [if_neg q4] at hR
  by_cases q5 : c = 10
  · rw [if_pos q5] at hR; subst hR; subst q5
    go_enter Tryz.func112, Tryz.ntmps112
    go_wp2_with (first | (go_at_call 113; refine (eol_l _ hL).mono ?_; rintro e w1 ⟨rfl, i, hL⟩; have p0 := hL.p0))
    go_ret
    exact ⟨rfl, _, hL⟩
  rw [if_neg q5] at hR
  by_cases q6 : c = 13
  · rw [if_pos q6] at hR; subst hR; subst q6
    go_enter Tryz.func112, Tryz.ntmps112
    go_wp2_with (first | (go_at_call 113; refine (eol_l _ hL).mono ?_; rintro e w1 ⟨rfl, i, hL⟩; have p0 := hL.p0))
    go_ret
    exact ⟨rfl, _, hL⟩
  rw [if_neg q6] at hR
  have p0 : (c == 110) = false := by simpa using q0
  have p1 : (c == 114) = false := by simpa using q1
  have p2 : (c == 116) = false := by simpa using q2
  have p3 : (c == 98) = false := by simpa using q3
  have p4 : (c == 102) = false := by simpa using q4
  have p5 : (c == 10) = false := by simpa using q5
  have p6 : (c == 13) = false := by simpa using q6
  clear q0 q1 q2 q3 q4 q5 q6
  by_cases q7 : 48 ≤ c ∧ c ≤ 55
  · rw [if_pos q7] at hR; subst hR
    have t1 : decide (48 ≤ c) = true := decide_eq_true q7.1
    have t2 : decide (c ≤ 55) = true := decide_eq_true q7.2
    have HQ := hid q7
    clear q7
    go_enter Tryz.func112, Tryz.ntmps112
    go_wp2_with (first | (go_at_call 119; refine (octal_l _ HQ.out.1 HQ.out.2 hL).mono ?_; rintro e w1 ⟨rfl, i, hL⟩))
    go_ret
    exact ⟨rfl, _, hL⟩
  rw [if_neg q7] at hR
  subst hR
  by_cases q8 : 48 ≤ c
  · have t1 : decide (48 ≤ c) = true := decide_eq_true q8
    have t2 : decide (c ≤ 55) = false := decide_eq_false (by omega)
    clear q7
    go_enter Tryz.func112, Tryz.ntmps112
    go_wp2_with (fail)
    go_ret
    exact ⟨rfl, _, hL⟩
  · have t1 : decide (48 ≤ c) = false := decide_eq_false q8
    clear q7
    go_enter Tryz.func112, Tryz.ntmps112
    go_wp2_with (fail)
    go_ret
    exact ⟨rfl, _, hL⟩
end
end Go.Proofs.YtlmgklebikcbjaaGreat
