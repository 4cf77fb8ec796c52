/-
  hex: digits by pairs; run: the regular signs from here on; the program's walks. Condition: the lexer's row is the call's own.
-/
import Derived.Test.YtlmgklebikcbjaaGreatText
namespace Go.Proofs.YtlmgklebikcbjaaGreat
open Go.RowKit
set_option linter.unusedVariables false

theorem dig_neg1 : dig (-1) = -1 := by decide

set_option maxHeartbeats 3200000 in
theorem hex_l {w0 w : World} {lp cp : Nat} {b : List UInt8} {i : Nat} {s : List UInt8} {v : Value} {out : List UInt8} (h : Lx w0 w lp cp b i s (.int .i64 32767) v v out) :
    Calls Tryz.prog 95 #[.pointer (some ⟨lp, 0, none⟩)] w fun e w' => ResP (hx s (-1) out) 32767 w0 lp cp b e w' := by
  generalize hR : hx s (-1) out = R
  go_enter Tryz.func95, Tryz.ntmps95
  go_wp2
  go_loopw [3] (fun v3 wr => ∃ i s v out g, Lx w0 wr lp cp b i s (.int .i64 32767) v v out ∧ hx s g out = R ∧ v3 = .int .i64 g ∧ -1 ≤ g ∧ g ≤ 15) (fun v3 wr => remOf wr cp)
  case atStart => exact ⟨i, s, v, out, -1, h, hR, rfl, by omega, by omega⟩
  case round =>
    clear h hR
    obtain ⟨i, s, v, out, g, hL, hR, rfl, hg0, hg1⟩ := hrel
    obtain ⟨wo, rfl⟩ : ∃ wo : World, wo = wr := ⟨_, rfl⟩
    have p0 := hL.p0
    have hm := hid hL.rem
    rcases s with _ | ⟨x, s⟩
    · rw [show hx [] g out = .bad 2 from rfl] at hR
      subst hR
      go_wp2_with (first | (go_at_call 55; refine (next_nil hL).mono ?_; rintro e w1 ⟨rfl, hL⟩; have p0 := hL.p0) | (go_at_call 110; refine (digit_any _ _).mono ?_; rintro e w1 ⟨rfl, rfl⟩))
      go_ret
      exact ⟨rfl, _, _, _, _, hL⟩
    rw [hx] at hR
    have x0 := c8_ge x
    have x1 := c8_le x
    have d0 := dig_ge (c8 x)
    have d1 := dig_le (c8 x)
    by_cases hw : wh (c8 x) = true
    · rw [if_pos hw] at hR
      have HR := hid hR
      have Hw := hid hw
      clear hR hw
      go_wp2_with (first | (go_at_call 55; refine (next_cons hL).mono ?_; rintro e w1 ⟨rfl, hL⟩; have p0 := hL.p0) | (go_at_call 110; refine (digit_any _ _).mono ?_; rintro e w1 ⟨rfl, rfl⟩) | (go_at_call 54; refine (white_any _ _).mono ?_; rintro e w1 ⟨rfl, rfl⟩; rw [Hw.out]))
      exact ⟨⟨_, _, _, _, g, hL, HR.out, rfl, hg0, hg1⟩, by rw [hL.rem, hm.out]; simp⟩
    rw [if_neg hw] at hR
    have Hw : Hid (wh (c8 x) = false) := hid (by simpa using hw)
    clear hw
    by_cases hc : c8 x = 62
    · rw [if_pos hc] at hR
      have b1 : (c8 x == 62) = true := by simpa using hc
      clear hc
      by_cases hg : g < 0
      · rw [if_pos hg] at hR
        subst hR
        have t1 : decide (g < 0) = true := decide_eq_true hg
        go_wp2_with (first | (go_at_call 55; refine (next_cons hL).mono ?_; rintro e w1 ⟨rfl, hL⟩; have p0 := hL.p0) | (go_at_call 110; refine (digit_any _ _).mono ?_; rintro e w1 ⟨rfl, rfl⟩) | (go_at_call 54; refine (white_any _ _).mono ?_; rintro e w1 ⟨rfl, rfl⟩; rw [Hw.out]))
        go_ret
        exact ⟨rfl, _, _, hL⟩
      rw [if_neg hg] at hR
      have t1 : decide (g < 0) = false := decide_eq_false hg
      by_cases hf : 32767 ≤ out.length
      · rw [if_pos hf] at hR
        subst hR
        go_wp2_with (first | (go_at_call 55; refine (next_cons hL).mono ?_; rintro e w1 ⟨rfl, hL⟩; have p0 := hL.p0) | (go_at_call 110; refine (digit_any _ _).mono ?_; rintro e w1 ⟨rfl, rfl⟩) | (go_at_call 54; refine (white_any _ _).mono ?_; rintro e w1 ⟨rfl, rfl⟩; rw [Hw.out]) | (go_at_call 111; refine (put_no 32767 _ (by decide) (by exact hf) hL).mono ?_; rintro e w1 ⟨rfl, hL⟩; have p0 := hL.p0))
        go_ret
        exact ⟨rfl, _, _, _, _, hL⟩
      · rw [if_neg hf] at hR
        subst hR
        go_wp2_with (first | (go_at_call 55; refine (next_cons hL).mono ?_; rintro e w1 ⟨rfl, hL⟩; have p0 := hL.p0) | (go_at_call 110; refine (digit_any _ _).mono ?_; rintro e w1 ⟨rfl, rfl⟩) | (go_at_call 54; refine (white_any _ _).mono ?_; rintro e w1 ⟨rfl, rfl⟩; rw [Hw.out]) | (go_at_call 111; refine (put_yes 32767 _ (by decide) (by omega) hL).mono ?_; rintro e w1 ⟨rfl, vv, hL⟩; have p0 := hL.p0))
        go_ret
        rw [Int.mul_comm g 16] at hL
        exact ⟨rfl, _, _, hL⟩
    rw [if_neg hc] at hR
    have b1 : (c8 x == 62) = false := by simpa using hc
    clear hc
    by_cases hd0 : dig (c8 x) < 0
    · rw [if_pos hd0] at hR
      subst hR
      have t1 : decide (dig (c8 x) < 0) = true := decide_eq_true hd0
      go_wp2_with (first | (go_at_call 55; refine (next_cons hL).mono ?_; rintro e w1 ⟨rfl, hL⟩; have p0 := hL.p0) | (go_at_call 110; refine (digit_any _ _).mono ?_; rintro e w1 ⟨rfl, rfl⟩) | (go_at_call 54; refine (white_any _ _).mono ?_; rintro e w1 ⟨rfl, rfl⟩; rw [Hw.out]))
      go_ret
      exact ⟨rfl, _, _, _, _, hL⟩
    rw [if_neg hd0] at hR
    have t1 : decide (dig (c8 x) < 0) = false := decide_eq_false hd0
    by_cases hg : g < 0
    · rw [if_pos hg] at hR
      have t2 : decide (g < 0) = true := decide_eq_true hg
      have HR := hid hR
      clear hR
      go_wp2_with (first | (go_at_call 55; refine (next_cons hL).mono ?_; rintro e w1 ⟨rfl, hL⟩; have p0 := hL.p0) | (go_at_call 110; refine (digit_any _ _).mono ?_; rintro e w1 ⟨rfl, rfl⟩) | (go_at_call 54; refine (white_any _ _).mono ?_; rintro e w1 ⟨rfl, rfl⟩; rw [Hw.out]))
      exact ⟨⟨_, _, _, _, _, hL, HR.out, rfl, by omega, by omega⟩, by rw [hL.rem, hm.out]; simp⟩
    rw [if_neg hg] at hR
    have t2 : decide (g < 0) = false := decide_eq_false hg
    have t3 := bits_or (a := g) (b := dig (c8 x)) (by omega) (by omega) (by omega) (by omega)
    by_cases hf : 32767 ≤ out.length
    · rw [if_pos hf] at hR
      subst hR
      go_wp2_with (first | (go_at_call 55; refine (next_cons hL).mono ?_; rintro e w1 ⟨rfl, hL⟩; have p0 := hL.p0) | (go_at_call 110; refine (digit_any _ _).mono ?_; rintro e w1 ⟨rfl, rfl⟩) | (go_at_call 54; refine (white_any _ _).mono ?_; rintro e w1 ⟨rfl, rfl⟩; rw [Hw.out]) | (go_at_call 111; refine (put_no 32767 _ (by decide) (by exact hf) hL).mono ?_; rintro e w1 ⟨rfl, hL⟩; have p0 := hL.p0))
      go_ret
      exact ⟨rfl, _, _, _, _, hL⟩
    · rw [if_neg hf] at hR
      have HR := hid hR
      clear hR
      go_wp2_with (first | (go_at_call 55; refine (next_cons hL).mono ?_; rintro e w1 ⟨rfl, hL⟩; have p0 := hL.p0) | (go_at_call 110; refine (digit_any _ _).mono ?_; rintro e w1 ⟨rfl, rfl⟩) | (go_at_call 54; refine (white_any _ _).mono ?_; rintro e w1 ⟨rfl, rfl⟩; rw [Hw.out]) | (go_at_call 111; refine (put_yes 32767 _ (by decide) (by omega) hL).mono ?_; rintro e w1 ⟨rfl, vv, hL⟩; have p0 := hL.p0))
      exact ⟨⟨_, _, _, _, _, hL, HR.out, rfl, by omega, by omega⟩, by rw [hL.rem, hm.out]; simp⟩

theorem rn_step {s : List UInt8} (h : rg (hd s) = true) : rn s = 1 + rn s.tail := by
  cases s with
  | nil => exact absurd h (by decide)
  | cons x t => rw [hd_cons] at h; rw [rn, if_pos h]; rfl
theorem rn_stop {s : List UInt8} (h : rg (hd s) = false) : rn s = 0 := by
  cases s with
  | nil => rfl
  | cons x t => rw [hd_cons] at h; rw [rn, if_neg (by simp [h])]

set_option maxHeartbeats 1600000 in
theorem run_l {w0 w : World} {lp cp : Nat} {b : List UInt8} {i : Nat} {s : List UInt8} {m v u : Value} {out : List UInt8} (h : Lx w0 w lp cp b i s m v u out) :
    Calls Tryz.prog 97 #[.pointer (some ⟨lp, 0, none⟩)] w fun e w' => ∃ u', e = .returned u' ∧ Lx w0 w' lp cp b (i + rn s) (s.drop (rn s)) m v u' (s.take (rn s)) := by
  have hs0 := h.at_
  have hs1 := h.sm
  have hs2 : s.length ≤ 1000000 := by omega
  have hle := rn_le s
  clear hs0 hs1
  go_enter Tryz.func97, Tryz.ntmps97
  go_wp2
  go_loopw [3] (fun v3 wr => ∃ n : Nat, Lx w0 wr lp cp b i s m v u out ∧ v3 = .int .i64 n ∧ rn s = n + rn (s.drop n)) (fun v3 wr => s.length - (intOf v3).toNat)
  case atStart => exact ⟨0, h, rfl, by simp⟩
  case round =>
    clear h
    obtain ⟨n, hL, rfl, hn⟩ := hrel
    obtain ⟨wo, rfl⟩ : ∃ wo : World, wo = wr := ⟨_, rfl⟩
    have p0 := hL.p0
    have hn1 : n ≤ s.length := by omega
    have HN := hid hn
    clear hn
    by_cases hr : rg (hd (s.drop n)) = true
    · have e1 := hid (rn_step hr)
      have Hr := hid hr
      have hl2 := rn_le (s.drop n)
      rw [List.length_drop] at hl2
      clear hr
      have hlt : n < s.length := by
        have h1 := HN.out; have h2 := e1.out; omega
      go_wp2_with (first | (go_at_call 39; refine (peekn n (by omega) hL).mono ?_; rintro e w1 ⟨rfl, hL, -⟩; have p0 := hL.p0) | (go_at_call 38; refine (regular_l _ hL).mono ?_; rintro e w1 ⟨rfl, hL⟩; have p0 := hL.p0; rw [Hr.out]))
      exact ⟨⟨n + 1, hL, by go_num, by have h1 := HN.out; have h2 := e1.out; rw [List.tail_drop] at h2; omega⟩, by simp [intOf]; omega⟩
    · have Hr : Hid (rg (hd (s.drop n)) = false) := hid (by simpa using hr)
      clear hr
      have e1 : rn s = n := by have h1 := HN.out; rw [rn_stop Hr.out] at h1; omega
      have E := hid e1
      clear e1
      go_wp2_with (first | (go_at_call 39; refine (peekn n (by omega) hL).mono ?_; rintro e w1 ⟨rfl, hL, -⟩; have p0 := hL.p0) | (go_at_call 38; refine (regular_l _ hL).mono ?_; rintro e w1 ⟨rfl, hL⟩; have p0 := hL.p0; rw [Hr.out]) | (go_at_call 42; refine (take_l n hn1 hL).mono ?_; rintro e w1 ⟨u', rfl, hL⟩))
      go_ret
      rw [E.out]
      exact ⟨_, rfl, hL⟩
end Go.Proofs.YtlmgklebikcbjaaGreat
