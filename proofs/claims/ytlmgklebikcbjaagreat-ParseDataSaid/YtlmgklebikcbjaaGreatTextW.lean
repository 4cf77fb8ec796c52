/-
  text: what stands behind a bracket, as the model reads it; the program's walk. Condition: the lexer's row is the call's own.
-/
import Derived.Test.YtlmgklebikcbjaaGreatText
namespace Go.Proofs.YtlmgklebikcbjaaGreat
open Go.RowKit
set_option linter.unusedVariables false

theorem byteOf10 : byteOf 10 = 10 := by decide

set_option maxHeartbeats 3200000 in
theorem text_l {w0 w : World} {lp cp : Nat} {b : List UInt8} {i : Nat} {s : List UInt8} {v : Value} {out : List UInt8} (h : Lx w0 w lp cp b i s (.int .i64 32767) v v out) :
    Calls Tryz.prog 94 #[.pointer (some ⟨lp, 0, none⟩)] w fun e w' => ResP (TX s 1 out) 32767 w0 lp cp b e w' := by
  generalize hR : TX s 1 out = R
  have hs0 := h.at_
  have hs1 := h.sm
  go_enter Tryz.func94, Tryz.ntmps94
  go_wp2
  go_loopw [3] (fun v3 wr => ∃ i s v out o, Lx w0 wr lp cp b i s (.int .i64 32767) v v out ∧ TX s o out = R ∧ v3 = .int .i64 (o : Nat) ∧ 1 ≤ o ∧ o + s.length ≤ 1000001) (fun v3 wr => remOf wr cp)
  case atStart => exact ⟨i, s, v, out, 1, h, hR, rfl, Nat.le_refl _, by omega⟩
  case round =>
    clear h hR hs0 hs1
    obtain ⟨i, s, v, out, o, hL, hR, rfl, ho, hos⟩ := hrel
    obtain ⟨wo, rfl⟩ : ∃ wo : World, wo = wr := ⟨_, rfl⟩
    have p0 := hL.p0
    have hm := hid hL.rem
    rcases s with _ | ⟨x, s⟩
    · rw [TX_nil] at hR
      subst hR
      go_wp2_with (first | (go_at_call 55; refine (next_nil hL).mono ?_; rintro e w1 ⟨rfl, hL⟩; have p0 := hL.p0))
      go_ret
      exact ⟨rfl, _, _, _, _, hL⟩
    rw [TX_cons] at hR
    rw [List.length_cons] at hos
    have x0 := c8_ge x
    have x1 := c8_le x
    by_cases q92 : c8 x = 92
    · rw [if_pos q92] at hR
      have b92 : (c8 x == 92) = true := by simpa using q92
      clear q92
      rcases s with _ | ⟨y, s⟩
      · rw [if_pos (by decide)] at hR
        subst hR
        go_wp2_with (first | (go_at_call 55; refine (next_cons hL).mono ?_; rintro e w1 ⟨rfl, hL⟩; have p0 := hL.p0) | (go_at_call 55; refine (next_nil hL).mono ?_; rintro e w1 ⟨rfl, hL⟩; have p0 := hL.p0))
        go_ret
        exact ⟨rfl, _, _, _, _, hL⟩
      have y0 := c8_ge y
      have y1 := c8_le y
      rw [hd_cons, List.tail_cons, if_neg (by omega)] at hR
      have he := es_len (c8 y) s
      by_cases hn : (es (c8 y) s).1 < 0
      · rw [if_pos hn] at hR
        have HR := hid hR
        have t1 : decide ((es (c8 y) s).1 < 0) = true := decide_eq_true hn
        clear hR hn
        go_wp2_with (first | (go_at_call 55; refine (next_cons hL).mono ?_; rintro e w1 ⟨rfl, hL⟩; have p0 := hL.p0) | (go_at_call 112; refine (escape_l _ (by omega) hL).mono ?_; rintro e w1 ⟨rfl, i, hL⟩; have p0 := hL.p0))
        exact ⟨⟨_, _, _, _, o, hL, HR.out, rfl, ho, by simp at hos; omega⟩, by rw [hL.rem, hm.out]; simp; omega⟩
      rw [if_neg hn] at hR
      have t1 : decide ((es (c8 y) s).1 < 0) = false := decide_eq_false hn
      clear hn
      by_cases hf : 32767 ≤ out.length
      · rw [if_pos hf] at hR
        subst hR
        go_wp2_with (first | (go_at_call 55; refine (next_cons hL).mono ?_; rintro e w1 ⟨rfl, hL⟩; have p0 := hL.p0) | (go_at_call 112; refine (escape_l _ (by omega) hL).mono ?_; rintro e w1 ⟨rfl, i, hL⟩; have p0 := hL.p0) | (go_at_call 111; refine (put_no 32767 _ (by decide) (by exact hf) hL).mono ?_; rintro e w1 ⟨rfl, hL⟩; have p0 := hL.p0))
        go_ret
        exact ⟨rfl, _, _, _, _, hL⟩
      · rw [if_neg hf] at hR
        have HR := hid hR
        clear hR
        go_wp2_with (first | (go_at_call 55; refine (next_cons hL).mono ?_; rintro e w1 ⟨rfl, hL⟩; have p0 := hL.p0) | (go_at_call 112; refine (escape_l _ (by omega) hL).mono ?_; rintro e w1 ⟨rfl, i, hL⟩; have p0 := hL.p0) | (go_at_call 111; refine (put_yes 32767 _ (by decide) (by omega) hL).mono ?_; rintro e w1 ⟨rfl, vv, hL⟩; have p0 := hL.p0))
        exact ⟨⟨_, _, _, _, o, hL, HR.out, rfl, ho, by simp at hos; omega⟩, by rw [hL.rem, hm.out]; simp; omega⟩
    rw [if_neg q92] at hR
    have b92 : (c8 x == 92) = false := by simpa using q92
    clear q92
    by_cases q41 : c8 x = 41
    · have b41 : (c8 x == 41) = true := by simpa using q41
      have b40 : (c8 x == 40) = false := by simp [q41]
      by_cases q1 : o = 1
      · rw [if_pos ⟨q41, q1⟩] at hR
        subst hR
        subst q1
        clear q41
        go_wp2_with (first | (go_at_call 55; refine (next_cons hL).mono ?_; rintro e w1 ⟨rfl, hL⟩; have p0 := hL.p0))
        go_ret
        exact ⟨rfl, _, _, hL⟩
      rw [if_neg (fun q => q1 q.2)] at hR
      have bo : (((o : Nat) : Int) - 1 == 0) = false := by simp; omega
      have N : ((o - 1 : Nat) : Int) = (o : Int) - 1 := by omega
      have N := hid N
      by_cases hf : 32767 ≤ out.length
      · rw [if_pos hf] at hR
        subst hR
        clear q41
        go_wp2_with (first | (go_at_call 55; refine (next_cons hL).mono ?_; rintro e w1 ⟨rfl, hL⟩; have p0 := hL.p0) | (go_at_call 111; refine (put_no 32767 _ (by decide) (by exact hf) hL).mono ?_; rintro e w1 ⟨rfl, hL⟩; have p0 := hL.p0))
        go_ret
        exact ⟨rfl, _, _, _, _, hL⟩
      · rw [if_neg hf, if_neg (by omega), if_neg (by omega), if_neg (by omega), if_pos q41] at hR
        have HR := hid hR
        clear hR q41
        go_wp2_with (first | (go_at_call 55; refine (next_cons hL).mono ?_; rintro e w1 ⟨rfl, hL⟩; have p0 := hL.p0) | (go_at_call 111; refine (put_yes 32767 _ (by decide) (by omega) hL).mono ?_; rintro e w1 ⟨rfl, vv, hL⟩; have p0 := hL.p0))
        rw [byteOf_c8] at hL
        exact ⟨⟨_, _, _, _, o - 1, hL, HR.out, by rw [N.out], by omega, by omega⟩, by rw [hL.rem, hm.out]; simp⟩
    rw [if_neg (fun q => q41 q.1)] at hR
    have b41 : (c8 x == 41) = false := by simpa using q41
    by_cases hf : 32767 ≤ out.length
    · rw [if_pos hf] at hR
      subst hR
      by_cases q40 : c8 x = 40
      · have b40 : (c8 x == 40) = true := by simpa using q40
        clear q40 q41
        go_wp2_with (first | (go_at_call 55; refine (next_cons hL).mono ?_; rintro e w1 ⟨rfl, hL⟩; have p0 := hL.p0) | (go_at_call 111; refine (put_no 32767 _ (by decide) (by exact hf) hL).mono ?_; rintro e w1 ⟨rfl, hL⟩; have p0 := hL.p0))
        go_ret
        exact ⟨rfl, _, _, _, _, hL⟩
      have b40 : (c8 x == 40) = false := by simpa using q40
      by_cases q10 : c8 x = 10
      · have b10 : (c8 x == 10) = true := by simpa using q10
        clear q40 q41 q10
        go_wp2_with (first | (go_at_call 55; refine (next_cons hL).mono ?_; rintro e w1 ⟨rfl, hL⟩; have p0 := hL.p0) | (go_at_call 113; refine (eol_l _ hL).mono ?_; rintro e w1 ⟨rfl, i, hL⟩; have p0 := hL.p0) | (go_at_call 111; refine (put_no 32767 _ (by decide) (by exact hf) hL).mono ?_; rintro e w1 ⟨rfl, hL⟩; have p0 := hL.p0))
        go_ret
        exact ⟨rfl, _, _, _, _, hL⟩
      have b10 : (c8 x == 10) = false := by simpa using q10
      by_cases q13 : c8 x = 13
      · have b13 : (c8 x == 13) = true := by simpa using q13
        clear q40 q41 q10 q13
        go_wp2_with (first | (go_at_call 55; refine (next_cons hL).mono ?_; rintro e w1 ⟨rfl, hL⟩; have p0 := hL.p0) | (go_at_call 113; refine (eol_l _ hL).mono ?_; rintro e w1 ⟨rfl, i, hL⟩; have p0 := hL.p0) | (go_at_call 111; refine (put_no 32767 _ (by decide) (by exact hf) hL).mono ?_; rintro e w1 ⟨rfl, hL⟩; have p0 := hL.p0))
        go_ret
        exact ⟨rfl, _, _, _, _, hL⟩
      have b13 : (c8 x == 13) = false := by simpa using q13
      clear q40 q41 q10 q13
      go_wp2_with (first | (go_at_call 55; refine (next_cons hL).mono ?_; rintro e w1 ⟨rfl, hL⟩; have p0 := hL.p0) | (go_at_call 113; refine (eol_l _ hL).mono ?_; rintro e w1 ⟨rfl, i, hL⟩; have p0 := hL.p0) | (go_at_call 111; refine (put_no 32767 _ (by decide) (by exact hf) hL).mono ?_; rintro e w1 ⟨rfl, hL⟩; have p0 := hL.p0))
      go_ret
      exact ⟨rfl, _, _, _, _, hL⟩
    rw [if_neg hf] at hR
    have hk := sk_len s
    by_cases q10 : c8 x = 10
    · rw [if_pos q10] at hR
      have b10 : (c8 x == 10) = true := by simpa using q10
      have b40 : (c8 x == 40) = false := by simp [q10]
      have Q := hid q10
      have HR := hid hR
      clear q41 q10 hR
      go_wp2_with (first | (go_at_call 55; refine (next_cons hL).mono ?_; rintro e w1 ⟨rfl, hL⟩; have p0 := hL.p0) | (go_at_call 113; refine (eol_l _ hL).mono ?_; rintro e w1 ⟨rfl, i, hL⟩; have p0 := hL.p0) | (go_at_call 111; refine (put_yes 32767 _ (by decide) (by omega) hL).mono ?_; rintro e w1 ⟨rfl, vv, hL⟩; have p0 := hL.p0))
      rw [byteOf10, if_neg (by rw [Q.out]; decide)] at hL
      exact ⟨⟨_, _, _, _, o, hL, HR.out, rfl, ho, by omega⟩, by rw [hL.rem, hm.out]; simp⟩
    rw [if_neg q10] at hR
    have b10 : (c8 x == 10) = false := by simpa using q10
    by_cases q13 : c8 x = 13
    · rw [if_pos q13] at hR
      have b13 : (c8 x == 13) = true := by simpa using q13
      have b40 : (c8 x == 40) = false := by simp [q13]
      have Q := hid q13
      have HR := hid hR
      clear q41 q10 q13 hR
      go_wp2_with (first | (go_at_call 55; refine (next_cons hL).mono ?_; rintro e w1 ⟨rfl, hL⟩; have p0 := hL.p0) | (go_at_call 113; refine (eol_l _ hL).mono ?_; rintro e w1 ⟨rfl, i, hL⟩; have p0 := hL.p0) | (go_at_call 111; refine (put_yes 32767 _ (by decide) (by omega) hL).mono ?_; rintro e w1 ⟨rfl, vv, hL⟩; have p0 := hL.p0))
      rw [byteOf10, if_pos Q.out] at hL
      exact ⟨⟨_, _, _, _, o, hL, HR.out, rfl, ho, by omega⟩, by rw [hL.rem, hm.out]; simp; omega⟩
    rw [if_neg q13] at hR
    have b13 : (c8 x == 13) = false := by simpa using q13
    by_cases q40 : c8 x = 40
    · rw [if_pos q40] at hR
      have b40 : (c8 x == 40) = true := by simpa using q40
      have HR := hid hR
      clear q41 q10 q13 q40 hR
      go_wp2_with (first | (go_at_call 55; refine (next_cons hL).mono ?_; rintro e w1 ⟨rfl, hL⟩; have p0 := hL.p0) | (go_at_call 113; refine (eol_l _ hL).mono ?_; rintro e w1 ⟨rfl, i, hL⟩; have p0 := hL.p0) | (go_at_call 111; refine (put_yes 32767 _ (by decide) (by omega) hL).mono ?_; rintro e w1 ⟨rfl, vv, hL⟩; have p0 := hL.p0))
      rw [byteOf_c8] at hL
      exact ⟨⟨_, _, _, _, o + 1, hL, HR.out, rfl, by omega, by omega⟩, by rw [hL.rem, hm.out]; simp⟩
    · rw [if_neg q40, if_neg q41] at hR
      have b40 : (c8 x == 40) = false := by simpa using q40
      have HR := hid hR
      clear q41 q10 q13 q40 hR
      go_wp2_with (first | (go_at_call 55; refine (next_cons hL).mono ?_; rintro e w1 ⟨rfl, hL⟩; have p0 := hL.p0) | (go_at_call 113; refine (eol_l _ hL).mono ?_; rintro e w1 ⟨rfl, i, hL⟩; have p0 := hL.p0) | (go_at_call 111; refine (put_yes 32767 _ (by decide) (by omega) hL).mono ?_; rintro e w1 ⟨rfl, vv, hL⟩; have p0 := hL.p0))
      rw [byteOf_c8] at hL
      exact ⟨⟨_, _, _, _, o, hL, HR.out, rfl, by omega, by omega⟩, by rw [hL.rem, hm.out]; simp⟩
end Go.Proofs.YtlmgklebikcbjaaGreat
