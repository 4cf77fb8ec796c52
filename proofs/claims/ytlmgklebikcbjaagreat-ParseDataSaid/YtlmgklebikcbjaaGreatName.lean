/-
  name: what stands behind a stroke; the program's walk. Condition: the lexer's row is the call's own.
-/
import Derived.Test.YtlmgklebikcbjaaGreatTok
namespace Go.Proofs.YtlmgklebikcbjaaGreat
open Go.RowKit
set_option linter.unusedVariables false

theorem rg_neg : rg (-1) = false := by decide
theorem dig_ge (c : Int) : -1 ≤ dig c := by unfold dig; split; omega; split; omega; split <;> omega
theorem dig_le (c : Int) : dig c ≤ 15 := by unfold dig; split; omega; split; omega; split <;> omega
theorem dig_neg : dig (-1) = -1 := by decide

theorem bits_or16 : ∀ a b : Fin 16, bits BinOp.or IntKind.i64 ((a.1 : Int) * 16) (b.1 : Int) = 16 * (a.1 : Int) + (b.1 : Int) := by decide +kernel
theorem bits_or {a b : Int} (h1 : 0 ≤ a) (h2 : a ≤ 15) (h3 : 0 ≤ b) (h4 : b ≤ 15) : bits BinOp.or IntKind.i64 (a * 16) b = 16 * a + b := by
  obtain ⟨m, rfl⟩ := Int.eq_ofNat_of_zero_le h1
  obtain ⟨n, rfl⟩ := Int.eq_ofNat_of_zero_le h3
  exact bits_or16 ⟨m, by omega⟩ ⟨n, by omega⟩

/-- what a reader of bytes leaves -/
def ResP (R : Res) (M : Nat) (w0 : World) (lp cp : Nat) (b : List UInt8) (e : Ending) (w' : World) : Prop :=
  match R with
  | .bad x => e = .returned (.int .i64 x) ∧ ∃ i s v out, Lx w0 w' lp cp b i s (.int .i64 M) v v out
  | .ok out rest => e = .returned (.int .i64 0) ∧ ∃ i v, Lx w0 w' lp cp b i rest (.int .i64 M) v v out

set_option maxHeartbeats 3200000 in
theorem name_l {w0 w : World} {lp cp : Nat} {b : List UInt8} {i : Nat} {s : List UInt8} {v : Value} {out : List UInt8} (h : Lx w0 w lp cp b i s (.int .i64 127) v v out) :
    Calls Tryz.prog 93 #[.pointer (some ⟨lp, 0, none⟩)] w fun e w' => ResP (nm s out) 127 w0 lp cp b e w' := by
  generalize hR : nm s out = R
  go_enter Tryz.func93, Tryz.ntmps93
  go_wp2
  go_loopw [3] (fun v3 wr => ∃ i s v out, Lx w0 wr lp cp b i s (.int .i64 127) v v out ∧ nm s out = R) (fun v3 wr => remOf wr cp)
  case atStart => exact ⟨i, s, v, out, h, hR⟩
  case round =>
    clear h hR
    obtain ⟨i, s, v, out, hL, hR⟩ := hrel
    obtain ⟨wo, rfl⟩ : ∃ wo : World, wo = wr := ⟨_, rfl⟩
    have p0 := hL.p0
    have hm := hid hL.rem
    rcases s with _ | ⟨x, s⟩
    · rw [show nm [] out = .ok out [] from rfl] at hR
      subst hR
      go_wp2_with (first | (go_at_call 39; refine (peek0 hL).mono ?_; rintro e w1 ⟨rfl, hL, -⟩; have p0 := hL.p0; first | rw [hd_cons] | rw [hd_nil] | skip) | (go_at_call 38; refine (regular_l _ hL).mono ?_; rintro e w1 ⟨rfl, hL⟩; have p0 := hL.p0; rw [rg_neg]))
      go_ret
      exact ⟨rfl, _, _, hL⟩
    · rw [nm_cons] at hR
      have x0 := c8_ge x
      have x1 := c8_le x
      cases hr : rg (c8 x) with
      | false =>
        rw [if_neg (by simp [hr])] at hR
        subst hR
        have Hr := hid hr
        clear hr
        go_wp2_with (first | (go_at_call 39; refine (peek0 hL).mono ?_; rintro e w1 ⟨rfl, hL, -⟩; have p0 := hL.p0; first | rw [hd_cons] | rw [hd_nil] | skip) | (go_at_call 38; refine (regular_l _ hL).mono ?_; rintro e w1 ⟨rfl, hL⟩; have p0 := hL.p0; rw [Hr.out]))
        go_ret
        exact ⟨rfl, _, _, hL⟩
      | true =>
        rw [if_pos hr] at hR
        have Hr := hid hr
        clear hr
        by_cases hc : c8 x = 35
        · rw [if_pos hc] at hR
          have q1 : (c8 x == 35) = true := by simpa using hc
          have hc' := hid hc
          clear hc
          go_wp2_with (first | (go_at_call 39; refine (peek0 hL).mono ?_; rintro e w1 ⟨rfl, hL, -⟩; have p0 := hL.p0; first | rw [hd_cons] | rw [hd_nil] | skip) | (go_at_call 38; refine (regular_l _ hL).mono ?_; rintro e w1 ⟨rfl, hL⟩; have p0 := hL.p0; rw [Hr.out]) | (go_at_call 55; refine (next_cons hL).mono ?_; rintro e w1 ⟨rfl, hL⟩; have p0 := hL.p0))
          have a0 := dig_ge (hd s)
          have a1 := dig_le (hd s)
          have b0 := dig_ge (hd s.tail)
          have b1 := dig_le (hd s.tail)
          by_cases h1 : dig (hd s) < 0
          · rw [if_pos (.inl h1)] at hR
            subst hR
            have t1 : decide (dig (hd s) < 0) = true := decide_eq_true h1
            go_quiet ((first | (go_at_call 39; with_reducible exact qpeek0 _ hL) | (go_at_call 39; with_reducible exact qpeek1 _ hL) | (go_at_call 110; exact Calls.quiet_of_same ((digit_any _ _).mono fun e w' ⟨h1, h2⟩ => ⟨h1, h2.symm⟩))))
            go_wp2_with (fail)
            go_ret
            exact ⟨rfl, _, _, _, _, hL.drew _⟩
          by_cases h2 : dig (hd s.tail) < 0
          · rw [if_pos (.inr (.inl h2))] at hR
            subst hR
            have t1 : decide (dig (hd s) < 0) = false := decide_eq_false h1
            have t2 : decide (dig (hd s.tail) < 0) = true := decide_eq_true h2
            go_quiet ((first | (go_at_call 39; with_reducible exact qpeek0 _ hL) | (go_at_call 39; with_reducible exact qpeek1 _ hL) | (go_at_call 110; exact Calls.quiet_of_same ((digit_any _ _).mono fun e w' ⟨h1, h2⟩ => ⟨h1, h2.symm⟩))))
            go_wp2_with (fail)
            go_ret
            exact ⟨rfl, _, _, _, _, hL.drew _⟩
          have t1 : decide (dig (hd s) < 0) = false := decide_eq_false h1
          have t2 : decide (dig (hd s.tail) < 0) = false := decide_eq_false h2
          have t3 := bits_or (a := dig (hd s)) (b := dig (hd s.tail)) (by omega) a1 (by omega) b1
          by_cases h3 : 16 * dig (hd s) + dig (hd s.tail) = 0
          · rw [if_pos (.inr (.inr h3))] at hR
            subst hR
            have t4 : (16 * dig (hd s) + dig (hd s.tail) == 0) = true := by simpa using h3
            have t5 : 0 ≤ dig (hd s) := by omega
            clear h3
            go_quiet ((first | (go_at_call 39; with_reducible exact qpeek0 _ hL) | (go_at_call 39; with_reducible exact qpeek1 _ hL) | (go_at_call 110; exact Calls.quiet_of_same ((digit_any _ _).mono fun e w' ⟨h1, h2⟩ => ⟨h1, h2.symm⟩))))
            go_wp2_with (fail)
            go_ret
            exact ⟨rfl, _, _, _, _, hL.drew _⟩
          rw [if_neg (by omega)] at hR
          have hn : 2 ≤ s.length := by
            rcases s with _ | ⟨y, _ | ⟨z, s⟩⟩
            · exact absurd dig_neg (by rw [hd_nil] at h1; omega)
            · exact absurd dig_neg (by rw [List.tail_cons, hd_nil] at h2; omega)
            · simp
          have t4 : (16 * dig (hd s) + dig (hd s.tail) == 0) = false := by simpa using h3
          have t5 : 0 ≤ dig (hd s) := by omega
          have hb : i + 1 + 2 ≤ b.length := by have := hL.at_; omega
          have hs := hL.sm
          have d1 : IntKind.i64.wrap ((i : Int) + 1 + 2) = (i : Int) + 1 + 2 := IntWalk.i64_in _ (by omega)
          have D1 := hid d1
          have HR0 := hid hR
          clear h3 hR d1
          go_quiet ((first | (go_at_call 39; with_reducible exact qpeek0 _ hL) | (go_at_call 39; with_reducible exact qpeek1 _ hL) | (go_at_call 110; exact Calls.quiet_of_same ((digit_any _ _).mono fun e w' ⟨h1, h2⟩ => ⟨h1, h2.symm⟩))))
          go_wp2_with (fail)
          have d1 := D1.out
          have hdr : b.drop (i + 1 + 2) = s.drop 2 := by rw [← List.drop_drop, hL.drp]
          have HD := hid hdr
          clear hdr
          go_region_held3 (fun w' => w'.cell? ⟨lp, 0, none⟩ = some (.pointer (some ⟨cp, 0, none⟩))) (first | go_keep | skip) (first | (go_at_call 27; refine (pos_l (hL.drew _)).mono ?_; rintro e w1 ⟨rfl, rfl⟩) | (go_at_call 40; refine (seek_l (i + 1 + 2) _ (by omega) (by omega) (hL.drew _)).mono ?_; rintro e w1 ⟨rfl, hL⟩; have p0 := hL.p0))
          clear d1
          have hR := HR0.out
          rw [HD.out] at hL
          by_cases hf : 127 ≤ out.length
          · rw [if_pos hf] at hR
            subst hR
            go_wp2_with (first | (go_at_call 111; refine (put_no 127 _ (by decide) (by exact hf) hL).mono ?_; rintro e w1 ⟨rfl, hL⟩; have p0 := hL.p0))
            go_ret
            exact ⟨rfl, _, _, _, _, hL⟩
          · rw [if_neg hf] at hR
            have HR := hid hR
            clear hR
            go_wp2_with (first | (go_at_call 111; refine (put_yes 127 _ (by decide) (by omega) hL).mono ?_; rintro e w1 ⟨rfl, vv, hL⟩; have p0 := hL.p0))
            exact ⟨⟨_, _, _, _, hL, HR.out⟩, by rw [hL.rem, hm.out]; simp; omega⟩
        · rw [if_neg hc] at hR
          have q1 : (c8 x == 35) = false := by simpa using hc
          clear hc
          by_cases hf : 127 ≤ out.length
          · rw [if_pos hf] at hR
            subst hR
            go_wp2_with (first | (go_at_call 39; refine (peek0 hL).mono ?_; rintro e w1 ⟨rfl, hL, -⟩; have p0 := hL.p0; first | rw [hd_cons] | rw [hd_nil] | skip) | (go_at_call 38; refine (regular_l _ hL).mono ?_; rintro e w1 ⟨rfl, hL⟩; have p0 := hL.p0; rw [Hr.out]) | (go_at_call 55; refine (next_cons hL).mono ?_; rintro e w1 ⟨rfl, hL⟩; have p0 := hL.p0) | (go_at_call 111; refine (put_no 127 _ (by decide) (by exact hf) hL).mono ?_; rintro e w1 ⟨rfl, hL⟩; have p0 := hL.p0))
            go_ret
            exact ⟨rfl, _, _, _, _, hL⟩
          · rw [if_neg hf] at hR
            have HR := hid hR
            clear hR
            go_wp2_with (first | (go_at_call 39; refine (peek0 hL).mono ?_; rintro e w1 ⟨rfl, hL, -⟩; have p0 := hL.p0; first | rw [hd_cons] | rw [hd_nil] | skip) | (go_at_call 38; refine (regular_l _ hL).mono ?_; rintro e w1 ⟨rfl, hL⟩; have p0 := hL.p0; rw [Hr.out]) | (go_at_call 55; refine (next_cons hL).mono ?_; rintro e w1 ⟨rfl, hL⟩; have p0 := hL.p0) | (go_at_call 111; refine (put_yes 127 _ (by decide) (by omega) hL).mono ?_; rintro e w1 ⟨rfl, vv, hL⟩; have p0 := hL.p0))
            rw [byteOf_c8] at hL
            exact ⟨⟨_, _, _, _, hL, HR.out⟩, by rw [hL.rem, hm.out]; simp⟩
end Go.Proofs.YtlmgklebikcbjaaGreat
