/-
  The document's name: what stands behind a stroke; the walk. Condition: the lexer stands in its bytes.
-/
import Derived.Test.YtlmgklebikcbjaaGreatRx
import Derived.Test.YtlmgklebikcbjaaGreatName
namespace Go.Proofs.YtlmgklebikcbjaaGreat
open Go.RowKit
set_option linter.unusedVariables false

/-- what the document's reader of bytes leaves -/
def ResC (R : Res) (w0 : World) (cp : Nat) (b : List UInt8) (e : Ending) (w' : World) : Prop :=
  match R with
  | .bad x => e = .returned (.tuple #[.slice none 0 0, .int .i64 x]) ∧ Cy w0 w' cp b
  | .ok out rest => ∃ u, e = .returned (.tuple #[u, .int .i64 0]) ∧ ∃ i, Cx w0 w' cp b i rest u out

section
variable {w0 w w' : World} {cp : Nat} {b : List UInt8} {i : Nat} {s t : List UInt8} {u : Value} {out : List UInt8} {x : UInt8}

set_option maxHeartbeats 3200000 in
set_option maxRecDepth 100000 in
theorem rname (h : Cx w0 w cp b i s u out) :
    Calls Tryz.prog 105 #[.pointer (some ⟨cp, 0, none⟩)] w fun e w' => ResC (nm s []) w0 cp b e w' := by
  generalize hR : nm s [] = R
  go_enter Tryz.func105, Tryz.ntmps105
  go_wp2_with (fail)
  go_loopw [4] (fun v4 wr => ∃ j s out, Cx w0 wr cp b j s v4 out ∧ nm s out = R) (fun v4 wr => remOf wr cp)
  case atStart => exact ⟨i, s, [], h.bare, hR⟩
  case round =>
    clear h hR
    rename_i v4 _ _
    obtain ⟨i, s, out, hC, hR⟩ := hrel
    obtain ⟨wo, rfl⟩ : ∃ wo : World, wo = wr := ⟨_, rfl⟩
    have c1 := hC.c1
    have f1 := hC.f1
    have hm := hid hC.rem
    have hi : i ≤ 1000000 := by have h1 := hC.at_; have h2 := hC.sm; omega
    obtain ⟨ao1, cap1, rfl, -, -, -⟩ := Rd.own hC.row
    rcases s with _ | ⟨x, s⟩
    · rw [show nm [] out = .ok out [] from rfl] at hR
      subst hR
      go_wp2_with (first | (go_at_call 49; (with_reducible refine (rpeek0 hC).mono ?_); rintro e w1 ⟨rfl, hC, -⟩; have c1 := hC.c1; have f1 := hC.f1; first | rw [hd_cons] | rw [hd_nil] | skip) | (go_at_call 48; (with_reducible refine (rregular_c _ hC).mono ?_); rintro e w1 ⟨rfl, hC⟩; have c1 := hC.c1; have f1 := hC.f1; rw [rg_neg]))
      go_ret2
      exact ⟨_, rfl, _, hC⟩
    rw [nm_cons] at hR
    have x0 := c8_ge x
    have x1 := c8_le x
    cases hr : rg (c8 x) with
    | false =>
      rw [if_neg (by simp [hr])] at hR
      subst hR
      have Hr := hid hr
      clear hr
      go_wp2_with (first | (go_at_call 49; (with_reducible refine (rpeek0 hC).mono ?_); rintro e w1 ⟨rfl, hC, -⟩; have c1 := hC.c1; have f1 := hC.f1; first | rw [hd_cons] | rw [hd_nil] | skip) | (go_at_call 48; (with_reducible refine (rregular_c _ hC).mono ?_); rintro e w1 ⟨rfl, hC⟩; have c1 := hC.c1; have f1 := hC.f1; rw [Hr.out]))
      go_ret2
      exact ⟨_, rfl, _, hC⟩
    | true =>
      rw [if_pos hr] at hR
      have Hr := hid hr
      clear hr
      by_cases hc : c8 x = 35
      · rw [if_pos hc] at hR
        have q1 : (c8 x == 35) = true := by simpa using hc
        clear hc
        have a0 := dig_ge (hd s)
        have a1 := dig_le (hd s)
        have b0 := dig_ge (hd s.tail)
        have b1 := dig_le (hd s.tail)
        by_cases h1 : dig (hd s) < 0
        · rw [if_pos (.inl h1)] at hR
          subst hR
          have t1 : decide (dig (hd s) < 0) = true := decide_eq_true h1
          go_wp2_with (first | (go_at_call 49; (with_reducible refine (rpeek0 hC).mono ?_); rintro e w1 ⟨rfl, hC, -⟩; have c1 := hC.c1; have f1 := hC.f1; first | rw [hd_cons] | rw [hd_nil] | skip) | (go_at_call 48; (with_reducible refine (rregular_c _ hC).mono ?_); rintro e w1 ⟨rfl, hC⟩; have c1 := hC.c1; have f1 := hC.f1; rw [Hr.out]) | (go_at_call 49; (with_reducible refine (rpeek0 (hC.adv _ rfl)).mono ?_); rintro e w1 ⟨rfl, hC, -⟩; have c1 := hC.c1; have f1 := hC.f1; first | rw [hd_cons] | rw [hd_nil] | skip) | (go_at_call 49; (with_reducible refine (rpeek1 hC).mono ?_); rintro e w1 ⟨rfl, hC, -⟩; have c1 := hC.c1; have f1 := hC.f1) | (go_at_call 116; refine (rdigit_any _ _).mono ?_; rintro e w1 ⟨rfl, rfl⟩))
          go_ret2
          exact ⟨rfl, hC.cy⟩
        have t1 : decide (dig (hd s) < 0) = false := decide_eq_false h1
        by_cases h2 : dig (hd s.tail) < 0
        · rw [if_pos (.inr (.inl h2))] at hR
          subst hR
          have t2 : decide (dig (hd s.tail) < 0) = true := decide_eq_true h2
          go_wp2_with (first | (go_at_call 49; (with_reducible refine (rpeek0 hC).mono ?_); rintro e w1 ⟨rfl, hC, -⟩; have c1 := hC.c1; have f1 := hC.f1; first | rw [hd_cons] | rw [hd_nil] | skip) | (go_at_call 48; (with_reducible refine (rregular_c _ hC).mono ?_); rintro e w1 ⟨rfl, hC⟩; have c1 := hC.c1; have f1 := hC.f1; rw [Hr.out]) | (go_at_call 49; (with_reducible refine (rpeek0 (hC.adv _ rfl)).mono ?_); rintro e w1 ⟨rfl, hC, -⟩; have c1 := hC.c1; have f1 := hC.f1; first | rw [hd_cons] | rw [hd_nil] | skip) | (go_at_call 49; (with_reducible refine (rpeek1 hC).mono ?_); rintro e w1 ⟨rfl, hC, -⟩; have c1 := hC.c1; have f1 := hC.f1) | (go_at_call 116; refine (rdigit_any _ _).mono ?_; rintro e w1 ⟨rfl, rfl⟩))
          go_ret2
          exact ⟨rfl, hC.cy⟩
        have t2 : decide (dig (hd s.tail) < 0) = false := decide_eq_false h2
        by_cases h3 : 16 * dig (hd s) + dig (hd s.tail) = 0
        · rw [if_pos (.inr (.inr h3))] at hR
          subst hR
          have t3 : (dig (hd s) + dig (hd s.tail) == 0) = true := by simp; omega
          clear h3
          go_wp2_with (first | (go_at_call 49; (with_reducible refine (rpeek0 hC).mono ?_); rintro e w1 ⟨rfl, hC, -⟩; have c1 := hC.c1; have f1 := hC.f1; first | rw [hd_cons] | rw [hd_nil] | skip) | (go_at_call 48; (with_reducible refine (rregular_c _ hC).mono ?_); rintro e w1 ⟨rfl, hC⟩; have c1 := hC.c1; have f1 := hC.f1; rw [Hr.out]) | (go_at_call 49; (with_reducible refine (rpeek0 (hC.adv _ rfl)).mono ?_); rintro e w1 ⟨rfl, hC, -⟩; have c1 := hC.c1; have f1 := hC.f1; first | rw [hd_cons] | rw [hd_nil] | skip) | (go_at_call 49; (with_reducible refine (rpeek1 hC).mono ?_); rintro e w1 ⟨rfl, hC, -⟩; have c1 := hC.c1; have f1 := hC.f1) | (go_at_call 116; refine (rdigit_any _ _).mono ?_; rintro e w1 ⟨rfl, rfl⟩))
          go_ret2
          exact ⟨rfl, hC.cy⟩
        rw [if_neg (by omega)] at hR
        have t3 : (dig (hd s) + dig (hd s.tail) == 0) = false := by simp; omega
        have hn : 2 ≤ s.length := by
          rcases s with _ | ⟨y, _ | ⟨z, s⟩⟩
          · exact absurd dig_neg (by rw [hd_nil] at h1; omega)
          · exact absurd dig_neg (by rw [List.tail_cons, hd_nil] at h2; omega)
          · simp
        have hb : i + 1 + 2 ≤ b.length := by have := hC.at_; rw [List.length_cons] at this; omega
        have hdr : b.drop (i + 1 + 2) = s.drop 2 := by rw [← List.drop_drop, drop_succ_of hC.drp]
        have HD := hid hdr
        clear h3 hdr
        by_cases hf : 127 ≤ out.length
        · rw [if_pos hf] at hR
          subst hR
          have t4 : decide (127 ≤ out.length) = true := decide_eq_true hf
          go_wp2_with (first | (go_at_call 49; (with_reducible refine (rpeek0 hC).mono ?_); rintro e w1 ⟨rfl, hC, -⟩; have c1 := hC.c1; have f1 := hC.f1; first | rw [hd_cons] | rw [hd_nil] | skip) | (go_at_call 48; (with_reducible refine (rregular_c _ hC).mono ?_); rintro e w1 ⟨rfl, hC⟩; have c1 := hC.c1; have f1 := hC.f1; rw [Hr.out]) | (go_at_call 49; (with_reducible refine (rpeek0 (hC.adv _ rfl)).mono ?_); rintro e w1 ⟨rfl, hC, -⟩; have c1 := hC.c1; have f1 := hC.f1; first | rw [hd_cons] | rw [hd_nil] | skip) | (go_at_call 49; (with_reducible refine (rpeek1 hC).mono ?_); rintro e w1 ⟨rfl, hC, -⟩; have c1 := hC.c1; have f1 := hC.f1) | (go_at_call 116; refine (rdigit_any _ _).mono ?_; rintro e w1 ⟨rfl, rfl⟩))
          go_ret2
          exact ⟨rfl, (hC.to (i + 1 + 2) _ (by first | rfl | omega) hb).cy⟩
        · rw [if_neg hf] at hR
          have HR := hid hR
          clear hR
          have t4 : decide (127 ≤ out.length) = false := decide_eq_false hf
          go_wp2_with (first | (go_at_call 49; (with_reducible refine (rpeek0 hC).mono ?_); rintro e w1 ⟨rfl, hC, -⟩; have c1 := hC.c1; have f1 := hC.f1; first | rw [hd_cons] | rw [hd_nil] | skip) | (go_at_call 48; (with_reducible refine (rregular_c _ hC).mono ?_); rintro e w1 ⟨rfl, hC⟩; have c1 := hC.c1; have f1 := hC.f1; rw [Hr.out]) | (go_at_call 49; (with_reducible refine (rpeek0 (hC.adv _ rfl)).mono ?_); rintro e w1 ⟨rfl, hC, -⟩; have c1 := hC.c1; have f1 := hC.f1; first | rw [hd_cons] | rw [hd_nil] | skip) | (go_at_call 49; (with_reducible refine (rpeek1 hC).mono ?_); rintro e w1 ⟨rfl, hC, -⟩; have c1 := hC.c1; have f1 := hC.f1) | (go_at_call 116; refine (rdigit_any _ _).mono ?_; rintro e w1 ⟨rfl, rfl⟩) | (at_builtin; refine wpList_append_bytes (t := 22) (e := 5) bytesTy rfl _ _ rfl w0.heap.size _ out [byteOf (dig (hd s) * 16 + dig (hd s.tail))] rfl ((hC.to (i + 1 + 2) ((i : Int) + 1 + 2) (by omega) hb).row.alloc _) _ 1 1 rfl rfl (fun q => by cases q) (Rd.byteM _ _ _ _ (by simp) (by omega) (by omega)) (by simp; omega) (by have := hC.size; simp; omega) ?_; intro v1 w2 q1 q2 q3; have hC := (hC.to (i + 1 + 2) ((i : Int) + 1 + 2) (by omega) hb).app q1 q2; clear q1 q2 q3))
          rw [HD.out, Int.mul_comm (dig (hd s)) 16] at hC
          exact ⟨⟨_, _, _, hC, HR.out⟩, by rw [hC.rem, hm.out]; simp; omega⟩
      · rw [if_neg hc] at hR
        have q1 : (c8 x == 35) = false := by simpa using hc
        clear hc
        by_cases hf : 127 ≤ out.length
        · rw [if_pos hf] at hR
          subst hR
          have t1 : decide (127 ≤ out.length) = true := decide_eq_true hf
          go_wp2_with (first | (go_at_call 49; (with_reducible refine (rpeek0 hC).mono ?_); rintro e w1 ⟨rfl, hC, -⟩; have c1 := hC.c1; have f1 := hC.f1; first | rw [hd_cons] | rw [hd_nil] | skip) | (go_at_call 48; (with_reducible refine (rregular_c _ hC).mono ?_); rintro e w1 ⟨rfl, hC⟩; have c1 := hC.c1; have f1 := hC.f1; rw [Hr.out]))
          go_ret2
          exact ⟨rfl, (hC.adv _ rfl).cy⟩
        · rw [if_neg hf] at hR
          have HR := hid hR
          clear hR
          have t1 : decide (127 ≤ out.length) = false := decide_eq_false hf
          go_wp2_with (first | (go_at_call 49; (with_reducible refine (rpeek0 hC).mono ?_); rintro e w1 ⟨rfl, hC, -⟩; have c1 := hC.c1; have f1 := hC.f1; first | rw [hd_cons] | rw [hd_nil] | skip) | (go_at_call 48; (with_reducible refine (rregular_c _ hC).mono ?_); rintro e w1 ⟨rfl, hC⟩; have c1 := hC.c1; have f1 := hC.f1; rw [Hr.out]) | (at_builtin; refine wpList_append_bytes (t := 22) (e := 5) bytesTy rfl _ _ rfl w0.heap.size _ out [byteOf (c8 x)] rfl ((hC.adv _ rfl).row.alloc _) _ 1 1 rfl rfl (fun q => by cases q) (Rd.byteM _ _ _ _ (by simp) (by omega) (by omega)) (by simp; omega) (by have := hC.size; simp; omega) ?_; intro v1 w2 q1 q2 q3; have hC := (hC.adv _ rfl).app q1 q2; clear q1 q2 q3))
          rw [byteOf_c8] at hC
          exact ⟨⟨_, _, _, hC, HR.out⟩, by rw [hC.rem, hm.out]; simp⟩
end
end Go.Proofs.YtlmgklebikcbjaaGreat
