/-
  The document's run: the regular signs from here on; the walk. Condition: the lexer stands in its bytes.
-/
import Derived.Test.YtlmgklebikcbjaaGreatRparse
namespace Go.Proofs.YtlmgklebikcbjaaGreat
open Go.RowKit
set_option linter.unusedVariables false

section
variable {w0 w w' : World} {cp : Nat} {b : List UInt8} {i : Nat} {s t : List UInt8} {u : Value} {out : List UInt8} {x : UInt8}

theorem Cx.below0 (h : Cx w0 w cp b i s u out) : w0.heap.size ≤ w.heap.size := h.held.size

set_option maxHeartbeats 3200000 in
theorem rrun (h : Cx w0 w cp b i s u out) :
    Calls Tryz.prog 109 #[.pointer (some ⟨cp, 0, none⟩)] w fun e w' => ∃ u', e = .returned u' ∧ Cx w0 w' cp b (i + rn s) (s.drop (rn s)) u' (s.take (rn s)) := by
  have hs0 := h.at_
  have hs1 := h.sm
  have c1 := h.c1
  have f1 := h.f1
  have hi0 : i ≤ 1000000 := by omega
  have hle := rn_le s
  have hfin : ∀ k, k = rn s → ((b.drop i).take k) = s.take (rn s) := fun k hk => by rw [h.drp, hk]
  have HFIN := hid hfin
  have hdr := hid h.drp
  clear hfin
  go_enter Tryz.func109, Tryz.ntmps109
  go_wp2_with (fail)
  go_loopw [] (fun wr => ∃ n : Nat, Cx w0 wr cp b (i + n) (s.drop n) u out ∧ rn s = n + rn (s.drop n)) (fun wr => remOf wr cp)
  case atStart => exact ⟨0, h, by simp⟩
  case round =>
    clear h c1 f1
    obtain ⟨n, hC, hn⟩ := hrel
    obtain ⟨wo, rfl⟩ : ∃ wo : World, wo = wr := ⟨_, rfl⟩
    have c1 := hC.c1
    have f1 := hC.f1
    have hm := hid hC.rem
    have hn1 : n ≤ s.length := by omega
    have hin : i + n ≤ 1000000 := by have h1 := hC.at_; have h2 := hC.sm; omega
    have HN := hid hn
    clear hn
    generalize hs' : s.drop n = s' at hC HN hm
    have HS := hid hs'
    clear hs'
    by_cases hr : rg (hd s') = true
    · obtain ⟨x, t, rfl⟩ : ∃ x t, s' = x :: t := by
        rcases s' with _ | ⟨x, t⟩
        · exact absurd hr (by decide)
        · exact ⟨x, t, rfl⟩
      rw [hd_cons] at hr
      have e1 := hid (rn_step (s := x :: t) hr)
      have Hr := hid hr
      clear hr
      have hdt : Hid (s.drop (n + 1) = t) := hid (by rw [← List.drop_drop, HS.out]; rfl)
      go_wp2_with (first | (go_at_call 49; (with_reducible refine (rpeek0 hC).mono ?_); rintro e w1 ⟨rfl, hC, -⟩; have c1 := hC.c1; have f1 := hC.f1; first | rw [hd_cons] | rw [hd_nil] | skip) | (go_at_call 48; (with_reducible refine (rregular_c _ hC).mono ?_); rintro e w1 ⟨rfl, hC⟩; have c1 := hC.c1; have f1 := hC.f1; rw [Hr.out]))
      have hC := hC.adv ((i : Int) + (n : Int) + 1) (by omega)
      exact ⟨⟨n + 1, by rw [hdt.out]; exact hC, by have h1 := HN.out; have h2 := e1.out; rw [hdt.out]; rw [List.tail_cons] at h2; omega⟩, by rw [hC.rem, hm.out]; simp⟩
    · have Hr : Hid (rg (hd s') = false) := hid (by simpa using hr)
      clear hr
      have e1 : n = rn s := by have h1 := HN.out; rw [rn_stop Hr.out] at h1; omega
      have E := hid e1
      clear e1
      have hib : i + n ≤ b.length := by have := hC.at_; omega
      go_wp2_with (first | (go_at_call 49; (with_reducible refine (rpeek0 hC).mono ?_); rintro e w1 ⟨rfl, hC, -⟩; have c1 := hC.c1; have f1 := hC.f1; first | rw [hd_cons] | rw [hd_nil] | skip) | (go_at_call 48; (with_reducible refine (rregular_c _ hC).mono ?_); rintro e w1 ⟨rfl, hC⟩; have c1 := hC.c1; have f1 := hC.f1; rw [Hr.out]))
      obtain ⟨ao, cap, k1, k2⟩ := hC.cur
      have c0 := k1.c0
      have c1 := k1.c1
      obtain ⟨uu, hu, hrun⟩ := sl_part bytesTy (t := 22) k1.rd k1.le k1.mx k1.ni i (i + n) (by omega) hib
      rw [Nat.add_sub_cancel_left, HFIN.out n E.out] at hu
      have hrun : ∀ w', (Instr.slice 22 (.slice ao b.length cap) (some (.int .i64 (i : Int))) (some (.int .i64 ((i : Int) + (n : Int)))) none).run Tryz.prog w' = .ok uu w' := fun w' => by simpa only [Int.natCast_add] using hrun w'
      have hl : (s.take (rn s)).length ≤ 140737488355328 := by rw [List.length_take]; omega
      go_region_held3 (fun w' => w'.cell? ⟨cp, 0, none⟩ = some (.slice ao b.length cap) ∧ w'.cell? ⟨cp, 1, none⟩ = some (.int .i64 ((i : Int) + (n : Int)))) (first | go_keep | skip) (first | (go_at_call 52; refine (copy_sl uu _ _ (hu.up (below_drewN (Below.refl _ _) _)) hl).mono ?_; rintro e w2 ⟨v2, rfl, hv, hb⟩; have hC2 := (k1.same (below_drewN (Below.refl _ _) _)).same hb; have k0 := hC2.c0; have k00 := hC2.c1))
      go_wp2
      go_ret
      rw [← E.out, HS.out]
      have hv2 : OwnB w2 w0.heap.size 5 v2 (s.take n) := by rw [E.out]; exact OwnB.base hv hC.size
      exact ⟨_, rfl, ((hC.drew _).below hb).take hv2⟩
end
end Go.Proofs.YtlmgklebikcbjaaGreat
