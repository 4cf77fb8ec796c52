/-
  Match: a text that stands at the cursor is passed. Conditions: the cursor stands in its bytes; sizes.
-/
import Derived.Test.YtlmgklebikcbjaaGreatStep
namespace Go.Proofs.YtlmgklebikcbjaaGreat
open Go.RowKit
set_option linter.unusedVariables false

/-- s stands at the beginning of l -/
def pfx (s l : List UInt8) : Bool := l.take s.length == s

theorem pfx_long {s l : List UInt8} (h : l.length < s.length) : pfx s l = false := by
  unfold pfx
  rw [beq_eq_false_iff_ne]
  intro q
  have := congrArg List.length q
  simp at this; omega

theorem str_eq (l : List UInt8) (s : ByteArray) : ((⟨l.toArray⟩ : ByteArray).toList == s.toList) = (l == s.data.toList) := by
  rw [ByteArray.toList_eq, ByteArray.toList_eq]

set_option maxHeartbeats 1600000 in
theorem match_any (cp : Nat) (ao : Option Addr) (cap : Nat) (b : List UInt8) (i : Nat) (s : ByteArray) (w : World) (h : CurAt w cp ao cap b i) (hss : s.size ≤ 1000000) :
    Calls Tryz.prog 37 #[.pointer (some ⟨cp, 0, none⟩), .string s] w fun e w' => e = .returned (.bool (pfx s.data.toList (b.drop i))) ∧ CurAt w' cp ao cap b (if pfx s.data.toList (b.drop i) then i + s.size else i) ∧ Held w.heap.size cp cp w w' := by
  have h0 := h.c0
  have h1 := h.c1
  have h2 := h.f1
  have hs := h.sm
  have ha := h.at_
  have hz : s.data.toList.length = s.size := by show s.data.toList.length = s.data.size; simp
  have H := h
  by_cases hlt : b.length < i + s.size
  · have hp : pfx s.data.toList (b.drop i) = false := pfx_long (by rw [hz]; simp; omega)
    simp only [hp, Bool.false_eq_true, if_false]
    have t1 : decide ((b.length : Int) - (i : Int) < (s.size : Int)) = true := decide_eq_true (by omega)
    clear hp h
    go_enter Tryz.func37, Tryz.ntmps37
    go_wp2
    go_quiet ((first | (go_at_call_of 30 (Value.pointer (some ⟨cp, 0, none⟩)); exact Calls.quiet_of_same ((left_any cp ao cap b i _ (H.same (below_drewN (Below.refl _ _) _))).mono fun e w' ⟨h1, h2⟩ => ⟨h1, h2.symm⟩))))
    go_wp2
    go_ret
    exact ⟨rfl, H.same (below_drewN (Below.refl _ _) _), Held.drewN w _⟩
  · obtain ⟨u, hu, hrun⟩ := sl_part bytesTy (t := 22) h.rd h.le h.mx h.ni i (i + s.size) (by omega) (by omega)
    have hrun : ∀ w', (Instr.slice 22 (.slice ao b.length cap) (some (.int .i64 (i : Int))) (some (.int .i64 ((i : Int) + (s.size : Int)))) none).run Tryz.prog w' = .ok u w' := fun w' => by simpa only [Int.natCast_add] using hrun w'
    have hconv : ∀ n, (convert 22 9 u).run Tryz.prog (w.drewN n) = .ok (.string ⟨((b.drop i).take (i + s.size - i)).toArray⟩) (w.drewN n) := fun n =>
      sl_string (w.drewN n) 22 9 5 Tryz.underlying22 (by kernel_rfl) (by kernel_rfl) u _ (hu.up (below_drewN (Below.refl _ _) n))
    have t1 : decide ((b.length : Int) - (i : Int) < (s.size : Int)) = false := decide_eq_false (by omega)
    have q : ((⟨((b.drop i).take (i + s.size - i)).toArray⟩ : ByteArray).toList == s.toList) = pfx s.data.toList (b.drop i) := by
      rw [str_eq, Nat.add_sub_cancel_left]; unfold pfx; rw [hz]
    generalize hS : (⟨((b.drop i).take (i + s.size - i)).toArray⟩ : ByteArray) = S at hconv q
    cases hp : pfx s.data.toList (b.drop i) with
    | false =>
      rw [hp] at q
      simp only [Bool.false_eq_true, if_false]
      clear hp h
      go_enter Tryz.func37, Tryz.ntmps37
      go_wp2
      go_quiet ((first | (go_at_call_of 30 (Value.pointer (some ⟨cp, 0, none⟩)); exact Calls.quiet_of_same ((left_any cp ao cap b i _ (H.same (below_drewN (Below.refl _ _) _))).mono fun e w' ⟨h1, h2⟩ => ⟨h1, h2.symm⟩))))
      go_wp2
      go_ret
      exact ⟨rfl, H.same (below_drewN (Below.refl _ _) _), Held.drewN w _⟩
    | true =>
      rw [hp] at q
      have hlen : i + s.size ≤ b.length := by omega
      have hsum : ((i + s.size : Nat) : Int) = (i : Int) + (s.size : Int) := rfl
      simp only [if_true]
      have P := hid hsum
      clear hp h hsum
      have hk : ∀ n, (w.drewN n).cell? ⟨cp, 1, none⟩ = some (.int .i64 i) := fun n => (H.same (below_drewN (Below.refl _ _) n)).c1
      have hf : ∀ n, (w.drewN n).frozen? ⟨cp, 1, none⟩ = false := fun n => (H.same (below_drewN (Below.refl _ _) n)).f1
      have E1 : ∀ n, CurAt ((w.drewN n).setCell ⟨cp, 1, none⟩ (.int .i64 ((i : Int) + (s.size : Int)))) cp ao cap b (i + s.size) := fun n => by
        have := (H.same (below_drewN (Below.refl _ _) n)).set hlen
        rwa [P.out] at this
      go_enter Tryz.func37, Tryz.ntmps37
      go_wp2
      go_quiet ((first | (go_at_call_of 30 (Value.pointer (some ⟨cp, 0, none⟩)); exact Calls.quiet_of_same ((left_any cp ao cap b i _ (H.same (below_drewN (Below.refl _ _) _))).mono fun e w' ⟨h1, h2⟩ => ⟨h1, h2.symm⟩))))
      go_wp2
      go_ret
      exact ⟨rfl, E1 _, (Held.drewN w _).trans (Held.set _ _ _ (.inl rfl))⟩
end Go.Proofs.YtlmgklebikcbjaaGreat
