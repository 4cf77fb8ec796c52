/-
  Stands; the document's Keyword; the walks. Condition: the lexer stands in its bytes.
-/
import Derived.Test.YtlmgklebikcbjaaRtokL
namespace Go.Proofs.Ytlmgklebikcbjaa
open Go.RowKit
set_option linter.unusedVariables false

set_option maxHeartbeats 1600000 in
set_option maxRecDepth 100000 in
theorem stands (v : Value) (b : List UInt8) (i : Nat) (p : ByteArray) (w : World) (h : Sl w v b) (hi : i ≤ b.length) (hb : b.length ≤ 1000000) (hp : p.size ≤ 1000000) :
    Calls Try.prog 26 #[v, .int .i64 i, .string p] w fun e w' => e = .returned (.bool (pfx p.data.toList (b.drop i))) ∧ w = w' := by
  obtain ⟨ao, cap, rfl, c1, c2, c3, c4⟩ := h
  have hz : p.data.toList.length = p.size := by show p.data.toList.length = p.data.size; simp
  by_cases hlt : b.length < i + p.size
  · have hpf : pfx p.data.toList (b.drop i) = false := pfx_long (by rw [hz]; simp; omega)
    rw [hpf]
    clear hpf hz c4
    by_cases h2 : b.length < p.size
    · have t1 : decide (b.length < p.size) = true := decide_eq_true h2
      go_enter Try.func26, Try.ntmps26
      go_wp2
      go_ret
      exact ⟨rfl, rfl⟩
    · have t1 : decide (b.length < p.size) = false := decide_eq_false h2
      have t2 : decide ((b.length : Int) - (p.size : Int) < (i : Int)) = true := decide_eq_true (by omega)
      go_enter Try.func26, Try.ntmps26
      go_wp2
      go_ret
      exact ⟨rfl, rfl⟩
  · obtain ⟨u, hu, hrun⟩ := sl_part bytesTy (t := 25) c4 c1 c2 c3 i (i + p.size) (by omega) (by omega)
    have hrun : ∀ w', (Instr.slice 25 (.slice ao b.length cap) (some (.int .i64 (i : Int))) (some (.int .i64 ((i : Int) + (p.size : Int)))) none).run Try.prog w' = .ok u w' := fun w' => by simpa only [Int.natCast_add] using hrun w'
    have hconv : (convert 25 9 u).run Try.prog w = .ok (.string ⟨((b.drop i).take (i + p.size - i)).toArray⟩) w :=
      sl_string w 25 9 5 Try.underlying25 (by kernel_rfl) (by kernel_rfl) u _ hu
    have t1 : decide (b.length < p.size) = false := decide_eq_false (by omega)
    have t2 : decide ((b.length : Int) - (p.size : Int) < (i : Int)) = false := decide_eq_false (by omega)
    have q : ((⟨((b.drop i).take (i + p.size - i)).toArray⟩ : ByteArray).toList == p.toList) = pfx p.data.toList (b.drop i) := by
      rw [str_eq, Nat.add_sub_cancel_left]; unfold pfx; rw [hz]
    generalize hS : (⟨((b.drop i).take (i + p.size - i)).toArray⟩ : ByteArray) = S at hconv q
    clear hS c4 hz
    cases hpf : pfx p.data.toList (b.drop i) with
    | false =>
      rw [hpf] at q
      clear hpf
      go_enter Try.func26, Try.ntmps26
      go_wp2
      go_ret
      exact ⟨rfl, rfl⟩
    | true =>
      rw [hpf] at q
      clear hpf
      go_enter Try.func26, Try.ntmps26
      go_wp2
      go_ret
      exact ⟨rfl, rfl⟩

section
variable {w0 w w' : World} {cp tp : Nat} {b : List UInt8} {i j : Nat} {s t : List UInt8} {k a n : Int} {vb u : Value} {out : List UInt8} {x : UInt8}

set_option maxHeartbeats 3200000 in
theorem rkey_no (p : ByteArray) (hp : p.size ≤ 1000000) (hk : KW p.data.toList s = false) (h : Cx w0 w cp b i s u out) :
    Calls Try.prog 31 #[.pointer (some ⟨cp, 0, none⟩), .string p] w fun e w' => e = .returned (.bool false) ∧ Cx w0 w' cp b i s u out := by
  have hC := h
  have c1 := hC.c1
  have hat := hC.at_
  have hsm := hC.sm
  have hle : i ≤ b.length := by omega
  have hdr := hid h.drp
  have hz : p.data.toList.length = p.size := by show p.data.toList.length = p.data.size; simp
  have hbl := bl_le s false
  unfold KW at hk
  rw [hz] at hk
  generalize hzz : i + bl s false = z
  have HZ := hid hzz
  have hzb : z ≤ b.length := by omega
  generalize hs1 : s.drop (bl s false) = s1 at hk
  have HS := hid hs1
  clear h hat hz hs1 hbl hzz
  cases hc : pfx p.data.toList s1 with
  | true =>
    have HR : Hid (rg (hd (s1.drop p.size)) = true) := hid (by simpa [hc] using hk)
    have HC := hid hc
    clear hk hc
    go_enter Try.func31, Try.ntmps31
    go_wp2_with (first | (go_at_call 33; refine (rblank hC).mono ?_; rw [HZ.out, HS.out]; rintro e w1 ⟨rfl, hC⟩))
    obtain ⟨ao, cap, k1, k2⟩ := hC.cur
    have c0 := k1.c0
    have c1 := k1.c1
    have hS := fun m => (Sl.of_cur k1).up (below_drewN (Below.refl _ w1) m)
    have HD := hid hC.drp
    go_quiet ((first | (go_at_call 26; exact Calls.quiet_of_same (((stands _ b z p _ (hS _) hzb hsm hp).mono fun e w' ⟨h1, h2⟩ => ⟨by rw [h1, HD.out, HC.out], h2.symm⟩))) | (go_at_call 58; exact Calls.quiet_of ((rpeekn p.size hp (hC.drew _)).mono fun e w' ⟨h1, _, h2⟩ => ⟨h1, h2⟩)) | (go_at_call 35; exact Calls.quiet_of ((rregular_any _ _).mono fun e w' ⟨h1, h2⟩ => ⟨by rw [h1, HR.out], h2⟩))))
    have hC := hC.drew nq
    have c1 := hC.c1
    have f1 := hC.f1
    go_wp2_with (fail)
    go_ret
    have hC := hC.to i _ rfl hle
    rw [hdr.out] at hC
    exact ⟨rfl, hC⟩
  | false =>
    have HC := hid hc
    clear hk hc
    go_enter Try.func31, Try.ntmps31
    go_wp2_with (first | (go_at_call 33; refine (rblank hC).mono ?_; rw [HZ.out, HS.out]; rintro e w1 ⟨rfl, hC⟩))
    obtain ⟨ao, cap, k1, k2⟩ := hC.cur
    have c0 := k1.c0
    have c1 := k1.c1
    have hS := fun m => (Sl.of_cur k1).up (below_drewN (Below.refl _ w1) m)
    have HD := hid hC.drp
    go_quiet ((first | (go_at_call 26; exact Calls.quiet_of_same (((stands _ b z p _ (hS _) hzb hsm hp).mono fun e w' ⟨h1, h2⟩ => ⟨by rw [h1, HD.out, HC.out], h2.symm⟩)))))
    have hC := hC.drew nq
    have c1 := hC.c1
    have f1 := hC.f1
    go_wp2_with (fail)
    go_ret
    have hC := hC.to i _ rfl hle
    rw [hdr.out] at hC
    exact ⟨rfl, hC⟩

set_option maxHeartbeats 3200000 in
theorem rkey_yes (p : ByteArray) (hp : p.size ≤ 1000000) (hk : KW p.data.toList s = true) (h : Cx w0 w cp b i s u out) :
    Calls Try.prog 31 #[.pointer (some ⟨cp, 0, none⟩), .string p] w fun e w' => e = .returned (.bool true) ∧ Cx w0 w' cp b (i + bl s false + p.size) ((s.drop (bl s false)).drop p.size) u out := by
  have hC := h
  have c1 := hC.c1
  have hat := hC.at_
  have hsm := hC.sm
  have hz : p.data.toList.length = p.size := by show p.data.toList.length = p.data.size; simp
  have hbl := bl_le s false
  unfold KW at hk
  rw [hz] at hk
  generalize hzz : i + bl s false = z
  have HZ := hid hzz
  have hzb : z ≤ b.length := by omega
  generalize hs1 : s.drop (bl s false) = s1 at hk ⊢
  have HS := hid hs1
  rw [Bool.and_eq_true, Bool.not_eq_true'] at hk
  have HC := hid hk.1
  have HR := hid hk.2
  have hpl : p.size ≤ s1.length := by
    rcases Nat.lt_or_ge s1.length p.size with g | g
    · have := pfx_long (s := p.data.toList) (l := s1) (by rw [hz]; exact g)
      rw [hk.1] at this; cases this
    · exact g
  have hs1l : s1.length = b.length - z := by rw [← hs1, List.length_drop]; omega
  have hend : z + p.size ≤ b.length := by omega
  clear h hat hz hs1 hbl hzz hk hs1l
  go_enter Try.func31, Try.ntmps31
  go_wp2_with (first | (go_at_call 33; refine (rblank hC).mono ?_; rw [HZ.out, HS.out]; rintro e w1 ⟨rfl, hC⟩))
  obtain ⟨ao, cap, k1, k2⟩ := hC.cur
  have c0 := k1.c0
  have c1 := k1.c1
  have hS := fun m => (Sl.of_cur k1).up (below_drewN (Below.refl _ w1) m)
  have HD := hid hC.drp
  go_quiet ((first | (go_at_call 26; exact Calls.quiet_of_same (((stands _ b z p _ (hS _) hzb hsm hp).mono fun e w' ⟨h1, h2⟩ => ⟨by rw [h1, HD.out, HC.out], h2.symm⟩))) | (go_at_call 58; exact Calls.quiet_of ((rpeekn p.size hp (hC.drew _)).mono fun e w' ⟨h1, _, h2⟩ => ⟨h1, h2⟩)) | (go_at_call 35; exact Calls.quiet_of ((rregular_any _ _).mono fun e w' ⟨h1, h2⟩ => ⟨by rw [h1, HR.out], h2⟩))))
  have hC := hC.drew nq
  have c1 := hC.c1
  have f1 := hC.f1
  go_wp2_with (fail)
  go_ret
  have hC := hC.to (z + p.size) ((z : Int) + (p.size : Int)) (by omega) hend
  rw [← List.drop_drop, HD.out] at hC
  exact ⟨rfl, hC⟩
end
end Go.Proofs.Ytlmgklebikcbjaa
