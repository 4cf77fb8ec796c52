/-
  The program's cursor by itself, in words of suffixes. Condition: it stands in its bytes.
-/
import Derived.Test.YtlmgklebikcbjaaCx
namespace Go.Proofs.Ytlmgklebikcbjaa
open Go.RowKit
set_option linter.unusedVariables false

section
variable {w0 w w' : World} {cp : Nat} {b : List UInt8} {i : Nat} {s t : List UInt8} {u : Value} {out : List UInt8} {x : UInt8}

theorem kpeek0 (h : Cx w0 w cp b i s u out) :
    Calls Try.prog 57 #[.pointer (some ⟨cp, 0, none⟩), .int .i64 0] w fun e w' => e = .returned (.int .i64 (hd s)) ∧ Cx w0 w' cp b i s u out ∧ ∃ n, w' = w.drewN n := by
  obtain ⟨ao, cap, h1, h2⟩ := h.cur
  refine (peek_any cp ao cap b i 0 w h1 (by omega) (by omega)).mono ?_
  rintro e w' ⟨rfl, k, rfl⟩
  exact ⟨by rw [Int.add_zero, pk_drop, h.drp], h.drew k, k, rfl⟩
theorem knext_cons (h : Cx w0 w cp b i (x :: t) u out) :
    Calls Try.prog 60 #[.pointer (some ⟨cp, 0, none⟩)] w fun e w' => e = .returned (.int .i64 (c8 x)) ∧ Cx w0 w' cp b (i + 1) t u out := by
  obtain ⟨ao, cap, h1, h2⟩ := h.cur
  refine (next_any cp ao cap b i w h1).mono ?_
  rintro e w' ⟨rfl, hc, hh⟩
  have hz := lt_of_drop h.drp
  rw [nx_in hz] at hc
  exact ⟨by rw [pk_drop, h.drp]; rfl, h.next hc h2 (drop_succ_of h.drp) hh⟩
theorem kmatch_yes (p : ByteArray) (hp : p.size ≤ 1000000) (hy : pfx p.data.toList s = true) (h : Cx w0 w cp b i s u out) :
    Calls Try.prog 56 #[.pointer (some ⟨cp, 0, none⟩), .string p] w fun e w' => e = .returned (.bool true) ∧ Cx w0 w' cp b (i + p.size) (s.drop p.size) u out := by
  obtain ⟨ao, cap, h1, h2⟩ := h.cur
  refine (match_any cp ao cap b i p w h1 hp).mono ?_
  rw [h.drp, hy]
  rintro e w' ⟨rfl, hc, hh⟩
  exact ⟨rfl, h.next hc h2 (by rw [← h.drp, List.drop_drop]) hh⟩
theorem kmatch_no (p : ByteArray) (hp : p.size ≤ 1000000) (hy : pfx p.data.toList s = false) (h : Cx w0 w cp b i s u out) :
    Calls Try.prog 56 #[.pointer (some ⟨cp, 0, none⟩), .string p] w fun e w' => e = .returned (.bool false) ∧ Cx w0 w' cp b i s u out := by
  obtain ⟨ao, cap, h1, h2⟩ := h.cur
  refine (match_any cp ao cap b i p w h1 hp).mono ?_
  rw [h.drp, hy]
  rintro e w' ⟨rfl, hc, hh⟩
  exact ⟨rfl, h.next hc h2 h.drp hh⟩
theorem kleft (h : Cx w0 w cp b i s u out) :
    Calls Try.prog 64 #[.pointer (some ⟨cp, 0, none⟩)] w fun e w' => e = .returned (.int .i64 s.length) ∧ w = w' := by
  obtain ⟨ao, cap, h1, h2⟩ := h.cur
  have := h.at_
  refine (left_any cp ao cap b i w h1).mono ?_
  rintro e w' ⟨rfl, rfl⟩
  exact ⟨by congr 2; omega, rfl⟩
end
end Go.Proofs.Ytlmgklebikcbjaa
