/-
  The program's cursor by itself, in words of suffixes. Condition: it stands in its bytes.
-/
import Derived.Test.YtlmgklebikcbjaaGreatCx
namespace Go.Proofs.YtlmgklebikcbjaaGreat
open Go.RowKit
set_option linter.unusedVariables false

/-- block cp is a cursor, at place i of b, s stands from there on; since w0 all but cp is as it was; u is a row made since w0 -/
structure Kc (w0 w : World) (cp : Nat) (b : List UInt8) (i : Nat) (s : List UInt8) (u : Value) (out : List UInt8) : Prop where
  drp : b.drop i = s
  cur : ∃ ao cap, CurAt w cp ao cap b i ∧ LowS w0 cp cp ao cap b
  held : Held w0.heap.size cp cp w0 w
  row : OwnB w w0.heap.size 5 u out

section
variable {w0 w w' : World} {cp : Nat} {b : List UInt8} {i : Nat} {s t : List UInt8} {u : Value} {out : List UInt8} {x : UInt8}

theorem Kc.start {ao : Option Addr} {cap : Nat} (h : CurAt w cp ao cap b i) : Kc w w cp b i (b.drop i) (.slice none 0 0) [] :=
  ⟨rfl, ⟨ao, cap, h, ⟨h.low, h.c0⟩⟩, Held.refl _ _ _ _, OwnB.nil _ _ _⟩
theorem Kc.at_ (h : Kc w0 w cp b i s u out) : i + s.length = b.length := by
  obtain ⟨ao, cap, h1, h2⟩ := h.cur
  have := h1.at_
  rw [← h.drp, List.length_drop]; omega
theorem Kc.sm (h : Kc w0 w cp b i s u out) : b.length ≤ 1000000 := by
  obtain ⟨ao, cap, h1, h2⟩ := h.cur; exact h1.sm
theorem Kc.rem (h : Kc w0 w cp b i s u out) : remOf w cp = s.length := by
  obtain ⟨ao, cap, h1, h2⟩ := h.cur
  have := h1.at_
  unfold remOf; rw [h1.c0, h1.c1, ← h.drp, List.length_drop]; simp
theorem Kc.c1 (h : Kc w0 w cp b i s u out) : w.cell? ⟨cp, 1, none⟩ = some (.int .i64 i) := by
  obtain ⟨ao, cap, h1, h2⟩ := h.cur; exact h1.c1
theorem Kc.f1 (h : Kc w0 w cp b i s u out) : w.frozen? ⟨cp, 1, none⟩ = false := by
  obtain ⟨ao, cap, h1, h2⟩ := h.cur; exact h1.f1
theorem Kc.size (h : Kc w0 w cp b i s u out) : w0.heap.size ≤ w.heap.size := h.held.size

theorem Kc.keep (h : Kc w0 w cp b i s u out) (hh : Held w.heap.size cp cp w w') {v2 : Value} {l2 : List UInt8} (hr : OwnB w w0.heap.size 5 v2 l2) : OwnB w' w0.heap.size 5 v2 l2 := by
  obtain ⟨ao, cap, h1, h2⟩ := h.cur
  refine hr.held hh fun g hg => ?_
  have h3 := (World.ownsRow.lt hr g hg).1
  have := h2.cp
  exact ⟨by omega, by omega⟩
theorem Kc.next (h : Kc w0 w cp b i s u out) {ao : Option Addr} {cap j : Nat} {s' : List UInt8} (hl : CurAt w' cp ao cap b j) (hlow : LowS w0 cp cp ao cap b) (hs : b.drop j = s') (hh : Held w.heap.size cp cp w w') : Kc w0 w' cp b j s' u out :=
  ⟨hs, ⟨ao, cap, hl, hlow⟩, h.held.then' hh, h.keep hh h.row⟩
theorem Kc.below (h : Kc w0 w cp b i s u out) (hb : Below w.heap.size w w') : Kc w0 w' cp b i s u out := by
  obtain ⟨ao, cap, h1, h2⟩ := h.cur
  exact h.next (h1.same hb) h2 h.drp (Held.of_below hb)
theorem Kc.drew (h : Kc w0 w cp b i s u out) (n : Nat) : Kc w0 (w.drewN n) cp b i s u out := h.below (below_drewN (Below.refl _ _) n)
theorem Kc.take (h : Kc w0 w cp b i s u out) {u2 : Value} {l2 : List UInt8} (hr : OwnB w w0.heap.size 5 u2 l2) : Kc w0 w cp b i s u2 l2 := ⟨h.drp, h.cur, h.held, hr⟩
theorem Kc.bare (h : Kc w0 w cp b i s u out) : Kc w0 w cp b i s (.slice none 0 0) [] := h.take (OwnB.nil _ _ _)
/-- from here on anew -/
theorem Kc.fresh (h : Kc w0 w cp b i s u out) : Kc w w cp b i s (.slice Option.none 0 0) [] := by
  obtain ⟨ao, cap, h1, h2⟩ := h.cur
  exact ⟨h.drp, ⟨ao, cap, h1, ⟨h2.toLow.mono h.held.size, h1.c0⟩⟩, Held.refl _ _ _ _, OwnB.nil _ _ _⟩
theorem Kc.join (h : Kc w0 w cp b i s u out) {j : Nat} {s' : List UInt8} {u' : Value} {out' : List UInt8} (k : Kc w w' cp b j s' u' out') : Kc w0 w' cp b j s' u' out' := by
  obtain ⟨ao, cap, h1, h2⟩ := h.cur
  obtain ⟨ao', cap', k1, k2⟩ := k.cur
  have e := k2.c0
  rw [h1.c0] at e
  injection e with e
  injection e with e1 e2 e3
  subst e1; subst e3
  exact ⟨k.drp, ⟨_, _, k1, h2⟩, h.held.then' k.held, k.row.base h.held.size⟩
end
section
variable {w0 w w' : World} {cp : Nat} {b : List UInt8} {i : Nat} {s t : List UInt8} {u : Value} {out : List UInt8} {x : UInt8}

theorem kpeek0 (h : Kc w0 w cp b i s u out) :
    Calls Tryz.prog 39 #[.pointer (some ⟨cp, 0, none⟩), .int .i64 0] w fun e w' => e = .returned (.int .i64 (hd s)) ∧ Kc w0 w' cp b i s u out ∧ ∃ n, w' = w.drewN n := by
  obtain ⟨ao, cap, h1, h2⟩ := h.cur
  refine (peek_any cp ao cap b i 0 w h1 (by omega) (by omega)).mono ?_
  rintro e w' ⟨rfl, k, rfl⟩
  exact ⟨by rw [Int.add_zero, pk_drop, h.drp], h.drew k, k, rfl⟩
theorem knext_cons (h : Kc w0 w cp b i (x :: t) u out) :
    Calls Tryz.prog 55 #[.pointer (some ⟨cp, 0, none⟩)] w fun e w' => e = .returned (.int .i64 (c8 x)) ∧ Kc w0 w' cp b (i + 1) t u out := by
  obtain ⟨ao, cap, h1, h2⟩ := h.cur
  refine (next_any cp ao cap b i w h1).mono ?_
  rintro e w' ⟨rfl, hc, hh⟩
  have hz := lt_of_drop h.drp
  rw [nx_in hz] at hc
  exact ⟨by rw [pk_drop, h.drp]; rfl, h.next hc h2 (drop_succ_of h.drp) hh⟩
theorem kmatch_yes (p : ByteArray) (hp : p.size ≤ 1000000) (hy : pfx p.data.toList s = true) (h : Kc w0 w cp b i s u out) :
    Calls Tryz.prog 37 #[.pointer (some ⟨cp, 0, none⟩), .string p] w fun e w' => e = .returned (.bool true) ∧ Kc w0 w' cp b (i + p.size) (s.drop p.size) u out := by
  obtain ⟨ao, cap, h1, h2⟩ := h.cur
  refine (match_any cp ao cap b i p w h1 hp).mono ?_
  rw [h.drp, hy]
  rintro e w' ⟨rfl, hc, hh⟩
  exact ⟨rfl, h.next hc h2 (by rw [← h.drp, List.drop_drop]) hh⟩
theorem kmatch_no (p : ByteArray) (hp : p.size ≤ 1000000) (hy : pfx p.data.toList s = false) (h : Kc w0 w cp b i s u out) :
    Calls Tryz.prog 37 #[.pointer (some ⟨cp, 0, none⟩), .string p] w fun e w' => e = .returned (.bool false) ∧ Kc w0 w' cp b i s u out := by
  obtain ⟨ao, cap, h1, h2⟩ := h.cur
  refine (match_any cp ao cap b i p w h1 hp).mono ?_
  rw [h.drp, hy]
  rintro e w' ⟨rfl, hc, hh⟩
  exact ⟨rfl, h.next hc h2 h.drp hh⟩
theorem kleft (h : Kc w0 w cp b i s u out) :
    Calls Tryz.prog 30 #[.pointer (some ⟨cp, 0, none⟩)] w fun e w' => e = .returned (.int .i64 s.length) ∧ w = w' := by
  obtain ⟨ao, cap, h1, h2⟩ := h.cur
  have := h.at_
  refine (left_any cp ao cap b i w h1).mono ?_
  rintro e w' ⟨rfl, rfl⟩
  exact ⟨by congr 2; omega, rfl⟩
end
end Go.Proofs.YtlmgklebikcbjaaGreat
