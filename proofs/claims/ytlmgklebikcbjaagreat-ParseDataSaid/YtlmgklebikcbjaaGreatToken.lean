/-
  number, kept, token, Token, Keyword: the token that stands there; the program's walks. Condition: the lexer stands in its bytes.
-/
import Derived.Test.YtlmgklebikcbjaaGreatParse
import Derived.Test.YtlmgklebikcbjaaGreatHex
import Derived.Test.YtlmgklebikcbjaaGreatTextW
namespace Go.Proofs.YtlmgklebikcbjaaGreat
open Go.RowKit
set_option linter.unusedVariables false

/-- what a reader of a token leaves; a: its place -/
def TokP (T : TRes) (w0 : World) (lp cp : Nat) (b : List UInt8) (a : Int) (e : Ending) (w' : World) : Prop :=
  match T with
  | .bad x => (∃ k n a ao l c, e = .returned (.tuple #[.agg #[.int .i64 k, .int .i64 a, .int .i64 n, .slice ao l c], .int .i64 x])) ∧ ∃ i s m v u out, Lx w0 w' lp cp b i s m v u out
  | .tok k n out rest => ∃ u, e = .returned (.tuple #[.agg #[.int .i64 k, .int .i64 a, .int .i64 n, u], .int .i64 0]) ∧ ∃ i m v, Lx w0 w' lp cp b i rest m v u out

theorem Lx.rcell {w0 w w1 : World} {o : Obj} {lp cp : Nat} {b s s' : List UInt8} {i j : Nat} {m v u m' v' u' : Value} {out out' : List UInt8} (h0 : Lx w0 w lp cp b i s m v u out) (h : Lx (w.alloc o) w1 lp cp b j s' m' v' u' out') :
    (∀ k, w1.cell? ⟨w.heap.size, k, none⟩ = (w.alloc o).cell? ⟨w.heap.size, k, none⟩) ∧ (∀ k, w1.frozen? ⟨w.heap.size, k, none⟩ = (w.alloc o).frozen? ⟨w.heap.size, k, none⟩) ∧ w.heap.size < w1.heap.size := by
  obtain ⟨ao, cap, h1, h2⟩ := h0.lex
  have q1 := World.block_lt_of_cell? _ _ h1.p0
  have q2 := World.block_lt_of_cell? _ _ h1.cur.c0
  have q3 : w.heap.size < (w.alloc o).heap.size := by simp
  refine ⟨fun k => h.held.cell (a := ⟨w.heap.size, k, none⟩) q3 ?_ ?_, fun k => h.held.frozen (a := ⟨w.heap.size, k, none⟩) q3 ?_ ?_, Nat.lt_of_lt_of_le q3 h.held.size⟩
  all_goals
    simp at q1 q2 ⊢
    omega

theorem Held.set4 (B p : Nat) (w : World) (x0 x1 x2 x3 : Value) : Held B p p w ((((w.setCell ⟨p, 0, none⟩ x0).setCell ⟨p, 1, none⟩ x1).setCell ⟨p, 2, none⟩ x2).setCell ⟨p, 3, none⟩ x3) :=
  (((Held.set w ⟨p, 0, none⟩ x0 (.inl rfl)).trans (Held.set _ ⟨p, 1, none⟩ x1 (.inl rfl))).trans (Held.set _ ⟨p, 2, none⟩ x2 (.inl rfl))).trans (Held.set _ ⟨p, 3, none⟩ x3 (.inl rfl))

/-- behind a store to the result's own block -/
theorem Lx.close {w0 w w2 w3 : World} {o : Obj} {lp cp : Nat} {b s s' : List UInt8} {i j : Nat} {m v u m' v' u' : Value} {out out' : List UInt8} (h0 : Lx w0 w lp cp b i s m v u out) (h : Lx (w.alloc o) w2 lp cp b j s' m' v' u' out')
    (hs : ∀ B, Held B w.heap.size w.heap.size w2 w3) : Lx w0 w3 lp cp b j s' m' v' u' out' := by
  have hA := h0.below (Below.alloc (Below.refl _ _) (Nat.le_refl _) o)
  have hJ := hA.join h
  obtain ⟨ao, cap, h1, h2⟩ := h0.lex
  obtain ⟨ao', cap', k1, k2⟩ := hJ.lex
  have q1 := World.block_lt_of_cell? _ _ h1.p0
  have q2 := World.block_lt_of_cell? _ _ h1.cur.c0
  have hz := h0.held.size
  have g1 : lp ≠ w.heap.size := by simp at q1; omega
  have g2 : cp ≠ w.heap.size := by simp at q2; omega
  refine ⟨hJ.drp, ⟨ao', cap', k1.held (hs _) ⟨g1, g1⟩ ⟨g2, g2⟩ (fun hb a ha => ?_), k2⟩, hJ.held.trans ((hs _).widen (.inr (.inr hz)) (.inr (.inr hz))), ?_⟩
  · have := k2.ao hb a ha
    exact ⟨by omega, by omega⟩
  · refine OwnB.base (OwnB.held h.row (hs _) fun g hg => ?_) (show w0.heap.size ≤ (w.alloc o).heap.size by simp; omega)
    have := (World.ownsRow.lt h.row g hg).1
    simp at this
    exact ⟨by omega, by omega⟩

section
variable {w0 w w' : World} {lp cp : Nat} {b : List UInt8} {i : Nat} {s t : List UInt8} {m v u : Value} {out : List UInt8} {x : UInt8}

set_option maxHeartbeats 1600000 in
theorem number_l (h : Lx w0 w lp cp b i s m v u out) :
    Calls Tryz.prog 96 #[.pointer (some ⟨lp, 0, none⟩)] w fun e w' => TokP (numT s) w0 lp cp b 0 e w' := by
  have hat := h.at_
  have hsm := h.sm
  have hl : (s.take (rn s)).length ≤ 1000000 := by rw [List.length_take]; omega
  have hL0 := h
  have HL0 := hid hL0
  generalize hR : np (s.take (rn s)) = R
  generalize hT : numT s = T
  unfold numT at hT
  rw [hR] at hT
  obtain ⟨n, whole, err⟩ := R
  have HR := hid hR
  have HT := hid hT
  clear hR hat hsm h hL0 hT
  cases whole with
  | true =>
    go_enter Tryz.func96, Tryz.ntmps96
    go_wp2_with (first
      | (go_at_call 97; refine (run_l (HL0.out.below (Below.alloc (Below.refl _ _) (Nat.le_refl _) _)).fresh).mono ?_; rintro e w1 ⟨u1, rfl, hL⟩)
      | (go_at_call 114; refine (parse_k _ _ _ (Sl.own hL.row) hl).mono ?_; rintro e w2 ⟨rfl, hb⟩; rw [HR.out]; have hL := hL.below hb; obtain ⟨rc, rf, rs⟩ := HL0.out.rcell hL))
    refine bodyPost_ret (v := .tuple #[.agg #[.int .i64 1, .int .i64 0, .int .i64 n, .slice none 0 0], .int .i64 err]) (by simp [results, Tryz.results96, go_sem, rc]) rfl ?_
    have hF := fun x0 x1 x2 x3 => HL0.out.close hL.bare (fun B => Held.set4 B _ _ x0 x1 x2 x3)
    rw [← HT.out]
    by_cases he : err = 0
    · subst he; exact ⟨_, rfl, _, _, _, hF _ _ _ _⟩
    · rw [if_neg he]; exact ⟨⟨_, _, _, _, _, _, rfl⟩, _, _, _, _, _, _, hF _ _ _ _⟩
  | false =>
    go_enter Tryz.func96, Tryz.ntmps96
    go_wp2_with (first
      | (go_at_call 97; refine (run_l (HL0.out.below (Below.alloc (Below.refl _ _) (Nat.le_refl _) _)).fresh).mono ?_; rintro e w1 ⟨u1, rfl, hL⟩)
      | (go_at_call 114; refine (parse_k _ _ _ (Sl.own hL.row) hl).mono ?_; rintro e w2 ⟨rfl, hb⟩; rw [HR.out]; have hL := hL.below hb; obtain ⟨rc, rf, rs⟩ := HL0.out.rcell hL))
    refine bodyPost_ret (v := .tuple #[.agg #[.int .i64 2, .int .i64 0, .int .i64 n, .slice none 0 0], .int .i64 err]) (by simp [results, Tryz.results96, go_sem, rc]) rfl ?_
    have hF := fun x0 x1 x2 x3 => HL0.out.close hL.bare (fun B => Held.set4 B _ _ x0 x1 x2 x3)
    rw [← HT.out]
    by_cases he : err = 0
    · subst he; exact ⟨_, rfl, _, _, _, hF _ _ _ _⟩
    · rw [if_neg he]; exact ⟨⟨_, _, _, _, _, _, rfl⟩, _, _, _, _, _, _, hF _ _ _ _⟩
end
end Go.Proofs.YtlmgklebikcbjaaGreat
