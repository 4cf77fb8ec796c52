/-
  LexNames: any bytes but noughts, written as a name or a string, are read as they were; the statement's walk. Condition: its arguments read as bytes.
-/
import Derived.Test.YtlmgklebikcbjaaGreatPrint
import Derived.Test.YtlmgklebikcbjaaGreatTokens
namespace Go.Proofs.YtlmgklebikcbjaaGreat
open Go.RowKit
set_option linter.unusedVariables false

theorem TK_at (x : UInt8) (t : List UInt8) (h : wh (c8 x) = false) (h' : ¬ c8 x = 37) : bl (x :: t) false = 0 ∧ TK (x :: t) = tk (x :: t) := by
  have hb : bl (x :: t) false = 0 := by rw [bl, if_neg (by rw [h]; decide), if_neg h']
  exact ⟨hb, by unfold TK; rw [hb]; rfl⟩
theorem ptx_hd (s : List UInt8) : ∃ x t, ptx s = x :: t ∧ (x = 40 ∨ x = 60) := by
  unfold ptx; split
  · exact ⟨_, _, rfl, .inl rfl⟩
  · exact ⟨_, _, rfl, .inr rfl⟩
theorem ptx_len (s : List UInt8) : (ptx s).length ≤ 2 * s.length + 2 := by
  unfold ptx; split
  · simp; omega
  · simp [dgts_len]
theorem TK_ptx (s : List UInt8) (hs : s.length ≤ 32767) : bl (ptx s) false = 0 ∧ TK (ptx s) = .tok 3 0 s [] := by
  have h := tk_ptx s [] hs
  rw [List.append_nil] at h
  obtain ⟨x, t, e, hx⟩ := ptx_hd s
  rw [e] at h ⊢
  rw [← h]
  rcases hx with rfl | rfl <;> exact TK_at _ _ (by decide) (by decide)
theorem TK_pnm (b s : List UInt8) (h0 : ∀ c ∈ b, ¬ c = 0) (hl : b.length ≤ 127) : bl (47 :: b.flatMap pn1 ++ ptx s) false = 0 ∧ TK (47 :: b.flatMap pn1 ++ ptx s) = .tok 4 0 b (ptx s) := by
  have hr : rg (hd (ptx s)) = false := by
    obtain ⟨x, t, e, hx⟩ := ptx_hd s
    rw [e, hd_cons]
    rcases hx with rfl | rfl <;> decide
  have h := tk_pnm b (ptx s) h0 hl hr
  have h2 := TK_at 47 (b.flatMap pn1 ++ ptx s) (by decide) (by decide)
  rw [List.cons_append]
  exact ⟨h2.1, h2.2.trans h⟩
theorem TK_nil : TK [] = .tok 0 0 [] [] := rfl

/-- a cell that is not the lexer's stays, whatever the lexer reads -/
theorem Lx.ckeep {w0 w w' : World} {o : Obj} {lp cp : Nat} {b s s' : List UInt8} {i j : Nat} {m v u m' v' u' : Value} {out out' : List UInt8} (h : Lx w0 w lp cp b i s m v u out) (h' : Lx (w.alloc o) w' lp cp b j s' m' v' u' out') (hz : w0.heap.size ≤ w.heap.size := by exact Nat.le_refl _) {a : Addr} {x : Value} (ha : w0.heap.size ≤ a.block) (hc : (w.alloc o).cell? a = Option.some x) : w'.cell? a = Option.some x := by
  obtain ⟨ao, cap, h1, h2⟩ := h.lex
  have q1 := h2.lp
  have q2 := h2.cp
  rw [h'.held.cell (World.block_lt_of_cell? _ _ hc) (by omega) (by omega)]
  exact hc

end Go.Proofs.YtlmgklebikcbjaaGreat
