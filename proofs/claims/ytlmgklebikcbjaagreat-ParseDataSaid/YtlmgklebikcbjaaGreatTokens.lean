/-
  LexTokens: any bytes: token by token, to the end or the first that is none; the statement's walk. Condition: none but what its argument reads as.
-/
import Derived.Test.YtlmgklebikcbjaaGreatLawT
namespace Go.Proofs.YtlmgklebikcbjaaGreat
open Go.RowKit
set_option linter.unusedVariables false

theorem Lx.fix {w0 w : World} {lp cp : Nat} {ao : Option Addr} {cap : Nat} {b s : List UInt8} {i j : Nat} {m0 v0 m v u : Value} {out : List UInt8} (h : LexAt w0 lp cp ao cap b i m0 v0) (k : Lx w0 w lp cp b j s m v u out) : LexAt w lp cp ao cap b j m v := by
  obtain ⟨ao', cap', k1, k2⟩ := k.lex
  have e := k2.c0
  rw [h.cur.c0] at e
  injection e with e
  injection e with e1 e2 e3
  subst e1; subst e3
  exact k1
theorem Cx.fix {w0 w : World} {cp : Nat} {ao : Option Addr} {cap : Nat} {b s : List UInt8} {i j : Nat} {u : Value} {out : List UInt8} (h : CurAt w0 cp ao cap b i) (k : Cx w0 w cp b j s u out) : CurAt w cp ao cap b j := by
  obtain ⟨ao', cap', k1, k2⟩ := k.cur
  have e := k2.c0
  rw [h.c0] at e
  injection e with e
  injection e with e1 e2 e3
  subst e1; subst e3
  exact k1

/-- a lexer of the document's, new -/
theorem cur_box {w : World} {ao : Option Addr} {cap : Nat} {b : List UInt8} (h : Sl w (.slice ao b.length cap) b) (hl : b.length ≤ 1000000) (e : TypeId) :
    CurAt (w.alloc (.cells #[.slice ao b.length cap, .int .i64 0] e)) w.heap.size ao cap b 0 := by
  obtain ⟨ao', cap', h1, c1, c2, c3, c4⟩ := h
  injection h1 with e1 e2 e3
  subst e1; subst e3
  refine ⟨?_, ?_, ?_, c4.up (alb _ _), c1, c2, c3, Nat.zero_le _, hl, ?_⟩
  · rw [World.cell?_alloc_at _ _ _ _ rfl]; rfl
  · rw [World.cell?_alloc_at _ _ _ _ rfl]; rfl
  · exact World.frozen?_alloc_at _ _ _ _ rfl
  · intro h0 a ha
    obtain ⟨bb, off, h1, h2, _⟩ := c4.some h0
    rw [h1] at ha; injection ha with ha; subst ha
    show bb ≠ w.heap.size
    omega

end Go.Proofs.YtlmgklebikcbjaaGreat
