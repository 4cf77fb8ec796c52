/-
  Two lexers over the same bytes, the program's and the document's, in one world. Condition: both stand in their bytes.
-/
import Derived.Test.YtlmgklebikcbjaaTokens
import Derived.Test.YtlmgklebikcbjaaRkey
namespace Go.Proofs.Ytlmgklebikcbjaa
open Go.RowKit
set_option linter.unusedVariables false

/-- lp, cp a lexer of the program's at place i, mp one of the document's at place j, both over b; since w0 nothing of w0 was touched -/
structure Pr (w0 w : World) (lp cp mp : Nat) (b : List UInt8) (i j : Nat) : Prop where
  lex : ∃ ao cap m v, LexAt w lp cp ao cap b i m v ∧ (0 < b.length → ∀ a, ao = some a → a.block < mp)
  cur : ∃ ao cap, CurAt w mp ao cap b j ∧ (0 < b.length → ∀ a, ao = some a → a.block < w0.heap.size)
  bel : Below w0.heap.size w0 w
  lm : lp < mp
  cm : cp < mp
  wl : w0.heap.size ≤ lp
  wc : w0.heap.size ≤ cp

section
variable {w0 w w' : World} {lp cp mp : Nat} {b s : List UInt8} {i j k : Nat} {m v u : Value} {out : List UInt8}

theorem Pr.wm (h : Pr w0 w lp cp mp b i j) : w0.heap.size ≤ mp := Nat.le_trans h.wl (Nat.le_of_lt h.lm)
theorem Pr.hi (h : Pr w0 w lp cp mp b i j) : mp < w.heap.size := by
  obtain ⟨ao, cap, h1, _⟩ := h.cur; exact World.block_lt_of_cell? _ _ h1.c0
theorem Pr.lx (h : Pr w0 w lp cp mp b i j) : ∃ m v, Lx w w lp cp b i (b.drop i) m v (.slice none 0 0) [] := by
  obtain ⟨ao, cap, m, v, h1, _⟩ := h.lex; exact ⟨m, v, Lx.start h1⟩
theorem Pr.cx (h : Pr w0 w lp cp mp b i j) : Cx w w mp b j (b.drop j) (.slice none 0 0) [] := by
  obtain ⟨ao, cap, h1, _⟩ := h.cur; exact Cx.start h1
theorem Pr.p0 (h : Pr w0 w lp cp mp b i j) : w.cell? ⟨lp, 0, none⟩ = some (.pointer (some ⟨cp, 0, none⟩)) := by
  obtain ⟨ao, cap, m, v, h1, _⟩ := h.lex; exact h1.p0
theorem Pr.c1 (h : Pr w0 w lp cp mp b i j) : w.cell? ⟨mp, 1, none⟩ = some (.int .i64 j) := by
  obtain ⟨ao, cap, h1, _⟩ := h.cur; exact h1.c1
theorem Pr.f1 (h : Pr w0 w lp cp mp b i j) : w.frozen? ⟨mp, 1, none⟩ = false := by
  obtain ⟨ao, cap, h1, _⟩ := h.cur; exact h1.f1
theorem Pr.ile (h : Pr w0 w lp cp mp b i j) : i ≤ b.length := by
  obtain ⟨ao, cap, m, v, h1, _⟩ := h.lex; exact h1.cur.at_
theorem Pr.jle (h : Pr w0 w lp cp mp b i j) : j ≤ b.length := by
  obtain ⟨ao, cap, h1, _⟩ := h.cur; exact h1.at_

/-- the program's lexer went on -/
theorem Pr.stepL (h : Pr w0 w lp cp mp b i j) (hL : Lx w w' lp cp b k s m v u out) : Pr w0 w' lp cp mp b k j := by
  have hlm := h.lm
  have hcm := h.cm
  have hwl := h.wl
  have hwc := h.wc
  obtain ⟨ao, cap, m0, v0, h1, h2⟩ := h.lex
  obtain ⟨ao2, cap2, g1, g2⟩ := h.cur
  exact ⟨⟨ao, cap, _, _, Lx.fix h1 hL, h2⟩, ⟨ao2, cap2, g1.held hL.held (by omega) (by omega) (fun h0 a ha => by have := g2 h0 a ha; exact ⟨by omega, by omega⟩), g2⟩, h.bel.trans (hL.held.below h.bel.size hwl hwc), hlm, hcm, hwl, hwc⟩
/-- the document's went on -/
theorem Pr.stepC (h : Pr w0 w lp cp mp b i j) (hC : Cx w w' mp b k s u out) : Pr w0 w' lp cp mp b i k := by
  have hlm := h.lm
  have hcm := h.cm
  obtain ⟨ao, cap, m0, v0, h1, h2⟩ := h.lex
  obtain ⟨ao2, cap2, g1, g2⟩ := h.cur
  exact ⟨⟨ao, cap, _, _, h1.held hC.held ⟨by omega, by omega⟩ ⟨by omega, by omega⟩ (fun h0 a ha => by have := h2 h0 a ha; exact ⟨by omega, by omega⟩), h2⟩, ⟨ao2, cap2, Cx.fix g1 hC, g2⟩, h.bel.trans (hC.held.below h.bel.size h.wm h.wm), hlm, hcm, h.wl, h.wc⟩
theorem Pr.below (h : Pr w0 w lp cp mp b i j) (hb : Below w.heap.size w w') : Pr w0 w' lp cp mp b i j := by
  obtain ⟨ao, cap, m0, v0, h1, h2⟩ := h.lex
  obtain ⟨ao2, cap2, g1, g2⟩ := h.cur
  exact ⟨⟨ao, cap, _, _, h1.same hb, h2⟩, ⟨ao2, cap2, g1.same hb, g2⟩, h.bel.trans (hb.mono h.bel.size), h.lm, h.cm, h.wl, h.wc⟩
theorem Pr.alloc (h : Pr w0 w lp cp mp b i j) (o : Obj) : Pr w0 (w.alloc o) lp cp mp b i j := h.below (alb w o)
theorem Pr.drew (h : Pr w0 w lp cp mp b i j) (n : Nat) : Pr w0 (w.drewN n) lp cp mp b i j := h.below (below_drewN (Below.refl _ _) n)
theorem Pr.setM (h : Pr w0 w lp cp mp b i j) (n : Int) (hn : n = k) (hk : k ≤ b.length) : Pr w0 (w.setCell ⟨mp, 1, none⟩ (.int .i64 n)) lp cp mp b i k := h.stepC (h.cx.to k n hn hk)

/-- the document's lexer beside the program's, new, at a place -/
theorem Pr.new {w1 w2 : World} {ao : Option Addr} {cap : Nat} (h : Sl w0 (.slice ao b.length cap) b) (hl : b.length ≤ 1000000) (h1 : Below w0.heap.size w0 w1) (hL : Lx w2 w2 lp cp b 0 b m v u out) (h2 : Below w1.heap.size w1 w2) (hlp : w1.heap.size ≤ lp) (hcp : w1.heap.size ≤ cp) (n : Int) (hn : n = k) (hk : k ≤ b.length) (e : TypeId) :
    Pr w0 (w2.alloc (.cells #[.slice ao b.length cap, .int .i64 n] e)) lp cp w2.heap.size b 0 k := by
  subst hn
  have h3 := below_then h1 h2
  obtain ⟨ao1, cap1, hl0, hlow⟩ := hL.lex
  have hS := h.up h3
  have ha2 : 0 < b.length → ∀ a, ao = some a → a.block < w0.heap.size := fun h0 a ha => by
    obtain ⟨ao', cap', q1, _, _, _, q4⟩ := h
    injection q1 with e1 e2 e3
    subst e1
    obtain ⟨bb, off, q1, q2, _⟩ := q4.some h0
    rw [q1] at ha; injection ha with ha; subst ha; exact q2
  obtain ⟨ao', cap', q1, c1, c2, c3, c4⟩ := hS
  injection q1 with e1 e2 e3
  subst e1; subst e3
  refine ⟨⟨ao1, cap1, _, _, hl0.same (alb _ _), hlow.ao⟩, ⟨ao, cap, ⟨?_, ?_, ?_, c4.up (alb _ _), c1, c2, c3, hk, hl, ?_⟩, ha2⟩, below_then h3 (alb _ _), hlow.lp, hlow.cp, Nat.le_trans h1.size hlp, Nat.le_trans h1.size hcp⟩
  · rw [World.cell?_alloc_at _ _ _ _ rfl]; rfl
  · rw [World.cell?_alloc_at _ _ _ _ rfl]; rfl
  · exact World.frozen?_alloc_at _ _ _ _ rfl
  · intro h0 a ha
    have := ha2 h0 a ha
    have := h3.size
    omega
end
end Go.Proofs.Ytlmgklebikcbjaa
