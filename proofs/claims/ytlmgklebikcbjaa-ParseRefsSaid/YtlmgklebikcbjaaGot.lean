/-
  A row of tokens, their bytes behind them; chapter 11's example. Condition: the rows lie apart from the lexer.
-/
import Derived.Test.YtlmgklebikcbjaaNames
import Derived.Test.YtlmgklebikcbjaaPiece
namespace Go.Proofs.Ytlmgklebikcbjaa
open Go.RowKit
set_option linter.unusedVariables false

/-- the tokens of chapter 11's example, what stands behind each -/
def exS : Nat → List UInt8
  | 0 => [47, 65, 35, 52, 50, 32, 40, 120, 40, 121, 41, 92, 49, 48, 49, 41, 60, 52, 32, 49, 62, 45, 46, 53, 32, 111, 98, 106]
  | 1 => [32, 40, 120, 40, 121, 41, 92, 49, 48, 49, 41, 60, 52, 32, 49, 62, 45, 46, 53, 32, 111, 98, 106]
  | 2 => [60, 52, 32, 49, 62, 45, 46, 53, 32, 111, 98, 106]
  | 3 => [45, 46, 53, 32, 111, 98, 106]
  | 4 => [32, 111, 98, 106]
  | _ => []
def exK : Nat → Int
  | 0 => 4
  | 1 => 3
  | 2 => 3
  | 3 => 2
  | 4 => 9
  | _ => 0
def exN : Nat → Int
  | 3 => -50000
  | _ => 0
def exO : Nat → List UInt8
  | 0 => [65, 66]
  | 1 => [120, 40, 121, 41, 65]
  | 2 => [65]
  | 4 => [111, 98, 106]
  | _ => []
theorem ex_tok (i : Nat) (h : i < 6) : TK (exS i) = .tok (exK i) (exN i) (exO i) (exS (i + 1)) ∧ (exO i).length ≤ 5 := by
  obtain rfl | rfl | rfl | rfl | rfl | rfl : i = 0 ∨ i = 1 ∨ i = 2 ∨ i = 3 ∨ i = 4 ∨ i = 5 := by omega
  all_goals exact ⟨by decide +kernel, by decide⟩
theorem row_held {p q : Nat} {w w' : World} {base : Nat} {e : TypeId} {size n : Nat} {v : Value} {xs : List Value} (h : w.ownsRow base e size v n xs) (hb : Held w.heap.size p q w w') (hn : ∀ g, v.ownBlock = Option.some g → g ≠ p ∧ g ≠ q) : w'.ownsRow base e size v n xs := by
  obtain ⟨h1, h2⟩ := h
  refine ⟨h1, ?_⟩
  rcases h2 with h2 | ⟨g, cap, cur, hv, hg, hh, h3⟩
  · exact .inl h2
  · refine .inr ⟨g, cap, cur, hv, hg, ?_, h3⟩
    have h4 := hn g (by rw [hv]; rfl)
    have hlt : g < w.heap.size := by
      rcases Nat.lt_or_ge g w.heap.size with q | q
      · exact q
      · rw [Array.getElem?_eq_none q] at hh; cases hh
    rw [hb.block g hlt h4.1 h4.2]; exact hh
theorem row_up {w w' : World} {base : Nat} {e : TypeId} {size n : Nat} {v : Value} {xs : List Value} (h : w.ownsRow base e size v n xs) (hb : Below w.heap.size w w') : w'.ownsRow base e size v n xs :=
  World.ownsRow.kept (row := Option.none) h ⟨hb.os, hb.tape, hb.output, hb.size, fun k hk _ => hb.block k hk⟩ (by cases hv : v.ownBlock <;> simp)
theorem Sl.held {p q : Nat} {w w' : World} {v : Value} {l : List UInt8} (h : Sl w v l) (hb : Held w.heap.size p q w w') (hn : ∀ g, v.ownBlock = Option.some g → g ≠ p ∧ g ≠ q) : Sl w' v l := by
  obtain ⟨ao, cap, rfl, h2, h3, h4, h5⟩ := h
  exact ⟨ao, cap, rfl, h2, h3, h4, h5.held hb (fun _ a ha => hn a.block (by subst ha; rfl))⟩
theorem Sl.grown {w w' : World} {v : Value} {l : List UInt8} {row : Option Nat} (h : Sl w v l) (hg : w.grownBy w' row) (hn : ∀ g, v.ownBlock = Option.some g → row ≠ Option.some g) : Sl w' v l := by
  obtain ⟨ao, cap, rfl, h2, h3, h4, h5⟩ := h
  refine ⟨ao, cap, rfl, h2, h3, h4, ?_⟩
  rcases h5 with h5 | ⟨b, off, rfl, h6⟩
  · exact .inl h5
  · refine .inr ⟨b, off, rfl, fun j hj => ?_⟩
    have h7 := h6 j hj
    rw [World.cell?_of_block (w := w) (hg.block b (World.block_lt_of_cell? w _ h7) (fun q => hn b rfl q.symm))]
    exact h7

/-- the values of tokens in a row, from number i on -/
def tcells : Nat → List (Int × Value) → List Value
  | _, [] => []
  | i, (a, u) :: L => .int .i64 (exK i) :: .int .i64 a :: .int .i64 (exN i) :: u :: tcells (i + 1) L
theorem tcells_app : ∀ (L : List (Int × Value)) (i : Nat) (a : Int) (u : Value), tcells i (L ++ [(a, u)]) = tcells i L ++ [.int .i64 (exK (i + L.length)), .int .i64 a, .int .i64 (exN (i + L.length)), u]
  | [], i, a, u => by simp [tcells]
  | (b, v) :: L, i, a, u => by
    rw [List.cons_append, tcells, tcells, tcells_app L (i + 1) a u, List.length_cons, show i + 1 + L.length = i + (L.length + 1) by omega]
    rfl

/-- the row of the tokens that were read, their bytes behind them -/
structure Got (w : World) (B lp cp : Nat) (vg : Value) (L : List (Int × Value)) : Prop where
  row : w.ownsRow B 28 4 vg L.length (tcells 0 L)
  sl : ∀ i p, L[i]? = Option.some p → Sl w p.2 (exO i) ∧ ∀ g, p.2.ownBlock = Option.some g → g ≠ lp ∧ g ≠ cp ∧ g < w.heap.size ∧ vg.ownBlock ≠ Option.some g
  ne : ∀ g, vg.ownBlock = Option.some g → g ≠ lp ∧ g ≠ cp
theorem Got.nil (w : World) (B lp cp : Nat) : Got w B lp cp (.slice Option.none 0 0) [] := ⟨World.ownsRow_nil _ _ _ _, fun i p h => by simp at h, fun g h => by cases h⟩
theorem Got.held {w w' : World} {B lp cp : Nat} {vg : Value} {L : List (Int × Value)} (h : Got w B lp cp vg L) (hb : Held w.heap.size lp cp w w') : Got w' B lp cp vg L :=
  ⟨row_held h.row hb h.ne, fun i p hp => ⟨(h.sl i p hp).1.held hb (fun g hg => by have := (h.sl i p hp).2 g hg; exact ⟨this.1, this.2.1⟩), fun g hg => by have := (h.sl i p hp).2 g hg; exact ⟨this.1, this.2.1, Nat.lt_of_lt_of_le this.2.2.1 hb.size, this.2.2.2⟩⟩, h.ne⟩
theorem Got.up {w w' : World} {B lp cp : Nat} {vg : Value} {L : List (Int × Value)} (h : Got w B lp cp vg L) (hb : Below w.heap.size w w') : Got w' B lp cp vg L := h.held (Held.of_below hb)
/-- one token more -/
theorem Got.push {w w' : World} {B lp cp : Nat} {vg v' : Value} {L : List (Int × Value)} {a : Int} {u : Value} (h : Got w B lp cp vg L)
    (hr : w'.ownsRow B 28 4 v' (L.length + 1) (tcells 0 L ++ [.int .i64 (exK L.length), .int .i64 a, .int .i64 (exN L.length), u]))
    (hg : w.grownBy w' vg.ownBlock) (hm : Moved w vg v') (hlp : lp < w.heap.size) (hcp : cp < w.heap.size)
    (hu : Sl w u (exO L.length)) (hn : ∀ g, u.ownBlock = Option.some g → g ≠ lp ∧ g ≠ cp ∧ g < w.heap.size ∧ vg.ownBlock ≠ Option.some g) : Got w' B lp cp v' (L ++ [(a, u)]) := by
  have hne' : ∀ g, v'.ownBlock = Option.some g → vg.ownBlock = Option.some g ∨ g = w.heap.size := by
    intro g hq
    rcases hm with hm | hm
    · left; rw [← hm]; exact hq
    · right; rw [hm] at hq; injection hq with hq; exact hq.symm
  have key : ∀ (x : Value) (l : List UInt8), Sl w x l → (∀ g, x.ownBlock = Option.some g → g ≠ lp ∧ g ≠ cp ∧ g < w.heap.size ∧ vg.ownBlock ≠ Option.some g) → Sl w' x l ∧ ∀ g, x.ownBlock = Option.some g → g ≠ lp ∧ g ≠ cp ∧ g < w'.heap.size ∧ v'.ownBlock ≠ Option.some g := by
    intro x l h1 h2
    refine ⟨h1.grown hg (fun g q => (h2 g q).2.2.2), fun g q => ?_⟩
    obtain ⟨q1, q2, q3, q4⟩ := h2 g q
    refine ⟨q1, q2, Nat.lt_of_lt_of_le q3 hg.size, fun q5 => ?_⟩
    rcases hne' g q5 with q6 | q6
    · exact q4 q6
    · omega
  refine ⟨?_, ?_, ?_⟩
  · rw [tcells_app, Nat.zero_add, List.length_append, List.length_singleton]; exact hr
  · intro i p hp
    rcases Nat.lt_trichotomy i L.length with q | q | q
    · rw [List.getElem?_append_left q] at hp
      exact key _ _ (h.sl i p hp).1 (h.sl i p hp).2
    · subst q
      simp at hp
      subst hp
      exact key _ _ hu hn
    · rw [List.getElem?_eq_none (by simp; omega)] at hp; cases hp
  · intro g q
    rcases hne' g q with q6 | q6
    · exact h.ne g q6
    · exact ⟨by omega, by omega⟩

theorem news_cells (w : World) (g : Nat) (hg : g = w.heap.size) (vs : List Value) (e : TypeId) : ∀ j u, vs[j]? = Option.some u → (w.alloc (.cells vs.toArray e)).cell? ((⟨g, 0, Option.none⟩ : Addr).add j) = Option.some u := by
  subst hg
  intro j u hj
  have e1 : (⟨w.heap.size, 0, Option.none⟩ : Addr).add j = ⟨w.heap.size, j, Option.none⟩ := by cases j <;> simp [Addr.add]
  rw [e1, World.cell?_alloc_at _ _ _ _ rfl]
  simpa using hj
end Go.Proofs.Ytlmgklebikcbjaa
