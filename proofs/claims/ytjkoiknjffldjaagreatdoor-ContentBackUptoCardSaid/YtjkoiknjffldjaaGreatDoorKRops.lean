/-
  The document's Ops: all operators, by image's contract. Condition: the bytes are no more than 3600000.
-/
import Derived.Test.YtjkoiknjffldjaaGreatDoorKRop
/-
  The document's Ops: all operators, by image's contract. Condition: the bytes are no more than 3600000.
-/
namespace Go.Proofs.YtjkoiknjffldjaaGreatDoor
open Go.RowKit
set_option linter.unusedVariables false

theorem AO.ofT {T : TypeId} {B : Nat} {w : World} {v : Value} {C : List (List Value)} {l : List CO} (h : RowG (fun c => c) OpV 4 T B w v C l) {A : Nat → Prop} (hA : ∀ g, B ≤ g → g < w.heap.size → A g) : AO A w v l := by
  have h1 := h.row.row hA
  rw [List.map_id'] at h1
  rw [All2.len h.rel] at h1
  exact ⟨C, h1, h.wide keepOP hA⟩
/-- the parser that NewParser made, without references -/
theorem Pd.newT {w : World} {v : Value} {b : List UInt8} (h : Sl w v b) (hl : b.length ≤ 3600000) (n : Int) (T : TypeId) : Pd true (dep n) (w.alloc (.cells #[v, .int .i64 0, .int .i64 (min (max n 0) 28), .bool true] T)) (w.alloc (.cells #[v, .int .i64 0, .int .i64 (min (max n 0) 28), .bool true] T)) w.heap.size b 0 b := by
  obtain ⟨ao, cap, rfl, c1, c2, c3, c4⟩ := id h
  refine ⟨?_, ?_, ?_⟩
  · have hc : CurAt (w.alloc (.cells #[.slice ao b.length cap, .int .i64 0, .int .i64 (min (max n 0) 28), .bool true] T)) w.heap.size ao cap b 0 := by
      refine ⟨by rw [World.cell?_alloc_at _ _ _ _ rfl]; rfl, by rw [World.cell?_alloc_at _ _ _ _ rfl]; rfl, by simp, c4.up (alb _ _), c1, c2, c3, Nat.zero_le _, by omega, fun h0 a ha => ?_⟩
      subst ha
      rcases c4 with c4 | ⟨g, off, e, c5⟩
      · first | omega | (rw [c4] at h0; exact absurd h0 (by simp))
      · injection e with e
        subst e
        have := World.block_lt_of_cell? _ _ (c5 0 h0)
        exact Nat.ne_of_lt this
    have h2 := Cx.start hc
    rw [List.drop_zero] at h2
    exact h2
  · rw [World.cell?_alloc_at _ _ _ _ rfl, dep_cast]; rfl
  · rw [World.cell?_alloc_at _ _ _ _ rfl]; rfl

end Go.Proofs.YtjkoiknjffldjaaGreatDoor
