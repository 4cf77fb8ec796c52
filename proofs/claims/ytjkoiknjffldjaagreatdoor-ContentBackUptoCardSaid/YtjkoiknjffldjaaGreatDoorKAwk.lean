/-
  Layer 12's awake: an array is read. No condition.
-/
import Derived.Test.YtjkoiknjffldjaaGreatDoorHh
/-
  Layer 12's awake: an array is read. No condition.
-/
namespace Go.Proofs.YtjkoiknjffldjaaGreatDoor
open Go.RowKit
set_option linter.unusedVariables false

def awkB : List UInt8 := [91, 49, 32, 48, 32, 82, 32, 50, 32, 48, 32, 110, 117, 108, 108, 93]
set_option maxRecDepth 100000 in
theorem awk_pv : PV false (.v 9) awkB (.ok (poArr [poRef 1, poInt 2, poInt 0, poNull]) []) := ⟨40, by kernel_rfl⟩

/-- an array's items in memory -/
theorem OV.items {A : Nat → Prop} {w : World} {k n : Int} {vb vl vd : Value} {b : List UInt8} {l : List PO} {d : List (List UInt8 × PO)} (h : OV A w [.int .i64 k, .int .i64 n, vb, vl, vd] (.mk k n b l d)) : ∃ C, OVs A w C l ∧ SlX 5 w vl C := by
  obtain ⟨k9, n9, vb9, vx, vd9, b9, l9, d9, cl, cd, hb, hl, hl9, hd9, hk9, hd9', hz9⟩ := h
  obtain ⟨C, hC, hCc⟩ := ov_of l cl hl9
  exact ⟨C, hC, (hl.slx C (All2.len hC) hCc).1⟩
theorem All2.inv {α β : Type} {R : α → β → Prop} {l : List α} {b : β} {m : List β} (h : All2 R l (b :: m)) : ∃ a t, l = a :: t ∧ R a b ∧ All2 R t m := by cases h with | cons h t => exact ⟨_, _, rfl, h, t⟩

theorem AQ.ok {w w' : World} {o : PO} {e : Ending} (h : AQ w (.ok o []) e w') : ∃ vs : List Value, e = .returned (.tuple #[.agg vs.toArray, .int .i64 0]) ∧ OV (fun g => w.heap.size ≤ g ∧ g < w'.heap.size) w' vs o ∧ Below w.heap.size w w' := by
  have h2 : (if ([] : List UInt8).drop (bl [] false) = [] then (∃ vs : List Value, e = .returned (.tuple #[.agg vs.toArray, .int .i64 0]) ∧ OV (fun g => w.heap.size ≤ g ∧ g < w'.heap.size) w' vs o ∧ Below w.heap.size w w') else (e = .returned (.tuple #[ob 0 0 (.slice none 0 0), .int .i64 3]) ∧ Below w.heap.size w w')) := h
  rw [if_pos (by simp)] at h2
  exact h2

end Go.Proofs.YtjkoiknjffldjaaGreatDoor
