/-
  The document's value, by the contracts of array and dict. Condition: the parser stands in its bytes.
-/
import Derived.Test.YtjkoiknjffldjaaGreatDoorJe
import Derived.Test.YtjkoiknjffldjaaGreatDoorHe
import Derived.Test.YtjkoiknjffldjaaGreatDoorHc
/-
  The document's parser: its state; NewParser; stop. Condition: it stands in its bytes.
-/
namespace Go.Proofs.YtjkoiknjffldjaaGreatDoor
open Go.RowKit
set_option linter.unusedVariables false

/-- block pp is the document's parser: a lexer at place i of b, s stands from there on; dp deep; q: no references -/
structure Pd (q : Bool) (dp : Nat) (w0 w : World) (pp : Nat) (b : List UInt8) (i : Nat) (s : List UInt8) : Prop where
  cx : Cx w0 w pp b i s (.slice none 0 0) []
  d2 : w.cell? ⟨pp, 2, none⟩ = some (.int .i64 dp)
  d3 : w.cell? ⟨pp, 3, none⟩ = some (.bool q)
section
variable {q : Bool} {dp : Nat} {w0 w w' : World} {pp : Nat} {b : List UInt8} {i : Nat} {s : List UInt8}
theorem Pd.low (h : Pd q dp w0 w pp b i s) : pp < w0.heap.size ∧ pp < w.heap.size := by
  obtain ⟨ao, cap, h1, h2⟩ := h.cx.cur
  exact ⟨h2.cp, World.block_lt_of_cell? _ _ h1.c0⟩
theorem Pd.fresh (h : Pd q dp w0 w pp b i s) : Pd q dp w w pp b i s := ⟨h.cx.fresh, h.d2, h.d3⟩
theorem Pd.step (h : Pd q dp w0 w pp b i s) {j : Nat} {t : List UInt8} {u : Value} {out : List UInt8} (k : Cx w w' pp b j t u out) : Pd q dp w0 w' pp b j t :=
  ⟨(h.cx.join k).bare, (k.off 2 (Nat.le_refl _)).trans h.d2, (k.off 3 (by omega)).trans h.d3⟩
theorem Pd.join (h : Pd q dp w0 w pp b i s) {j : Nat} {t : List UInt8} (k : Pd q dp w w' pp b j t) : Pd q dp w0 w' pp b j t := h.step k.cx
/-- what lies behind w0 may change -/
theorem Pd.under (h : Pd q dp w0 w pp b i s) (hb : Below w0.heap.size w w') : Pd q dp w0 w' pp b i s :=
  ⟨h.cx.grow hb (OwnB.nil _ _ _), by rw [hb.cell (p := ⟨pp, 2, none⟩) h.low.1]; exact h.d2, by rw [hb.cell (p := ⟨pp, 3, none⟩) h.low.1]; exact h.d3⟩
theorem Pd.below (h : Pd q dp w0 w pp b i s) (hb : Below w.heap.size w w') : Pd q dp w0 w' pp b i s := h.under (hb.mono h.cx.held.size)
theorem Pd.off (h : Pd q dp w0 w pp b i s) {B r : Nat} (hh : Held B r r w w') (hB : w0.heap.size ≤ B) (hr : w0.heap.size ≤ r) : Pd q dp w0 w' pp b i s := h.under (hh.below hB hr hr)
theorem Pd.to (h : Pd q dp w0 w pp b i s) (j : Nat) (n : Int) (hn : n = j) (hj : j ≤ b.length) : Pd q dp w0 (w.setCell ⟨pp, 1, none⟩ (.int .i64 n)) pp b j (b.drop j) :=
  ⟨h.cx.to j n hn hj, by rw [cset_ne (fun q => by injection q with _ q2; omega)]; exact h.d2, by rw [cset_ne (fun q => by injection q with _ q2; omega)]; exact h.d3⟩
theorem Pd.bel (h : Pd q dp w0 w pp b i s) {B : Nat} (hB : B ≤ w0.heap.size) (hp : B ≤ pp) : Below B w0 w := h.cx.held.below hB hp hp
end

end Go.Proofs.YtjkoiknjffldjaaGreatDoor

/-
  The document's whole: a number, or the object that it names. Condition: the parser stands in its bytes.
-/
namespace Go.Proofs.YtjkoiknjffldjaaGreatDoor
open Go.RowKit
set_option linter.unusedVariables false

/-- what the document's whole gives -/
def RWholeQ (q : Bool) (dp : Nat) (w : World) (pp : Nat) (b : List UInt8) : PRes → Ending → World → Prop
  | .bad _ _, _, _ => False
  | .ok (.mk k n _ _ _) r, e, w' => e = .returned (ob k n (.slice none 0 0)) ∧ ∃ j, Pd q dp w w' pp b j r

end Go.Proofs.YtjkoiknjffldjaaGreatDoor

/-
  The document's whole, behind a token that is wrong: a number, or the object that it names. Condition: the parser stands in its bytes.
-/
namespace Go.Proofs.YtjkoiknjffldjaaGreatDoor
open Go.RowKit
set_option linter.unusedVariables false

end Go.Proofs.YtjkoiknjffldjaaGreatDoor

/-
  The document's whole, the other cases; whole. Condition: the parser stands in its bytes.
-/
namespace Go.Proofs.YtjkoiknjffldjaaGreatDoor
open Go.RowKit
set_option linter.unusedVariables false

end Go.Proofs.YtjkoiknjffldjaaGreatDoor

/-
  The document's value, whatever stands there but arrays and dictionaries. Condition: the parser stands in its bytes.
-/
namespace Go.Proofs.YtjkoiknjffldjaaGreatDoor
open Go.RowKit
set_option linter.unusedVariables false

/-- what a reader of the document gives -/
def RVQ (q : Bool) (dp : Nat) (w : World) (pp : Nat) (b : List UInt8) : PRes → Ending → World → Prop
  | .bad x t, e, w' => e = .returned (.tuple #[ob 0 0 (.slice none 0 0), .int .i64 x]) ∧ ∃ j, Pd q dp w w' pp b j t
  | .ok o r, e, w' => ∃ vs : List Value, e = .returned (.tuple #[.agg vs.toArray, .int .i64 0]) ∧ OV (fun g => w.heap.size ≤ g ∧ g < w'.heap.size) w' vs o ∧ ∃ j, Pd q dp w w' pp b j r

end Go.Proofs.YtjkoiknjffldjaaGreatDoor

/-
  The document's value, by the contracts of array and dict. Condition: the parser stands in its bytes.
-/
namespace Go.Proofs.YtjkoiknjffldjaaGreatDoor
open Go.RowKit
set_option linter.unusedVariables false

end Go.Proofs.YtjkoiknjffldjaaGreatDoor
