/-
  The document's reader of operators: what it stands on. Condition: the parser stands in its bytes.
-/
import Derived.Test.YtjkoiknjffldjaaGreatDoorHi
import Derived.Test.YtjkoiknjffldjaaGreatDoorKSao
/-
  The document's reader of operators: what it stands on. Condition: the parser stands in its bytes.
-/
namespace Go.Proofs.YtjkoiknjffldjaaGreatDoor
open Go.RowKit
set_option linter.unusedVariables false

/-- block rp is the document's reader over the parser pp -/
structure Rr (w0 w : World) (rp pp : Nat) (b : List UInt8) (i : Nat) (s : List UInt8) : Prop where
  pd : Pd true 28 w0 w pp b i s
  c0 : w0.cell? ⟨rp, 0, none⟩ = some (.pointer (some ⟨pp, 0, none⟩))
  ne : rp ≠ pp
section
variable {w0 w w' : World} {rp pp : Nat} {b s t : List UInt8} {i j : Nat}
theorem Rr.r0 (h : Rr w0 w rp pp b i s) : w.cell? ⟨rp, 0, none⟩ = some (.pointer (some ⟨pp, 0, none⟩)) := h.pd.cx.held.cell' h.c0 h.ne h.ne
theorem Rr.c1 (h : Rr w0 w rp pp b i s) : w.cell? ⟨pp, 1, none⟩ = some (.int .i64 i) := h.pd.cx.c1
theorem Rr.f1 (h : Rr w0 w rp pp b i s) : w.frozen? ⟨pp, 1, none⟩ = false := h.pd.cx.f1
theorem Rr.fresh (h : Rr w0 w rp pp b i s) : Rr w w rp pp b i s := ⟨h.pd.fresh, h.r0, h.ne⟩
theorem Rr.join (h : Rr w0 w rp pp b i s) (k : Pd true 28 w w' pp b j t) : Rr w0 w' rp pp b j t := ⟨h.pd.join k, h.c0, h.ne⟩
theorem Rr.joinR (h : Rr w0 w rp pp b i s) (k : Rr w w' rp pp b j t) : Rr w0 w' rp pp b j t := h.join k.pd
theorem Rr.step (h : Rr w0 w rp pp b i s) {u : Value} {out : List UInt8} (k : Cx w w' pp b j t u out) : Rr w0 w' rp pp b j t := ⟨h.pd.step k, h.c0, h.ne⟩
theorem Rr.below (h : Rr w0 w rp pp b i s) (hb : Below w.heap.size w w') : Rr w0 w' rp pp b i s := ⟨h.pd.below hb, h.c0, h.ne⟩
theorem Rr.off (h : Rr w0 w rp pp b i s) {B r : Nat} (hh : Held B r r w w') (hB : w0.heap.size ≤ B) (hr : w0.heap.size ≤ r) : Rr w0 w' rp pp b i s := ⟨h.pd.off hh hB hr, h.c0, h.ne⟩
theorem Rr.grow (h : Rr w0 w rp pp b i s) {row : Option Nat} (hg : w.grownBy w' row) (hr : ∀ k, row = Option.some k → w0.heap.size ≤ k) : Rr w0 w' rp pp b i s := ⟨h.pd.grow hg hr, h.c0, h.ne⟩
theorem Rr.to (h : Rr w0 w rp pp b i s) (j : Nat) (n : Int) (hn : n = j) (hj : j ≤ b.length) : Rr w0 (w.setCell ⟨pp, 1, none⟩ (.int .i64 n)) rp pp b j (b.drop j) := ⟨h.pd.to j n hn hj, h.c0, h.ne⟩
theorem Rr.lt (h : Rr w0 w rp pp b i s) : rp < w0.heap.size ∧ pp < w0.heap.size := ⟨World.block_lt_of_cell? _ _ h.c0, h.pd.low.1⟩
end
/-- what the document's image gives -/
def RiQ (B : Nat) (w : World) (rp pp : Nat) (b : List UInt8) : ORes → Ending → World → Prop
  | .bad x, e, w' => e = .returned (.tuple #[.agg #[.string ⟨#[]⟩, .slice none 0 0, .slice none 0 0, .int .i64 0], .int .i64 x]) ∧ ∃ j t, Rr w w' rp pp b j t
  | .fin, e, w' => False
  | .op o r, e, w' => ∃ vs : List Value, e = .returned (.tuple #[.agg vs.toArray, .int .i64 0]) ∧ OpV (fun g => B ≤ g ∧ g < w'.heap.size) w' vs o ∧ ∃ j, Rr w w' rp pp b j r
/-- what the document's op gives -/
def RoQ (B : Nat) (w : World) (rp pp : Nat) (b : List UInt8) : ORes → Ending → World → Prop
  | .bad x, e, w' => e = .returned (.tuple #[.agg #[.string ⟨#[]⟩, .slice none 0 0, .slice none 0 0, .int .i64 0], .bool false, .int .i64 x]) ∧ ∃ j t, Rr w w' rp pp b j t
  | .fin, e, w' => e = .returned (.tuple #[.agg #[.string ⟨#[]⟩, .slice none 0 0, .slice none 0 0, .int .i64 0], .bool false, .int .i64 0]) ∧ ∃ j t, Rr w w' rp pp b j t
  | .op o r, e, w' => ∃ vs : List Value, e = .returned (.tuple #[.agg vs.toArray, .bool true, .int .i64 0]) ∧ OpV (fun g => B ≤ g ∧ g < w'.heap.size) w' vs o ∧ ∃ j, Rr w w' rp pp b j r
theorem bik_bad {m : Nat} {a : Int} {res : PRes} {x : Int} (h : bik 0 a res = .bad x) : bik m a res = .bad x := by
  cases res with
  | bad e t => exact h
  | ok d r =>
    unfold bik at h ⊢
    simp only [] at h ⊢
    cases hF : imgF r with
    | inl e => rw [hF] at h; exact h
    | inr y =>
      obtain ⟨z, r2⟩ := y
      rw [hF] at h
      replace h : ORes.op ⟨bBI, [d], z, a⟩ r2 = .bad x := h
      cases h
theorem bik_op {m : Nat} {a : Int} {res : PRes} {o : CO} {r2 : List UInt8} (h : bik 0 a res = .op o r2) : bik m a res = if m = 0 then .op o r2 else .bad 4 := by
  cases res with
  | bad e t => cases h
  | ok d r =>
    unfold bik at h ⊢
    simp only [] at h ⊢
    cases hF : imgF r with
    | inl e => rw [hF] at h; cases h
    | inr y =>
      obtain ⟨z, r3⟩ := y
      rw [hF] at h
      replace h : ORes.op ⟨bBI, [d], z, a⟩ r3 = .op o r2 := h
      show (if m = 0 then ORes.op ⟨bBI, [d], z, a⟩ r3 else .bad 4) = _
      rw [h]
end Go.Proofs.YtjkoiknjffldjaaGreatDoor
