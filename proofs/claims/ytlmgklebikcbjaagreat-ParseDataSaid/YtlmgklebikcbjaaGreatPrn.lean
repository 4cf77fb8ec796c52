/-
  Names and strings as they are printed: the document's PrintName, PrintText; what they return reads as the plain law says. Conditions: sizes.
-/
import Derived.Test.YtlmgklebikcbjaaGreatLawPr
import Derived.Test.YtlmgklebikcbjaaGreatRhex
import Derived.Laws.IdiomStrings
import Derived.Laws.Concat
namespace Go.Proofs.YtlmgklebikcbjaaGreat
open Go.RowKit
set_option linter.unusedVariables false

/-- a string of these bytes -/
def st (l : List UInt8) : ByteArray := ⟨l.toArray⟩
theorem st_size (l : List UInt8) : (st l).size = l.length := by show l.toArray.size = _; simp
theorem st_add {P : Program} (a b : List UInt8) (h : a.length + b.length ≤ 100000000) (w : World) : (Op.stringOp .add (st a) (st b)).run P w = .ok (.string (st (a ++ b))) w := by
  rw [run_string_add_sum w _ _ (by rw [st_size, st_size]; omega)]
  unfold st
  rw [ByteArray.mk_append_mk]

theorem alb1 (w : World) (o : Obj) : Below w.heap.size w (w.alloc o) := Below.alloc (Below.refl _ _) (Nat.le_refl _) _

/-- a string turned into bytes -/
theorem Sl.conv (w : World) (s : List UInt8) (e : TypeId) (hs : s.length ≤ 100000000) :
    Sl (w.drew.alloc (.cells (bytesRow (st s) (grownCap w (st s).size 0 e)) e ((bytesRow (st s) (grownCap w (st s).size 0 e)).size, (bytesRow (st s) (grownCap w (st s).size 0 e)).size + 1))) (.slice (some ⟨w.heap.size, 0, none⟩) (st s).size (grownCap w (st s).size 0 e)) s := by
  have hz : (st s).size = s.length := st_size s
  refine ⟨_, grownCap w (st s).size 0 e, by rw [hz], by rw [← hz]; exact grownCap_ge w _ 0 e, grownCap_le_maxLen w _ 0 e (by rw [hz]; unfold maxLen; omega), (fun q => by cases q), .inr ⟨w.heap.size, 0, rfl, fun j hj => ?_⟩⟩
  have h1 := World.cell?_alloc_mark w.drew (bytesRow (st s) (grownCap w (st s).size 0 e)) e ((bytesRow (st s) (grownCap w (st s).size 0 e)).size, (bytesRow (st s) (grownCap w (st s).size 0 e)).size + 1) (0 + j)
  have hj' : j < (st s).data.size := by show j < s.toArray.size; simpa using hj
  rw [Nat.zero_add] at h1 ⊢
  rw [bytesRow_at _ _ _ hj'] at h1
  refine Eq.trans h1 ?_
  unfold b8 st
  simp [List.getD, hj]
  rfl

theorem hex_at : ∀ n : Fin 16, ((⟨#[48, 49, 50, 51, 52, 53, 54, 55, 56, 57, 97, 98, 99, 100, 101, 102]⟩ : ByteArray).extract n.1 (n.1 + 1)).data = #[hxd n.1] := by decide +kernel

theorem hex_slice (P : Program) (t : TypeId) (ht : P.underlying t = some .string) (n : Nat) (h : n < 16) (w : World) :
    (Instr.slice t (.string ⟨#[48, 49, 50, 51, 52, 53, 54, 55, 56, 57, 97, 98, 99, 100, 101, 102]⟩) (some (.int .u8 (n : Int))) (some (.int .u8 ((n : Int) + 1))) none).run P w = .ok (.string (st [hxd n])) w := by
  have hz : (⟨#[48, 49, 50, 51, 52, 53, 54, 55, 56, 57, 97, 98, 99, 100, 101, 102]⟩ : ByteArray).size = 16 := by decide
  rw [run_slice_string w t _ .u8 .u8 _ _ ht (by omega) (by omega) (by rw [hz]; omega)]
  have e1 : ((n : Int)).toNat = n := by omega
  have e2 : ((n : Int) + 1).toNat = n + 1 := by omega
  rw [e1, e2]
  congr 2
  exact ByteArray.ext (hex_at ⟨n, h⟩)

theorem dgts_snoc (l : List UInt8) (k : Nat) (h : k < l.length) : dgts (l.take (k + 1)) = dgts (l.take k) ++ [hxd ((l.getD k 0).toNat / 16), hxd ((l.getD k 0).toNat % 16)] := by
  rw [List.take_succ_eq_append_getElem h]
  unfold dgts
  rw [List.flatMap_append]
  simp [List.getD, h]
theorem dgts_len (l : List UInt8) : (dgts l).length = 2 * l.length := by
  induction l with
  | nil => rfl
  | cons c l ih => unfold dgts at *; rw [List.flatMap_cons, List.length_append, ih]; simp; omega

end Go.Proofs.YtlmgklebikcbjaaGreat
