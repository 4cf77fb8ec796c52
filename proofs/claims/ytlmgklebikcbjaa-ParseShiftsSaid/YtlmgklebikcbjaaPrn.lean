/-
  Names and strings as they are printed: the document's PrintName, PrintText; what they return reads as the plain law says. Conditions: sizes.
-/
import Derived.Test.YtlmgklebikcbjaaLawPr
import Derived.Test.YtlmgklebikcbjaaRhex
import Derived.Laws.IdiomStrings
import Derived.Laws.Concat
namespace Go.Proofs.Ytlmgklebikcbjaa
open Go.RowKit
set_option linter.unusedVariables false

/-- a string of these bytes -/
def st (l : List UInt8) : ByteArray := ⟨l.toArray⟩
theorem st_size (l : List UInt8) : (st l).size = l.length := by show l.toArray.size = _; simp
theorem st_add {P : Program} (a b : List UInt8) (h : a.length + b.length ≤ 100000000) (w : World) : (Op.stringOp .add (st a) (st b)).run P w = .ok (.string (st (a ++ b))) w := by
  rw [run_string_add_sum w _ _ (by rw [st_size, st_size]; omega)]
  unfold st
  rw [ByteArray.mk_append_mk]

theorem alb1 (w : World) (o : Obj) : Below w.heap.size w (w.alloc o) := Below.alloc (Below.refl _ _) (Nat.le_refl _) _

/-- a string turned into bytes -/
theorem Sl.conv (w : World) (s : List UInt8) (e : TypeId) (hs : s.length ≤ 100000000) :
    Sl (w.drew.alloc (.cells (bytesRow (st s) (grownCap w (st s).size 0 e)) e ((bytesRow (st s) (grownCap w (st s).size 0 e)).size, (bytesRow (st s) (grownCap w (st s).size 0 e)).size + 1))) (.slice (some ⟨w.heap.size, 0, none⟩) (st s).size (grownCap w (st s).size 0 e)) s := by
  have hz : (st s).size = s.length := st_size s
  refine ⟨_, grownCap w (st s).size 0 e, by rw [hz], by rw [← hz]; exact grownCap_ge w _ 0 e, grownCap_le_maxLen w _ 0 e (by rw [hz]; unfold maxLen; omega), (fun q => by cases q), .inr ⟨w.heap.size, 0, rfl, fun j hj => ?_⟩⟩
  have h1 := World.cell?_alloc_mark w.drew (bytesRow (st s) (grownCap w (st s).size 0 e)) e ((bytesRow (st s) (grownCap w (st s).size 0 e)).size, (bytesRow (st s) (grownCap w (st s).size 0 e)).size + 1) (0 + j)
  have hj' : j < (st s).data.size := by show j < s.toArray.size; simpa using hj
  rw [Nat.zero_add] at h1 ⊢
  rw [bytesRow_at _ _ _ hj'] at h1
  refine Eq.trans h1 ?_
  unfold b8 st
  simp [List.getD, hj]
  rfl

theorem hex_at : ∀ n : Fin 16, ((⟨#[48, 49, 50, 51, 52, 53, 54, 55, 56, 57, 97, 98, 99, 100, 101, 102]⟩ : ByteArray).extract n.1 (n.1 + 1)).data = #[hxd n.1] := by decide +kernel

theorem hex_slice (P : Program) (t : TypeId) (ht : P.underlying t = some .string) (n : Nat) (h : n < 16) (w : World) :
    (Instr.slice t (.string ⟨#[48, 49, 50, 51, 52, 53, 54, 55, 56, 57, 97, 98, 99, 100, 101, 102]⟩) (some (.int .u8 (n : Int))) (some (.int .u8 ((n : Int) + 1))) none).run P w = .ok (.string (st [hxd n])) w := by
  have hz : (⟨#[48, 49, 50, 51, 52, 53, 54, 55, 56, 57, 97, 98, 99, 100, 101, 102]⟩ : ByteArray).size = 16 := by decide
  rw [run_slice_string w t _ .u8 .u8 _ _ ht (by omega) (by omega) (by rw [hz]; omega)]
  have e1 : ((n : Int)).toNat = n := by omega
  have e2 : ((n : Int) + 1).toNat = n + 1 := by omega
  rw [e1, e2]
  congr 2
  exact ByteArray.ext (hex_at ⟨n, h⟩)

set_option maxRecDepth 100000 in
theorem two_any (c : UInt8) (w : World) :
    Calls Try.prog 82 #[.int .u8 (c8 c)] w fun e w' => e = .returned (.string (st [hxd (c.toNat / 16), hxd (c.toNat % 16)])) ∧ ∃ n, w' = w.drewN n := by
  have hc := c.toNat_lt
  have hsh : ∀ t, binOp .shr t (.int .u8 (c8 c)) (.int .u64 4) = pure (.int .u8 ((c.toNat / 16 : Nat) : Int)) := fun t => by
    rw [binOp_shr, shift_shr_any _ _ _ _ (by decide)]
    congr 2
  have hand : ∀ t, binOp .and t (.int .u8 (c8 c)) (.int .u8 15) = pure (.int .u8 ((c.toNat % 16 : Nat) : Int)) := fun t => by
    have e1 := u8_and_nat c.toNat 15 (by omega) (by decide)
    have e2 : c.toNat &&& 15 = c.toNat % 16 := Nat.and_two_pow_sub_one_eq_mod c.toNat 4
    rw [e2] at e1
    show pure (Value.int .u8 (bits .and .u8 (c.toNat : Int) ((15 : Nat) : Int))) = _
    rw [e1]
  have h1 := fun w => hex_slice Try.prog 9 (by kernel_rfl) (c.toNat / 16) (by omega) w
  have h2 := fun w => hex_slice Try.prog 9 (by kernel_rfl) (c.toNat % 16) (by omega) w
  have q1 : c.toNat / 16 < 16 := by omega
  have q2 : c.toNat % 16 < 16 := by omega
  have hadd := fun w => st_add (P := Try.prog) [hxd (c.toNat / 16)] [hxd (c.toNat % 16)] (by simp) w
  rw [show [hxd (c.toNat / 16)] ++ [hxd (c.toNat % 16)] = [hxd (c.toNat / 16), hxd (c.toNat % 16)] from rfl] at hadd
  generalize c.toNat / 16 = A at *
  generalize c.toNat % 16 = B at *
  go_enter Try.func82, Try.ntmps82
  go_wp2
  go_quiet (fail)
  go_wp2
  go_ret
  exact ⟨rfl, _, rfl⟩

theorem dgts_snoc (l : List UInt8) (k : Nat) (h : k < l.length) : dgts (l.take (k + 1)) = dgts (l.take k) ++ [hxd ((l.getD k 0).toNat / 16), hxd ((l.getD k 0).toNat % 16)] := by
  rw [List.take_succ_eq_append_getElem h]
  unfold dgts
  rw [List.flatMap_append]
  simp [List.getD, h]
theorem dgts_len (l : List UInt8) : (dgts l).length = 2 * l.length := by
  induction l with
  | nil => rfl
  | cons c l ih => unfold dgts at *; rw [List.flatMap_cons, List.length_append, ih]; simp; omega

set_option maxHeartbeats 400000 in
set_option maxRecDepth 100000 in
theorem digits2_any (v : Value) (l : List UInt8) (w : World) (h : Sl w v l) (hl : l.length ≤ 1000000) :
    Calls Try.prog 54 #[v] w fun e w' => e = .returned (.string (st (dgts l))) ∧ ∃ n, w' = w.drewN n := by
  obtain ⟨ao, cap, rfl, h1, h2, h3, h4⟩ := h
  go_enter Try.func54, Try.ntmps54
  go_wp2
  go_loopw [3, 4] (fun v i wr => ∃ k : Nat, k ≤ l.length ∧ i = .int .i64 k ∧ v = .string (st (dgts (l.take k))) ∧ ∃ n, wr = w.drewN n) (fun _ i _ => l.length - (intOf i).toNat)
  case atStart => exact ⟨0, Nat.zero_le _, rfl, rfl, 0, rfl⟩
  case round =>
    obtain ⟨k, hk, rfl, rfl, n, rfl⟩ := hrel
    by_cases hlt : k < l.length
    · obtain ⟨b1, o1, rfl, hs1, hc1⟩ := (h4.drewN n).some (by omega)
      specialize hc1 k hlt
      have hsn := dgts_snoc l k hlt
      have hb8 : b8 l k = c8 (l.getD k 0) := rfl
      rw [hb8] at hc1
      clear hb8
      generalize l.getD k 0 = x at hc1 hsn
      have hadd : ∀ w : World, (Op.stringOp .add (st (dgts (l.take k))) (st [hxd (x.toNat / 16), hxd (x.toNat % 16)])).run Try.prog w = .ok (.string (st (dgts (l.take (k + 1))))) w := fun w => by
        rw [hsn]; exact st_add _ _ (by rw [dgts_len, List.length_take]; simp; omega) w
      clear hsn
      go_wp2_with (go_at_call 82; (with_reducible refine (two_any x _).mono ?_); rintro e w1 ⟨rfl, m, rfl⟩)
      go_roundw
      case rel => exact ⟨k + 1, by omega, by go_num, rfl, n + m, by simp⟩
      case measure => simp [intOf]; omega
    · go_wp2
      go_ret
      exact ⟨by rw [List.take_of_length_le (by omega)]; rfl, n, rfl⟩
end Go.Proofs.Ytlmgklebikcbjaa
