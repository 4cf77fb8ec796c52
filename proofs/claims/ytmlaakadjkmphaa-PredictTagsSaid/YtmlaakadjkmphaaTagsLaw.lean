/-
  Rows of whatever tags: one row more, behind all rows or behind the last alone. Plain lists; no program here.
-/
import Derived.Test.YtmlaakadjkmphaaBackLaw
namespace Go.Proofs.Ytmlaakadjkmphaa
open Go.RowKit
set_option linter.unusedVariables false

theorem rowAt_app {a b : List UInt8} {m r : Nat} (h : (r + 1) * m ≤ a.length) : rowAt (a ++ b) m r = rowAt a m r := by
  rw [Nat.succ_mul] at h
  unfold rowAt
  rw [List.drop_append_of_le_length (by omega), List.take_append_of_le_length (by rw [List.length_drop]; omega)]
theorem rowAt_end {a b : List UInt8} {m r : Nat} (h : a.length = r * m) (hb : b.length = m) : rowAt (a ++ b) m r = b := by
  unfold rowAt
  rw [← h, List.drop_left' rfl, List.take_of_length_le (by omega)]

theorem decTo_app {c n : Nat} {a b : List UInt8} (r : Nat) (h : r * (1 + n) ≤ a.length) : decTo 1 c n (a ++ b) r = decTo 1 c n a r := by
  induction r with
  | zero => rfl
  | succ r ih =>
    have h2 : r * (1 + n) ≤ a.length := by rw [Nat.succ_mul] at h; omega
    simp only [decTo, ih h2, rowAt_app (b := b) h]

/-- the row undone behind another one -/
def newRow (c n : Nat) (last rw_ : List UInt8) : List UInt8 := undoTo (b8 rw_ 0) c last (rw_.drop 1) n
theorem newRow_length (c n : Nat) (last rw_ : List UInt8) : (newRow c n last rw_).length = n := undoTo_length _ _ _ _ _

theorem decTo_more {c n i : Nat} {a rw_ plain last : List UInt8} (h : decTo 1 c n a i = some (plain, last)) (ha : a.length = i * (1 + n)) (hr : rw_.length = 1 + n) (ht : ¬ 4 < b8 rw_ 0) :
    decTo 1 c n (a ++ rw_) (i + 1) = some (plain ++ newRow c n last rw_, newRow c n last rw_) := by
  have h1 := decTo_app (c := c) (n := n) (a := a) (b := rw_) i (by omega)
  rw [h] at h1
  have h2 : rowAt (a ++ rw_) (1 + n) i = rw_ := rowAt_end ha hr
  have := decTo_step1 (n := n) h1 (by rw [h2]; exact ht)
  rw [h2] at this
  exact this

theorem undo_zero (c : Nat) (x : List UInt8) (k : Nat) (hk : k ≤ x.length) : undoTo 0 c [] x k = x.take k := by
  induction k with
  | zero => simp [undoTo]
  | succ k ih =>
    rw [undoTo, ih (by omega), List.take_succ_eq_append_getElem (by omega)]
    congr 2
    unfold undo1
    rw [show guessI 0 (lfI (x.take k) k c) (b8 [] k) (lfI [] k c) = 0 by simp [guessI], Int.add_zero, byteOf_b8]
    simp [List.getD, show k < x.length by omega]

theorem decode_of {C M k : Nat} {b out last : List UInt8} (hC : 1 ≤ C) (hC' : C ≤ 4) (hM : 1 ≤ M) (hM' : M ≤ 4096) (hb : b.length = k * (1 + C * M)) (h : decTo 1 C (C * M) b k = some (out, last)) : decode 15 C M b = (out, 0) := by
  have hm : mayB 15 C M = true := by unfold mayB; exact decide_eq_true ⟨.inr (.inr ⟨by omega, by omega⟩), by omega, by omega, by omega, by omega⟩
  have hd := decode_rows (p := 15) (c := C) (m := M) (l := b) (M := 1 + C * M) (N := C * M) hm (by omega) (by simp) rfl (by rw [hb]; exact Nat.mul_mod_left _ _) (x := _) rfl
  rw [hb, Nat.mul_div_cancel _ (by omega), show (C : Int).toNat = C by simp, show headOf 15 = 1 from rfl, h] at hd
  exact hd

/-- one row more -/
theorem tags_step {C M i : Nat} {a rw_ plain last : List UInt8} (hC : 1 ≤ C) (hC' : C ≤ 4) (hM : 1 ≤ M) (hM' : M ≤ 4096) (h : decTo 1 C (C * M) a i = some (plain, last)) (ha : a.length = i * (1 + C * M)) (hr : rw_.length = 1 + C * M) (ht : ¬ 4 < b8 rw_ 0) :
    decode 15 C M (a ++ rw_) = (plain ++ newRow C (C * M) last rw_, 0) ∧ decTo 1 C (C * M) (a ++ rw_) (i + 1) = some (plain ++ newRow C (C * M) last rw_, newRow C (C * M) last rw_) := by
  have h1 := decTo_more h ha hr ht
  exact ⟨decode_of hC hC' hM hM' (by rw [List.length_append, ha, hr, Nat.succ_mul]) h1, h1⟩

/-- .. behind the last alone -/
theorem tags_two {C M : Nat} {rw_ last : List UInt8} (hC : 1 ≤ C) (hC' : C ≤ 4) (hM : 1 ≤ M) (hM' : M ≤ 4096) (hl : last.length = C * M) (hr : rw_.length = 1 + C * M) (ht : ¬ 4 < b8 rw_ 0) :
    decode 15 C M ([0] ++ last ++ rw_) = (last ++ newRow C (C * M) last rw_, 0) := by
  have h0 : decTo 1 C (C * M) [] 0 = some ([], []) := rfl
  have hz : ([0] ++ last : List UInt8).length = 1 + C * M := by simp [hl]; omega
  have h1 := decTo_more (rw_ := [0] ++ last) h0 (by simp) hz (by simp [b8])
  have e1 : newRow C (C * M) [] ([0] ++ last) = last := by
    unfold newRow
    rw [show b8 ([0] ++ last) 0 = 0 by simp [b8], show ([0] ++ last : List UInt8).drop 1 = last by simp, undo_zero _ _ _ (by omega), List.take_of_length_le (by omega)]
  rw [e1] at h1
  simp only [List.nil_append] at h1
  have h2 := decTo_more (i := 1) h1 (by rw [hz]; omega) hr ht
  exact decode_of (k := 2) hC hC' hM hM' (by rw [List.length_append, hz, hr]; omega) h2

theorem tags_one {C M : Nat} {rw_ : List UInt8} (hC : 1 ≤ C) (hC' : C ≤ 4) (hM : 1 ≤ M) (hM' : M ≤ 4096) (hr : rw_.length = 1 + C * M) (ht : ¬ 4 < b8 rw_ 0) :
    decode 15 C M rw_ = (newRow C (C * M) [] rw_, 0) := by
  have h0 : decTo 1 C (C * M) [] 0 = some ([], []) := rfl
  have h1 := decTo_more (rw_ := rw_) h0 (by simp) hr ht
  simp only [List.nil_append] at h1
  exact decode_of (k := 1) hC hC' hM hM' (by rw [hr]; omega) h1
end Go.Proofs.Ytmlaakadjkmphaa
