/-
  Rows that are alike, or of one colour: the differences are noughts behind the first. Plain lists; no program here.
-/
import Derived.Test.YtmlaakadjkmphaaBackLaw
namespace Go.Proofs.Ytmlaakadjkmphaa
open Go.RowKit
set_option linter.unusedVariables false

theorem b8_rowOut {T : Int} {c N : Nat} {b : List UInt8} {r j : Nat} (hj : j < N) : b8 (rowOut true T c N b r) (1 + j) = (do1 T c (if r = 0 then [] else rowAt b N (r - 1)) (rowAt b N r) j).toNat := by
  have : rowOut true T c N b r = [byteOf T] ++ doTo T c (if r = 0 then [] else rowAt b N (r - 1)) (rowAt b N r) N := by simp [rowOut, tagp]
  rw [this, ← b8_doTo T c _ _ j N hj]
  exact b8_app_right (a := [byteOf T])

theorem b8_enc {T : Int} {c N R : Nat} {b : List UInt8} {r j : Nat} (hr : r < R) (hj : j < N) :
    b8 (encTo true T c N b R) (r * (N + 1) + 1 + j) = (do1 T c (if r = 0 then [] else rowAt b N (r - 1)) (rowAt b N r) j).toNat := by
  have h1 := encTo_row true T c N b R r hr
  have h2 : (r + 1) * (hd true + N) ≤ (encTo true T c N b R).length := by rw [encTo_len]; exact Nat.mul_le_mul_right _ hr
  have h3 := b8_rowAt (b := encTo true T c N b R) (m := hd true + N) (r := r) (j := 1 + j) (by show 1 + j < 1 + N; omega) h2
  rw [h1, b8_rowOut hj] at h3
  rw [h3]
  congr 1
  show r * (N + 1) + 1 + j = r * (1 + N) + (1 + j)
  rw [Nat.add_comm N 1]; omega

theorem do1_zero {T : Int} {c : Nat} {above x : List UInt8} {k : Nat} (h : guessI T (lfI x k c) (b8 above k) (lfI above k c) = b8 x k) : ((do1 T c above x k).toNat : Int) = 0 := by
  unfold do1; rw [byteOf_nat, h]; simp
theorem do1_same {T : Int} {c : Nat} {above x : List UInt8} {k : Nat} (h : guessI T (lfI x k c) (b8 above k) (lfI above k c) = 0) : ((do1 T c above x k).toNat : Int) = b8 x k := by
  unfold do1; rw [byteOf_nat, h]
  have := b8_ge x k; have := b8_le x k
  omega

/-- the bytes are those of a row of colours, again and again -/
def Flat (b : List UInt8) (col : Nat → Int) (C N L : Nat) : Prop := ∀ i, i < L → b8 b i = col (i % N % C)

theorem flat_row {b : List UInt8} {col : Nat → Int} {C N K r j : Nat} (h : Flat b col C N (N * K)) (hr : r < K) (hj : j < N) : b8 b (r * N + j) = col (j % C) := by
  have h1 : (r + 1) * N ≤ K * N := Nat.mul_le_mul_right N hr
  rw [Nat.succ_mul] at h1
  rw [h (r * N + j) (by rw [Nat.mul_comm N K]; omega)]
  congr 2
  rw [Nat.mul_comm, Nat.mul_add_mod, Nat.mod_eq_of_lt hj]

theorem flat_up {b : List UInt8} {col : Nat → Int} {C N K r j : Nat} (hb : b.length = N * K) (h : Flat b col C N (N * K)) (hr : r < K) (hj : j < N) :
    b8 (encTo true 2 C N b K) (r * (N + 1) + 1 + j) = if r = 0 then b8 b j else 0 := by
  rw [b8_enc hr hj]
  have hrl : (r + 1) * N ≤ b.length := by rw [hb, Nat.mul_comm N K]; exact Nat.mul_le_mul_right N hr
  by_cases h0 : r = 0
  · subst h0
    rw [if_pos rfl, if_pos rfl, do1_same (by simp [guessI, b8_nil]), b8_rowAt hj hrl]; simp
  · rw [if_neg h0, if_neg h0]
    refine do1_zero ?_
    have e1 : guessI 2 (lfI (rowAt b N r) j C) (b8 (rowAt b N (r - 1)) j) (lfI (rowAt b N (r - 1)) j C) = b8 (rowAt b N (r - 1)) j := by simp [guessI]
    rw [e1, b8_rowAt hj (Nat.le_trans (Nat.mul_le_mul_right N (by omega)) hrl), b8_rowAt hj hrl, flat_row h (by omega) hj, flat_row h hr hj]

theorem flat_left {b : List UInt8} {col : Nat → Int} {C N K r j : Nat} (hC : 1 ≤ C) (hb : b.length = N * K) (h : Flat b col C N (N * K)) (hr : r < K) (hj : j < N) :
    b8 (encTo true 1 C N b K) (r * (N + 1) + 1 + j) = if j < C then b8 b j else 0 := by
  rw [b8_enc hr hj]
  have hrl : (r + 1) * N ≤ b.length := by rw [hb, Nat.mul_comm N K]; exact Nat.mul_le_mul_right N hr
  have e1 : ∀ a b' c' : Int, guessI 1 a b' c' = a := fun a b' c' => by simp [guessI]
  by_cases h0 : j < C
  · rw [if_pos h0, do1_same (by rw [e1]; unfold lfI; rw [if_neg (by omega)]), b8_rowAt hj hrl, flat_row h hr hj]
    have := flat_row (r := 0) h (by omega) hj
    rw [Nat.zero_mul, Nat.zero_add] at this
    rw [this]
  · rw [if_neg h0]
    refine do1_zero ?_
    rw [e1]
    unfold lfI
    rw [if_pos (by omega), b8_rowAt hj hrl, b8_rowAt (by omega) hrl, flat_row h hr hj, flat_row h hr (by omega)]
    congr 1
    obtain ⟨q, rfl⟩ : ∃ q, j = q + C := ⟨j - C, by omega⟩
    rw [Nat.add_sub_cancel, Nat.add_mod_right]

theorem flat_enc {p : Int} {C M K : Nat} {b : List UInt8} (hp : 10 ≤ p) (hp' : p ≤ 14) (hC : 1 ≤ C) (hC' : C ≤ 4) (hM : 1 ≤ M) (hM' : M ≤ 4096) (hb : b.length = C * M * K) :
    encode p C M b = (encTo true (p - 10) C (C * M) b K, 0) ∧ (encTo true (p - 10) C (C * M) b K).length = (C * M + 1) * K := by
  have h : mayB p C M = true := by unfold mayB; exact decide_eq_true ⟨.inr (.inr ⟨hp, by omega⟩), by omega, by omega, by omega, by omega⟩
  have hN : 1 ≤ C * M := Nat.mul_pos hC hM
  have he := encode_rows (N := C * M) (l := b) h (by omega) (by simp) (by rw [hb]; exact Nat.mul_mod_right _ _)
  rw [show decide (10 ≤ p) = true from decide_eq_true hp, show tagOf p = p - 10 by unfold tagOf; rw [if_neg (by omega), if_pos hp], hb, Nat.mul_div_cancel_left _ (by omega), show (C : Int).toNat = C by simp] at he
  refine ⟨he, ?_⟩
  rw [encTo_len]
  show K * (1 + C * M) = _
  rw [Nat.mul_comm, Nat.add_comm 1]
end Go.Proofs.Ytmlaakadjkmphaa
