/-
  What stands around a byte of plain rows, told by the row and the row above. Plain arithmetic.
-/
import Derived.Test.YtmlaakadjkmphaaMem2
import Derived.Test.YtmlaakadjkmphaaNear
namespace Go.Proofs.Ytmlaakadjkmphaa
open Go.RowKit
set_option linter.unusedVariables false

theorem at_mod {r N k : Nat} (h : k < N) : ((r * N + k : Nat) : Int) % (N : Int) = (k : Int) := by
  have : (r * N + k) % N = k := by rw [Nat.mul_comm, Nat.mul_add_mod, Nat.mod_eq_of_lt h]
  rw [← Int.natCast_emod, this]

theorem near_rows {L row above : List UInt8} {r N k c : Nat} (hk : k < N) (hc : 1 ≤ c)
    (hrow : ∀ j, j < k → b8 L (r * N + j) = b8 row j) (h0 : r = 0 → above = []) (h1 : 0 < r → ∀ j, j < N → b8 L ((r - 1) * N + j) = b8 above j) :
    nrA L ((r * N + k : Nat) : Int) c N = lfI row k c ∧ nrB L ((r * N + k : Nat) : Int) N = b8 above k ∧ nrC L ((r * N + k : Nat) : Int) c N = lfI above k c := by
  have hm := at_mod (r := r) hk
  by_cases hr : r = 0
  · subst hr
    rw [h0 rfl]
    refine ⟨?_, ?_, ?_⟩
    · unfold nrA lfI
      rw [hm]
      by_cases q : c ≤ k
      · rw [if_pos (by omega), if_pos q, ← hrow (k - c) (by omega)]; congr 1; omega
      · rw [if_neg (by omega), if_neg q]
    · unfold nrB; rw [if_neg (by omega), b8_nil]
    · unfold nrC; rw [if_neg (by omega)]; unfold lfI; split <;> simp [b8_nil]
  · have e : r * N = (r - 1) * N + N := by
      rw [← Nat.succ_mul]; congr 1; omega
    have h2 := h1 (by omega)
    refine ⟨?_, ?_, ?_⟩
    · unfold nrA lfI
      rw [hm]
      by_cases q : c ≤ k
      · rw [if_pos (by omega), if_pos q, ← hrow (k - c) (by omega)]; congr 1; omega
      · rw [if_neg (by omega), if_neg q]
    · unfold nrB
      rw [if_pos (by omega), ← h2 k hk]; congr 1; omega
    · unfold nrC lfI
      rw [hm]
      by_cases q : c ≤ k
      · rw [if_pos ⟨by omega, by omega⟩, if_pos q, ← h2 (k - c) (by omega)]; congr 1; omega
      · rw [if_neg (by omega), if_neg q]

theorem b8_app_left {a b : List UInt8} {j : Nat} (h : j < a.length) : b8 (a ++ b) j = b8 a j := by
  simp [b8, List.getD, List.getElem?_append_left h]
theorem b8_app_right {a b : List UInt8} {j : Nat} : b8 (a ++ b) (a.length + j) = b8 b j := by
  simp [b8, List.getD, List.getElem?_append_right]

theorem decTo_succ {head c n : Nat} {b : List UInt8} {r : Nat} {out above : List UInt8} (h : decTo head c n b (r + 1) = some (out, above)) :
    ∃ o a T xd, decTo head c n b r = some (o, a) ∧ out = o ++ undoTo T c a xd n ∧ above = undoTo T c a xd n := by
  cases hd : decTo head c n b r with
  | none => simp [decTo, hd] at h
  | some p =>
    obtain ⟨o, a⟩ := p
    simp only [decTo, hd] at h
    by_cases q : 4 < (if head = 1 then b8 (rowAt b (head + n) r) 0 else 1)
    · rw [if_pos q] at h; cases h
    · rw [if_neg q] at h
      simp only [Option.some.injEq, Prod.mk.injEq] at h
      exact ⟨o, a, _, _, rfl, h.1.symm, h.2.symm⟩

theorem decTo_length {head c n : Nat} {b : List UInt8} (r : Nat) : ∀ {out above : List UInt8}, decTo head c n b r = some (out, above) → out.length = r * n := by
  induction r with
  | zero => intro out above h; simp only [decTo, Option.some.injEq, Prod.mk.injEq] at h; rw [← h.1]; simp
  | succ r ih =>
    intro out above h
    obtain ⟨o, a, T, xd, h1, rfl, h2⟩ := decTo_succ h
    rw [List.length_append, ih h1, undoTo_length, Nat.succ_mul]

/-- what is known of what came out after r rows -/
theorem decTo_inv {head c n : Nat} {b : List UInt8} {r : Nat} {out above : List UInt8} (h : decTo head c n b r = some (out, above)) :
    out.length = r * n ∧ (r = 0 → above = []) ∧ (0 < r → ∀ j, j < n → b8 out ((r - 1) * n + j) = b8 above j) := by
  refine ⟨decTo_length r h, ?_, ?_⟩
  · rintro rfl
    simp only [decTo, Option.some.injEq, Prod.mk.injEq] at h
    exact h.2.symm
  · intro hr j hj
    obtain ⟨r, rfl⟩ : ∃ q, r = q + 1 := ⟨r - 1, by omega⟩
    obtain ⟨o, a, T, xd, h1, rfl, rfl⟩ := decTo_succ h
    rw [Nat.add_sub_cancel, ← decTo_length r h1, b8_app_right]

/-- a byte of the whole, by its row -/
theorem b8_rowAt {b : List UInt8} {m r j : Nat} (hj : j < m) (h : (r + 1) * m ≤ b.length) : b8 (rowAt b m r) j = b8 b (r * m + j) := by
  rw [Nat.succ_mul] at h
  unfold rowAt b8
  simp only [List.getD]
  rw [List.getElem?_take, if_pos hj, List.getElem?_drop]
theorem b8_drop {b : List UInt8} {h j : Nat} : b8 (b.drop h) j = b8 b (h + j) := by
  unfold b8; simp only [List.getD]; rw [List.getElem?_drop]
end Go.Proofs.Ytmlaakadjkmphaa
