/-
  The plain model of a lexer: over the bytes from its place on. No program here.
-/
import Derived.Test.YtlmgklebikcbjaaGreatSign
namespace Go.Proofs.YtlmgklebikcbjaaGreat
set_option linter.unusedVariables false

abbrev c8 (x : UInt8) : Int := (x.toNat : Int)

/-- how many bytes white signs and comments are; true: within a comment -/
def bl : List UInt8 → Bool → Nat
  | [], _ => 0
  | x :: s, false => if wh (c8 x) = true then 1 + bl s false else if c8 x = 37 then 1 + bl s true else 0
  | x :: s, true => if c8 x = 10 ∨ c8 x = 13 then 1 + bl s false else 1 + bl s true

theorem drop_at {b : List UInt8} {i : Nat} (h : i < b.length) : ∃ x, b.drop i = x :: b.drop (i + 1) ∧ c8 x = b8 b i := by
  refine ⟨b[i], (List.getElem_cons_drop h).symm, ?_⟩
  simp [b8, List.getD, h]
theorem drop_end {b : List UInt8} {i : Nat} (h : ¬ i < b.length) : b.drop i = [] := List.drop_eq_nil_of_le (by omega)

/-- where blanks end -/
def bt (b : List UInt8) (i : Nat) (q : Bool) : Nat := i + bl (b.drop i) q

theorem bt_white {b : List UInt8} {i : Nat} (h : i < b.length) (hw : wh (b8 b i) = true) : bt b i false = bt b (i + 1) false := by
  obtain ⟨x, h1, h2⟩ := drop_at h
  unfold bt; rw [h1, bl, if_pos (by rw [h2]; exact hw)]; omega
theorem bt_open {b : List UInt8} {i : Nat} (h : i < b.length) (hw : b8 b i = 37) : bt b i false = bt b (i + 1) true := by
  obtain ⟨x, h1, h2⟩ := drop_at h
  unfold bt; rw [h1, bl, if_neg (by rw [h2, hw]; decide), if_pos (by rw [h2]; exact hw)]; omega
theorem bt_stop {b : List UInt8} {i : Nat} (hw : wh (b8 b i) = false) (hn : ¬ b8 b i = 37) : bt b i false = i := by
  by_cases h : i < b.length
  · obtain ⟨x, h1, h2⟩ := drop_at h
    unfold bt; rw [h1, bl, if_neg (by rw [h2, hw]; decide), if_neg (by rw [h2]; exact hn)]; omega
  · unfold bt; rw [drop_end h]; rfl
theorem bt_end {b : List UInt8} {i : Nat} (h : ¬ i < b.length) (q : Bool) : bt b i q = i := by
  unfold bt; rw [drop_end h]; cases q <;> rfl
theorem bt_in {b : List UInt8} {i : Nat} (h : i < b.length) (h1 : ¬ b8 b i = 10) (h2 : ¬ b8 b i = 13) : bt b i true = bt b (i + 1) true := by
  obtain ⟨x, h3, h4⟩ := drop_at h
  unfold bt; rw [h3, bl, if_neg (by rw [h4]; omega)]; omega
theorem bt_eol {b : List UInt8} {i : Nat} (h : i < b.length) (h1 : b8 b i = 10 ∨ b8 b i = 13) : bt b i true = bt b i false := by
  obtain ⟨x, h3, h4⟩ := drop_at h
  unfold bt
  rw [h3, bl, bl, if_pos (by rw [h4]; exact h1), if_pos]
  rcases h1 with h1 | h1 <;> rw [h4, h1] <;> decide
theorem bl_le : ∀ (s : List UInt8) (q : Bool), bl s q ≤ s.length
  | [], _ => Nat.le_refl _
  | x :: s, false => by have h1 := bl_le s false; have h2 := bl_le s true; rw [bl, List.length_cons]; split <;> (try split) <;> omega
  | x :: s, true => by have h1 := bl_le s false; have h2 := bl_le s true; rw [bl, List.length_cons]; split <;> omega
theorem bt_le {b : List UInt8} {i : Nat} (h : i ≤ b.length) (q : Bool) : bt b i q ≤ b.length := by
  have := bl_le (b.drop i) q
  rw [List.length_drop] at this
  unfold bt; omega
end Go.Proofs.YtlmgklebikcbjaaGreat
