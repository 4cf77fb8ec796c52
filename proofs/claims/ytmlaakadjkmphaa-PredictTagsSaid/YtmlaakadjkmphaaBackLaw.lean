/-
  There and back: rows done are undone as they were. Plain lists; no program here.
-/
import Derived.Test.YtmlaakadjkmphaaDecA
import Derived.Test.YtmlaakadjkmphaaDecB
import Derived.Test.YtmlaakadjkmphaaEncA
import Derived.Test.YtmlaakadjkmphaaMem2
import Derived.Test.YtmlaakadjkmphaaNearRows
namespace Go.Proofs.Ytmlaakadjkmphaa
open Go.RowKit
set_option linter.unusedVariables false

theorem b8_at_end {l : List UInt8} {x : UInt8} {k : Nat} (h : l.length = k) : b8 (l ++ [x]) k = x.toNat := by
  subst h; simp [b8, List.getD]

theorem b8_doTo (T : Int) (c : Nat) (above x : List UInt8) (k n : Nat) (h : k < n) : b8 (doTo T c above x n) k = (do1 T c above x k).toNat := by
  induction n with
  | zero => omega
  | succ n ih =>
    rw [doTo]
    by_cases q : k = n
    · subst q; exact b8_at_end (doTo_length _ _ _ _ _)
    · rw [b8_app_left (by rw [doTo_length]; omega), ih (by omega)]

theorem byteOf_b8 (l : List UInt8) (k : Nat) : byteOf (b8 l k) = l.getD k 0 := by
  unfold byteOf
  rw [Int.emod_eq_of_lt (b8_ge l k) (by have := b8_le l k; omega)]
  simp [b8]
theorem byteOf_mod {a b : Int} (h : a % 256 = b % 256) : byteOf a = byteOf b := by unfold byteOf; rw [h]

theorem lfI_take {l : List UInt8} {k c : Nat} (hc : 1 ≤ c) (hk : k ≤ l.length) : lfI (l.take k) k c = lfI l k c := by
  unfold lfI
  by_cases q : c ≤ k
  · rw [if_pos q, if_pos q]
    unfold b8; simp only [List.getD]; rw [List.getElem?_take, if_pos (by omega)]
  · rw [if_neg q, if_neg q]

theorem undo_do (T : Int) (c : Nat) (above x : List UInt8) (n : Nat) (hc : 1 ≤ c) (hx : x.length = n) (k : Nat) (hk : k ≤ n) : undoTo T c above (doTo T c above x n) k = x.take k := by
  induction k with
  | zero => simp [undoTo]
  | succ k ih =>
    rw [undoTo, ih (by omega)]
    have h1 : undo1 T c above (doTo T c above x n) (x.take k) k = x.getD k 0 := by
      unfold undo1
      rw [b8_doTo _ _ _ _ _ _ (by omega), lfI_take hc (by omega)]
      unfold do1
      rw [byteOf_nat, ← byteOf_b8]
      apply byteOf_mod
      omega
    rw [h1, List.take_succ_eq_append_getElem (by omega)]
    simp [List.getD, show k < x.length by omega]

/-- the tag ahead of a row -/
def tagp (tagged : Bool) (T : Int) : List UInt8 := if tagged then [byteOf T] else []
def hd (tagged : Bool) : Nat := if tagged then 1 else 0
theorem tagp_length (tagged : Bool) (T : Int) : (tagp tagged T).length = hd tagged := by cases tagged <;> rfl

def rowOut (tagged : Bool) (T : Int) (c N : Nat) (b : List UInt8) (r : Nat) : List UInt8 :=
  tagp tagged T ++ doTo T c (if r = 0 then [] else rowAt b N (r - 1)) (rowAt b N r) N
theorem rowOut_length (tagged : Bool) (T : Int) (c N : Nat) (b : List UInt8) (r : Nat) : (rowOut tagged T c N b r).length = hd tagged + N := by
  simp [rowOut, tagp_length, doTo_length]
theorem encTo_succ (tagged : Bool) (T : Int) (c N : Nat) (b : List UInt8) (r : Nat) : encTo tagged T c N b (r + 1) = encTo tagged T c N b r ++ rowOut tagged T c N b r := by
  simp [encTo, rowOut, tagp]
theorem encTo_len (tagged : Bool) (T : Int) (c N : Nat) (b : List UInt8) (r : Nat) : (encTo tagged T c N b r).length = r * (hd tagged + N) := by
  induction r with
  | zero => simp [encTo]
  | succ r ih => rw [encTo_succ, List.length_append, ih, rowOut_length, Nat.succ_mul]

theorem encTo_row (tagged : Bool) (T : Int) (c N : Nat) (b : List UInt8) (R r : Nat) (h : r < R) : rowAt (encTo tagged T c N b R) (hd tagged + N) r = rowOut tagged T c N b r := by
  induction R with
  | zero => omega
  | succ R ih =>
    rw [encTo_succ]
    by_cases q : r = R
    · subst q
      unfold rowAt
      rw [← encTo_len tagged T c N b r, List.drop_left', List.take_of_length_le (by rw [rowOut_length]; omega)]
      rfl
    · have h2 : r < R := by omega
      have h3 : (r + 1) * (hd tagged + N) ≤ R * (hd tagged + N) := Nat.mul_le_mul_right _ h2
      rw [Nat.succ_mul] at h3
      have hl := encTo_len tagged T c N b R
      rw [← ih h2]
      unfold rowAt
      rw [List.drop_append_of_le_length (by omega), List.take_append_of_le_length (by rw [List.length_drop]; omega)]

theorem take_row (b : List UInt8) (N r : Nat) : b.take ((r + 1) * N) = b.take (r * N) ++ rowAt b N r := by
  unfold rowAt
  rw [Nat.succ_mul, List.take_add]

theorem dec_enc (tagged : Bool) (T : Int) (c N : Nat) (b : List UInt8) (R : Nat) (hc : 1 ≤ c) (hT : tagged = true → 0 ≤ T ∧ T ≤ 4) (hT1 : tagged = false → T = 1) (hb : R * N ≤ b.length) (r : Nat) (hr : r ≤ R) :
    decTo (hd tagged) c N (encTo tagged T c N b R) r = some (b.take (r * N), if r = 0 then [] else rowAt b N (r - 1)) := by
  induction r with
  | zero => simp [decTo]
  | succ r ih =>
    have hi := ih (by omega)
    have hrow := encTo_row tagged T c N b R r (by omega)
    have hrl : (rowAt b N r).length = N := rowAt_length (Nat.le_trans (Nat.mul_le_mul_right N hr) hb)
    have hu := undo_do T c (if r = 0 then [] else rowAt b N (r - 1)) (rowAt b N r) N hc hrl N (Nat.le_refl _)
    rw [List.take_of_length_le (by omega)] at hu
    rw [if_neg (by omega), Nat.add_sub_cancel, take_row]
    cases tagged with
    | true =>
      obtain ⟨t0, t1⟩ := hT rfl
      have hb0 : b8 (rowOut true T c N b r) 0 = T := by
        unfold rowOut tagp
        simp only [if_true, List.cons_append, List.nil_append, b8, List.getD, List.getElem?_cons_zero, Option.getD_some]
        rw [byteOf_nat]; omega
      have hd1 : (rowOut true T c N b r).drop 1 = doTo T c (if r = 0 then [] else rowAt b N (r - 1)) (rowAt b N r) N := by
        unfold rowOut tagp; simp
      have hrow' : rowAt (encTo true T c N b R) (1 + N) r = rowOut true T c N b r := hrow
      have := decTo_step1 (c := c) (n := N) (r := r) (b := encTo true T c N b R) hi (by rw [hrow', hb0]; omega)
      rw [hrow', hb0, hd1, hu] at this
      exact this
    | false =>
      have hT' := hT1 rfl
      subst hT'
      have hd1 : (rowOut false 1 c N b r).drop 0 = doTo 1 c (if r = 0 then [] else rowAt b N (r - 1)) (rowAt b N r) N := by
        unfold rowOut tagp; simp
      have hrow' : rowAt (encTo false 1 c N b R) (0 + N) r = rowOut false 1 c N b r := hrow
      have := decTo_step0 (c := c) (n := N) (r := r) (b := encTo false 1 c N b R) hi
      rw [hrow', hd1, hu] at this
      exact this

/-- there and back -/
theorem back_law {p : Int} {c m : Nat} {b : List UInt8} {k : Nat} (h : mayB p c m = true) (hb : b.length = c * m * k) :
    ∃ x, encode p c m b = (x, 0) ∧ decode p c m x = (b, 0) ∧ x.length = b.length + (if 10 ≤ p then k else 0) := by
  obtain ⟨b1, b2, b3, b4, b5⟩ := may_bounds h
  have hcm := cm_bounds (c := c) (m := m) (by omega) (by omega) (by omega) (by omega)
  by_cases hp : p = 1
  · subst hp
    exact ⟨b, encode_plain h, decode_plain h, by simp⟩
  · obtain ⟨N, hN⟩ : ∃ N, N = c * m := ⟨_, rfl⟩
    rw [← hN] at hb hcm
    have hmod : b.length % N = 0 := by rw [hb]; exact Nat.mul_mod_right _ _
    have hdiv : b.length / N = k := by rw [hb]; exact Nat.mul_div_cancel_left _ (by omega)
    have he := encode_rows (N := N) h hp (by simpa using hN) hmod
    rw [hdiv, show (c : Int).toNat = c by simp] at he
    refine ⟨_, he, ?_, ?_⟩
    · have hh : hd (decide (10 ≤ p)) = headOf p := by
        unfold hd headOf; by_cases q : 10 ≤ p <;> simp [q]
      have hxl := encTo_len (decide (10 ≤ p)) (tagOf p) c N b k
      rw [hh] at hxl
      have hd2 := dec_enc (decide (10 ≤ p)) (tagOf p) c N b k (by omega) (fun q => by
          have q' := of_decide_eq_true q
          unfold tagOf
          by_cases q15 : p = 15
          · rw [if_pos q15]; omega
          · rw [if_neg q15, if_pos q']; omega) (fun q => by
          have q' := of_decide_eq_false q
          unfold tagOf
          rw [if_neg (by omega), if_neg q']) (by rw [hb, Nat.mul_comm]; omega) k (Nat.le_refl _)
      rw [hh] at hd2
      have hm1 : 1 ≤ headOf p + N := by omega
      have hdr := decode_rows (p := p) (c := c) (m := m) (l := encTo (decide (10 ≤ p)) (tagOf p) c N b k) (M := headOf p + N) (N := N) h hp (by simpa using hN) rfl
        (by rw [hxl]; exact Nat.mul_mod_left _ _) (x := _) rfl
      rw [hxl, Nat.mul_div_cancel _ (by omega), show (c : Int).toNat = c by simp, hd2] at hdr
      rw [hdr, show b.take (k * N) = b from List.take_of_length_le (by rw [hb, Nat.mul_comm]; omega)]
      rfl
    · rw [encTo_len, hb]
      unfold hd
      by_cases q : 10 ≤ p
      · simp [q, Nat.mul_add, Nat.mul_comm, Nat.add_comm]
      · simp [q, Nat.mul_comm]
end Go.Proofs.Ytmlaakadjkmphaa
