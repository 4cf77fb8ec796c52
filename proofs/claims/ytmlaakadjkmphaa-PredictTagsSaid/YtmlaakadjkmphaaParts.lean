/-
  predict.parts: bytes cut into rows of n: each row reads as its bytes; whether nothing is left. Conditions: lengths.
-/
import Derived.Test.YtmlaakadjkmphaaMem
import Derived.Test.YtmlaakadjkmphaaProg
import Derived.Test.YtmlaakadjkmphaaSame
namespace Go.Proofs.Ytmlaakadjkmphaa
open Go.RowKit
set_option linter.unusedVariables false

theorem sl22 : (Try.prog.info? 26).map (fun i => (i.zero, i.size, i.bytes)) = some (some (.slice none 0 0), 1, 24) := by kernel_rfl

/-- row r of bytes in rows of n -/
def rowAt (l : List UInt8) (n r : Nat) : List UInt8 := (l.drop (r * n)).take n

/-- v is an owned row of slices, which read as these rows -/
def OwnRows (w0 w : World) (base : Nat) (v : Value) (rs : List (List UInt8)) : Prop :=
  ∃ xs : List Value, w.ownsRow base 26 1 v rs.length xs ∧ ∀ r (h : r < rs.length), ∃ x, xs[r]? = some x ∧ Sl w0 x rs[r]

theorem OwnRows.up {w0 w w' : World} {base : Nat} {v : Value} {rs : List (List UInt8)} (h : OwnRows w0 w base v rs) (hb : Below w.heap.size w w') : OwnRows w0 w' base v rs := by
  obtain ⟨xs, h1, h2⟩ := h
  exact ⟨xs, World.ownsRow.kept (row := none) h1 ⟨hb.os, hb.tape, hb.output, hb.size, fun k hk _ => hb.block k hk⟩ (by cases hv : v.ownBlock <;> simp), h2⟩

def rowsOf (l : List UInt8) (n k : Nat) : List (List UInt8) := (List.range k).map (rowAt l n)
theorem rowsOf_length (l : List UInt8) (n k : Nat) : (rowsOf l n k).length = k := by simp [rowsOf]
theorem rowsOf_get (l : List UInt8) (n k r : Nat) (h : r < (rowsOf l n k).length) : (rowsOf l n k)[r] = rowAt l n r := by simp [rowsOf]

set_option maxHeartbeats 1600000 in
theorem parts_any (v : Value) (l : List UInt8) (n : Nat) (w : World) (h : Sl w v l) (hl : l.length ≤ 20000) (hn : 1 ≤ n) (hn' : n ≤ 20001) :
    Calls Try.prog 18 #[v, .int .i64 n] w fun e w' => ∃ u, e = .returned (.tuple #[u, .bool (decide (l.length % n = 0))]) ∧ OwnRows w w' w.heap.size u (rowsOf l n (l.length / n)) ∧ Below w.heap.size w w' := by
  obtain ⟨i0, hi, hz0, hz1, hz2⟩ := info_parts sl22
  go_enter Try.func18, Try.ntmps18
  go_wp2_with fail
  go_loopw [0, 6] (fun b o wr => ∃ k : Nat, k * n ≤ l.length ∧ Sl w b (l.drop (k * n)) ∧ OwnRows w wr w.heap.size o (rowsOf l n k) ∧ Below w.heap.size w wr) (fun b _ _ => match b with | .slice _ q _ => q | _ => 0)
  case atStart => exact ⟨0, by omega, by simpa using h, ⟨[], World.ownsRow_nil _ _ _ _, fun r hr => by simp [rowsOf] at hr⟩, Below.refl _ _⟩
  case round =>
    obtain ⟨k, hk, hb, hown, hbel⟩ := hrel
    have hb0 := hb
    obtain ⟨ao, cap, hve, c1, c2, c3, c4⟩ := hb0
    have hlen : (l.drop (k * n)).length = l.length - k * n := List.length_drop
    obtain ⟨m, hm⟩ : ∃ m, (l.drop (k * n)).length = m := ⟨_, rfl⟩
    rw [hm] at hve c1 hlen
    subst hve
    have hk2 : k * n + m = l.length := by omega
    have HLEN := hid hk2
    have hkl : k ≤ l.length := by have := Nat.le_mul_of_pos_right k hn; omega
    have hml : m ≤ l.length := by omega
    clear hlen hk2
    by_cases hlt : n ≤ m
    · obtain ⟨xs, hx1, hx2⟩ := hown
      have hxl : xs.length = k := by have := hx1.1; simpa [rowsOf] using this
      go_wp2_with (refine wpList_slice_tight by26 rfl _ _ _ rfl _ _ rfl hb _ _ _ rfl rfl (by omega) (by rw [hm]; omega) ?_)
      rintro v' hv'
      have hv0 := hv'
      have ht : ((l.drop (k * n)).take n).length = n := by rw [List.length_take, hm]; omega
      obtain ⟨ao', cap', hve, -, -, -, -⟩ := hv0
      rw [ht] at hve
      subst hve
      go_wp2_with (at_builtin; refine wpList_append_own _ rfl _ _ 22 rfl w.heap.size 26 i0 (.slice none 0 0) 1 24 Try.underlying22 hi hz0 hz1 hz2 rfl (by decide) _ _ _ rfl (hx1.alloc _) ⟨wr.heap.size, 0, none⟩ 1 1 [.slice ao' n cap'] rfl rfl ?c1 ?c2 ?c3 ?c4 ?c5 ?_)
      case c1 =>
        intro j u hj
        cases j with
        | zero => simp at hj; subst hj; rw [show (({ block := wr.heap.size, off := 0 } : Addr).add 0) = ⟨wr.heap.size, 0, none⟩ from rfl, World.cell?_alloc_at _ _ _ _ rfl]; rfl
        | succ j => simp at hj
      case c2 => intro u hu; simp at hu; subst hu; rfl
      case c3 => simp [rowsOf, maxLen]; omega
      case c4 => simp [rowsOf]; omega
      case c5 => have := hbel.size; simp; omega
      intro v2 w2 hown2 hg2 _
      have hb2 : Below w.heap.size w w2 := below_append (hbel.alloc hbel.size _) (hx1.alloc _) hg2 (Nat.le_refl _) (by have := hbel.size; simp; omega)
      clear hg2 hbel hx1
      go_wp2_with (refine wpList_slice_from by26 rfl _ _ rfl _ _ rfl hb _ _ rfl (by omega) (by rw [hm]; omega) ?_)
      rintro v3 hv3
      go_wp2
      go_roundw
      case rel =>
        refine ⟨k + 1, ?_, ?_, ⟨xs ++ [.slice ao' n cap'], ?_, ?_⟩, hb2⟩
        · have := HLEN.out; rw [Nat.succ_mul]; omega
        · rw [Nat.succ_mul]; exact hv3
        · rw [rowsOf_length] at hown2 ⊢; exact hown2
        · intro r hr
          rw [rowsOf_get]
          rw [rowsOf_length] at hr
          by_cases hrk : r < k
          · obtain ⟨x, q1, q2⟩ := hx2 r (by rw [rowsOf_length]; exact hrk)
            rw [rowsOf_get] at q2
            exact ⟨x, by rw [List.getElem?_append_left (by omega)]; exact q1, q2⟩
          · obtain rfl : r = k := by omega
            exact ⟨_, by rw [List.getElem?_append_right (by omega), hxl]; simp, hv'⟩
      case measure =>
        obtain ⟨ao3, cap3, rfl, _⟩ := hv3
        have := HLEN.out
        simp
        omega
    · have hlt' : l.length - k * n < n := by have := HLEN.out; omega
      have hkq : k = l.length / n := by
        refine (Nat.div_eq_of_lt_le (by omega) (by rw [Nat.succ_mul]; omega)).symm
      have hmod : l.length - k * n = l.length % n := by
        have := Nat.div_add_mod l.length n
        rw [← hkq, Nat.mul_comm] at this
        omega
      have HK := hid hkq
      have HM := hid hmod
      clear hkq hmod
      go_wp2
      go_ret2
      refine ⟨_, congrArg (fun b => Ending.returned (.tuple #[_, .bool b])) ?_, ?_, hbel⟩
      · have h1 := HM.out
        have h2 := HLEN.out
        have h3 : m = l.length % n := by omega
        rw [Bool.eq_iff_iff]; simp; omega
      · rw [← HK.out]; exact hown
end Go.Proofs.Ytmlaakadjkmphaa
