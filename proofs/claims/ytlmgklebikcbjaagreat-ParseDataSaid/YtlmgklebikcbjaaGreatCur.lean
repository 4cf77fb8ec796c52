/-
  A cursor in memory, and what its methods answer. Conditions: the cursor stands in its bytes; sizes.
-/
import Derived.Test.YtlmgklebikcbjaaGreatMem
import Derived.Test.YtlmgklebikcbjaaGreatProg
namespace Go.Proofs.YtlmgklebikcbjaaGreat
open Go.RowKit
set_option linter.unusedVariables false

/-- the byte at a place, -1 where there is none -/
def pk (b : List UInt8) (n : Int) : Int := if 0 ≤ n ∧ n < b.length then b8 b n.toNat else -1

/-- block cp is a cursor over the bytes b, at the place i; the bytes lie in no other block of a cursor -/
structure CurAt (w : World) (cp : Nat) (ao : Option Addr) (cap : Nat) (b : List UInt8) (i : Nat) : Prop where
  c0 : w.cell? ⟨cp, 0, none⟩ = some (.slice ao b.length cap)
  c1 : w.cell? ⟨cp, 1, none⟩ = some (.int .i64 i)
  f1 : w.frozen? ⟨cp, 1, none⟩ = false
  rd : Rd w ao b
  le : b.length ≤ cap
  mx : cap ≤ maxLen
  ni : ao = none → cap = 0
  at_ : i ≤ b.length
  sm : b.length ≤ 1000000
  ne : 0 < b.length → ∀ a, ao = some a → a.block ≠ cp

theorem CurAt.same {w w' : World} {cp : Nat} {ao : Option Addr} {cap : Nat} {b : List UInt8} {i : Nat} (h : CurAt w cp ao cap b i) (hb : Below w.heap.size w w') : CurAt w' cp ao cap b i := by
  have hc := World.block_lt_of_cell? _ _ h.c0
  exact ⟨cell_up' hb h.c0, cell_up' hb h.c1, by rw [hb.frozen (p := ⟨cp, 1, none⟩) hc]; exact h.f1, h.rd.up hb, h.le, h.mx, h.ni, h.at_, h.sm, h.ne⟩

theorem pos_any (cp : Nat) (ao : Option Addr) (cap : Nat) (b : List UInt8) (i : Nat) (w : World) (h : CurAt w cp ao cap b i) :
    Calls Tryz.prog 27 #[.pointer (some ⟨cp, 0, none⟩)] w fun e w' => e = .returned (.int .i64 i) ∧ w = w' := by
  have h1 := h.c1
  go_enter Tryz.func27, Tryz.ntmps27
  go_wp2
  go_ret
  exact ⟨rfl, rfl⟩

theorem len_any (cp : Nat) (ao : Option Addr) (cap : Nat) (b : List UInt8) (i : Nat) (w : World) (h : CurAt w cp ao cap b i) :
    Calls Tryz.prog 56 #[.pointer (some ⟨cp, 0, none⟩)] w fun e w' => e = .returned (.int .i64 b.length) ∧ w = w' := by
  have h1 := h.c0
  have h2 := h.sm
  go_enter Tryz.func56, Tryz.ntmps56
  go_wp2
  go_ret
  exact ⟨rfl, rfl⟩

theorem left_any (cp : Nat) (ao : Option Addr) (cap : Nat) (b : List UInt8) (i : Nat) (w : World) (h : CurAt w cp ao cap b i) :
    Calls Tryz.prog 30 #[.pointer (some ⟨cp, 0, none⟩)] w fun e w' => e = .returned (.int .i64 ((b.length : Int) - i)) ∧ w = w' := by
  have h2 := h.sm
  have h3 := h.at_
  go_enter Tryz.func30, Tryz.ntmps30
  go_wp2_with (first
    | (go_at_call 56; refine (len_any cp ao cap b i _ h).mono ?_; rintro e w' ⟨rfl, rfl⟩)
    | (go_at_call 27; refine (pos_any cp ao cap b i _ h).mono ?_; rintro e w' ⟨rfl, rfl⟩))
  go_ret
  exact ⟨rfl, rfl⟩

theorem pk_in {b : List UInt8} {n : Nat} (h : n < b.length) : pk b n = b8 b n := by unfold pk; rw [if_pos ⟨by omega, by omega⟩]; congr 1
theorem pk_out {b : List UInt8} {n : Int} (h : (b.length : Int) ≤ n) : pk b n = -1 := by unfold pk; rw [if_neg (by omega)]

theorem peek_any (cp : Nat) (ao : Option Addr) (cap : Nat) (b : List UInt8) (i : Nat) (k : Int) (w : World) (h : CurAt w cp ao cap b i) (hk : 0 ≤ k) (hk' : k ≤ 1000000) :
    Calls Tryz.prog 39 #[.pointer (some ⟨cp, 0, none⟩), .int .i64 k] w fun e w' => e = .returned (.int .i64 (pk b (i + k))) ∧ ∃ n, w' = w.drewN n := by
  have h2 := h.sm
  have h3 := h.at_
  obtain ⟨k, rfl⟩ := Int.eq_ofNat_of_zero_le hk
  by_cases hlt : i + k < b.length
  · have hp : pk b ((i : Int) + (k : Int)) = b8 b (i + k) := by
      have := pk_in (b := b) hlt
      simpa using this
    rw [hp]
    obtain ⟨bb, oo, rfl, hs, hc⟩ := h.rd.some (by omega)
    have hck := hc (i + k) hlt
    have h1 := h.c1
    have h0 := h.c0
    have x0 := b8_ge b (i + k)
    have x1 := b8_le b (i + k)
    have d1 : IntKind.i64.wrap ((i : Int) + (k : Int)) = (i : Int) + (k : Int) := IntWalk.i64_in _ (by omega)
    have d2 : (0 : Int) ≤ (i : Int) + (k : Int) := by omega
    have d3 : (i : Int) + (k : Int) < (b.length : Int) := by omega
    have d4 : ((i : Int) + (k : Int)).toNat = i + k := by omega
    have t1 : decide ((b.length : Int) - (i : Int) ≤ (k : Int)) = false := decide_eq_false (by omega)
    have t2 : decide ((k : Int) < -(i : Int)) = false := decide_eq_false (by omega)
    have D1 := hid d1
    have D4 := hid d4
    clear hc hp d1 d4
    go_enter Tryz.func39, Tryz.ntmps39
    go_wp2_with (first
      | (go_at_call 30; refine (left_any cp _ cap b i _ h).mono ?_; rintro e w' ⟨rfl, rfl⟩)
      | (go_at_call 27; refine (pos_any cp _ cap b i _ h).mono ?_; rintro e w' ⟨rfl, rfl⟩))
    have d1 := D1.out
    have d4 := D4.out
    go_quiet (fail)
    go_wp2
    go_ret
    exact ⟨rfl, _, rfl⟩
  · have hp : pk b ((i : Int) + (k : Int)) = -1 := pk_out (by omega)
    rw [hp]
    have t1 : decide ((b.length : Int) - (i : Int) ≤ (k : Int)) = true := decide_eq_true (by omega)
    clear hp
    go_enter Tryz.func39, Tryz.ntmps39
    go_wp2_with (first
      | (go_at_call 30; refine (left_any cp _ cap b i _ h).mono ?_; rintro e w' ⟨rfl, rfl⟩)
      | (go_at_call 27; refine (pos_any cp _ cap b i _ h).mono ?_; rintro e w' ⟨rfl, rfl⟩))
    go_ret
    exact ⟨rfl, 0, rfl⟩
end Go.Proofs.YtlmgklebikcbjaaGreat
