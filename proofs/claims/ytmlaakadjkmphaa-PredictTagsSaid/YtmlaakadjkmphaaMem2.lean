/-
  More on rows: at, told with lengths of their own; a row that is filled from its front.
-/
import Derived.Test.YtmlaakadjkmphaaSpec
namespace Go.Proofs.Ytmlaakadjkmphaa
open Go.RowKit
set_option linter.unusedVariables false

theorem at_any' (ar aa : Option Addr) (nr na cr ca : Nat) (lr la : List UInt8) (i c : Nat) (w : World) (hnr : nr = lr.length) (hna : na = la.length) (hr : Rd w ar lr) (ha : Rd w aa la) (hi : i < nr) (hl : la = [] ∨ la.length = nr) (hm : nr ≤ 20000) (hc : 1 ≤ c) (hc' : c ≤ 4) :
    Calls Try.prog 19 #[.slice ar nr cr, .slice aa na ca, .int .i64 i, .int .i64 c] w fun e w' =>
      e = .returned (.agg #[.int .i64 (lfI lr i c), .int .i64 (b8 la i), .int .i64 (lfI la i c)]) ∧ Below w.heap.size w w' := by
  subst hnr; subst hna
  exact at_any ar aa cr ca lr la i c w hr ha hi hl hm hc hc'

theorem OwnB.rd {w : World} {base n cap : Nat} {e : TypeId} {ao : Option Addr} {l : List UInt8} (h : OwnB w base e (.slice ao n cap) l) : Rd w ao l := by
  obtain ⟨ao', cap', h1, _, _, h2⟩ := Rd.own h
  injection h1 with h3
  rw [h3]; exact h2

/-- the first k are those, the rest are noughts -/
def mix (l : List UInt8) (n : Nat) : List UInt8 := l ++ List.replicate (n - l.length) 0
theorem mix_length {l : List UInt8} {n : Nat} (h : l.length ≤ n) : (mix l n).length = n := by simp [mix]; omega
theorem mix_nil (n : Nat) : mix [] n = List.replicate n 0 := by simp [mix]
theorem mix_full {l : List UInt8} {n : Nat} (h : l.length = n) : mix l n = l := by simp [mix, h]
theorem mix_set {l : List UInt8} {n : Nat} (h : l.length < n) (x : UInt8) : (mix l n).set l.length x = mix (l ++ [x]) n := by
  unfold mix
  rw [List.set_append, if_neg (by omega), Nat.sub_self, List.append_assoc]
  congr 1
  rw [show n - l.length = (n - (l.length + 1)) + 1 by omega, List.replicate_succ]
  simp
theorem b8_mix {l : List UInt8} {n k : Nat} (h : k < l.length) : b8 (mix l n) k = b8 l k := by
  simp [b8, mix, List.getD, List.getElem?_append_left h]
theorem lfI_mix {l : List UInt8} {n k c : Nat} (h : l.length = k) (hc : 1 ≤ c) : lfI (mix l n) k c = lfI l k c := by
  unfold lfI
  by_cases q : c ≤ k
  · rw [if_pos q, if_pos q, b8_mix (by omega)]
  · rw [if_neg q, if_neg q]
theorem lfI_ge (l : List UInt8) (k c : Nat) : 0 ≤ lfI l k c := by unfold lfI; split; exact b8_ge _ _; decide
theorem lfI_le (l : List UInt8) (k c : Nat) : lfI l k c ≤ 255 := by unfold lfI; split; exact b8_le _ _; decide
theorem guessI_ge (t a b c : Int) (ha : 0 ≤ a) (hb : 0 ≤ b) (hc : 0 ≤ c) : 0 ≤ guessI t a b c := by
  unfold guessI paethI
  repeat' split
  all_goals omega
theorem guessI_le (t a b c : Int) (ha : a ≤ 255) (hb : b ≤ 255) (hc : c ≤ 255) : guessI t a b c ≤ 255 := by
  unfold guessI paethI
  repeat' split
  all_goals omega
theorem bv_byteOf (n : Int) : bv (byteOf n) = .int .u8 (n % 256) := by
  unfold bv; rw [byteOf_nat]
theorem wrap8 (n : Int) : IntKind.u8.wrap n = n % 256 := by
  simp [IntKind.wrap, IntKind.signed, IntKind.bits]
end Go.Proofs.Ytmlaakadjkmphaa
