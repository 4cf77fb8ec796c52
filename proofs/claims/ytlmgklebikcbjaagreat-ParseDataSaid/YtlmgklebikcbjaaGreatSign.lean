/-
  Signs: white ones, digits, regular ones; the program's and the document's. No condition.
-/
import Derived.Test.YtlmgklebikcbjaaGreatMem
import Derived.Test.YtlmgklebikcbjaaGreatProg
import Derived.Lib.Strings
import Derived.Lib.Slices
import Derived.Lib.Walk
import Derived.Lib.Bytealg
namespace Go.Proofs.YtlmgklebikcbjaaGreat
open Go.RowKit
set_option linter.unusedVariables false

/-- white signs -/
def wh (c : Int) : Bool := c == 0 || c == 9 || c == 10 || c == 12 || c == 13 || c == 32
/-- a digit's number -/
def dig (c : Int) : Int := if 48 ≤ c ∧ c ≤ 57 then c - 48 else if 97 ≤ c ∧ c ≤ 102 then c - 87 else if 65 ≤ c ∧ c ≤ 70 then c - 55 else -1
/-- delimiters -/
def dl (c : Int) : Bool := c == 40 || c == 41 || c == 60 || c == 62 || c == 91 || c == 93 || c == 123 || c == 125 || c == 47 || c == 37
/-- regular signs -/
def rg (c : Int) : Bool := decide (0 ≤ c) && decide (c ≤ 255) && !wh c && !dl c

theorem wh_cases (c : Int) : c = 0 ∨ c = 9 ∨ c = 10 ∨ c = 12 ∨ c = 13 ∨ c = 32 ∨ ((c == 0) = false ∧ (c == 9) = false ∧ (c == 10) = false ∧ (c == 12) = false ∧ (c == 13) = false ∧ (c == 32) = false) := by
  simp only [beq_eq_false_iff_ne]; omega

theorem white_any (c : Int) (w : World) : Calls Tryz.prog 54 #[.int .i64 c] w fun e w' => e = .returned (.bool (wh c)) ∧ w = w' := by
  rcases wh_cases c with rfl | rfl | rfl | rfl | rfl | rfl | ⟨h1, h2, h3, h4, h5, h6⟩
  all_goals
    go_enter Tryz.func54, Tryz.ntmps54
    go_wp2
    go_ret
    first | exact ⟨rfl, rfl⟩ | exact ⟨ret_bool (by simp [wh, h1, h2, h3, h4, h5, h6]), rfl⟩

theorem rwhite_any (c : Int) (w : World) : Calls Tryz.prog 77 #[.int .i64 c] w fun e w' => e = .returned (.bool (wh c)) ∧ w = w' := by
  rcases wh_cases c with rfl | rfl | rfl | rfl | rfl | rfl | ⟨h1, h2, h3, h4, h5, h6⟩
  all_goals
    go_enter Tryz.func77, Tryz.ntmps77
    go_wp2
    go_ret
    first | exact ⟨rfl, rfl⟩ | exact ⟨ret_bool (by simp [wh, h1, h2, h3, h4, h5, h6]), rfl⟩

theorem digit_any (c : Int) (w : World) : Calls Tryz.prog 110 #[.int .i64 c] w fun e w' => e = .returned (.int .i64 (dig c)) ∧ w = w' := by
  rcases (by omega : c < 48 ∨ (48 ≤ c ∧ c ≤ 57) ∨ (57 < c ∧ c < 65) ∨ (65 ≤ c ∧ c ≤ 70) ∨ (70 < c ∧ c < 97) ∨ (97 ≤ c ∧ c ≤ 102) ∨ 102 < c) with h | h | h | h | h | h | h
  all_goals
    have e1 : dig c = dig c := rfl
    conv at e1 => rhs; unfold dig
    first
      | rw [if_pos (by omega)] at e1
      | rw [if_neg (by omega), if_pos (by omega)] at e1
      | rw [if_neg (by omega), if_neg (by omega), if_pos (by omega)] at e1
      | rw [if_neg (by omega), if_neg (by omega), if_neg (by omega)] at e1
    first | have f1 : decide (48 ≤ c) = true := decide_eq_true (by omega) | have f1 : decide (48 ≤ c) = false := decide_eq_false (by omega)
    first | have f2 : decide (c ≤ 57) = true := decide_eq_true (by omega) | have f2 : decide (c ≤ 57) = false := decide_eq_false (by omega)
    first | have f3 : decide (97 ≤ c) = true := decide_eq_true (by omega) | have f3 : decide (97 ≤ c) = false := decide_eq_false (by omega)
    first | have f4 : decide (c ≤ 102) = true := decide_eq_true (by omega) | have f4 : decide (c ≤ 102) = false := decide_eq_false (by omega)
    first | have f5 : decide (65 ≤ c) = true := decide_eq_true (by omega) | have f5 : decide (65 ≤ c) = false := decide_eq_false (by omega)
    first | have f6 : decide (c ≤ 70) = true := decide_eq_true (by omega) | have f6 : decide (c ≤ 70) = false := decide_eq_false (by omega)
    go_enter Tryz.func110, Tryz.ntmps110
    go_wp2
    go_ret
    exact ⟨ret_int (by omega), rfl⟩
theorem rdigit_any (c : Int) (w : World) : Calls Tryz.prog 116 #[.int .i64 c] w fun e w' => e = .returned (.int .i64 (dig c)) ∧ w = w' := by
  rcases (by omega : c < 48 ∨ (48 ≤ c ∧ c ≤ 57) ∨ (57 < c ∧ c < 65) ∨ (65 ≤ c ∧ c ≤ 70) ∨ (70 < c ∧ c < 97) ∨ (97 ≤ c ∧ c ≤ 102) ∨ 102 < c) with h | h | h | h | h | h | h
  all_goals
    have e1 : dig c = dig c := rfl
    conv at e1 => rhs; unfold dig
    first
      | rw [if_pos (by omega)] at e1
      | rw [if_neg (by omega), if_pos (by omega)] at e1
      | rw [if_neg (by omega), if_neg (by omega), if_pos (by omega)] at e1
      | rw [if_neg (by omega), if_neg (by omega), if_neg (by omega)] at e1
    first | have f1 : decide (48 ≤ c) = true := decide_eq_true (by omega) | have f1 : decide (48 ≤ c) = false := decide_eq_false (by omega)
    first | have f2 : decide (c ≤ 57) = true := decide_eq_true (by omega) | have f2 : decide (c ≤ 57) = false := decide_eq_false (by omega)
    first | have f3 : decide (97 ≤ c) = true := decide_eq_true (by omega) | have f3 : decide (97 ≤ c) = false := decide_eq_false (by omega)
    first | have f4 : decide (c ≤ 102) = true := decide_eq_true (by omega) | have f4 : decide (c ≤ 102) = false := decide_eq_false (by omega)
    first | have f5 : decide (65 ≤ c) = true := decide_eq_true (by omega) | have f5 : decide (65 ≤ c) = false := decide_eq_false (by omega)
    first | have f6 : decide (c ≤ 70) = true := decide_eq_true (by omega) | have f6 : decide (c ≤ 70) = false := decide_eq_false (by omega)
    go_enter Tryz.func116, Tryz.ntmps116
    go_wp2
    go_ret
    exact ⟨ret_int (by omega), rfl⟩

set_option maxHeartbeats 1000000 in
set_option maxRecDepth 100000 in
theorem sindex_any (s : ByteArray) (c : Int) (w : World) :
    Calls Tryz.prog 87 #[.string s, .int .u8 c] w fun e w' => e = .returned (.int .i64 (Lib.indexByte s.data.toList c.toNat.toUInt8)) ∧ w = w' := by
  go_enter Tryz.func87, Tryz.ntmps87
  go_wp2
  rw [run_callFunc_extern Tryz.func98 (by kernel_rfl) (by kernel_rfl) (by kernel_rfl) (e := Extern.BytealgIndexByte.indexByte) (by kernel_rfl), Lib.run_indexByteString]
  simp only [Result.andThen]
  rw [Oper.upon_value]
  go_wp2
  go_ret
  exact ⟨rfl, rfl⟩

set_option maxHeartbeats 1000000 in
theorem index_any (s : ByteArray) (c : Int) (w : World) :
    Calls Tryz.prog 66 #[.string s, .int .u8 c] w fun e w' => e = .returned (.int .i64 (Lib.indexByte s.data.toList c.toNat.toUInt8)) ∧ w = w' := by
  go_enter Tryz.func66, Tryz.ntmps66
  go_wp2_with (go_at_call 87; refine (sindex_any _ _ _).mono ?_; rintro e w' ⟨rfl, rfl⟩)
  go_ret
  exact ⟨rfl, rfl⟩

theorem dl_index : ∀ n : Fin 256, decide (Lib.indexByte [40, 41, 60, 62, 91, 93, 123, 125, 47, 37] ((n.1 : Int)).toNat.toUInt8 < 0) = !dl (n.1 : Int) := by decide +kernel

theorem dl_index' (c : Int) (h : 0 ≤ c) (h' : c ≤ 255) : decide (Lib.indexByte [40, 41, 60, 62, 91, 93, 123, 125, 47, 37] c.toNat.toUInt8 < 0) = !dl c := by
  obtain ⟨n, rfl⟩ := Int.eq_ofNat_of_zero_le h
  exact dl_index ⟨n, by omega⟩

theorem regular_any (c : Int) (w : World) : Calls Tryz.prog 38 #[.int .i64 c] w fun e w' => e = .returned (.bool (rg c)) ∧ ∃ n, w' = w.drewN n := by
  rcases (by omega : c < 0 ∨ 255 < c ∨ (0 ≤ c ∧ c ≤ 255)) with h | h | h
  · have f1 : decide (0 ≤ c) = false := decide_eq_false (by omega)
    go_enter Tryz.func38, Tryz.ntmps38
    go_wp2
    go_ret
    exact ⟨ret_bool (by simp [rg, f1]), 0, rfl⟩
  · have f1 : decide (0 ≤ c) = true := decide_eq_true (by omega)
    have f2 : decide (c ≤ 255) = false := decide_eq_false (by omega)
    go_enter Tryz.func38, Tryz.ntmps38
    go_wp2
    go_ret
    exact ⟨ret_bool (by simp [rg, f2]), 0, rfl⟩
  · have f1 : decide (0 ≤ c) = true := decide_eq_true (by omega)
    have f2 : decide (c ≤ 255) = true := decide_eq_true (by omega)
    have D := dl_index' c h.1 h.2
    have d1 : IntKind.u8.wrap c = c := by rw [wrap8]; omega
    cases hw : wh c with
    | true =>
      go_enter Tryz.func38, Tryz.ntmps38
      go_wp2_with (first
        | (go_at_call 54; refine (white_any _ _).mono ?_; rintro e w' ⟨rfl, rfl⟩; rw [hw]))
      go_ret
      exact ⟨ret_bool (by simp [rg, hw]), 0, rfl⟩
    | false =>
      go_enter Tryz.func38, Tryz.ntmps38
      go_wp2_with (first
        | (go_at_call 54; refine (white_any _ _).mono ?_; rintro e w' ⟨rfl, rfl⟩; rw [hw])
        | (go_at_call 66; refine (index_any _ _ _).mono ?_; rintro e w' ⟨rfl, rfl⟩))
      go_ret
      exact ⟨ret_bool (by simp [rg, f1, f2, hw]), 0, rfl⟩

theorem dl_cases (c : Int) : c = 40 ∨ c = 41 ∨ c = 60 ∨ c = 62 ∨ c = 91 ∨ c = 93 ∨ c = 123 ∨ c = 125 ∨ c = 47 ∨ c = 37 ∨ ((c == 40) = false ∧ (c == 41) = false ∧ (c == 60) = false ∧ (c == 62) = false ∧ (c == 91) = false ∧ (c == 93) = false ∧ (c == 123) = false ∧ (c == 125) = false ∧ (c == 47) = false ∧ (c == 37) = false) := by
  simp only [beq_eq_false_iff_ne]; omega

theorem rregular_any (c : Int) (w : World) : Calls Tryz.prog 48 #[.int .i64 c] w fun e w' => e = .returned (.bool (rg c)) ∧ ∃ n, w' = w.drewN n := by
  rcases (by omega : c < 0 ∨ 255 < c ∨ (0 ≤ c ∧ c ≤ 255)) with h | h | h
  · have f1 : decide (c < 0) = true := decide_eq_true (by omega)
    have g1 : decide (0 ≤ c) = false := decide_eq_false (by omega)
    go_enter Tryz.func48, Tryz.ntmps48
    go_wp2
    go_ret
    exact ⟨ret_bool (by simp [rg, g1]), 0, rfl⟩
  · have f1 : decide (c < 0) = false := decide_eq_false (by omega)
    have f2 : decide (255 < c) = true := decide_eq_true (by omega)
    have g2 : decide (c ≤ 255) = false := decide_eq_false (by omega)
    go_enter Tryz.func48, Tryz.ntmps48
    go_wp2
    go_ret
    exact ⟨ret_bool (by simp [rg, g2]), 0, rfl⟩
  · have f1 : decide (c < 0) = false := decide_eq_false (by omega)
    have f2 : decide (255 < c) = false := decide_eq_false (by omega)
    have g1 : decide (0 ≤ c) = true := decide_eq_true (by omega)
    have g2 : decide (c ≤ 255) = true := decide_eq_true (by omega)
    cases hw : wh c with
    | true =>
      go_enter Tryz.func48, Tryz.ntmps48
      go_wp2_with (first
        | (go_at_call 77; refine (rwhite_any _ _).mono ?_; rintro e w' ⟨rfl, rfl⟩; rw [hw]))
      go_ret
      exact ⟨ret_bool (by simp [rg, hw]), 0, rfl⟩
    | false =>
      rcases dl_cases c with q | q | q | q | q | q | q | q | q | q | ⟨q1, q2, q3, q4, q5, q6, q7, q8, q9, q10⟩
      all_goals
        try subst q
        go_enter Tryz.func48, Tryz.ntmps48
        go_wp2_with (first
          | (go_at_call 77; refine (rwhite_any _ _).mono ?_; rintro e w' ⟨rfl, rfl⟩; rw [hw]))
        go_ret
        first | exact ⟨rfl, 0, rfl⟩ | exact ⟨ret_bool (by simp [rg, g1, g2, hw, dl, q1, q2, q3, q4, q5, q6, q7, q8, q9, q10]), 0, rfl⟩
end Go.Proofs.YtlmgklebikcbjaaGreat
