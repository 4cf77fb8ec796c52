/-
  LexNumbers: a number, as it is written, is one token, whole or real, wherever it stands between delimiters; the statement's walk. Condition: none but the numbers' bounds.
-/
import Derived.Test.YtlmgklebikcbjaaNames
import Derived.Test.YtlmgklebikcbjaaDig
import Derived.OpenShut
namespace Go.Proofs.Ytlmgklebikcbjaa
open Go.RowKit
set_option linter.unusedVariables false

/-- what stands behind -/
def ends : Nat → List UInt8
  | 0 => []
  | 1 => [32]
  | 2 => [47, 65]
  | 3 => [91]
  | 4 => [40, 120, 41]
  | 5 => [60, 60]
  | 6 => [37]
  | _ => [62, 62]
theorem ends_facts (r : Nat) (h : r < 8) : rg (hd (ends r)) = false ∧ (ends r).length ≤ 3 ∧ (#[Value.string ⟨#[]⟩, Value.string ⟨#[32]⟩, Value.string ⟨#[47, 65]⟩, Value.string ⟨#[91]⟩, Value.string ⟨#[40, 120, 41]⟩, Value.string ⟨#[60, 60]⟩, Value.string ⟨#[37]⟩, Value.string ⟨#[62, 62]⟩] : Array Value)[r]? = some (.string (st (ends r))) := by
  obtain rfl | rfl | rfl | rfl | rfl | rfl | rfl | rfl : r = 0 ∨ r = 1 ∨ r = 2 ∨ r = 3 ∨ r = 4 ∨ r = 5 ∨ r = 6 ∨ r = 7 := by omega
  all_goals exact ⟨by decide, by decide, rfl⟩
theorem pnum_len (q : Bool) (n : Int) : (pnum q n).length ≤ 30 := by
  have h5 : (trim 5 (five (n.natAbs % 100000))).length ≤ 5 := by
    have : ∀ (k : Nat) (l : List UInt8), (trim k l).length ≤ l.length := by
      intro k; induction k with
      | zero => intro l; exact Nat.le_refl _
      | succ k ih => intro l; rw [trim]; split
                     · have := ih l.dropLast; rw [List.length_dropLast] at this; omega
                     · exact Nat.le_refl _
    exact this 5 _
  have h1 := dec_len 19 n.natAbs
  have h2 := dec_len 19 (n.natAbs / 100000)
  unfold pnum pwh prl
  split <;> split <;> simp <;> omega

set_option maxHeartbeats 1200000 in
set_option maxRecDepth 100000 in
theorem numbers_any (n : Int) (q : Bool) (c : Int) (w : World) (hn : (Lit.int .i64 n).wf = true) (hc : (Lit.int .u8 c).wf = true) :
    Calls Try.prog 8 #[.int .i64 n, .bool q, .int .u8 c] w fun e w' => e = .returned (.bool true) ∧ Below w.heap.size w w' := by
  have hcb := bounds_u8 hc
  have hnb := bounds_i64 hn
  obtain ⟨b, hb⟩ := Int.eq_ofNat_of_zero_le (show 0 ≤ c by omega)
  subst hb
  go_enter Try.func8, Try.ntmps8
  by_cases hin : (decide (-214748364799999 ≤ n) && decide (n ≤ 214748364799999)) = true
  case neg =>
    have hin := Bool.eq_false_iff.2 hin
    have HI := hid hin
    clear hin
    go_wp2_with (first | (go_at_call 15; refine (awake_any _).mono ?_; rintro e w1 ⟨rfl, hb1⟩) | (go_at_call 27; refine (in_any n _).mono ?_; rw [HI.out]; rintro e w2 ⟨rfl, rfl⟩))
    go_ret
    exact ⟨rfl, hb1⟩
  have HI := hid hin
  rw [Bool.and_eq_true, decide_eq_true_eq, decide_eq_true_eq] at hin
  obtain ⟨i1, i2⟩ := hin
  cases q with
  | true =>
    by_cases h1 : 2147483647 < n
    · have t1 : decide (2147483647 < n) = true := decide_eq_true h1
      go_wp2_with (first | (go_at_call 15; refine (awake_any _).mono ?_; rintro e w1 ⟨rfl, hb1⟩) | (go_at_call 27; refine (in_any n _).mono ?_; rw [HI.out]; rintro e w2 ⟨rfl, rfl⟩))
      go_ret
      exact ⟨rfl, hb1⟩
    by_cases h2 : n < -2147483647
    · have t1 : decide (2147483647 < n) = false := decide_eq_false h1
      have t2 : decide (n < -2147483647) = true := decide_eq_true h2
      go_wp2_with (first | (go_at_call 15; refine (awake_any _).mono ?_; rintro e w1 ⟨rfl, hb1⟩) | (go_at_call 27; refine (in_any n _).mono ?_; rw [HI.out]; rintro e w2 ⟨rfl, rfl⟩))
      go_ret
      exact ⟨rfl, hb1⟩
    have t1 : decide (2147483647 < n) = false := decide_eq_false h1
    have t2 : decide (n < -2147483647) = false := decide_eq_false h2
    have hr8 : b % 8 < 8 := Nat.mod_lt _ (by decide)
    have hrem : ∀ t, binOp .rem t (.int .u8 (b : Int)) (.int .u8 8) = pure (.int .u8 ((b % 8 : Nat) : Int)) := rem_any .u8 b 8 (by decide)
    obtain ⟨e1, e2, e3⟩ := ends_facts (b % 8) hr8
    generalize b % 8 = r at hrem hr8 e3 e1 e2
    generalize ends r = E at e1 e2 e3
    have hpl := pnum_len true n
    have T1 := hid (TK_pnum true n E (by omega) (by omega) (fun _ => ⟨by omega, by omega⟩) e1)
    have htx := fun w => text_any n true w (by omega) (by omega)
    generalize pnum true n = P at hpl T1 htx
    have hz := st_size P
    have hadd : ∀ w : World, (Op.stringOp .add (st P) (st E)).run Try.prog w = .ok (.string (st (P ++ E))) w := fun w => st_add P E (by omega) w
    have kb := fun (w : World) (s : List UInt8) => convW_run (P := Try.prog) 9 25 5 (by kernel_rfl) Try.underlying25 Try.underlying5 w s
    have hpe : (P ++ E).length ≤ 40 := by rw [List.length_append]; omega
    have hpe2 : (P ++ E).length = P.length + E.length := by rw [List.length_append]
    generalize hPE : P ++ E = Z at hadd T1 hpe hpe2
    have HL := hid hpe2
    clear hPE hpe2
    have ec : ∀ X : World, (X.alloc (.cells #[Value.string ⟨#[]⟩, Value.string ⟨#[32]⟩, Value.string ⟨#[47, 65]⟩, Value.string ⟨#[91]⟩, Value.string ⟨#[40, 120, 41]⟩, Value.string ⟨#[60, 60]⟩, Value.string ⟨#[37]⟩, Value.string ⟨#[62, 62]⟩] 9)).cell? ⟨X.heap.size, r, none⟩ = some (.string (st E)) := fun X => by rw [World.cell?_alloc_at _ _ _ _ rfl]; exact e3
    go_wp2_with (first | (go_at_call 15; refine (awake_any _).mono ?_; rintro e w1 ⟨rfl, hb1⟩) | (go_at_call 27; refine (in_any n _).mono ?_; rw [HI.out]; rintro e w2 ⟨rfl, rfl⟩) | (go_at_call 28; refine (htx _).mono ?_; rintro e w3 ⟨rfl, hb3⟩; have hB3 := below_then' hb1 hb3 hb1.size) | (go_at_call 16; refine (lex_made _ Z _ (Sl.convW _ _ Z _ (by simp) (by omega)) (by omega)).mono ?_; rintro e w5 ⟨lp, cp, rfl, hlp, hcp, hL, hb5⟩) | (go_at_call 17; (with_reducible refine (token_q (TK_good _) hL).mono ?_); rw [T1.out.1, T1.out.2]; rintro e w6 ⟨u6, rfl, j6, m6, y6, hL6⟩; obtain ⟨ao6, cap6, rfl, -, -, -⟩ := Rd.own hL6.row; have p0 := hL6.p0; have zl := World.block_lt_of_cell? _ _ p0) | (go_at_call 21; refine (pos_l (hL6.below (alb _ _))).mono ?_; rintro e w1 ⟨rfl, rfl⟩; obtain rfl : j6 = P.length := (by have := hL6.at_; have := HL.out; omega)))
    go_ret
    have hX : Below w.heap.size w (convW (w3.alloc (.cells #[Value.string ⟨#[]⟩, Value.string ⟨#[32]⟩, Value.string ⟨#[47, 65]⟩, Value.string ⟨#[91]⟩, Value.string ⟨#[40, 120, 41]⟩, Value.string ⟨#[60, 60]⟩, Value.string ⟨#[37]⟩, Value.string ⟨#[62, 62]⟩] 9)) 5 Z) := below_then' hB3 (below_then (alb w3 _) (convW_below _ _ Z)) hB3.size
    have hB5 := below_then' hX hb5 hX.size
    have hB6 := hL6.out0 hB5 (Nat.le_trans hX.size hlp) (Nat.le_trans hX.size hcp)
    exact ⟨rfl, hB6.trans ((alb w6 _).mono hB6.size)⟩
  | false =>
    have hr8 : b % 8 < 8 := Nat.mod_lt _ (by decide)
    have hrem : ∀ t, binOp .rem t (.int .u8 (b : Int)) (.int .u8 8) = pure (.int .u8 ((b % 8 : Nat) : Int)) := rem_any .u8 b 8 (by decide)
    obtain ⟨e1, e2, e3⟩ := ends_facts (b % 8) hr8
    generalize b % 8 = r at hrem hr8 e3 e1 e2
    generalize ends r = E at e1 e2 e3
    have hpl := pnum_len false n
    have T1 := hid (TK_pnum false n E (by omega) (by omega) (fun q => by cases q) e1)
    have htx := fun w => text_any n false w (by omega) (by omega)
    generalize pnum false n = P at hpl T1 htx
    have hz := st_size P
    have hadd : ∀ w : World, (Op.stringOp .add (st P) (st E)).run Try.prog w = .ok (.string (st (P ++ E))) w := fun w => st_add P E (by omega) w
    have kb := fun (w : World) (s : List UInt8) => convW_run (P := Try.prog) 9 25 5 (by kernel_rfl) Try.underlying25 Try.underlying5 w s
    have hpe : (P ++ E).length ≤ 40 := by rw [List.length_append]; omega
    have hpe2 : (P ++ E).length = P.length + E.length := by rw [List.length_append]
    generalize hPE : P ++ E = Z at hadd T1 hpe hpe2
    have HL := hid hpe2
    clear hPE hpe2
    have ec : ∀ X : World, (X.alloc (.cells #[Value.string ⟨#[]⟩, Value.string ⟨#[32]⟩, Value.string ⟨#[47, 65]⟩, Value.string ⟨#[91]⟩, Value.string ⟨#[40, 120, 41]⟩, Value.string ⟨#[60, 60]⟩, Value.string ⟨#[37]⟩, Value.string ⟨#[62, 62]⟩] 9)).cell? ⟨X.heap.size, r, none⟩ = some (.string (st E)) := fun X => by rw [World.cell?_alloc_at _ _ _ _ rfl]; exact e3
    go_wp2_with (first | (go_at_call 15; refine (awake_any _).mono ?_; rintro e w1 ⟨rfl, hb1⟩) | (go_at_call 27; refine (in_any n _).mono ?_; rw [HI.out]; rintro e w2 ⟨rfl, rfl⟩) | (go_at_call 28; refine (htx _).mono ?_; rintro e w3 ⟨rfl, hb3⟩; have hB3 := below_then' hb1 hb3 hb1.size) | (go_at_call 16; refine (lex_made _ Z _ (Sl.convW _ _ Z _ (by simp) (by omega)) (by omega)).mono ?_; rintro e w5 ⟨lp, cp, rfl, hlp, hcp, hL, hb5⟩) | (go_at_call 17; (with_reducible refine (token_q (TK_good _) hL).mono ?_); rw [T1.out.1, T1.out.2]; rintro e w6 ⟨u6, rfl, j6, m6, y6, hL6⟩; obtain ⟨ao6, cap6, rfl, -, -, -⟩ := Rd.own hL6.row; have p0 := hL6.p0; have zl := World.block_lt_of_cell? _ _ p0) | (go_at_call 21; refine (pos_l (hL6.below (alb _ _))).mono ?_; rintro e w1 ⟨rfl, rfl⟩; obtain rfl : j6 = P.length := (by have := hL6.at_; have := HL.out; omega)))
    go_ret
    have hX : Below w.heap.size w (convW (w3.alloc (.cells #[Value.string ⟨#[]⟩, Value.string ⟨#[32]⟩, Value.string ⟨#[47, 65]⟩, Value.string ⟨#[91]⟩, Value.string ⟨#[40, 120, 41]⟩, Value.string ⟨#[60, 60]⟩, Value.string ⟨#[37]⟩, Value.string ⟨#[62, 62]⟩] 9)) 5 Z) := below_then' hB3 (below_then (alb w3 _) (convW_below _ _ Z)) hB3.size
    have hB5 := below_then' hX hb5 hX.size
    have hB6 := hL6.out0 hB5 (Nat.le_trans hX.size hlp) (Nat.le_trans hX.size hcp)
    exact ⟨rfl, hB6.trans ((alb w6 _).mono hB6.size)⟩
end Go.Proofs.Ytlmgklebikcbjaa
