/-
  LexAnywhere: the statement's walk, whatever its arguments. Condition: none but what its arguments read as.
-/
import Derived.Test.YtlmgklebikcbjaaAnyN
namespace Go.Proofs.Ytlmgklebikcbjaa
open Go.RowKit
set_option linter.unusedVariables false

set_option maxHeartbeats 800000 in
set_option maxRecDepth 100000 in
theorem anywhere_any (v : Value) (b : List UInt8) (at_ : Int) (p : ByteArray) (w : World) (h : Sl w v b) (hn : (Lit.int .i64 at_).wf = true) :
    Calls Try.prog 9 #[v, .int .i64 at_, .string p] w fun e w' => e = .returned (.bool true) ∧ Below w.heap.size w w' := by
  obtain ⟨ao2, cap2, rfl, c1, c2, c3, c4⟩ := id h
  by_cases hs : 500 < b.length
  · have t1 : decide ((500 : Int) < (b.length : Int)) = true := decide_eq_true (by omega)
    go_enter Try.func9, Try.ntmps9
    go_wp2_with (go_at_call 15; refine (awake_any _).mono ?_; rintro e w1 ⟨rfl, hb1⟩)
    go_ret
    exact ⟨rfl, hb1⟩
  by_cases hb : 50 < p.size
  · have t1 : decide ((500 : Int) < (b.length : Int)) = false := decide_eq_false (by omega)
    have t2 : decide ((50 : Int) < (p.size : Int)) = true := decide_eq_true (by omega)
    go_enter Try.func9, Try.ntmps9
    go_wp2_with (go_at_call 15; refine (awake_any _).mono ?_; rintro e w1 ⟨rfl, hb1⟩)
    go_ret
    exact ⟨rfl, hb1⟩
  by_cases h0 : b.length = 0
  · exact any_none b ao2 cap2 at_ p w h (by omega) (by omega) h0
  · exact any_some b ao2 cap2 at_ p w h (by omega) (by omega) (by omega)
end Go.Proofs.Ytlmgklebikcbjaa
