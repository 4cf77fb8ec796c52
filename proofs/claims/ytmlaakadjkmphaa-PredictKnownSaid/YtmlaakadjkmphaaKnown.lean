/-
  PredictKnown: chapter 9's example, and what is refused: it returns true. No condition.
-/
import Derived.Test.YtmlaakadjkmphaaAwake
import Derived.Test.YtmlaakadjkmphaaLift
import Derived.WalkKit
import Derived.ProofKit
import Derived.OpenShut
import Derived.ShutString
namespace Go.Proofs.Ytmlaakadjkmphaa
open Go.ChangeShapes Go.WideShapes Go.ChangeAt Go.RowKit
open Go.ChangeMaps (open_string shut_string)
set_option linter.unusedVariables false

theorem kn1 : decode 0 0 0 [] = ([], 1) := by decide +kernel
theorem kn2 : decode 12 1 2 [5, 1, 2] = ([], 4) := by decide +kernel
theorem kn3 : encode 2 3 2 [5, 1, 2] = ([], 4) := by decide +kernel
theorem kn4 : decode 2 1 3 [1, 1, 255] = ([1, 2, 1], 0) := by decide +kernel
theorem kn5 : mayB 1 1 1 = true := by decide +kernel

abbrev sh (p c m : Int) : Value := .agg #[.int .i64 p, .int .i64 c, .int .i64 m]

set_option maxHeartbeats 1600000 in
theorem known_any (w : World) : Calls Try.prog 4 #[] w fun e w' => e = .returned (.bool true) ∧ Below w.heap.size w w' := by
  have H1 := hid kn1
  have H2 := hid kn2
  have H3 := hid kn3
  have H4 := hid kn4
  have H5 := hid kn5
  go_enter Try.func4, Try.ntmps4
  go_wp2_with (first
    | (go_at_call 8; refine (awake_any _).mono ?_; rintro e w0 ⟨rfl, b0⟩)
    | (go_at_call_of 9 (Value.agg #[.int .i64 0, .int .i64 0, .int .i64 0]); refine (decode_any 0 0 0 _ [] _ (Sl.nil _) (by decide)).mono ?_; rintro e w1 ⟨u1, rfl, -, b1⟩; rw [H1.out])
    | (go_at_call_of 9 (Value.agg #[.int .i64 12, .int .i64 1, .int .i64 2]); refine (decode_any 12 1 2 _ [5, 1, 2] _ (Sl.lit _ _ _ _ _ rfl rfl (by decide)) (by decide)).mono ?_; rintro e w2 ⟨u2, rfl, -, b2⟩; rw [H2.out])
    | (go_at_call 13; refine (encode_any 2 3 2 _ [5, 1, 2] _ (Sl.lit _ _ _ _ _ rfl rfl (by decide)) (by decide)).mono ?_; rintro e w3 ⟨u3, rfl, -, b3⟩; rw [H3.out])
    | (go_at_call_of 9 (Value.agg #[.int .i64 2, .int .i64 1, .int .i64 3]); refine (decode_any 2 1 3 _ [1, 1, 255] _ (Sl.lit _ _ _ _ _ rfl rfl (by decide)) (by decide)).mono ?_; rintro e w4 ⟨u4, rfl, h4, b4⟩; rw [H4.out] at h4 ⊢)
    | (go_at_call 11; refine (same_sl _ _ [1, 2, 1] [1, 2, 1] _ ((Sl.own h4).up (Below.alloc (Below.refl _ _) (Nat.le_refl _) _)) (Sl.lit _ _ _ _ _ rfl rfl (by decide))).mono ?_; rintro e w5 ⟨rfl, b5⟩)
    | (go_at_call 14; refine (may_any 1 1 1 _).mono ?_; rintro e w6 ⟨rfl, b6⟩; rw [H5.out]))
  go_ret
  refine ⟨rfl, ?_⟩
  have aw : ∀ (W : World) (o : Obj), Below W.heap.size W (W.alloc o) := fun W o => Below.alloc (Below.refl _ _) (Nat.le_refl _) _
  exact below_then (below_then (below_then (below_then (below_then (below_then (below_then (below_then (below_then (below_then b0 b1) (aw _ _)) b2) (aw _ _)) b3) (aw _ _)) b4) (aw _ _)) (below_of_drewN _ b5)) b6

set_option maxRecDepth 100000 in
theorem known_lifted (os : Os) (started : os.Started) (H : Type) (enc : TypeId × Value → H) :
    ReturnsInHanded {} Try.checked os 4 .any (Rows.predictKnownSpec.pre6 enc Try.prog Try.f4 Rows.predictKnownRow.domain false) (Rows.predictKnownSpec.post enc Try.prog Try.f4 false true false false) := by
  refine returnsInHanded_of_change (C := Try.checked) own9 started (by kernel_rfl) Try.func4
    (ChangeSpec.witness6 (enc := enc) (C := Try.checked) false ⟨#[], #[], []⟩ 8 (by kernel_rfl) (by kernel_rfl) (by kernel_rfl) (by kernel_rfl)) ?_
  intro W base args ds gs before hval0 hW hcnd _
  have hW' := hW
  obtain ⟨p, q, hA0, hV, rfl, hfz, hnd⟩ := hW
  have hA : DataW.TrodAll enc Try.prog W 0 (fun _ => true) true Try.f4.params.toList args.toList ds p := hA0
  rw [Try.params4] at hA
  obtain ⟨rfl, rfl, rfl⟩ := trodAll_none hA
  obtain ⟨rfl, rfl⟩ := trodVars_none hV
  clear hA0 hval0
  refine (known_any W).mono fun e W' ⟨he, bel⟩ => ?_
  subst he
  exact ⟨_, rfl, _, _, _, [], _, [], hW', trodAll_mk1 (shut_bool Try.underlying4 _), trodAll_mk0, rfl, bel.frame _, fun h => by cases h⟩

theorem known_holds : Rows.PredictKnownSaid :=
  OpenClaim.holds_of_wide 4 Try.f4 rfl rfl rfl rfl rfl rfl rfl ⟨rfl, rfl, rfl, rfl, rfl⟩ rfl rfl rfl rfl rfl (by kernel_rfl) Try.func4 (by kernel_rfl)
    (of_decide_eq_true (by kernel_rfl)) (by unfold Func.isWrapper; first | (rw [if_pos (by decide +kernel)]; kernel_rfl) | (rw [if_neg (by decide +kernel)]; exact ⟨rfl, rfl⟩))
    (fun os started H enc _ => known_lifted os started H enc)
#print axioms known_holds
end Go.Proofs.Ytmlaakadjkmphaa
