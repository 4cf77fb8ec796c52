/-
  ContentKnown: chapter 22's example, and what is none. The row, and the card that ties its listed variables. No condition.
-/
import Derived.Test.YtlmgklebikcbjaaGreatDoorKCkn
import Derived.Test.YtlmgklebikcbjaaGreatDoorKLaid
import Derived.Test.YtlmgklebikcbjaaGreatDoorCards
import Derived.Test.YtlmgklebikcbjaaGreatDoorTie
import Derived.WalkKit
import Derived.ProofKit
import Derived.OpenShut
import Derived.ShutString
import Derived.SevenTiedAt
/-
  ContentKnown: chapter 22's example, and what is none. The row, and the card that ties its listed variables. No condition.
-/
namespace Go.Proofs.YtlmgklebikcbjaaGreatDoor
open Go.ChangeShapes Go.WideShapes Go.ChangeAt Go.RowKit
open Go.ChangeMaps (open_string shut_string)
set_option linter.unusedVariables false

set_option maxRecDepth 100000 in
theorem ckn_lifted (os : Os) (started : os.Started) (H : Type) (enc : TypeId × Value → H) :
    ReturnsInHanded {} Tryz.checked os 3 .any (fun w args => (Rows.contentKnownSpec.pre enc Tryz.prog Tryz.f3 [] false w args ∧ laidMetH Tryz.prog lds w) ∧ sizedMet enc Tryz.prog Tryz.f3 (OpenSpec.ofChange Rows.contentKnownSpec) false w args) (Rows.contentKnownSpec.post enc Tryz.prog Tryz.f3 false true false false) := by
  refine returnsInHanded_of_change_and (C := Tryz.checked) (X := fun w _ => laidMetH Tryz.prog lds w) (fun _ _ _ hh h => h.of_heap hh) own9 started (by kernel_rfl) Tryz.func3
    (ChangeSpec.witness_shaped (enc := enc) (C := Tryz.checked) (os := os) (X := fun w _ => laidMetH Tryz.prog lds w) false (World.doorLaid Tryz.prog 33 os) #[] 8 rfl (World.shaped_of_RefB (by kernel_rfl) (by kernel_rfl)) (by kernel_rfl) (by kernel_rfl) (by kernel_rfl) (door_met os _)) ?_
  intro W base args ds gs before hval0 hW _ _ hL _
  have hval : ∀ (j : Nat) t v, Tryz.f3.params[j]? = some t → args[j]? = some v → Value.okWide Tryz.prog W .any base t v := hval0
  have hW' := hW
  obtain ⟨p, q, hA0, hV, rfl, hfz, hnd⟩ := hW
  have hA : DataW.TrodAll enc Tryz.prog W 0 (fun _ => true) true Tryz.f3.params.toList args.toList ds p := hA0
  rw [Tryz.params3] at hA hval
  obtain ⟨rfl, rfl, rfl⟩ := trodAll_none hA
  obtain ⟨rfl, rfl⟩ := trodVars_none hV

  clear hA0 hval0
  refine (ckn_any  W (tab_of hL) ).mono fun e W' ⟨he, bel⟩ => ?_
  subst he
  exact ⟨_, rfl, _, _, _, [], _, [], hW', trodAll_mk1 (shut_bool Tryz.underlying4 _), trodAll_mk0 , rfl, bel.frame _, fun h => by cases h⟩

set_option maxRecDepth 100000 in
theorem ckn_holds : Rows.ContentKnownSaid :=
  OpenClaim.holds_of_wide 3 Tryz.f3 rfl rfl rfl rfl rfl rfl rfl ⟨rfl, rfl, rfl, rfl, rfl⟩ rfl rfl rfl rfl rfl (by kernel_rfl) Tryz.func3 (by kernel_rfl)
    (of_decide_eq_true (by kernel_rfl)) (by unfold Func.isWrapper; first | (rw [if_pos (by decide +kernel)]; kernel_rfl) | (rw [if_neg (by decide +kernel)]; exact ⟨rfl, rfl⟩))
    (fun os started H enc _ => ckn_lifted os started H enc)

set_option maxRecDepth 100000 in
theorem ckn_card : Rows.ContentKnownCardSaid :=
  Claim7.holds_tied_plain_at .later [] [.listed, .data] true (true, "8367913c26ba1b9a0807e6cbde1cac5bc8117bf0b80af60d7cc1e18d8e2ad89a") false
    ckn_holds (fun _ h => by cases h) (by kernel_rfl) (fun _ h => by cases h) contentKnown_row_tie rfl ⟨rfl, rfl⟩ (by kernel_rfl) rfl
    (fun f fn hf hfn => by
      obtain rfl : f = 3 := Option.some.inj ((show Tryz.prog.funcNamed "pressmark/pressmarklaw22.ContentKnown" = some 3 by kernel_rfl).symm.trans hf) |>.symm
      obtain rfl : fn = Tryz.f3 := (Option.some.inj (Tryz.func3.symm.trans hfn)).symm
      exact ⟨by kernel_rfl, fun j t ht => by
        rw [Tryz.params3] at ht
        simp at ht⟩)
    (by kernel_rfl)
#print axioms ckn_card
end Go.Proofs.YtlmgklebikcbjaaGreatDoor
