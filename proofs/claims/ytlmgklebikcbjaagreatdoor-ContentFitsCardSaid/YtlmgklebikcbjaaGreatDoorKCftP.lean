/-
  ContentFits: any operator with any operands: whether there is one of that name, of which kinds its operands are, and whether these are of those. The row, and the card that ties its listed variables. No condition.
-/
import Derived.Test.YtlmgklebikcbjaaGreatDoorKCft
import Derived.Test.YtlmgklebikcbjaaGreatDoorKLaid
import Derived.Test.YtlmgklebikcbjaaGreatDoorCards
import Derived.Test.YtlmgklebikcbjaaGreatDoorTie
import Derived.WalkKit
import Derived.ProofKit
import Derived.OpenShut
import Derived.ShutString
import Derived.SevenTiedAt
/-
  ContentFits: any operator with any operands: whether there is one of that name, of which kinds its operands are, and whether these are of those. The row, and the card that ties its listed variables. No condition.
-/
namespace Go.Proofs.YtlmgklebikcbjaaGreatDoor
open Go.ChangeShapes Go.WideShapes Go.ChangeAt Go.RowKit
open Go.ChangeMaps (open_string shut_string)
set_option linter.unusedVariables false

set_option maxRecDepth 100000 in
theorem cft_lifted (os : Os) (started : os.Started) (H : Type) (enc : TypeId × Value → H) :
    ReturnsInHanded {} Tryz.checked os 5 .any (fun w args => (Rows.contentFitsSpec.pre enc Tryz.prog Tryz.f5 [] false w args ∧ laidMetH Tryz.prog lds w) ∧ sizedMet enc Tryz.prog Tryz.f5 (OpenSpec.ofChange Rows.contentFitsSpec) false w args) (Rows.contentFitsSpec.post enc Tryz.prog Tryz.f5 false true false false) := by
  refine returnsInHanded_of_change_and (C := Tryz.checked) (X := fun w _ => laidMetH Tryz.prog lds w) (fun _ _ _ hh h => h.of_heap hh) own9 started (by kernel_rfl) Tryz.func5
    (ChangeSpec.witness_shaped (enc := enc) (C := Tryz.checked) (os := os) (X := fun w _ => laidMetH Tryz.prog lds w) false (World.doorLaid Tryz.prog 33 os) #[.string ⟨#[]⟩, .slice none 0 0] 8 rfl (World.shaped_of_RefB (by kernel_rfl) (by kernel_rfl)) (by kernel_rfl) (by kernel_rfl) (by kernel_rfl) (door_met os _)) ?_
  intro W base args ds gs before hval0 hW _ hz0 hL _
  have hval : ∀ (j : Nat) t v, Tryz.f5.params[j]? = some t → args[j]? = some v → Value.okWide Tryz.prog W .any base t v := hval0
  have hW' := hW
  obtain ⟨p, q, hA0, hV, rfl, hfz, hnd⟩ := hW
  have hA : DataW.TrodAll enc Tryz.prog W 0 (fun _ => true) true Tryz.f5.params.toList args.toList ds p := hA0
  rw [Tryz.params5] at hA hval hz0
  obtain ⟨v0, v1, d0, d1, p0, p1, rfl, rfl, rfl, h0, h1⟩ := trodAll_two hA
  obtain ⟨rfl, rfl⟩ := trodVars_none hV
  obtain ⟨s0, rfl, rfl, rfl, hs0⟩ := open_string Tryz.underlying9 (hval 0 9 v0 rfl rfl) h0
  have hw1 : ∀ m ∈ d1.weights Tryz.prog 32, m ≤ reachBytes := fun m hm => by
    have h9 := List.all_eq_true.1 hz0 m (by show m ∈ DataW.weightsEach Tryz.prog _ _; simp [DataW.weightsEach, hm])
    simpa using h9
  obtain ⟨l1, hl1, -⟩ := gvs_open (hval 1 32 v1 rfl rfl) h1 hw1
  clear hA0 hval0
  refine (cft_any s0 v1 l1 W (tab_of hL) hl1).mono fun e W' ⟨he, bel⟩ => ?_
  subst he
  exact ⟨_, rfl, _, _, _, [], _, [], hW', trodAll_mk1 (shut_bool Tryz.underlying4 _), trodAll_mk2 (shut_string Tryz.underlying9 hs0) (Below.trod laidOut9 (by kernel_rfl) (of_decide_eq_true (by kernel_rfl)) h1 bel (trod_lt h1)), rfl, bel.frame _, fun h => by cases h⟩

set_option maxRecDepth 100000 in
theorem cft_holds : Rows.ContentFitsSaid :=
  OpenClaim.holds_of_wide 5 Tryz.f5 rfl rfl rfl rfl rfl rfl rfl ⟨rfl, rfl, rfl, rfl, rfl⟩ rfl rfl rfl rfl rfl (by kernel_rfl) Tryz.func5 (by kernel_rfl)
    (of_decide_eq_true (by kernel_rfl)) (by unfold Func.isWrapper; first | (rw [if_pos (by decide +kernel)]; kernel_rfl) | (rw [if_neg (by decide +kernel)]; exact ⟨rfl, rfl⟩))
    (fun os started H enc _ => cft_lifted os started H enc)

set_option maxRecDepth 100000 in
theorem cft_card : Rows.ContentFitsCardSaid :=
  Claim7.holds_tied_plain_at .later [] [.listed, .data] true (true, "8367913c26ba1b9a0807e6cbde1cac5bc8117bf0b80af60d7cc1e18d8e2ad89a") false
    cft_holds (fun _ h => by cases h) (by kernel_rfl) (fun _ h => by cases h) contentFits_row_tie rfl ⟨rfl, rfl⟩ (by kernel_rfl) rfl
    (fun f fn hf hfn => by
      obtain rfl : f = 5 := Option.some.inj ((show Tryz.prog.funcNamed "pressmark/pressmarklaw22.ContentFits" = some 5 by kernel_rfl).symm.trans hf) |>.symm
      obtain rfl : fn = Tryz.f5 := (Option.some.inj (Tryz.func5.symm.trans hfn)).symm
      exact ⟨by kernel_rfl, fun j t ht => by
        rw [Tryz.params5] at ht
        have hm : t ∈ [9, 32] := by simpa using Array.mem_of_getElem? ht
        have hall : ([9, 32].all fun u => !Tryz.prog.wantsStandIn u) = true := by kernel_rfl
        exact (show Tryz.prog.wantsStandIn t = false by simpa using List.all_eq_true.1 hall t hm)⟩)
    (by kernel_rfl)
#print axioms cft_card
end Go.Proofs.YtlmgklebikcbjaaGreatDoor
