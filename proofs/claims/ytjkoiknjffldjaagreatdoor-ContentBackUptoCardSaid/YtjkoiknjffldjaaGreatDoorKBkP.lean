/-
  ContentBack: operators that are written are read as they were. The row of its second form, and the card that ties its listed variables. Condition: what the call reads is of bulk at most 1048576 (the given second form).
-/
import Derived.Test.YtjkoiknjffldjaaGreatDoorKBk
import Derived.Test.YtjkoiknjffldjaaGreatDoorKLaid
import Derived.Test.YtjkoiknjffldjaaGreatDoorCards
import Derived.Test.YtjkoiknjffldjaaGreatDoorTie
import Derived.WalkKit
import Derived.ProofKit
import Derived.OpenShut
import Derived.SevenTiedAt
import Derived.Deep.DeepHandedRow
import Derived.Deep.DeepWitnessRowRef
/-
  ContentBack: operators that are written are read as they were. The row of its second form, and the card that ties its listed variables. Condition: what the call reads is of bulk at most 1048576 (the given second form).
-/
namespace Go.Proofs.YtjkoiknjffldjaaGreatDoor
open Go.ChangeShapes Go.WideShapes Go.ChangeAt Go.RowKit
set_option linter.unusedVariables false

set_option maxRecDepth 100000 in
theorem cbk_reads (os : Os) {H : Type} (enc : TypeId × Value → H) : ∃ places, DataW.whole enc Tryz.prog ((World.doorLaid Tryz.prog 33 os).forCall (fun _ _ => 0) ⟨#[], #[.slice none 0 0], []⟩).memory Tryz.f3.params.toList Rows.contentBackSpec.vars false #[Value.slice none 0 0].toList 8 = some ([.nil], [], places) :=
  ⟨[], by kernel_rfl⟩

set_option maxRecDepth 100000 in
theorem cbk_lifted (os : Os) (started : os.Started) (H : Type) (enc : TypeId × Value → H) (F : Stop.Interp) :
    ReturnsInHanded {} Tryz.checked os 3 .any ((Rows.OpenSpec.upto Rows.contentBackSpec).preRow enc Tryz.prog Tryz.f3 Rows.contentBackUptoRow.domain false Rows.contentBackUptoRow.laid) (((Rows.OpenSpec.upto Rows.contentBackSpec).at F).post enc Tryz.prog Tryz.f3 false true false false) := by
  obtain ⟨places, hx⟩ := cbk_reads os enc
  refine returnsInHanded_of_row (C := Tryz.checked) (s := Rows.OpenSpec.upto Rows.contentBackSpec) own9 started (by kernel_rfl) Tryz.func3
    (witness_row_atRef (enc := enc) (C := Tryz.checked) false (World.doorLaid Tryz.prog 33 os) #[.slice none 0 0] rfl (by kernel_rfl) (by kernel_rfl) (by kernel_rfl)
      (OpenSpec.preRow_of_cond 8 hx (by kernel_rfl) (fun k hk => by cases hk; kernel_rfl) (by kernel_rfl) (door_met os _))) ?_
  intro W base args ds gs before hval0 hW _ hcond hz0 hL _ _
  have hval : ∀ (j : Nat) t v, Tryz.f3.params[j]? = some t → args[j]? = some v → Value.okWide Tryz.prog W .any base t v := hval0
  have hW' := hW
  obtain ⟨p, q, hA0, hV, rfl, hfz, hnd⟩ := hW
  have hA : DataW.TrodAll enc Tryz.prog W 0 (fun _ => true) true Tryz.f3.params.toList args.toList ds p := hA0
  rw [Tryz.params3] at hA hval hz0
  obtain ⟨v0, d0, rfl, rfl, h0⟩ := trodAll_one hA
  obtain ⟨rfl, rfl⟩ := trodVars_none hV
  have hw0 : ∀ m ∈ d0.weights Tryz.prog 22, m ≤ reachBytes := fun m hm => by
    have h9 := List.all_eq_true.1 hz0 m (by show m ∈ DataW.weightsEach Tryz.prog _ _; simp [DataW.weightsEach, hm])
    simpa using h9
  have hu : Rows.uptoBulk d0 ≤ 1048576 := by
    have h1 : decide (Rows.uptoBulkAll [d0] ≤ 1048576) = true := hcond _ rfl
    have h2 := of_decide_eq_true h1
    rw [Rows.uptoBulkAll, Rows.uptoBulkAll] at h2
    omega
  obtain ⟨C0, l0, hS, hl0⟩ := wv_open (hval 0 22 v0 rfl rfl) h0 hw0 hu
  clear hA0 hval0
  refine (cbk_any v0 C0 l0 W (tab_of hL) hS hl0).mono fun e W' ⟨he, bel⟩ => ?_
  subst he
  exact ⟨_, rfl, _, _, _, [], _, [], hW', trodAll_mk1 (shut_bool Tryz.underlying4 _), trodAll_mk1 (Below.trod laidOut9 (by kernel_rfl) (of_decide_eq_true (by kernel_rfl)) h0 bel (trod_lt h0)), rfl, bel.frame _, fun h => by cases h⟩

set_option maxRecDepth 100000 in
theorem cbk_holds : Rows.ContentBackUptoSaid :=
  OpenClaim.holds_of_cond 3 Tryz.f3 rfl rfl rfl rfl rfl rfl rfl ⟨rfl, rfl, rfl, rfl, rfl⟩ rfl rfl rfl rfl rfl (by kernel_rfl) Tryz.func3 (by kernel_rfl)
    (of_decide_eq_true (by kernel_rfl)) (by unfold Func.isWrapper; first | (rw [if_pos (by decide +kernel)]; kernel_rfl) | (rw [if_neg (by decide +kernel)]; exact ⟨rfl, rfl⟩))
    (fun os started H enc _ F => by rw [OpenClaim.pre_eq_preRow]; exact cbk_lifted os started H enc F)

set_option maxRecDepth 100000 in
theorem cbk_card : Rows.ContentBackUptoCardSaid :=
  Claim7.holds_tied_plain_at .later [] _ _ _ _
    cbk_holds (fun _ h => by cases h) (by kernel_rfl) (fun _ h => by cases h) contentBackUpto_row_tie rfl ⟨rfl, rfl⟩ (by kernel_rfl) rfl
    (fun f fn hf hfn => by
      obtain rfl : f = 3 := Option.some.inj ((show Tryz.prog.funcNamed "pressmark/pressmarklaw22.ContentBack" = some 3 by kernel_rfl).symm.trans hf) |>.symm
      obtain rfl : fn = Tryz.f3 := (Option.some.inj (Tryz.func3.symm.trans hfn)).symm
      exact ⟨by kernel_rfl, fun j t ht => by
        rw [Tryz.params3] at ht
        have hm : t ∈ [22] := by simpa using Array.mem_of_getElem? ht
        have hall : ([22].all fun u => !Tryz.prog.wantsStandIn u) = true := by kernel_rfl
        exact (show Tryz.prog.wantsStandIn t = false by simpa using List.all_eq_true.1 hall t hm)⟩)
    (by kernel_rfl)
#print axioms cbk_card
end Go.Proofs.YtjkoiknjffldjaaGreatDoor
