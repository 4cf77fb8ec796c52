/-
  PredictTags: a row behind others is what it is behind the last of them alone: it returns true. No condition.
-/
import Derived.Test.YtmlaakadjkmphaaTagsWalk
import Derived.Deep.Matrix
namespace Go.Proofs.Ytmlaakadjkmphaa
open Go.ChangeShapes Go.WideShapes Go.ChangeAt Go.RowKit
set_option linter.unusedVariables false

variable {H : Type} {enc : TypeId × Value → H}

/-- a slice of slices of bytes that came in -/
theorem rows_open {W : World} {v : Value} {d : DataW H} {p : List MemPlace} {base : Nat} (hk : Value.okWide Try.prog W .any base 22 v) (h : DataW.Trod enc Try.prog W 0 (fun _ => true) true 22 v d p) :
    ∃ ao L cap, v = .slice ao L cap ∧ L ≤ maxLen ∧ ∀ r, r < L → ∃ g off x l, ao = some ⟨g, off, none⟩ ∧ W.cell? ⟨g, off + r, none⟩ = some x ∧ Sl W x l := by
  obtain ⟨a0, len, cap, rfl⟩ := okWide_slice Try.underlying22 hk
  obtain ⟨fuel, hf⟩ := h
  rcases Deep.open_int_rows Try.underlying22 Try.underlying26 Try.underlying5 (by kernel_rfl) (by kernel_rfl) hf with ⟨hcs, _⟩ | ⟨a, l, c, A, LL, CC, Z, hcs, _, hl, hm, _, hrow⟩
  · simp [Value.cells] at hcs
    obtain ⟨rfl, rfl, rfl⟩ := hcs
    exact ⟨none, 0, 0, rfl, by simp [maxLen], fun r hr => by omega⟩
  · simp [Value.cells] at hcs
    obtain ⟨rfl, rfl, rfl⟩ := hcs
    refine ⟨some a, len, cap, rfl, by omega, fun r hr => ?_⟩
    obtain ⟨h1, h2, h3, h4, h5, h6, h7⟩ := hrow r (by omega)
    obtain ⟨b, off, spot⟩ := a
    have hspot : spot = none := by
      have := (hrow 0 (by omega)).1
      simpa [Addr.add] using World.cell?_spot this
    subst hspot
    have e1 : (⟨b, off, none⟩ : Addr).add r = ⟨b, off + r, none⟩ := by cases r <;> simp [Addr.add]
    rw [e1] at h1
    cases hA : A r with
    | none =>
      have hc := h6 hA
      rw [hA, show LL r = 0 by omega, hc] at h1
      exact ⟨b, off, _, [], rfl, h1, Sl.nil W⟩
    | some a' =>
      rw [hA] at h1
      obtain ⟨l, _, h8⟩ := sl_of_ints (W := W) (a := a') (len := LL r) (cap := CC r) (zs := Z r) h2 h3 (by omega) (fun i hi => (h7 a' hA).2 i (by omega)) h5
      exact ⟨b, off, _, l, rfl, h1, h8⟩

set_option maxRecDepth 100000 in
theorem tags_lifted (os : Os) (started : os.Started) (H : Type) (enc : TypeId × Value → H) :
    ReturnsInHanded {} Try.checked os 3 .any (Rows.predictTagsSpec.pre6 enc Try.prog Try.f3 Rows.predictTagsRow.domain false) (Rows.predictTagsSpec.post enc Try.prog Try.f3 false true false false) := by
  refine returnsInHanded_of_change (C := Try.checked) own9 started (by kernel_rfl) Try.func3
    (ChangeSpec.witness6 (enc := enc) (C := Try.checked) false ⟨#[], #[.int .u8 0, .int .u8 0, .slice none 0 0], []⟩ 8 (by kernel_rfl) (by kernel_rfl) (by kernel_rfl) (by kernel_rfl)) ?_
  intro W base args ds gs before hval0 hW hcnd _
  have hval : ∀ (j : Nat) t v, Try.f3.params[j]? = some t → args[j]? = some v → Value.okWide Try.prog W .any base t v := hval0
  have hW' := hW
  obtain ⟨p, q, hA0, hV, rfl, hfz, hnd⟩ := hW
  have hA : DataW.TrodAll enc Try.prog W 0 (fun _ => true) true Try.f3.params.toList args.toList ds p := hA0
  rw [Try.params3] at hA hval
  obtain ⟨v0, v1, v2, d0, d1, d2, p0, p1, p2, rfl, rfl, rfl, h0, h1, h2⟩ := trodAll_three hA
  obtain ⟨rfl, rfl⟩ := trodVars_none hV
  obtain ⟨x, rfl, rfl, rfl, wx⟩ := open_int Try.underlying5 (hval 0 5 v0 rfl rfl) h0
  obtain ⟨y, rfl, rfl, rfl, wy⟩ := open_int Try.underlying5 (hval 1 5 v1 rfl rfl) h1
  obtain ⟨ao, L, cap, rfl, hLm, hrows⟩ := rows_open (hval 2 22 v2 rfl rfl) h2
  have bx := u8_wf wx
  have by_ := u8_wf wy
  clear hA0 hval0
  have key : Calls Try.prog 3 #[.int .u8 x, .int .u8 y, .slice ao L cap] W fun e w' => e = .returned (.bool true) ∧ Below W.heap.size W w' := by
    by_cases hL : L ≤ 20
    · exact tags_few x y ao L cap W bx.1 bx.2 by_.1 by_.2 hL hrows
    · exact tags_many x y (.slice ao L cap) ao L cap W bx.1 bx.2 by_.1 by_.2 hL hLm
  refine key.mono fun e W' ⟨he, bel⟩ => ?_
  subst he
  exact ⟨_, rfl, _, _, _, [], _, [], hW', trodAll_mk1 (shut_bool Try.underlying4 _), trodAll_mk3 (shut_int Try.underlying5 wx) (shut_int Try.underlying5 wy) (Below.trod laidOut9 (by kernel_rfl) (of_decide_eq_true (by kernel_rfl)) h2 bel (trod_lt h2)), rfl, bel.frame _, fun h => by cases h⟩

theorem tags_holds : Rows.PredictTagsSaid :=
  OpenClaim.holds_of_wide 3 Try.f3 rfl rfl rfl rfl rfl rfl rfl ⟨rfl, rfl, rfl, rfl, rfl⟩ rfl rfl rfl rfl rfl (by kernel_rfl) Try.func3 (by kernel_rfl)
    (of_decide_eq_true (by kernel_rfl)) (by unfold Func.isWrapper; first | (rw [if_pos (by decide +kernel)]; kernel_rfl) | (rw [if_neg (by decide +kernel)]; exact ⟨rfl, rfl⟩))
    (fun os started H enc _ => tags_lifted os started H enc)
#print axioms tags_holds
end Go.Proofs.Ytmlaakadjkmphaa
