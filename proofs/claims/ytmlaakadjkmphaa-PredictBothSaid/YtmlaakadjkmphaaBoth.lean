/-
  PredictBoth: for any shape and any bytes the program and the reference undo and do the same: it returns true. No condition.
-/
import Derived.Test.YtmlaakadjkmphaaAwake
import Derived.Test.YtmlaakadjkmphaaUndo
import Derived.Test.YtmlaakadjkmphaaDo
import Derived.Lib.QuietBelow
import Derived.Deep.RegionWith
import Derived.Test.YtmlaakadjkmphaaLift
namespace Go.Proofs.Ytmlaakadjkmphaa
open Go.ChangeShapes Go.WideShapes Go.ChangeAt Go.RowKit
set_option linter.unusedVariables false

theorem Sl.regrown {w : World} {v : Value} {l : List UInt8} (h : Sl w v l) (d : Nat) (os : Array Obj) : Sl (Sort.grow (redrawn w d) os) v l := h.up (below_regrown w d os)

theorem below_of_post {w w' : World} (h : ∃ n, w' = w.drewN n) : Below w.heap.size w w' := below_of_drewN w h

set_option maxHeartbeats 4000000 in
theorem both_any (p c m : Int) (v : Value) (l : List UInt8) (w : World) (hv : Sl w v l) :
    Calls Try.prog 5 #[.agg #[.int .i64 p, .int .i64 c, .int .i64 m], v] w fun e w' => e = .returned (.bool true) ∧ Below w.heap.size w w' := by
  obtain ⟨al, cl, rfl, l1, l2, l3, l4⟩ := hv
  unfold maxLen at l2
  by_cases hl : l.length ≤ 1000
  · have HSL := hid (show Sl w (.slice al l.length cl) l from ⟨_, _, rfl, l1, by unfold maxLen; omega, l3, l4⟩)
    obtain ⟨D, DE, hD⟩ : ∃ D DE, decode p c m l = (D, DE) := ⟨_, _, rfl⟩
    obtain ⟨C, CE, hC⟩ : ∃ C CE, encode p c m l = (C, CE) := ⟨_, _, rfl⟩
    have HD := hid hD
    have HC := hid hC
    clear hD hC
    go_enter Try.func5, Try.ntmps5
    go_wp2_with (first
      | (go_at_call 8; refine (awake_any _).mono ?_; rintro e w1 ⟨rfl, hb⟩; obtain ⟨e0, e1, e2, hb⟩ := box3 hb; have hcur := Below.refl w1.heap.size w1)
      | (go_at_call 10; refine (shape_any p c m _).mono ?_; rintro e ws ⟨rfl, hbs⟩; have hcur := below_then hcur hbs; (try have hs1 := hs1.up hbs); (try have hs2 := hs2.up hbs); have e0' := (hcur.cell (World.block_lt_of_cell? _ _ e0)).trans e0; have e1' := (hcur.cell (World.block_lt_of_cell? _ _ e1)).trans e1; have e2' := (hcur.cell (World.block_lt_of_cell? _ _ e2)).trans e2)
      | (go_at_call 9; refine (decode_any p c m _ l _ (HSL.out.up (hb.trans (hcur.mono hb.size))) (by omega)).mono ?_; rintro e wd ⟨u1, rfl, ho1, hbd⟩; rw [HD.out] at ho1 ⊢; have hs1 := Sl.own ho1; have hcur := below_then hcur hbd; have e0' := (hcur.cell (World.block_lt_of_cell? _ _ e0)).trans e0; have e1' := (hcur.cell (World.block_lt_of_cell? _ _ e1)).trans e1; have e2' := (hcur.cell (World.block_lt_of_cell? _ _ e2)).trans e2)
      | (go_at_call 15; refine (undo_any p c m _ l _ (HSL.out.up (hb.trans (hcur.mono hb.size))) (by omega)).mono ?_; rintro e wu ⟨u2, rfl, ho2, hbu⟩; rw [HD.out] at ho2 ⊢; have hs2 := Sl.own ho2; have hs1 := hs1.up hbu; have hcur := below_then hcur hbu; have e0' := (hcur.cell (World.block_lt_of_cell? _ _ e0)).trans e0; have e1' := (hcur.cell (World.block_lt_of_cell? _ _ e1)).trans e1; have e2' := (hcur.cell (World.block_lt_of_cell? _ _ e2)).trans e2)
      | (go_at_call 13; refine (encode_any p c m _ l _ (HSL.out.up (hb.trans (hcur.mono hb.size))) (by omega)).mono ?_; rintro e we ⟨u3, rfl, ho3, hbe⟩; rw [HC.out] at ho3 ⊢; have hs3 := Sl.own ho3; have hs1 := hs1.up hbe; have hs2 := hs2.up hbe; have hcur := below_then hcur hbe; have e0' := (hcur.cell (World.block_lt_of_cell? _ _ e0)).trans e0; have e1' := (hcur.cell (World.block_lt_of_cell? _ _ e1)).trans e1; have e2' := (hcur.cell (World.block_lt_of_cell? _ _ e2)).trans e2)
      | (go_at_call 16; refine (do_any p c m _ l _ (HSL.out.up (hb.trans (hcur.mono hb.size))) (by omega)).mono ?_; rintro e wo ⟨u4, rfl, ho4, hbo⟩; rw [HC.out] at ho4 ⊢; have hs4 := Sl.own ho4; have hs1 := hs1.up hbo; have hs2 := hs2.up hbo; have hs3 := hs3.up hbo; have hcur := below_then hcur hbo; have e0' := (hcur.cell (World.block_lt_of_cell? _ _ e0)).trans e0; have e1' := (hcur.cell (World.block_lt_of_cell? _ _ e1)).trans e1; have e2' := (hcur.cell (World.block_lt_of_cell? _ _ e2)).trans e2))
    have r0 := cell_regrown e0'
    have r1 := cell_regrown e1'
    have r2 := cell_regrown e2'
    have cS : ∀ d os, Calls Try.prog 10 #[.agg #[.int .i64 p, .int .i64 c, .int .i64 m]] (Sort.grow (redrawn wo d) os) fun e w'' => e = .returned (.agg #[.int .i64 p, .int .i64 c, .int .i64 m]) ∧ ∃ p : Regrown, w'' = Sort.grow (redrawn wo p.d) p.os := fun d os => Calls.regrown_of (shape_any p c m _)
    have cM : ∀ d os, Calls Try.prog 14 #[.agg #[.int .i64 p, .int .i64 c, .int .i64 m]] (Sort.grow (redrawn wo d) os) fun e w'' => e = .returned (.bool (mayB p c m)) ∧ ∃ p : Regrown, w'' = Sort.grow (redrawn wo p.d) p.os := fun d os => Calls.regrown_of (may_any p c m _)
    have cR : ∀ d os, Calls Try.prog 17 #[.agg #[.int .i64 p, .int .i64 c, .int .i64 m]] (Sort.grow (redrawn wo d) os) fun e w'' => e = .returned (.bool (mayB p c m)) ∧ ∃ p : Regrown, w'' = Sort.grow (redrawn wo p.d) p.os := fun d os => Calls.regrown_of (rmay_any p c m _)
    have c1 : ∀ d os, Calls Try.prog 11 #[u1, u2] (Sort.grow (redrawn wo d) os) fun e w'' => e = .returned (.bool (decide (D = D))) ∧ ∃ p : Regrown, w'' = Sort.grow (redrawn wo p.d) p.os := fun d os => Calls.regrown_of ((same_sl _ _ D D _ (hs1.regrown d os) (hs2.regrown d os)).mono fun e w' ⟨h1, h2⟩ => ⟨h1, below_of_drewN _ h2⟩)
    have c2 : ∀ d os, Calls Try.prog 11 #[u3, u4] (Sort.grow (redrawn wo d) os) fun e w'' => e = .returned (.bool (decide (C = C))) ∧ ∃ p : Regrown, w'' = Sort.grow (redrawn wo p.d) p.os := fun d os => Calls.regrown_of ((same_sl _ _ C C _ (hs3.regrown d os) (hs4.regrown d os)).mono fun e w' ⟨h1, h2⟩ => ⟨h1, below_of_drewN _ h2⟩)
    rw [decide_eq_true rfl] at c1 c2
    refine wp_region_quiet_below (by kernel_rfl) (by kernel_rfl) ?_
    iterate 27 (quiet_step (first | (go_at_call 10; exact cS _ _) | (go_at_call 14; exact cM _ _) | (go_at_call 17; exact cR _ _) | (go_at_call_of 11 u1; exact c1 _ _) | (go_at_call_of 11 u3; exact c2 _ _)))
    refine wpQuiet_nil ?_
    intro _ hw'
    obtain ⟨⟨dq, osq⟩, hw''⟩ := hw'
    subst hw''
    go_wp2
    go_ret
    exact ⟨rfl, hb.trans ((below_then hcur (below_regrown wo dq osq)).mono hb.size)⟩
  · have hlt : (1000 : Int) < (l.length : Int) := by omega
    go_enter Try.func5, Try.ntmps5
    go_wp2_with (go_at_call 8; refine (awake_any _).mono ?_; rintro e w1 ⟨rfl, hb⟩; obtain ⟨e0, e1, e2, hb⟩ := box3 hb)
    go_ret
    exact ⟨rfl, by assumption⟩
set_option maxRecDepth 100000 in
theorem both_lifted (os : Os) (started : os.Started) (H : Type) (enc : TypeId × Value → H) :
    ReturnsInHanded {} Try.checked os 5 .any (Rows.predictBothSpec.pre6 enc Try.prog Try.f5 Rows.predictBothRow.domain false) (Rows.predictBothSpec.post enc Try.prog Try.f5 false true false false) := by
  refine returnsInHanded_of_change (C := Try.checked) own9 started (by kernel_rfl) Try.func5
    (ChangeSpec.witness6 (enc := enc) (C := Try.checked) false ⟨#[], #[.agg #[.int .i64 0, .int .i64 0, .int .i64 0], .slice none 0 0], []⟩ 8 (by kernel_rfl) (by kernel_rfl) (by kernel_rfl) (by kernel_rfl)) ?_
  intro W base args ds gs before hval0 hW hcnd _
  have hval : ∀ (j : Nat) t v, Try.f5.params[j]? = some t → args[j]? = some v → Value.okWide Try.prog W .any base t v := hval0
  have hW' := hW
  obtain ⟨p, q, hA0, hV, rfl, hfz, hnd⟩ := hW
  have hA : DataW.TrodAll enc Try.prog W 0 (fun _ => true) true Try.f5.params.toList args.toList ds p := hA0
  rw [Try.params5] at hA hval
  obtain ⟨v0, v1, d0, d1, p0, p1, rfl, rfl, rfl, h0, h1⟩ := trodAll_two hA
  obtain ⟨rfl, rfl⟩ := trodVars_none hV
  obtain ⟨x, y, z, rfl⟩ := shape_open (hval 0 25 v0 rfl rfl) h0
  obtain ⟨l, hl⟩ := sl_open (hval 1 26 v1 rfl rfl) h1
  clear hA0 hval0
  refine (both_any x y z v1 l W hl).mono fun e W' ⟨he, bel⟩ => ?_
  subst he
  exact ⟨_, rfl, _, _, _, [], _, [], hW', trodAll_mk1 (shut_bool Try.underlying4 _), trodAll_mk2 (Below.trod laidOut9 (by kernel_rfl) (of_decide_eq_true (by kernel_rfl)) h0 bel (trod_lt h0)) (Below.trod laidOut9 (by kernel_rfl) (of_decide_eq_true (by kernel_rfl)) h1 bel (trod_lt h1)), rfl, bel.frame _, fun h => by cases h⟩

theorem both_holds : Rows.PredictBothSaid :=
  OpenClaim.holds_of_wide 5 Try.f5 rfl rfl rfl rfl rfl rfl rfl ⟨rfl, rfl, rfl, rfl, rfl⟩ rfl rfl rfl rfl rfl (by kernel_rfl) Try.func5 (by kernel_rfl)
    (of_decide_eq_true (by kernel_rfl)) (by unfold Func.isWrapper; first | (rw [if_pos (by decide +kernel)]; kernel_rfl) | (rw [if_neg (by decide +kernel)]; exact ⟨rfl, rfl⟩))
    (fun os started H enc _ => both_lifted os started H enc)
#print axioms both_holds
end Go.Proofs.Ytmlaakadjkmphaa
