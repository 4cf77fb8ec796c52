/-
  ParseItems: ParseItems: any bytes: the object with its number that stands there, its stream as long as it says; or what is wrong first, and where. No condition.
-/
import Derived.Test.YtlmgklebikcbjaaGreatMem
import Derived.Test.YtlmgklebikcbjaaGreatRows
import Derived.ProofKit
import Derived.OpenShut
import Derived.ShutString
import Derived.Lib.SmallJoins
import Derived.Test.YtlmgklebikcbjaaGreatHo
import Derived.WalkKit
/-
  From the row's reading of an argument to the words of the walks: a slice of bytes that came in.
-/
namespace Go.Proofs.YtlmgklebikcbjaaGreat
open Go.ChangeShapes Go.WideShapes Go.ChangeAt Go.RowKit
set_option linter.unusedVariables false

set_option maxRecDepth 100000 in
theorem own9 : ownKnob Tryz.prog.godebug = none := by kernel_rfl
set_option maxRecDepth 100000 in
theorem laidOut9 : laidOutB Tryz.prog = true := by kernel_rfl

theorem u8_wf {n : Int} (h : (Lit.int .u8 n).wf = true) : 0 ≤ n ∧ n ≤ 255 := by
  have := bounds_u8 h; omega

theorem sl_of_ints {W : World} {a : Addr} {len cap : Nat} {zs : List Int} (hl : len ≤ cap) (hm : cap ≤ maxLen) (hz : len ≤ zs.length) (hcell : ∀ i, i < zs.length → W.cell? (a.add i) = some (.int .u8 (zs.getD i 0))) (hw : ∀ n ∈ zs, (Lit.int .u8 n).wf = true) :
    ∃ l : List UInt8, l.length = len ∧ Sl W (.slice (some a) len cap) l := by
  refine ⟨(zs.take len).map (fun n => UInt8.ofNat n.toNat), by simp; omega, some a, cap, by simp; omega, by simp; omega, hm, (fun h => by cases h), ?_⟩
  by_cases h0 : len = 0
  · left; subst h0; simp
  · right
    obtain ⟨b, off, spot⟩ := a
    have hspot : spot = none := by
      have := hcell 0 (by omega)
      simpa [Addr.add] using World.cell?_spot this
    subst hspot
    refine ⟨b, off, rfl, fun j hj => ?_⟩
    have hj' : j < len := by simp at hj; omega
    have h1 := hcell j (by omega)
    have e1 : (⟨b, off, none⟩ : Addr).add j = ⟨b, off + j, none⟩ := by cases j <;> simp [Addr.add]
    rw [e1] at h1
    rw [h1]
    have hmem : zs[j]'(by omega) ∈ zs := List.getElem_mem _
    have hb := u8_wf (hw _ hmem)
    have e2 : zs.getD j 0 = zs[j]'(by omega) := by simp [List.getD, List.getElem?_eq_getElem (show j < zs.length by omega)]
    rw [e2]
    congr 2
    have hj2 : j < (List.map (fun n : Int => UInt8.ofNat n.toNat) (List.take len zs)).length := hj
    simp only [b8, List.getD, List.getElem?_eq_getElem hj2, Option.getD_some, List.getElem_map, List.getElem_take]
    rw [UInt8.toNat_ofNat', Nat.mod_eq_of_lt (by omega)]
    omega

variable {H : Type} {enc : TypeId × Value → H}

set_option maxRecDepth 100000 in
/-- a slice of bytes that came in -/
theorem sl_open {W : World} {v : Value} {d : DataW H} {p : List MemPlace} {base : Nat} (hk : Value.okWide Tryz.prog W .any base 22 v) (h : DataW.Trod enc Tryz.prog W 0 (fun _ => true) true 22 v d p) : ∃ l, Sl W v l := by
  obtain ⟨a0, len, cap, rfl⟩ := okWide_slice Tryz.underlying22 hk
  obtain ⟨fuel, hf⟩ := h
  rcases open_ints Tryz.underlying22 Tryz.underlying5 (by kernel_rfl) hf with ⟨hcs, _⟩ | ⟨x, l, c, zs, hcs, _, hl, hm, hz, _, hcell, hwz⟩
  · simp [Value.cells] at hcs
    obtain ⟨rfl, rfl, rfl⟩ := hcs
    exact ⟨[], Sl.nil W⟩
  · simp [Value.cells] at hcs
    obtain ⟨rfl, rfl, rfl⟩ := hcs
    simp only [if_true] at hz
    obtain ⟨l, _, h2⟩ := sl_of_ints hl hm (by omega) hcell hwz
    exact ⟨l, h2⟩

theorem trod_lt {W : World} {t : TypeId} {v : Value} {d : DataW H} {p : List MemPlace} {P : Program} (h : DataW.Trod enc P W 0 (fun _ => true) true t v d p) : ∀ x ∈ p, x.block < W.heap.size := by
  obtain ⟨m, hm⟩ := h; exact DataW.trod_lt m _ _ _ hm
end Go.Proofs.YtlmgklebikcbjaaGreat

/-
  ParseItems: any bytes: the object with its number that stands there, its stream as long as it says; or what is wrong first, and where; the walk. Condition: none but what its arguments read as.
-/
namespace Go.Proofs.YtlmgklebikcbjaaGreat
open Go.RowKit
set_option linter.unusedVariables false

set_option maxHeartbeats 3200000 in
set_option maxRecDepth 100000 in
theorem items_any (v : Value) (b : List UInt8) (n : Int) (w : World) (h : Sl w v b) (hn : (Lit.int .i64 n).wf = true) :
    Calls Tryz.prog 3 #[v, .int .i64 n] w fun e w' => e = .returned (.bool true) ∧ Below w.heap.size w w' := by
  obtain ⟨ao, cap, rfl, -, -, -, -⟩ := id h
  by_cases hl : (b.length : Int) > 800
  · go_enter Tryz.func3, Tryz.ntmps3
    go_wp2_with (go_at_call 5; refine (awake12_any _).mono ?_; rintro e w1 ⟨rfl, hb1⟩)
    go_ret
    exact ⟨rfl, hb1⟩
  · have hl2 : b.length ≤ 800 := by omega
    go_enter Tryz.func3, Tryz.ntmps3
    go_wp2_with (first | (go_at_call 5; refine (awake12_any _).mono ?_; rintro e w1 ⟨rfl, hb1⟩) | (go_at_call 6; refine (parse_new _ b n _ (h.up hb1) (by omega)).mono ?_; rintro e w2 ⟨pp, lp, cp, rfl, hpp, hlp, hcp, hP, hdc, hb2⟩) | (go_at_call 7; refine (rnew_any _ b n _ ((h.up hb1).up hb2) (by omega)).mono ?_; rintro e w3 ⟨rfl, rfl⟩; have hQ := Pq.new h (by omega) n hb1 hP hdc hb2 hpp hlp hcp 44))
    clear hP hdc hb2 hpp hlp hcp hb1
    generalize w2.heap.size = mp at *
    generalize w2.alloc (.cells #[.slice ao b.length cap, .int .i64 0, .int .i64 (min (max n 0) 28), .bool false] 44) = w4 at *
    have hQ0 := hid hQ
    clear hQ
    go_loopw [7, 8, 9, 10, 11] (fun s7 _ _ _ _ wr => ∃ (k i : Nat), s7 = .int .i64 k ∧ k ≤ 2 ∧ Pq false (dep n) w wr pp lp cp mp b i i) (fun s7 _ _ _ _ _ => 2 - (intOf s7).toNat)
    case atStart => exact ⟨0, 0, rfl, by omega, hQ0.out⟩
    case round =>
      obtain ⟨k, i, rfl, hk, hQ⟩ := hrel
      by_cases hlt : k < 2
      · have hz : (k : Int) < 2 := by omega
        go_upto_region 12 with (first | (go_at_call 9; refine (ritem_any (hQ.below (alb _ _)).pd (rvalue_all (by omega) _ (dep_le n)) (by omega)).mono ?_; rintro e w6 ⟨res2, hpv2, hvq2⟩; obtain rfl := IT.one hpv2 hpv; obtain ⟨vs2, rfl, hov2, j2, hPd⟩ := hvq2; have hQ := (hQ.below (alb _ _)).stepD hPd; have hD := hPd.cx.drp; have hV2 := hov2.v5; have hm5 : ∀ g, w5.heap.size ≤ g → g ≠ mp := (fun g hg => by have := hQ5.out.pr.hi; omega); have hov1 := hid ((HOV1.out.up (alb _ _)).keep (B := fun g => wr.heap.size ≤ g ∧ g < w5.heap.size) (w' := w6) (fun _ h => h) (fun g hg hlt => hPd.cx.held.block g hlt (by have := hQr.out.pr.hi; have := hg.1; omega) (by have := hQr.out.pr.hi; have := hg.1; omega))); have hX5 := (C5.new w5 _ rfl [.int .i64 res2.n, .int .i64 y1, .int .i64 y2, .slice y3 y6 y7, .slice y4 y8 y9, .slice y5 y10 y11] 33).held hPd.cx.held (hm5 _ (Nat.le_refl _)) (hm5 _ (Nat.le_refl _)); have hov2 := hid hov2; obtain ⟨z1, z2, z3, z4, z5, z6, z7, z8, z9, z10, z11, rfl⟩ := hV2) | (go_at_call 8; have hQr := hid hQ; refine (item_any hQ.ps hQ.p1 (value_all (by omega) _ (dep_le n)) (by omega)).mono ?_; rintro e w5 ⟨res, hpv, hvq⟩; obtain ⟨vs1, rfl, hov1, j1, hPs⟩ := hvq; have hQ := hQ.stepP hPs; have hQ5 := hid hQ; have hD1 := hPs.drp; have hV1 := hov1.v5; have HOV1 := hid hov1; clear hov1; obtain ⟨y1, y2, y3, y4, y5, y6, y7, y8, y9, y10, y11, rfl⟩ := hV1))
        generalize res2.n = yn at *
        have hQ7 := hQ.below (alb w6 (.cells #[.int .i64 yn, .int .i64 z1, .int .i64 z2, .slice z3 z6 z7, .slice z4 z8 z9, .slice z5 z10 z11] 33))
        obtain rfl := hQ7.at_ (hD1.trans hD.symm)
        have hX7 := hX5.up (alb w6 (.cells #[.int .i64 yn, .int .i64 z1, .int .i64 z2, .slice z3 z6 z7, .slice z4 z8 z9, .slice z5 z10 z11] 33))
        have hY7 := C5.new w6 _ rfl [.int .i64 yn, .int .i64 z1, .int .i64 z2, .slice z3 z6 z7, .slice z4 z8 z9, .slice z5 z10 z11] 33
        have hS1 := hid ((hov1.out.up (alb w6 (.cells #[.int .i64 yn, .int .i64 z1, .int .i64 z2, .slice z3 z6 z7, .slice z4 z8 z9, .slice z5 z10 z11] 33))))
        have hS2 := hid ((hov2.out.up (alb w6 (.cells #[.int .i64 yn, .int .i64 z1, .int .i64 z2, .slice z3 z6 z7, .slice z4 z8 z9, .slice z5 z10 z11] 33))))
        have hc0 : (res2.code != res2.code) = false := by simp
        have hc1 : ((j1 : Int) != (j1 : Int)) = false := by simp
        generalize res2.code = c0 at *
        have HQ7 := hid hQ7
        clear hQ hQ7 hD1 hD hX5 hov1 hov2
        generalize w6.alloc (.cells #[.int .i64 yn, .int .i64 z1, .int .i64 z2, .slice z3 z6 z7, .slice z4 z8 z9, .slice z5 z10 z11] 33) = w7 at *
        generalize w5.heap.size = g8 at *
        generalize w6.heap.size = g10 at *
        have HS := hid (show ∀ X, Below w7.heap.size w7 X → (X.cell? ⟨g8, 0, none⟩ = some (.int .i64 yn) ∧ X.cell? ⟨g8, 1, none⟩ = some (.int .i64 y1) ∧ X.cell? ⟨g8, 2, none⟩ = some (.int .i64 y2) ∧ X.cell? ⟨g8, 3, none⟩ = some (.slice y3 y6 y7) ∧ X.cell? ⟨g8, 4, none⟩ = some (.slice y4 y8 y9) ∧ X.cell? ⟨g8, 5, none⟩ = some (.slice y5 y10 y11) ∧ X.cell? ⟨g10, 0, none⟩ = some (.int .i64 yn) ∧ X.cell? ⟨g10, 1, none⟩ = some (.int .i64 z1) ∧ X.cell? ⟨g10, 2, none⟩ = some (.int .i64 z2) ∧ X.cell? ⟨g10, 3, none⟩ = some (.slice z3 z6 z7) ∧ X.cell? ⟨g10, 4, none⟩ = some (.slice z4 z8 z9) ∧ X.cell? ⟨g10, 5, none⟩ = some (.slice z5 z10 z11) ∧ X.cell? ⟨mp, 1, none⟩ = some (.int .i64 (j1 : Int)) ∧ X.cell? ⟨pp, 0, none⟩ = some (.pointer (some ⟨lp, 0, none⟩)) ∧ X.cell? ⟨lp, 0, none⟩ = some (.pointer (some ⟨cp, 0, none⟩))) from fun X hX => ⟨cell_up' hX (hX7.1 0), cell_up' hX (hX7.1 1), cell_up' hX (hX7.1 2), cell_up' hX (hX7.1 3), cell_up' hX (hX7.1 4), cell_up' hX (hX7.1 5), cell_up' hX (hY7.1 0), cell_up' hX (hY7.1 1), cell_up' hX (hY7.1 2), cell_up' hX (hY7.1 3), cell_up' hX (hY7.1 4), cell_up' hX (hY7.1 5), cell_up' hX HQ7.out.pr.c1, cell_up' hX HQ7.out.p0, cell_up' hX HQ7.out.pr.p0⟩)
        have HSA := hid (same_of hS1.out _ _ hS2.out)
        clear hX7 hY7 hS1 hS2
        obtain ⟨s0, s1, s2, s3, s4, s5, s6, s7, s8, s9, s10, s11, s12, s13, s14⟩ := HS.out w7 (Below.refl _ _)
        go_region_held3 (fun X => (X.cell? ⟨g8, 0, none⟩ = some (.int .i64 yn) ∧ X.cell? ⟨g8, 1, none⟩ = some (.int .i64 y1) ∧ X.cell? ⟨g8, 2, none⟩ = some (.int .i64 y2) ∧ X.cell? ⟨g8, 3, none⟩ = some (.slice y3 y6 y7) ∧ X.cell? ⟨g8, 4, none⟩ = some (.slice y4 y8 y9) ∧ X.cell? ⟨g8, 5, none⟩ = some (.slice y5 y10 y11) ∧ X.cell? ⟨g10, 0, none⟩ = some (.int .i64 yn) ∧ X.cell? ⟨g10, 1, none⟩ = some (.int .i64 z1) ∧ X.cell? ⟨g10, 2, none⟩ = some (.int .i64 z2) ∧ X.cell? ⟨g10, 3, none⟩ = some (.slice z3 z6 z7) ∧ X.cell? ⟨g10, 4, none⟩ = some (.slice z4 z8 z9) ∧ X.cell? ⟨g10, 5, none⟩ = some (.slice z5 z10 z11) ∧ X.cell? ⟨mp, 1, none⟩ = some (.int .i64 (j1 : Int)) ∧ X.cell? ⟨pp, 0, none⟩ = some (.pointer (some ⟨lp, 0, none⟩)) ∧ X.cell? ⟨lp, 0, none⟩ = some (.pointer (some ⟨cp, 0, none⟩)))) (first | go_keep | exact HS.out _ (below_drewN (Below.refl _ _) 1) | exact HS.out _ (by assumption) | skip) (first | (go_at_call 10; refine (HSA.out _ (below_drewN (Below.refl _ _) _)).mono ?_; rintro e w9 ⟨rfl, hb9⟩; have hb9 : Below w7.heap.size w7 w9 := ((below_drewN (Below.refl _ _) _).trans hb9)) | (go_at_call 11; refine (at_p (HQ7.out.below hb9).ps).mono ?_; rintro e w10 ⟨rfl, rfl⟩) | (go_at_call 27; obtain ⟨m9, v9, hLx⟩ := (HQ7.out.below hb9).pr.lx; refine (pos_l hLx).mono ?_; rintro e w10 ⟨rfl, rfl⟩))
        all_goals
          go_wp2_with fail
          go_roundw
          case rel => exact ⟨k + 1, j1, by go_num, by omega, HQ7.out.below hb9⟩
          case measure => simp [intOf]; omega
      · obtain rfl : k = 2 := by omega
        have hb := hQ.pr.bel
        clear hQ
        go_wp2
        go_ret
        exact ⟨rfl, hb⟩
end Go.Proofs.YtlmgklebikcbjaaGreat

/-
  ParseItems: ParseItems: any bytes: the object with its number that stands there, its stream as long as it says; or what is wrong first, and where. No condition.
-/
namespace Go.Proofs.YtlmgklebikcbjaaGreat
open Go.ChangeShapes Go.WideShapes Go.ChangeAt Go.RowKit
open Go.ChangeMaps (open_string shut_string)
set_option linter.unusedVariables false

set_option maxRecDepth 100000 in
theorem items_lifted (os : Os) (started : os.Started) (H : Type) (enc : TypeId × Value → H) :
    ReturnsInHanded {} Tryz.checked os 3 .any (Rows.parseItemsSpec.pre6 enc Tryz.prog Tryz.f3 Rows.parseItemsRow.domain false) (Rows.parseItemsSpec.post enc Tryz.prog Tryz.f3 false true false false) := by
  refine returnsInHanded_of_change (C := Tryz.checked) own9 started (by kernel_rfl) Tryz.func3
    (ChangeSpec.witness6 (enc := enc) (C := Tryz.checked) false ⟨#[], #[.slice none 0 0, .int .i64 0], []⟩ 8 (by kernel_rfl) (by kernel_rfl) (by kernel_rfl) (by kernel_rfl)) ?_
  intro W base args ds gs before hval0 hW hcnd _
  have hval : ∀ (j : Nat) t v, Tryz.f3.params[j]? = some t → args[j]? = some v → Value.okWide Tryz.prog W .any base t v := hval0
  have hW' := hW
  obtain ⟨p, q, hA0, hV, rfl, hfz, hnd⟩ := hW
  have hA : DataW.TrodAll enc Tryz.prog W 0 (fun _ => true) true Tryz.f3.params.toList args.toList ds p := hA0
  rw [Tryz.params3] at hA hval
  obtain ⟨v0, v1, d0, d1, p0, p1, rfl, rfl, rfl, h0, h1⟩ := trodAll_two hA
  obtain ⟨rfl, rfl⟩ := trodVars_none hV
  obtain ⟨l0, hl0⟩ := sl_open (hval 0 22 v0 rfl rfl) h0
  obtain ⟨n1, rfl, rfl, rfl, hn1⟩ := open_int Tryz.underlying3 (hval 1 3 v1 rfl rfl) h1
  clear hA0 hval0
  refine (items_any v0 l0 n1 W hl0 hn1).mono fun e W' ⟨he, bel⟩ => ?_
  subst he
  exact ⟨_, rfl, _, _, _, [], _, [], hW', trodAll_mk1 (shut_bool Tryz.underlying4 _), trodAll_mk2 (Below.trod laidOut9 (by kernel_rfl) (of_decide_eq_true (by kernel_rfl)) h0 bel (trod_lt h0)) (shut_int Tryz.underlying3 hn1), rfl, bel.frame _, fun h => by cases h⟩

set_option maxRecDepth 100000 in
theorem items_holds : Rows.ParseItemsSaid :=
  OpenClaim.holds_of_wide 3 Tryz.f3 rfl rfl rfl rfl rfl rfl rfl ⟨rfl, rfl, rfl, rfl, rfl⟩ rfl rfl rfl rfl rfl (by kernel_rfl) Tryz.func3 (by kernel_rfl)
    (of_decide_eq_true (by kernel_rfl)) (by unfold Func.isWrapper; first | (rw [if_pos (by decide +kernel)]; kernel_rfl) | (rw [if_neg (by decide +kernel)]; exact ⟨rfl, rfl⟩))
    (fun os started H enc _ => items_lifted os started H enc)
#print axioms items_holds
end Go.Proofs.YtlmgklebikcbjaaGreat
