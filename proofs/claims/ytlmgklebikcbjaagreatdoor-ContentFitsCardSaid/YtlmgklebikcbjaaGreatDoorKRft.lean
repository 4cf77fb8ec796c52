/-
  The document's fit and Fits. Condition: the operands are no more than a thousand.
-/
import Derived.Test.YtlmgklebikcbjaaGreatDoorKFts
/-
  The document's fit and Fits. Condition: the operands are no more than a thousand.
-/
namespace Go.Proofs.YtlmgklebikcbjaaGreatDoor
open Go.RowKit
set_option linter.unusedVariables false

set_option maxHeartbeats 1600000 in
set_option maxRecDepth 100000 in
theorem rfit_one (c : UInt8) (k n : Int) (vb vl vd : Value) (w : World) :
    Calls Tryz.prog 46 #[.int .u8 (c8 c), .agg #[.int .i64 k, .int .i64 n, vb, vl, vd]] w fun e w' => e = .returned (.bool (fitK c k)) ∧ Below w.heap.size w w' := by
  have hc : ∀ x : UInt8, (c8 c == c8 x) = decide (c = x) := fun x => by
    have h1 : (c8 c = c8 x) ↔ c = x := by
      constructor
      · intro h
        have h2 : (c.toNat : Int) = (x.toNat : Int) := h
        exact UInt8.toNat_inj.1 (by omega)
      · intro h; rw [h]
    by_cases q : c = x
    · rw [decide_eq_true q]; simp [h1.2 q]
    · rw [decide_eq_false q]; simp; exact fun z => q (h1.1 z)
  have p110 : (c8 c == 110) = decide (c = 110) := hc 110
  have p105 : (c8 c == 105) = decide (c = 105) := hc 105
  have p78 : (c8 c == 78) = decide (c = 78) := hc 78
  have p115 : (c8 c == 115) = decide (c = 115) := hc 115
  have p97 : (c8 c == 97) = decide (c = 97) := hc 97
  have p100 : (c8 c == 100) = decide (c = 100) := hc 100
  clear hc
  generalize hx : c8 c = x at *
  unfold fitK
  by_cases h1 : c = 110
  · rw [decide_eq_true h1] at p110
    rw [if_pos h1]
    clear p105 p78 p115 p97 p100
    cases b2 : (k == 2) <;> cases b3 : (k == 3)
    all_goals
      go_enter Tryz.func46, Tryz.ntmps46
      go_wp2
      go_ret
      exact ⟨rfl, alb _ _⟩
  rw [decide_eq_false h1] at p110
  rw [if_neg h1]
  by_cases h2 : c = 105
  · rw [decide_eq_true h2] at p105
    rw [if_pos h2]
    clear p78 p115 p97 p100
    go_enter Tryz.func46, Tryz.ntmps46
    go_wp2
    go_ret
    exact ⟨rfl, alb _ _⟩
  rw [decide_eq_false h2] at p105
  rw [if_neg h2]
  by_cases h3 : c = 78
  · rw [decide_eq_true h3] at p78
    rw [if_pos h3]
    clear p115 p97 p100
    go_enter Tryz.func46, Tryz.ntmps46
    go_wp2
    go_ret
    exact ⟨rfl, alb _ _⟩
  rw [decide_eq_false h3] at p78
  rw [if_neg h3]
  by_cases h4 : c = 115
  · rw [decide_eq_true h4] at p115
    rw [if_pos h4]
    clear p97 p100
    go_enter Tryz.func46, Tryz.ntmps46
    go_wp2
    go_ret
    exact ⟨rfl, alb _ _⟩
  rw [decide_eq_false h4] at p115
  rw [if_neg h4]
  by_cases h5 : c = 97
  · rw [decide_eq_true h5] at p97
    rw [if_pos h5]
    clear p100
    go_enter Tryz.func46, Tryz.ntmps46
    go_wp2
    go_ret
    exact ⟨rfl, alb _ _⟩
  rw [decide_eq_false h5] at p97
  rw [if_neg h5]
  by_cases h6 : c = 100
  · rw [decide_eq_true h6] at p100
    rw [if_pos h6]
    cases b2 : (k == 7) <;> cases b3 : (k == 5)
    all_goals
      go_enter Tryz.func46, Tryz.ntmps46
      go_wp2
      go_ret
      exact ⟨rfl, alb _ _⟩
  rw [decide_eq_false h6] at p100
  rw [if_neg h6]
  go_enter Tryz.func46, Tryz.ntmps46
  go_wp2
  go_ret
  exact ⟨rfl, alb _ _⟩

set_option maxHeartbeats 3200000 in
set_option maxRecDepth 100000 in
theorem rfits_plain (name : List UInt8) (va vd : Value) (at_ : Int) (ks : List Int) (w : World) (hK : KR w va ks) (hn : ¬ kinds name = [42]) :
    Calls Tryz.prog 19 #[.agg #[.string (st name), va, vd, .int .i64 at_]] w fun e w' => e = .returned (.bool ((kindOf name).isSome && fitL (kinds name) ks)) ∧ Below w.heap.size w w' := by
  obtain ⟨C, hS, hC⟩ := hK
  have hCl := All2.len hC
  obtain ⟨aoa, capa, rfl, hle, hmx, -⟩ := id hS
  have hkb0 : ks.length ≤ 9223372036854775807 := by unfold maxLen at hmx; omega
  clear hle hmx
  rw [hCl] at hS ⊢
  have hq : (kinds name == [42]) = false := by simp only [beq_eq_false_iff_ne]; exact hn
  have hst := st_toList (kinds name)
  have hKI := hid (rkinds_any name (w.alloc (.cells #[.string (st name), .slice aoa ks.length capa, vd, .int .i64 at_] 49)))
  have hsz := st_size (kinds name)
  generalize hkn : kinds name = kn at *
  generalize hok : (kindOf name).isSome = ok at *
  cases ok with
  | false =>
    go_enter Tryz.func19, Tryz.ntmps19
    go_wp2_with (first | (go_at_call 18; refine hKI.out.mono ?_; rintro e w2 ⟨rfl, hb2⟩; have hO := (C5.new w _ rfl [.string (st name), .slice aoa ks.length capa, vd, .int .i64 at_] 49).up hb2; have hB2 := below_then (alb w (.cells #[.string (st name), .slice aoa ks.length capa, vd, .int .i64 at_] 49)) hb2; obtain ⟨oc, of_, os⟩ := id hO))
    go_ret
    exact ⟨rfl, hB2⟩
  | true =>
    by_cases hl : ks.length = kn.length
    · have bl : ((ks.length : Int) != (kn.length : Int)) = false := by rw [hl]; simp
      have HL := hid hl
      clear hl
      go_enter Tryz.func19, Tryz.ntmps19
      go_wp2_with (first | (go_at_call 18; refine hKI.out.mono ?_; rintro e w2 ⟨rfl, hb2⟩; have hO := (C5.new w _ rfl [.string (st name), .slice aoa ks.length capa, vd, .int .i64 at_] 49).up hb2; have hB2 := below_then (alb w (.cells #[.string (st name), .slice aoa ks.length capa, vd, .int .i64 at_] 49)) hb2; obtain ⟨oc, of_, os⟩ := id hO))
      go_loopw [7] (fun s7 wr => ∃ i : Nat, s7 = .int .i64 i ∧ i ≤ kn.length ∧ (∀ j (h1 : j < kn.length) (h2 : j < ks.length), j < i → fitK kn[j] ks[j] = true) ∧ Below w.heap.size w wr ∧ C5 wr w.heap.size [.string (st name), .slice aoa ks.length capa, vd, .int .i64 at_]) (fun s7 _ => kn.length - (intOf s7).toNat)
      case atStart => exact ⟨0, rfl, Nat.zero_le _, fun j _ _ h => absurd h (Nat.not_lt_zero _), hB2, hO⟩
      case round =>
        obtain ⟨i, rfl, hi, hbef, hB, hO2⟩ := hrel
        obtain ⟨oc, of_, os⟩ := id hO2
        have HB := hid hbef
        clear hbef
        by_cases hkl : i < kn.length
        · have hz : (i : Int) < (kn.length : Int) := by omega
          have hlt : i < ks.length := by have := HL.out; omega
          have hz2 : (i : Int) < (ks.length : Int) := by omega
          have hSw := hS.up hB
          obtain ⟨g, off, rfl, hcell⟩ := hSw.some (by omega)
          have hCi : i < C.length := by have := All2.len hC; omega
          have l2 := hcell i hCi
          have hv5 := All2.at hC i hCi hlt
          generalize hce : C[i]'hCi = ci at l2 hv5
          obtain ⟨⟨p1, p2, p3, p4, p5, p6, p7, p8, p9, p10, p11, rfl⟩, hkd⟩ := hv5
          have hkd : p1 = ks[i] := by simpa using hkd
          have c0 := l2 0 _ rfl
          have c1 := l2 1 _ rfl
          have c2 := l2 2 _ rfl
          have c3 := l2 3 _ rfl
          have c4 := l2 4 _ rfl
          rw [Nat.add_zero] at c0
          have hidx := fun w => st_at kn i hkl Tryz.prog 9 Tryz.underlying9 w
          have hgd : kn.getD i 0 = kn[i] := by simp [List.getD, hkl]
          rw [hgd] at hidx
          have hFO := hid (fun W => rfit_one kn[i] p1 p2 (.slice p3 p6 p7) (.slice p4 p8 p9) (.slice p5 p10 p11) W)
          have hFK := hid (show fitK kn[i] p1 = fitK kn[i] ks[i] by rw [hkd])
          clear l2 hcell hce hkd hgd hSw
          obtain ⟨cc, hcc⟩ : ∃ cc, cc = c8 kn[i] := ⟨_, rfl⟩
          rw [← hcc] at hidx hFO
          clear hcc
          cases hfk : fitK kn[i] ks[i] with
          | true =>
            rw [hfk] at hFK
            rw [hFK.out] at hFO
            have HFK := hid hfk
            clear hFK hfk
            have b1 := oc 1
            go_upto_region 21 with fail
            have HSX := hid (show ∀ w', Below wr.heap.size wr w' → w'.cell? ⟨g, off + i * 5, none⟩ = some (.int .i64 p1) ∧ w'.cell? ⟨g, off + i * 5 + 1, none⟩ = some (.int .i64 p2) ∧ w'.cell? ⟨g, off + i * 5 + 2, none⟩ = some (.slice p3 p6 p7) ∧ w'.cell? ⟨g, off + i * 5 + 3, none⟩ = some (.slice p4 p8 p9) ∧ w'.cell? ⟨g, off + i * 5 + 4, none⟩ = some (.slice p5 p10 p11) ∧ w'.cell? ⟨w.heap.size, 1, none⟩ = some (.slice (some ⟨g, off, none⟩) ks.length capa) from fun X hX => ⟨cell_up' hX c0, cell_up' hX c1, cell_up' hX c2, cell_up' hX c3, cell_up' hX c4, cell_up' hX b1⟩)
            go_region_held3 (fun w' => w'.cell? ⟨g, off + i * 5, none⟩ = some (.int .i64 p1) ∧ w'.cell? ⟨g, off + i * 5 + 1, none⟩ = some (.int .i64 p2) ∧ w'.cell? ⟨g, off + i * 5 + 2, none⟩ = some (.slice p3 p6 p7) ∧ w'.cell? ⟨g, off + i * 5 + 3, none⟩ = some (.slice p4 p8 p9) ∧ w'.cell? ⟨g, off + i * 5 + 4, none⟩ = some (.slice p5 p10 p11) ∧ w'.cell? ⟨w.heap.size, 1, none⟩ = some (.slice (some ⟨g, off, none⟩) ks.length capa)) (first | go_keep | exact HSX.out _ (Below.refl _ _) | exact HSX.out _ (below_drewN (Below.refl _ _) 1) | exact HSX.out _ (by assumption) | skip) (first | (go_at_call 46; refine (hFO.out _).mono ?_; rintro e w5 ⟨rfl, hb5⟩; have hb6 : Below wr.heap.size wr w5 := ((below_drewN (Below.refl _ _) _).trans hb5)))
            all_goals
              go_wp2_with fail
              go_roundw
              case rel => exact ⟨i + 1, by go_num, by omega, fun j h1 h2 h3 => by
                rcases Nat.lt_or_ge j i with q | q
                · exact HB.out j h1 h2 q
                · obtain rfl : j = i := by omega
                  exact HFK.out, hB.trans (hb6.mono hB.size), hO2.up hb6⟩
              case measure => simp [intOf]; omega
          | false =>
            rw [hfk] at hFK
            rw [hFK.out] at hFO
            have HFN := hid (fitL_no kn ks i hkl hlt hfk)
            clear hFK hfk
            have b1 := oc 1
            go_upto_region 21 with fail
            have HSX := hid (show ∀ w', Below wr.heap.size wr w' → w'.cell? ⟨g, off + i * 5, none⟩ = some (.int .i64 p1) ∧ w'.cell? ⟨g, off + i * 5 + 1, none⟩ = some (.int .i64 p2) ∧ w'.cell? ⟨g, off + i * 5 + 2, none⟩ = some (.slice p3 p6 p7) ∧ w'.cell? ⟨g, off + i * 5 + 3, none⟩ = some (.slice p4 p8 p9) ∧ w'.cell? ⟨g, off + i * 5 + 4, none⟩ = some (.slice p5 p10 p11) ∧ w'.cell? ⟨w.heap.size, 1, none⟩ = some (.slice (some ⟨g, off, none⟩) ks.length capa) from fun X hX => ⟨cell_up' hX c0, cell_up' hX c1, cell_up' hX c2, cell_up' hX c3, cell_up' hX c4, cell_up' hX b1⟩)
            go_region_held3 (fun w' => w'.cell? ⟨g, off + i * 5, none⟩ = some (.int .i64 p1) ∧ w'.cell? ⟨g, off + i * 5 + 1, none⟩ = some (.int .i64 p2) ∧ w'.cell? ⟨g, off + i * 5 + 2, none⟩ = some (.slice p3 p6 p7) ∧ w'.cell? ⟨g, off + i * 5 + 3, none⟩ = some (.slice p4 p8 p9) ∧ w'.cell? ⟨g, off + i * 5 + 4, none⟩ = some (.slice p5 p10 p11) ∧ w'.cell? ⟨w.heap.size, 1, none⟩ = some (.slice (some ⟨g, off, none⟩) ks.length capa)) (first | go_keep | exact HSX.out _ (Below.refl _ _) | exact HSX.out _ (below_drewN (Below.refl _ _) 1) | exact HSX.out _ (by assumption) | skip) (first | (go_at_call 46; refine (hFO.out _).mono ?_; rintro e w5 ⟨rfl, hb5⟩; have hb6 : Below wr.heap.size wr w5 := ((below_drewN (Below.refl _ _) _).trans hb5)))
            all_goals
              go_wp2_with fail
              go_ret
              exact ⟨by rw [HFN.out]; rfl, hB.trans (hb6.mono hB.size)⟩
        · obtain rfl : i = kn.length := by omega
          have hz : ¬ (kn.length : Int) < (kn.length : Int) := by omega
          have HF := hid (fitL_all kn ks HL.out (fun j h1 h2 => HB.out j h1 h2 h1))
          go_wp2
          go_ret
          exact ⟨by rw [HF.out]; rfl, hB⟩
    · have bl : ((ks.length : Int) != (kn.length : Int)) = true := by simp; omega
      have HF := hid (fitL_len kn ks hl)
      clear hl
      go_enter Tryz.func19, Tryz.ntmps19
      go_wp2_with (first | (go_at_call 18; refine hKI.out.mono ?_; rintro e w2 ⟨rfl, hb2⟩; have hO := (C5.new w _ rfl [.string (st name), .slice aoa ks.length capa, vd, .int .i64 at_] 49).up hb2; have hB2 := below_then (alb w (.cells #[.string (st name), .slice aoa ks.length capa, vd, .int .i64 at_] 49)) hb2; obtain ⟨oc, of_, os⟩ := id hO))
      go_ret
      exact ⟨by rw [HF.out]; rfl, hB2⟩

set_option maxHeartbeats 3200000 in
set_option maxRecDepth 100000 in
theorem rfits_star (name : List UInt8) (va vd : Value) (at_ : Int) (ks : List Int) (w : World) (hK : KR w va ks) (hn : kinds name = [42]) (hkb : ks.length ≤ 1000) :
    Calls Tryz.prog 19 #[.agg #[.string (st name), va, vd, .int .i64 at_]] w fun e w' => e = .returned (.bool (fitS ks)) ∧ Below w.heap.size w w' := by
  obtain ⟨C, hS, hC⟩ := hK
  have hCl := All2.len hC
  obtain ⟨aoa, capa, rfl, hle, hmx, -⟩ := id hS
  have hkb0 : ks.length ≤ 9223372036854775807 := by unfold maxLen at hmx; omega
  clear hle hmx
  rw [hCl] at hS ⊢
  have hq : (kinds name == [42]) = true := by rw [hn]; rfl
  have hst := st_toList (kinds name)
  have hKI := hid (rkinds_any name (w.alloc (.cells #[.string (st name), .slice aoa ks.length capa, vd, .int .i64 at_] 49)))
  have hok : (kindOf name).isSome = true := by
    cases h9 : kindOf name with
    | none => unfold kinds at hn; rw [h9] at hn; cases hn
    | some x => rfl
  rw [hok] at hKI
  generalize hkn : kinds name = kn at *
  clear hkn hok hn
  have hcase : ks = [] ∨ ∃ ks2 z, ks = ks2 ++ [z] := by
    rcases List.eq_nil_or_concat ks with h | ⟨a, b, h⟩
    · exact .inl h
    · exact .inr ⟨a, b, by rw [h]; simp⟩
  rcases hcase with h0 | ⟨ks2, z, hks⟩
  · subst h0
    have HF := hid (fitS_few (starL_nil) rfl)
    go_enter Tryz.func19, Tryz.ntmps19
    go_wp2_with (first | (go_at_call 18; refine hKI.out.mono ?_; rintro e w2 ⟨rfl, hb2⟩; have hO := (C5.new w _ rfl [.string (st name), .slice aoa ([] : List Int).length capa, vd, .int .i64 at_] 49).up hb2; have hB2 := below_then (alb w (.cells #[.string (st name), .slice aoa ([] : List Int).length capa, vd, .int .i64 at_] 49)) hb2; obtain ⟨oc, of_, os⟩ := id hO))
    go_ret
    exact ⟨by rw [HF.out]; rfl, hB2⟩
  have hkl : ks.length = ks2.length + 1 := by rw [hks]; simp
  have HKL := hid hkl
  have hn0 : (ks.length : Int) > 0 := by omega
  have hsub : IntKind.i64.wrap ((ks.length : Int) - 1) = (ks2.length : Int) := by rw [show (ks.length : Int) - 1 = (ks2.length : Int) by omega]; exact IntWalk.i64_in _ (by omega)
  have hx0 : (0 : Int) ≤ (ks2.length : Int) := by omega
  have hx1 : (ks2.length : Int) < (ks.length : Int) := by omega
  obtain ⟨g, off, rfl, hcell⟩ := hS.some (by omega)
  have hCi : ks2.length < C.length := by omega
  have hv5 := All2.at hC ks2.length hCi (by omega)
  have hcl := hcell ks2.length hCi 0
  obtain ⟨⟨p1, p2, p3, p4, p5, p6, p7, p8, p9, p10, p11, hce⟩, hkd⟩ := hv5
  have hp1 : p1 = z := by
    rw [hce] at hkd
    have h9 : ks[ks2.length]'(by omega) = z := by simp [hks]
    rw [h9] at hkd
    simpa using hkd
  subst hp1
  have c0 := hcl (.int .i64 p1) (by rw [hce]; rfl)
  rw [Nat.add_zero] at c0
  have C0 := hid c0
  clear hcl hce hkd hcell hCi c0
  by_cases z5 : p1 = 5
  · have HST := hid (show starL ks = ks2 from by rw [hks, z5]; exact starL_name ks2)
    subst z5
    obtain ⟨cap2, hS2, hrun⟩ := sliceE_to (e := 47) (t := 32) (P := Tryz.prog) (sz := 5) (by kernel_rfl) (fun w => by rfl) hS ks2.length (by omega)
    have hC2 : All2 (fun c k => V5 c ∧ c.head? = some (.int .i64 k)) (C.take ks2.length) ks2 := by
      have h9 := All2.take hC ks2.length
      rw [show ks.take ks2.length = ks2 by rw [hks]; simp] at h9
      exact h9
    clear hS hC
    have hCl := All2.len hC2
    generalize C.take ks2.length = C2 at *
    have hkb2 : ks2.length ≤ 1000 := by omega
    clear hks hkl
    go_enter Tryz.func19, Tryz.ntmps19
    go_upto_region 8 with (first | (go_at_call 18; refine hKI.out.mono ?_; rintro e w2 ⟨rfl, hb2⟩; have hO := (C5.new w _ rfl [.string (st name), .slice (some ⟨g, off, none⟩) ks.length capa, vd, .int .i64 at_] 49).up hb2; have hB2 := below_then (alb w (.cells #[.string (st name), .slice (some ⟨g, off, none⟩) ks.length capa, vd, .int .i64 at_] 49)) hb2; obtain ⟨oc, of_, os⟩ := id hO; have c0 := cell_up' hB2 C0.out))
    by_cases h0 : (ks2.length : Int) < 1
    · have HF := hid (fitS_few HST.out (by omega))
      go_wp2
      go_ret
      exact ⟨by rw [HF.out]; rfl, hB2⟩
    by_cases hm : (ks2.length : Int) > 32
    · have HF := hid (fitS_many HST.out (by omega))
      go_wp2
      go_ret
      exact ⟨by rw [HF.out]; rfl, hB2⟩
    clear c0 oc of_ os hO
    go_wp2
    go_loopw [6] (fun s6 wr => ∃ i : Nat, s6 = .int .i64 i ∧ i ≤ ks2.length ∧ (∀ j (h2 : j < ks2.length), j < i → fitK 110 ks2[j] = true) ∧ Below w.heap.size w wr) (fun s6 _ => ks2.length - (intOf s6).toNat)
    case atStart => exact ⟨0, rfl, Nat.zero_le _, fun j _ h => absurd h (Nat.not_lt_zero _), hB2⟩
    case round =>
      obtain ⟨i, rfl, hi, hbef, hB⟩ := hrel
      have HB := hid hbef
      clear hbef
      by_cases hlt : i < ks2.length
      · have hz : (i : Int) < (ks2.length : Int) := by omega
        have hSw := hS2.up hB
        obtain ⟨g', off', hao, hcell⟩ := hSw.some (by omega)
        injection hao with hao
        injection hao with e1 e2
        subst e1 e2
        have hCi : i < C2.length := by have := All2.len hC2; omega
        have l2 := hcell i hCi
        have hv5 := All2.at hC2 i hCi hlt
        generalize hce : C2[i]'hCi = ci at l2 hv5
        obtain ⟨⟨p1, p2, p3, p4, p5, p6, p7, p8, p9, p10, p11, rfl⟩, hkd⟩ := hv5
        have hkd : p1 = ks2[i] := by simpa using hkd
        have c0 := l2 0 _ rfl
        have c1 := l2 1 _ rfl
        have c2 := l2 2 _ rfl
        have c3 := l2 3 _ rfl
        have c4 := l2 4 _ rfl
        rw [Nat.add_zero] at c0
        have hFO := hid (fun W => rfit_one 110 p1 p2 (.slice p3 p6 p7) (.slice p4 p8 p9) (.slice p5 p10 p11) W)
        have hFK := hid (show fitK 110 p1 = fitK 110 ks2[i] by rw [hkd])
        clear l2 hcell hce hkd hSw
        rw [show c8 110 = 110 from rfl] at hFO
        cases hfk : fitK 110 ks2[i] with
        | true =>
          rw [hfk] at hFK
          rw [hFK.out] at hFO
          have HFK := hid hfk
          clear hFK hfk
          go_wp2_with (first | (go_at_call 46; refine (hFO.out _).mono ?_; rintro e w5 ⟨rfl, hb5⟩))
          go_roundw
          case rel => exact ⟨i + 1, by go_num, by omega, fun j h2 h3 => by
            rcases Nat.lt_or_ge j i with q | q
            · exact HB.out j h2 q
            · obtain rfl : j = i := by omega
              exact HFK.out, hB.trans (hb5.mono hB.size)⟩
          case measure => simp [intOf]; omega
        | false =>
          rw [hfk] at hFK
          rw [hFK.out] at hFO
          have HFN := hid (fitS_no HST.out hlt hfk)
          clear hFK hfk
          go_wp2_with (first | (go_at_call 46; refine (hFO.out _).mono ?_; rintro e w5 ⟨rfl, hb5⟩))
          go_ret
          exact ⟨by rw [HFN.out]; rfl, hB.trans (hb5.mono hB.size)⟩
      · obtain rfl : i = ks2.length := by omega
        have hz : ¬ (ks2.length : Int) < (ks2.length : Int) := by omega
        have HF := hid (fitS_yes HST.out (by omega) (by omega) (fun j hj => HB.out j hj hj))
        go_wp2
        go_ret
        exact ⟨by rw [HF.out]; rfl, hB⟩
  · have HST := hid (show starL ks = ks from by rw [hks]; exact starL_else ks2 p1 z5)
    have b5 : (p1 == 5) = false := by simp [z5]
    clear hks hkl z5
    go_enter Tryz.func19, Tryz.ntmps19
    go_upto_region 8 with (first | (go_at_call 18; refine hKI.out.mono ?_; rintro e w2 ⟨rfl, hb2⟩; have hO := (C5.new w _ rfl [.string (st name), .slice (some ⟨g, off, none⟩) ks.length capa, vd, .int .i64 at_] 49).up hb2; have hB2 := below_then (alb w (.cells #[.string (st name), .slice (some ⟨g, off, none⟩) ks.length capa, vd, .int .i64 at_] 49)) hb2; obtain ⟨oc, of_, os⟩ := id hO; have c0 := cell_up' hB2 C0.out))
    by_cases h0 : (ks.length : Int) < 1
    · exact absurd hn0 (by omega)
    by_cases hm : (ks.length : Int) > 32
    · have HF := hid (fitS_many HST.out (by omega))
      go_wp2
      go_ret
      exact ⟨by rw [HF.out]; rfl, hB2⟩
    clear c0 oc of_ os hO
    go_wp2
    go_loopw [6] (fun s6 wr => ∃ i : Nat, s6 = .int .i64 i ∧ i ≤ ks.length ∧ (∀ j (h2 : j < ks.length), j < i → fitK 110 ks[j] = true) ∧ Below w.heap.size w wr) (fun s6 _ => ks.length - (intOf s6).toNat)
    case atStart => exact ⟨0, rfl, Nat.zero_le _, fun j _ h => absurd h (Nat.not_lt_zero _), hB2⟩
    case round =>
      obtain ⟨i, rfl, hi, hbef, hB⟩ := hrel
      have HB := hid hbef
      clear hbef
      by_cases hlt : i < ks.length
      · have hz : (i : Int) < (ks.length : Int) := by omega
        have hSw := hS.up hB
        obtain ⟨g', off', hao, hcell⟩ := hSw.some (by omega)
        injection hao with hao
        injection hao with e1 e2
        subst e1 e2
        have hCi : i < C.length := by have := All2.len hC; omega
        have l2 := hcell i hCi
        have hv5 := All2.at hC i hCi hlt
        generalize hce : C[i]'hCi = ci at l2 hv5
        obtain ⟨⟨p1, p2, p3, p4, p5, p6, p7, p8, p9, p10, p11, rfl⟩, hkd⟩ := hv5
        have hkd : p1 = ks[i] := by simpa using hkd
        have c0 := l2 0 _ rfl
        have c1 := l2 1 _ rfl
        have c2 := l2 2 _ rfl
        have c3 := l2 3 _ rfl
        have c4 := l2 4 _ rfl
        rw [Nat.add_zero] at c0
        have hFO := hid (fun W => rfit_one 110 p1 p2 (.slice p3 p6 p7) (.slice p4 p8 p9) (.slice p5 p10 p11) W)
        have hFK := hid (show fitK 110 p1 = fitK 110 ks[i] by rw [hkd])
        clear l2 hcell hce hkd hSw
        rw [show c8 110 = 110 from rfl] at hFO
        cases hfk : fitK 110 ks[i] with
        | true =>
          rw [hfk] at hFK
          rw [hFK.out] at hFO
          have HFK := hid hfk
          clear hFK hfk
          go_wp2_with (first | (go_at_call 46; refine (hFO.out _).mono ?_; rintro e w5 ⟨rfl, hb5⟩))
          go_roundw
          case rel => exact ⟨i + 1, by go_num, by omega, fun j h2 h3 => by
            rcases Nat.lt_or_ge j i with q | q
            · exact HB.out j h2 q
            · obtain rfl : j = i := by omega
              exact HFK.out, hB.trans (hb5.mono hB.size)⟩
          case measure => simp [intOf]; omega
        | false =>
          rw [hfk] at hFK
          rw [hFK.out] at hFO
          have HFN := hid (fitS_no HST.out hlt hfk)
          clear hFK hfk
          go_wp2_with (first | (go_at_call 46; refine (hFO.out _).mono ?_; rintro e w5 ⟨rfl, hb5⟩))
          go_ret
          exact ⟨by rw [HFN.out]; rfl, hB.trans (hb5.mono hB.size)⟩
      · obtain rfl : i = ks.length := by omega
        have hz : ¬ (ks.length : Int) < (ks.length : Int) := by omega
        have HF := hid (fitS_yes HST.out (by omega) (by omega) (fun j hj => HB.out j hj hj))
        go_wp2
        go_ret
        exact ⟨by rw [HF.out]; rfl, hB⟩
/-- the document's Fits -/
theorem rfits_all (name : List UInt8) (va vd : Value) (at_ : Int) (ks : List Int) (w : World) (hK : KR w va ks) (hkb : ks.length ≤ 1000) :
    Calls Tryz.prog 19 #[.agg #[.string (st name), va, vd, .int .i64 at_]] w fun e w' => e = .returned (.bool (fitsOf name ks)) ∧ Below w.heap.size w w' := by
  unfold fitsOf
  by_cases h : kinds name = [42]
  · rw [if_pos h]; exact rfits_star name va vd at_ ks w hK h hkb
  · rw [if_neg h]; exact rfits_plain name va vd at_ ks w hK h
/-- the program's Fits -/
theorem fits_all (name : List UInt8) (va vd : Value) (at_ : Int) (ks : List Int) (w : World) (htab : Lib.TabIs Tryz.prog w "strings.asciiSpace" .u8 Lib.asciiSpaceTab) (hK : KR w va ks) (hkb : ks.length ≤ 1000) :
    Calls Tryz.prog 13 #[.agg #[.string (st name), va, vd, .int .i64 at_]] w fun e w' => e = .returned (.bool (fitsOf name ks)) ∧ Below w.heap.size w w' := by
  unfold fitsOf
  by_cases h : kinds name = [42]
  · rw [if_pos h]; exact fits_star name va vd at_ ks w htab hK h hkb
  · rw [if_neg h]; exact fits_plain name va vd at_ ks w htab hK h
end Go.Proofs.YtlmgklebikcbjaaGreatDoor
