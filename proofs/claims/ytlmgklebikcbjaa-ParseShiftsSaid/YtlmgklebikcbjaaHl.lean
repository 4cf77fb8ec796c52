/-
  The program's stream, behind an end of line. Condition: the parser stands in its bytes; the dictionary's entries are no more than 800000.
-/
import Derived.Test.YtlmgklebikcbjaaHk
/-
  The program's stream, behind an end of line. Condition: the parser stands in its bytes; the dictionary's entries are no more than 800000.
-/
namespace Go.Proofs.Ytlmgklebikcbjaa
open Go.RowKit
set_option linter.unusedVariables false

theorem eolA_cases (r : List UInt8) : (pfx [13, 10] r = true ∧ eolA r = r.drop 2) ∨ (pfx [13, 10] r = false ∧ pfx [10] r = true ∧ eolA r = r.drop 1) ∨ (pfx [13, 10] r = false ∧ pfx [10] r = false ∧ pfx [13] r = true ∧ eolA r = r.drop 1) ∨ (pfx [13, 10] r = false ∧ pfx [10] r = false ∧ pfx [13] r = false ∧ eolA r = r) := by
  unfold eolA
  cases h1 : pfx [13, 10] r with
  | true => left; exact ⟨rfl, by simp⟩
  | false =>
    cases h2 : pfx [10] r with
    | true => right; left; exact ⟨rfl, rfl, by simp⟩
    | false =>
      cases h3 : pfx [13] r with
      | true => right; right; left; exact ⟨rfl, rfl, rfl, by simp⟩
      | false => right; right; right; exact ⟨rfl, rfl, rfl, by simp⟩

set_option maxHeartbeats 6400000 in
set_option maxRecDepth 100000 in
theorem stream_yes {q : Bool} {A : Nat → Prop} {w : World} {pp lp cp : Nat} {b s r1 : List UInt8} {i : Nat} {n0 : Int} {b0 : List UInt8} {l0 : List PO} {d : List (List UInt8 × PO)} {vs : List Value} (h : Ps q w w pp lp cp b i s) (hov : OV A w vs (.mk 7 n0 b0 l0 d)) (hA : ∀ g, A g → g ≠ lp ∧ g ≠ cp) (hd : d.length ≤ 800000) (he : eolS s = some r1) :
    Calls Try.prog 70 #[.pointer (some ⟨pp, 0, none⟩), .agg vs.toArray] w fun e w' => StQ q w pp lp cp b (strm1 (.mk 7 n0 b0 l0 d) r1) e w' := by
  have hlo := h.lo
  have hsm := h.sm
  have hat := h.at_
  obtain ⟨o1, o3, o4, o6, o7, o9, rfl⟩ := hov.shape
  have hP := (h.below (alb w (.cells #[.int .i64 7, .int .i64 n0, .slice o1 b0.length o3, .slice o4 l0.length o6, .slice o7 d.length o9] 61))).below (alb _ (.cells #[.int .i64 0, .int .i64 0, .slice none 0 0, .slice none 0 0, .slice none 0 0] 61))
  have hC := (C5.new w _ rfl [.int .i64 7, .int .i64 n0, .slice o1 b0.length o3, .slice o4 l0.length o6, .slice o7 d.length o9] 61).up (alb _ (.cells #[.int .i64 0, .int .i64 0, .slice none 0 0, .slice none 0 0, .slice none 0 0] 61))
  have hZ := C5.new (w.alloc (.cells #[.int .i64 7, .int .i64 n0, .slice o1 b0.length o3, .slice o4 l0.length o6, .slice o7 d.length o9] 61)) (w.heap.size + 1) (by simp) [.int .i64 0, .int .i64 0, .slice none 0 0, .slice none 0 0, .slice none 0 0] 61
  have hr1 : r1.length ≤ 1000000 := by
    have : r1.length ≤ s.length := by
      unfold eolS at he
      split at he
      · injection he with he; subst he; rw [List.length_drop]; omega
      · split at he
        · injection he with he; subst he; rw [List.length_drop]; omega
        · cases he
    omega
  have p0 := hP.p0
  have l1 := hP.l0
  have HOV := hid hov
  have HE := hid he
  clear h hov he hat hsm
  go_enter Try.func70, Try.ntmps70
  go_upto_region 2 with fail
  go_cut [11] (fun s11 wx => s11 = .bool true ∧ ∃ j, Ps q w wx pp lp cp b j r1 ∧ C5 wx w.heap.size [.int .i64 7, .int .i64 n0, .slice o1 b0.length o3, .slice o4 l0.length o6, .slice o7 d.length o9] ∧ C5 wx (w.heap.size + 1) [.int .i64 0, .int .i64 0, .slice none 0 0, .slice none 0 0, .slice none 0 0])
  case first =>
    have he := HE.out
    unfold eolS at he
    by_cases h1 : pfx [13, 10] s = true
    · rw [if_pos h1] at he
      injection he with he
      subst he
      have H1 := hid h1
      clear h1
      go_wp2_with (first | (go_at_call 56; (with_reducible refine (pmatch_yes' hP.fresh _ [13, 10] (by decide) (by decide) H1.out).mono ?_); rintro e w3 ⟨rfl, j3, hPs⟩; have hP := hP.join hPs; have hC := hC.held hPs.held (by omega) (by omega); have hZ := hZ.held hPs.held (by omega) (by omega); have p0 := hP.p0; have l1 := hP.l0; have zp := World.block_lt_of_cell? _ _ p0; have zl := World.block_lt_of_cell? _ _ l1; obtain ⟨rc, rf, rs⟩ := id hZ))
      go_meet
      exact ⟨rfl, _, hP, hC, hZ⟩
    · rw [if_neg h1] at he
      by_cases h2 : pfx [10] s = true
      · rw [if_pos h2] at he
        injection he with he
        subst he
        have H1 := hid (show pfx [13, 10] s = false by simpa using h1)
        have H2 := hid h2
        clear h1 h2
        go_wp2_with (first | (go_at_call 56; (with_reducible refine (pmatch_yes' hP.fresh _ [10] (by decide) (by decide) H2.out).mono ?_); rintro e w3 ⟨rfl, j3, hPs⟩; have hP := hP.join hPs; have hC := hC.held hPs.held (by omega) (by omega); have hZ := hZ.held hPs.held (by omega) (by omega); have p0 := hP.p0; have l1 := hP.l0; have zp := World.block_lt_of_cell? _ _ p0; have zl := World.block_lt_of_cell? _ _ l1; obtain ⟨rc, rf, rs⟩ := id hZ) | (go_at_call 56; (with_reducible refine (pmatch_no' hP.fresh _ [13, 10] (by decide) (by decide) H1.out).mono ?_); rintro e w3 ⟨rfl, hPs⟩; have hP := hP.join hPs; have hC := hC.held hPs.held (by omega) (by omega); have hZ := hZ.held hPs.held (by omega) (by omega); have p0 := hP.p0; have l1 := hP.l0; have zp := World.block_lt_of_cell? _ _ p0; have zl := World.block_lt_of_cell? _ _ l1; obtain ⟨rc, rf, rs⟩ := id hZ))
        go_meet
        exact ⟨rfl, _, hP, hC, hZ⟩
      · rw [if_neg h2] at he; cases he
  case rest =>
    obtain ⟨rfl, j1, hP, hC, hZ⟩ := hcut
    obtain ⟨w2, rfl⟩ : ∃ x : World, x = wc := ⟨_, rfl⟩
    have hHw := hP.held
    have hov1 := HOV.out.keep (B := A) (w' := w2) (fun _ h => h) (fun g hg hlt => hHw.block g hlt (hA g hg).1 (hA g hg).2)
    have hG := hid (get_any bLength hov1 (by omega))
    have hz2 := hZ.2.2
    clear hov1 p0 l1
    obtain ⟨oc, of_, os⟩ := id hC
    go_upto_region 6 with (go_at_call 102; refine hG.out.mono ?_; rintro e w3 ⟨vs3, rfl, hg3, hb3⟩; have hP := hP.below hb3; have hC := hC.up hb3; have hZ := hZ.up hb3; have hs3 := hb3.size; have hV3 := hg3.v5; have hg3 := hid hg3; obtain ⟨y1, y2, y3, y4, y5, y6, y7, y8, y9, y10, y11, rfl⟩ := hV3)
    clear oc of_ os
    have hY := C5.new w3 _ rfl [.int .i64 y1, .int .i64 y2, .slice y3 y6 y7, .slice y4 y8 y9, .slice y5 y10 y11] 61
    have hP := hP.below (alb w3 (.cells #[.int .i64 y1, .int .i64 y2, .slice y3 y6 y7, .slice y4 y8 y9, .slice y5 y10 y11] 61))
    have hC := hC.up (alb w3 (.cells #[.int .i64 y1, .int .i64 y2, .slice y3 y6 y7, .slice y4 y8 y9, .slice y5 y10 y11] 61))
    have hZ := hZ.up (alb w3 (.cells #[.int .i64 y1, .int .i64 y2, .slice y3 y6 y7, .slice y4 y8 y9, .slice y5 y10 y11] 61))
    have hkd : (getE bLength d).kind = y1 := OV.kind hg3.out
    have hnm : (getE bLength d).num = y2 := OV.numv hg3.out
    have hS1 : strm1 (.mk 7 n0 b0 l0 d) r1 = if ¬ (y1 = 2 ∧ 0 ≤ y2) then .bad 4 r1 else if (r1.length : Int) < y2 then .bad 2 r1 else match wantS bEndstream (eolA (r1.drop y2.toNat)) with | .bad e t => .bad e t | .ok _ t => .ok (streamO (r1.take y2.toNat) (.mk 7 n0 b0 l0 d)) t := by
      unfold strm1
      rw [show PO.ents (.mk 7 n0 b0 l0 d) = d from rfl, hkd, hnm]; rfl
    have hb4 := alb w3 (.cells #[.int .i64 y1, .int .i64 y2, .slice y3 y6 y7, .slice y4 y8 y9, .slice y5 y10 y11] 61)
    have hs4 := hb4.size
    clear hkd hnm hG hg3
    generalize w3.alloc (.cells #[.int .i64 y1, .int .i64 y2, .slice y3 y6 y7, .slice y4 y8 y9, .slice y5 y10 y11] 61) = w4 at *
    generalize w3.heap.size = g4 at *
    obtain ⟨yc, yf, ys⟩ := id hY
    obtain ⟨rc, rf, rs⟩ := id hZ
    by_cases hk : y1 = 2 ∧ 0 ≤ y2
    · obtain ⟨rfl, hn0⟩ := hk
      obtain ⟨m, rfl⟩ : ∃ m : Nat, y2 = m := ⟨y2.toNat, by omega⟩
      have b2 : ¬ ((m : Int) < 0) := by omega
      have b2' : decide ((m : Int) < 0) = false := decide_eq_false b2
      rw [if_neg (by simp), Int.toNat_natCast] at hS1
      have HS1 := hid hS1
      clear hS1
      have p0 := hP.p0
      have l1 := hP.l0
      obtain ⟨bq, hbq⟩ : ∃ bq, bq = decide ((r1.length : Int) < (m : Int)) := ⟨_, rfl⟩
      have HBQ := hid hbq
      clear hbq
      go_upto_region 8 with fail
      go_cut [62] (fun s62 wx => s62 = .bool bq ∧ Below w4.heap.size w4 wx)
      case first =>
        go_quiet ((first | (go_at_call 64; exact Calls.quiet_of_same ((pleft (hP.below (below_drewN (Below.refl _ _) _))).mono fun e w' ⟨h1, h2⟩ => ⟨h1, h2.symm⟩))))
        go_wp2_with fail
        go_meet
        exact ⟨by rw [HBQ.out]; simp, below_drewN (Below.refl _ _) _⟩
      case rest =>
        obtain ⟨rfl, hb5⟩ := hcut
        obtain ⟨w5, rfl⟩ : ∃ x : World, x = wc := ⟨_, rfl⟩
        have hP := hP.below hb5
        have hC := hC.up hb5
        have hZ := hZ.up hb5
        have hY := hY.up hb5
        have hs5 := hb5.size
        clear yc yf ys rc rf rs p0 l1
        obtain ⟨yc, yf, ys⟩ := id hY
        obtain ⟨rc, rf, rs⟩ := id hZ
        have p0 := hP.p0
        have l1 := hP.l0
        cases bq with
        | true =>
          have hlt : (r1.length : Int) < (m : Int) := of_decide_eq_true HBQ.out.symm
          have hS2 := HS1.out
          rw [if_pos hlt] at hS2
          have HS2 := hid hS2
          clear hS2 hlt
          go_wp2
          obtain ⟨k0, k1, k2, k3, k4⟩ := set5_cells (a := .int .i64 0) (b := .int .i64 0) (c := .slice none 0 0) (d := .slice none 0 0) (e := .slice none 0 0) (hZ.five rfl)
          have hh := fun B => set5_held w5 B (w.heap.size + 1) (.int .i64 0) (.int .i64 0) (.slice none 0 0) (.slice none 0 0) (.slice none 0 0)
          have hP5 := hP.off (hh w5.heap.size) (by omega)
          refine bodyPost_ret (v := .tuple #[.agg #[.int .i64 0, .int .i64 0, .slice none 0 0, .slice none 0 0, .slice none 0 0], .int .i64 2]) (by simp [results, Try.results70, go_sem, k0, k1, k2, k3, k4]) rfl ?_
          show StQ q w pp lp cp b _ _ _
          rw [HS2.out]
          exact ⟨[.int .i64 0, .int .i64 0, .slice none 0 0, .slice none 0 0, .slice none 0 0], V5.zero, rfl, _, hP5⟩
        | false =>
          have hlt : ¬ (r1.length : Int) < (m : Int) := of_decide_eq_false HBQ.out.symm
          have hS2 := HS1.out
          rw [if_neg hlt] at hS2
          have HS2 := hid hS2
          have hml : m ≤ r1.length := by omega
          clear hS2 hlt HS1 HBQ
          go_upto_region 10 with fail
          go_cut [7] (fun s7 wx => ∃ ao cap j, s7 = .slice ao m cap ∧ OwnB wx w5.heap.size 5 (.slice ao m cap) (r1.take m) ∧ Ps q w wx pp lp cp b j (r1.drop m) ∧ C5 wx w.heap.size [.int .i64 7, .int .i64 n0, .slice o1 b0.length o3, .slice o4 l0.length o6, .slice o7 d.length o9] ∧ C5 wx (w.heap.size + 1) [.int .i64 0, .int .i64 0, .slice none 0 0, .slice none 0 0, .slice none 0 0] ∧ w5.heap.size ≤ wx.heap.size)
          case first =>
            have hml2 : (r1.take m).length = m := by rw [List.length_take]; omega
            go_region_held3 (fun w' => w'.cell? ⟨pp, 0, none⟩ = some (.pointer (some ⟨lp, 0, none⟩)) ∧ w'.cell? ⟨lp, 0, none⟩ = some (.pointer (some ⟨cp, 0, none⟩)) ∧ w'.cell? ⟨g4, 1, none⟩ = some (.int .i64 m)) (first | go_keep | exact ⟨hP.p0, hP.l0, hY.1 1⟩ | skip) (first | (go_at_call 103; refine (ptake (hP.below (below_drewN (Below.refl _ _) _)).fresh m hml).mono ?_; rintro e w6 ⟨u6, rfl, hr6, j6, hPs⟩; have hP := (hP.below (below_drewN (Below.refl _ _) _)).join hPs; have hC := (hC.up (below_drewN (Below.refl _ _) _)).held hPs.held (by omega) (by omega); have hZ := (hZ.up (below_drewN (Below.refl _ _) _)).held hPs.held (by omega) (by omega); have hY := (hY.up (below_drewN (Below.refl _ _) _)).held hPs.held (by omega) (by omega); have hs6 := hPs.held.size; obtain ⟨ao6, cap6, rfl, -, -, -⟩ := Rd.own hr6; rw [hml2]; rw [hml2] at hr6))
            all_goals
              go_wp2_with fail
              go_meet
              refine ⟨_, _, _, rfl, ?_, hP, hC, hZ, by simpa using hs6⟩
              simpa using hr6
          case rest =>
            obtain ⟨ao6, cap6, j6, rfl, hr6, hP, hC, hZ, hs6⟩ := hcut
            obtain ⟨w6, rfl⟩ : ∃ x : World, x = wc := ⟨_, rfl⟩
            clear yc yf ys rc rf rs p0 l1 hY
            obtain ⟨oc, of_, os⟩ := id hC
            obtain ⟨rc, rf, rs⟩ := id hZ
            have p0 := hP.p0
            have l1 := hP.l0
            have hml2 : (r1.take m).length ≤ 1000000 := by rw [List.length_take]; omega
            have hDT : SlA (fun g => w5.heap.size ≤ g ∧ g < w6.heap.size) w6 (.slice ao6 m cap6) (r1.take m) := ⟨Sl.own hr6, fun g hg => World.ownsRow.lt hr6 g hg⟩
            clear hr6
            have hsw : w.heap.size + 2 ≤ w5.heap.size := by omega
            have hHO := fun W7 (hp : Held w.heap.size lp cp w W7) => HOV.out.keep (B := A) (w' := W7) (fun _ h => h) (fun g hg hlt => hp.block g hlt (hA g hg).1 (hA g hg).2)
            have HHO := hid hHO
            clear hHO
            generalize hRR : r1.drop m = rr at hP
            have HRR := hid hRR
            clear hRR
            rcases eolA_cases rr with ⟨h1, hE⟩ | ⟨h1, h2, hE⟩ | ⟨h1, h2, h3, hE⟩ | ⟨h1, h2, h3, hE⟩
            · have H1 := hid h1
              clear h1
              have HEA := hid hE
              clear hE
              have hs36 := Nat.le_refl w6.heap.size
              go_upto_region 13 with (first | (go_at_call 56; (with_reducible refine (pmatch_yes' hP.fresh _ [13, 10] (by decide) (by decide) H1.out).mono ?_); rintro e w3 ⟨rfl, j3, hPs⟩; have hP := hP.join hPs; have hC := hC.held hPs.held (by omega) (by omega); have hZ := hZ.held hPs.held (by omega) (by omega); have p0 := hP.p0; have l1 := hP.l0; have zp := World.block_lt_of_cell? _ _ p0; have zl := World.block_lt_of_cell? _ _ l1; obtain ⟨rc, rf, rs⟩ := id hZ; have hDT := hDT.keep (fun _ h => h) (fun g hg hlt => hPs.held.block g hlt (by have := hg.1; omega) (by have := hg.1; omega)); have hs36 := Nat.le_trans hs36 hPs.held.size))
              have hP : Ps q w w3 pp lp cp b j3 (eolA rr) := by rw [HEA.out]; exact hP
              clear p0 l1 oc of_ os rc rf rs
              obtain ⟨oc, of_, os⟩ := id hC
              obtain ⟨rc, rf, rs⟩ := id hZ
              have hDR := hid (drop_any bLength (SlX.lit1 w3 w3.heap.size rfl [.string (st bLength)] 9 1 rfl) (HHO.out (w3.alloc (.cells #[.string (st bLength)] 9)) (hP.below (alb w3 (.cells #[.string (st bLength)] 9))).held) hd)
              go_upto_region 15 with (go_at_call 104; refine hDR.out.mono ?_; rintro e w8 ⟨vs8, rfl, hd8, hb8⟩; have hP := (hP.below (alb w3 (.cells #[.string (st bLength)] 9))).below hb8; have hC := (hC.up (alb w3 (.cells #[.string (st bLength)] 9))).up hb8; have hZ := (hZ.up (alb w3 (.cells #[.string (st bLength)] 9))).up hb8; have hs8 := hb8.size; have hV8 := hd8.v5; have hd8 := hid hd8; obtain ⟨z1, z2, z3, z4, z5, z6, z7, z8, z9, z10, z11, rfl⟩ := hV8)
              have hQ := C5.new w8 _ rfl [.int .i64 8, .int .i64 z2, .slice ao6 m cap6, .slice z4 z8 z9, .slice z5 z10 z11] 61
              have hP := hP.below (alb w8 (.cells #[.int .i64 8, .int .i64 z2, .slice ao6 m cap6, .slice z4 z8 z9, .slice z5 z10 z11] 61))
              have hZ := hZ.up (alb w8 (.cells #[.int .i64 8, .int .i64 z2, .slice ao6 m cap6, .slice z4 z8 z9, .slice z5 z10 z11] 61))
              have hzz : w3.heap.size + 1 ≤ w8.heap.size := by simpa using hs8
              have hOV8 := (OV.data2 (k2 := 8) (vb2 := .slice ao6 m cap6) (b2 := r1.take m) (hd8.out.keep (B := fun g => w.heap.size + 2 ≤ g ∧ g < (w8.alloc (.cells #[.int .i64 8, .int .i64 z2, .slice ao6 m cap6, .slice z4 z8 z9, .slice z5 z10 z11] 61)).heap.size) (w' := w8.alloc (.cells #[.int .i64 8, .int .i64 z2, .slice ao6 m cap6, .slice z4 z8 z9, .slice z5 z10 z11] 61)) (fun g hg => ⟨by have := hg.1; simp at this; omega, Nat.lt_of_lt_of_le hg.2 (alb w8 (.cells #[.int .i64 8, .int .i64 z2, .slice ao6 m cap6, .slice z4 z8 z9, .slice z5 z10 z11] 61)).size⟩) (fun g hg hlt => (alb w8 (.cells #[.int .i64 8, .int .i64 z2, .slice ao6 m cap6, .slice z4 z8 z9, .slice z5 z10 z11] 61)).block g hlt)) (hDT.keep (fun g hg => ⟨by have := hg.1; omega, by have := hg.2; simp; omega⟩) (fun g hg hlt => ((alb w8 (.cells #[.int .i64 8, .int .i64 z2, .slice ao6 m cap6, .slice z4 z8 z9, .slice z5 z10 z11] 61)).block g (by omega)).trans ((hb8.block g (by simp; omega)).trans ((alb w3 (.cells #[.string (st bLength)] 9)).block g hlt)))) hml2)
              have HOV8 := hid hOV8
              clear hOV8 hd8 oc of_ os rc rf rs hDT hDR
              generalize w8.alloc (.cells #[.int .i64 8, .int .i64 z2, .slice ao6 m cap6, .slice z4 z8 z9, .slice z5 z10 z11] 61) = w9 at *
              generalize w8.heap.size = g9 at *
              have hlt9 := hQ.2.2
              obtain ⟨q0, q1, q2, q3, q4⟩ := hQ.s5
              have hbd : Below w9.heap.size w9 w9.drew := below_drewN (Below.refl _ _) 1
              have hPd := hP.below hbd
              have HNE := hid (show (w.heap.size + 1 ≠ lp ∧ w.heap.size + 1 ≠ cp) ∧ (g9 ≠ lp ∧ g9 ≠ cp) from by omega)
              have HN2 := hid (show g9 ≠ w.heap.size + 1 from by omega)
              have HOVK := hid (show ∀ w10 : World, Held w9.drew.heap.size lp cp w9.drew w10 → OV (fun g => w.heap.size + 2 ≤ g ∧ g < w10.heap.size) w10 [.int .i64 8, .int .i64 z2, .slice ao6 m cap6, .slice z4 z8 z9, .slice z5 z10 z11] (.mk 8 n0 (r1.take m) l0 (wi (bLength, poNull) d)) from fun w10 hh => HOV8.out.keep (fun g hg => ⟨hg.1, Nat.lt_of_lt_of_le hg.2 (Nat.le_trans hbd.size hh.size)⟩) (fun g hg hlt => (hh.block g (Nat.lt_of_lt_of_le hlt hbd.size) (by have := hg.1; omega) (by have := hg.1; omega)).trans (hbd.block g hlt)))
              obtain ⟨rc, rf, rs⟩ := id hZ
              go_region_held3 (fun w' => w'.cell? ⟨g9, 0, none⟩ = some (.int .i64 8) ∧ w'.cell? ⟨g9, 1, none⟩ = some (.int .i64 z2) ∧ w'.cell? ⟨g9, 2, none⟩ = some (.slice ao6 m cap6) ∧ w'.cell? ⟨g9, 3, none⟩ = some (.slice z4 z8 z9) ∧ w'.cell? ⟨g9, 4, none⟩ = some (.slice z5 z10 z11)) (first | go_keep | with_reducible exact hQ.s5 | with_reducible exact C5.s5 (hQ.held (set5_held _ _ (w.heap.size + 1) _ _ _ _ _) HN2.out HN2.out) | skip) (first | (go_at_call 69; (with_reducible refine (word_w' hPd.fresh _ bEndstream (by decide)).mono ?_); rintro e w10 hq; obtain ⟨c10, t10, hc10, ht10, rfl, j10, hPs⟩ := hq.both; have hP := hPd.join hPs; have hZ := (hZ.up hbd).held hPs.held HNE.out.1.1 HNE.out.1.2; have hQ := (hQ.up hbd).held hPs.held HNE.out.2.1 HNE.out.2.2; have hov10 := hid (HOVK.out _ hPs.held); obtain ⟨rc, rf, rs⟩ := id hZ))
              all_goals
                go_wp2_with fail
                obtain ⟨k0, k1, k2, k3, k4⟩ := set5_cells (a := .int .i64 8) (b := .int .i64 z2) (c := .slice ao6 m cap6) (d := .slice z4 z8 z9) (e := .slice z5 z10 z11) (hZ.five rfl)
                have hh := fun B => set5_held w10 B (w.heap.size + 1) (.int .i64 8) (.int .i64 z2) (.slice ao6 m cap6) (.slice z4 z8 z9) (.slice z5 z10 z11)
                have hP5 := hP.off (hh w10.heap.size) (by omega)
                refine bodyPost_ret (v := .tuple #[.agg #[.int .i64 8, .int .i64 z2, .slice ao6 m cap6, .slice z4 z8 z9, .slice z5 z10 z11], .int .i64 c10]) (by simp [results, Try.results70, go_sem, k0, k1, k2, k3, k4]) rfl ?_
                show StQ q w pp lp cp b _ _ _
                rw [HS2.out, HRR.out]
                have e1 := hc10.out
                have e2 := ht10.out
                rcases hW : wantS bEndstream (eolA rr) with ⟨x, t⟩ | ⟨n9, r9⟩
                · rw [hW] at e1 e2
                  obtain rfl : c10 = x := e1
                  obtain rfl : t10 = t := e2
                  exact ⟨[.int .i64 8, .int .i64 z2, .slice ao6 m cap6, .slice z4 z8 z9, .slice z5 z10 z11], ⟨8, z2, ao6, z4, z5, m, cap6, z8, z9, z10, z11, rfl⟩, rfl, _, hP5⟩
                · rw [hW] at e1 e2
                  obtain rfl : c10 = 0 := e1
                  obtain rfl : t10 = r9 := e2
                  exact ⟨[.int .i64 8, .int .i64 z2, .slice ao6 m cap6, .slice z4 z8 z9, .slice z5 z10 z11], rfl, hov10.out.keep (fun g hg => ⟨by have := hg.1; omega, Nat.lt_of_lt_of_le hg.2 (hh 0).size⟩) (fun g hg hlt => (hh w10.heap.size).block g hlt (by have := hg.1; omega) (by have := hg.1; omega)), _, hP5⟩
            · have H1 := hid h1
              have H2 := hid h2
              clear h1 h2
              have HEA := hid hE
              clear hE
              have hs36 := Nat.le_refl w6.heap.size
              go_upto_region 13 with (first | (go_at_call 56; (with_reducible refine (pmatch_yes' hP.fresh _ [10] (by decide) (by decide) H2.out).mono ?_); rintro e w3 ⟨rfl, j3, hPs⟩; have hP := hP.join hPs; have hC := hC.held hPs.held (by omega) (by omega); have hZ := hZ.held hPs.held (by omega) (by omega); have p0 := hP.p0; have l1 := hP.l0; have zp := World.block_lt_of_cell? _ _ p0; have zl := World.block_lt_of_cell? _ _ l1; obtain ⟨rc, rf, rs⟩ := id hZ; have hDT := hDT.keep (fun _ h => h) (fun g hg hlt => hPs.held.block g hlt (by have := hg.1; omega) (by have := hg.1; omega)); have hs36 := Nat.le_trans hs36 hPs.held.size) | (go_at_call 56; (with_reducible refine (pmatch_no' hP.fresh _ [13, 10] (by decide) (by decide) H1.out).mono ?_); rintro e w3 ⟨rfl, hPs⟩; have hP := hP.join hPs; have hC := hC.held hPs.held (by omega) (by omega); have hZ := hZ.held hPs.held (by omega) (by omega); have p0 := hP.p0; have l1 := hP.l0; have zp := World.block_lt_of_cell? _ _ p0; have zl := World.block_lt_of_cell? _ _ l1; obtain ⟨rc, rf, rs⟩ := id hZ; have hDT := hDT.keep (fun _ h => h) (fun g hg hlt => hPs.held.block g hlt (by have := hg.1; omega) (by have := hg.1; omega)); have hs36 := Nat.le_trans hs36 hPs.held.size))
              have hP : Ps q w w3 pp lp cp b j3 (eolA rr) := by rw [HEA.out]; exact hP
              clear p0 l1 oc of_ os rc rf rs
              obtain ⟨oc, of_, os⟩ := id hC
              obtain ⟨rc, rf, rs⟩ := id hZ
              have hDR := hid (drop_any bLength (SlX.lit1 w3 w3.heap.size rfl [.string (st bLength)] 9 1 rfl) (HHO.out (w3.alloc (.cells #[.string (st bLength)] 9)) (hP.below (alb w3 (.cells #[.string (st bLength)] 9))).held) hd)
              go_upto_region 15 with (go_at_call 104; refine hDR.out.mono ?_; rintro e w8 ⟨vs8, rfl, hd8, hb8⟩; have hP := (hP.below (alb w3 (.cells #[.string (st bLength)] 9))).below hb8; have hC := (hC.up (alb w3 (.cells #[.string (st bLength)] 9))).up hb8; have hZ := (hZ.up (alb w3 (.cells #[.string (st bLength)] 9))).up hb8; have hs8 := hb8.size; have hV8 := hd8.v5; have hd8 := hid hd8; obtain ⟨z1, z2, z3, z4, z5, z6, z7, z8, z9, z10, z11, rfl⟩ := hV8)
              have hQ := C5.new w8 _ rfl [.int .i64 8, .int .i64 z2, .slice ao6 m cap6, .slice z4 z8 z9, .slice z5 z10 z11] 61
              have hP := hP.below (alb w8 (.cells #[.int .i64 8, .int .i64 z2, .slice ao6 m cap6, .slice z4 z8 z9, .slice z5 z10 z11] 61))
              have hZ := hZ.up (alb w8 (.cells #[.int .i64 8, .int .i64 z2, .slice ao6 m cap6, .slice z4 z8 z9, .slice z5 z10 z11] 61))
              have hzz : w3.heap.size + 1 ≤ w8.heap.size := by simpa using hs8
              have hOV8 := (OV.data2 (k2 := 8) (vb2 := .slice ao6 m cap6) (b2 := r1.take m) (hd8.out.keep (B := fun g => w.heap.size + 2 ≤ g ∧ g < (w8.alloc (.cells #[.int .i64 8, .int .i64 z2, .slice ao6 m cap6, .slice z4 z8 z9, .slice z5 z10 z11] 61)).heap.size) (w' := w8.alloc (.cells #[.int .i64 8, .int .i64 z2, .slice ao6 m cap6, .slice z4 z8 z9, .slice z5 z10 z11] 61)) (fun g hg => ⟨by have := hg.1; simp at this; omega, Nat.lt_of_lt_of_le hg.2 (alb w8 (.cells #[.int .i64 8, .int .i64 z2, .slice ao6 m cap6, .slice z4 z8 z9, .slice z5 z10 z11] 61)).size⟩) (fun g hg hlt => (alb w8 (.cells #[.int .i64 8, .int .i64 z2, .slice ao6 m cap6, .slice z4 z8 z9, .slice z5 z10 z11] 61)).block g hlt)) (hDT.keep (fun g hg => ⟨by have := hg.1; omega, by have := hg.2; simp; omega⟩) (fun g hg hlt => ((alb w8 (.cells #[.int .i64 8, .int .i64 z2, .slice ao6 m cap6, .slice z4 z8 z9, .slice z5 z10 z11] 61)).block g (by omega)).trans ((hb8.block g (by simp; omega)).trans ((alb w3 (.cells #[.string (st bLength)] 9)).block g hlt)))) hml2)
              have HOV8 := hid hOV8
              clear hOV8 hd8 oc of_ os rc rf rs hDT hDR
              generalize w8.alloc (.cells #[.int .i64 8, .int .i64 z2, .slice ao6 m cap6, .slice z4 z8 z9, .slice z5 z10 z11] 61) = w9 at *
              generalize w8.heap.size = g9 at *
              have hlt9 := hQ.2.2
              obtain ⟨q0, q1, q2, q3, q4⟩ := hQ.s5
              have hbd : Below w9.heap.size w9 w9.drew := below_drewN (Below.refl _ _) 1
              have hPd := hP.below hbd
              have HNE := hid (show (w.heap.size + 1 ≠ lp ∧ w.heap.size + 1 ≠ cp) ∧ (g9 ≠ lp ∧ g9 ≠ cp) from by omega)
              have HN2 := hid (show g9 ≠ w.heap.size + 1 from by omega)
              have HOVK := hid (show ∀ w10 : World, Held w9.drew.heap.size lp cp w9.drew w10 → OV (fun g => w.heap.size + 2 ≤ g ∧ g < w10.heap.size) w10 [.int .i64 8, .int .i64 z2, .slice ao6 m cap6, .slice z4 z8 z9, .slice z5 z10 z11] (.mk 8 n0 (r1.take m) l0 (wi (bLength, poNull) d)) from fun w10 hh => HOV8.out.keep (fun g hg => ⟨hg.1, Nat.lt_of_lt_of_le hg.2 (Nat.le_trans hbd.size hh.size)⟩) (fun g hg hlt => (hh.block g (Nat.lt_of_lt_of_le hlt hbd.size) (by have := hg.1; omega) (by have := hg.1; omega)).trans (hbd.block g hlt)))
              obtain ⟨rc, rf, rs⟩ := id hZ
              go_region_held3 (fun w' => w'.cell? ⟨g9, 0, none⟩ = some (.int .i64 8) ∧ w'.cell? ⟨g9, 1, none⟩ = some (.int .i64 z2) ∧ w'.cell? ⟨g9, 2, none⟩ = some (.slice ao6 m cap6) ∧ w'.cell? ⟨g9, 3, none⟩ = some (.slice z4 z8 z9) ∧ w'.cell? ⟨g9, 4, none⟩ = some (.slice z5 z10 z11)) (first | go_keep | with_reducible exact hQ.s5 | with_reducible exact C5.s5 (hQ.held (set5_held _ _ (w.heap.size + 1) _ _ _ _ _) HN2.out HN2.out) | skip) (first | (go_at_call 69; (with_reducible refine (word_w' hPd.fresh _ bEndstream (by decide)).mono ?_); rintro e w10 hq; obtain ⟨c10, t10, hc10, ht10, rfl, j10, hPs⟩ := hq.both; have hP := hPd.join hPs; have hZ := (hZ.up hbd).held hPs.held HNE.out.1.1 HNE.out.1.2; have hQ := (hQ.up hbd).held hPs.held HNE.out.2.1 HNE.out.2.2; have hov10 := hid (HOVK.out _ hPs.held); obtain ⟨rc, rf, rs⟩ := id hZ))
              all_goals
                go_wp2_with fail
                obtain ⟨k0, k1, k2, k3, k4⟩ := set5_cells (a := .int .i64 8) (b := .int .i64 z2) (c := .slice ao6 m cap6) (d := .slice z4 z8 z9) (e := .slice z5 z10 z11) (hZ.five rfl)
                have hh := fun B => set5_held w10 B (w.heap.size + 1) (.int .i64 8) (.int .i64 z2) (.slice ao6 m cap6) (.slice z4 z8 z9) (.slice z5 z10 z11)
                have hP5 := hP.off (hh w10.heap.size) (by omega)
                refine bodyPost_ret (v := .tuple #[.agg #[.int .i64 8, .int .i64 z2, .slice ao6 m cap6, .slice z4 z8 z9, .slice z5 z10 z11], .int .i64 c10]) (by simp [results, Try.results70, go_sem, k0, k1, k2, k3, k4]) rfl ?_
                show StQ q w pp lp cp b _ _ _
                rw [HS2.out, HRR.out]
                have e1 := hc10.out
                have e2 := ht10.out
                rcases hW : wantS bEndstream (eolA rr) with ⟨x, t⟩ | ⟨n9, r9⟩
                · rw [hW] at e1 e2
                  obtain rfl : c10 = x := e1
                  obtain rfl : t10 = t := e2
                  exact ⟨[.int .i64 8, .int .i64 z2, .slice ao6 m cap6, .slice z4 z8 z9, .slice z5 z10 z11], ⟨8, z2, ao6, z4, z5, m, cap6, z8, z9, z10, z11, rfl⟩, rfl, _, hP5⟩
                · rw [hW] at e1 e2
                  obtain rfl : c10 = 0 := e1
                  obtain rfl : t10 = r9 := e2
                  exact ⟨[.int .i64 8, .int .i64 z2, .slice ao6 m cap6, .slice z4 z8 z9, .slice z5 z10 z11], rfl, hov10.out.keep (fun g hg => ⟨by have := hg.1; omega, Nat.lt_of_lt_of_le hg.2 (hh 0).size⟩) (fun g hg hlt => (hh w10.heap.size).block g hlt (by have := hg.1; omega) (by have := hg.1; omega)), _, hP5⟩
            · have H1 := hid h1
              have H2 := hid h2
              have H3 := hid h3
              clear h1 h2 h3
              have HEA := hid hE
              clear hE
              have hs36 := Nat.le_refl w6.heap.size
              go_upto_region 13 with (first | (go_at_call 56; (with_reducible refine (pmatch_yes' hP.fresh _ [13] (by decide) (by decide) H3.out).mono ?_); rintro e w3 ⟨rfl, j3, hPs⟩; have hP := hP.join hPs; have hC := hC.held hPs.held (by omega) (by omega); have hZ := hZ.held hPs.held (by omega) (by omega); have p0 := hP.p0; have l1 := hP.l0; have zp := World.block_lt_of_cell? _ _ p0; have zl := World.block_lt_of_cell? _ _ l1; obtain ⟨rc, rf, rs⟩ := id hZ; have hDT := hDT.keep (fun _ h => h) (fun g hg hlt => hPs.held.block g hlt (by have := hg.1; omega) (by have := hg.1; omega)); have hs36 := Nat.le_trans hs36 hPs.held.size) | (go_at_call 56; (with_reducible refine (pmatch_no' hP.fresh _ [10] (by decide) (by decide) H2.out).mono ?_); rintro e w3 ⟨rfl, hPs⟩; have hP := hP.join hPs; have hC := hC.held hPs.held (by omega) (by omega); have hZ := hZ.held hPs.held (by omega) (by omega); have p0 := hP.p0; have l1 := hP.l0; have zp := World.block_lt_of_cell? _ _ p0; have zl := World.block_lt_of_cell? _ _ l1; obtain ⟨rc, rf, rs⟩ := id hZ; have hDT := hDT.keep (fun _ h => h) (fun g hg hlt => hPs.held.block g hlt (by have := hg.1; omega) (by have := hg.1; omega)); have hs36 := Nat.le_trans hs36 hPs.held.size) | (go_at_call 56; (with_reducible refine (pmatch_no' hP.fresh _ [13, 10] (by decide) (by decide) H1.out).mono ?_); rintro e w3 ⟨rfl, hPs⟩; have hP := hP.join hPs; have hC := hC.held hPs.held (by omega) (by omega); have hZ := hZ.held hPs.held (by omega) (by omega); have p0 := hP.p0; have l1 := hP.l0; have zp := World.block_lt_of_cell? _ _ p0; have zl := World.block_lt_of_cell? _ _ l1; obtain ⟨rc, rf, rs⟩ := id hZ; have hDT := hDT.keep (fun _ h => h) (fun g hg hlt => hPs.held.block g hlt (by have := hg.1; omega) (by have := hg.1; omega)); have hs36 := Nat.le_trans hs36 hPs.held.size))
              have hP : Ps q w w3 pp lp cp b j3 (eolA rr) := by rw [HEA.out]; exact hP
              clear p0 l1 oc of_ os rc rf rs
              obtain ⟨oc, of_, os⟩ := id hC
              obtain ⟨rc, rf, rs⟩ := id hZ
              have hDR := hid (drop_any bLength (SlX.lit1 w3 w3.heap.size rfl [.string (st bLength)] 9 1 rfl) (HHO.out (w3.alloc (.cells #[.string (st bLength)] 9)) (hP.below (alb w3 (.cells #[.string (st bLength)] 9))).held) hd)
              go_upto_region 15 with (go_at_call 104; refine hDR.out.mono ?_; rintro e w8 ⟨vs8, rfl, hd8, hb8⟩; have hP := (hP.below (alb w3 (.cells #[.string (st bLength)] 9))).below hb8; have hC := (hC.up (alb w3 (.cells #[.string (st bLength)] 9))).up hb8; have hZ := (hZ.up (alb w3 (.cells #[.string (st bLength)] 9))).up hb8; have hs8 := hb8.size; have hV8 := hd8.v5; have hd8 := hid hd8; obtain ⟨z1, z2, z3, z4, z5, z6, z7, z8, z9, z10, z11, rfl⟩ := hV8)
              have hQ := C5.new w8 _ rfl [.int .i64 8, .int .i64 z2, .slice ao6 m cap6, .slice z4 z8 z9, .slice z5 z10 z11] 61
              have hP := hP.below (alb w8 (.cells #[.int .i64 8, .int .i64 z2, .slice ao6 m cap6, .slice z4 z8 z9, .slice z5 z10 z11] 61))
              have hZ := hZ.up (alb w8 (.cells #[.int .i64 8, .int .i64 z2, .slice ao6 m cap6, .slice z4 z8 z9, .slice z5 z10 z11] 61))
              have hzz : w3.heap.size + 1 ≤ w8.heap.size := by simpa using hs8
              have hOV8 := (OV.data2 (k2 := 8) (vb2 := .slice ao6 m cap6) (b2 := r1.take m) (hd8.out.keep (B := fun g => w.heap.size + 2 ≤ g ∧ g < (w8.alloc (.cells #[.int .i64 8, .int .i64 z2, .slice ao6 m cap6, .slice z4 z8 z9, .slice z5 z10 z11] 61)).heap.size) (w' := w8.alloc (.cells #[.int .i64 8, .int .i64 z2, .slice ao6 m cap6, .slice z4 z8 z9, .slice z5 z10 z11] 61)) (fun g hg => ⟨by have := hg.1; simp at this; omega, Nat.lt_of_lt_of_le hg.2 (alb w8 (.cells #[.int .i64 8, .int .i64 z2, .slice ao6 m cap6, .slice z4 z8 z9, .slice z5 z10 z11] 61)).size⟩) (fun g hg hlt => (alb w8 (.cells #[.int .i64 8, .int .i64 z2, .slice ao6 m cap6, .slice z4 z8 z9, .slice z5 z10 z11] 61)).block g hlt)) (hDT.keep (fun g hg => ⟨by have := hg.1; omega, by have := hg.2; simp; omega⟩) (fun g hg hlt => ((alb w8 (.cells #[.int .i64 8, .int .i64 z2, .slice ao6 m cap6, .slice z4 z8 z9, .slice z5 z10 z11] 61)).block g (by omega)).trans ((hb8.block g (by simp; omega)).trans ((alb w3 (.cells #[.string (st bLength)] 9)).block g hlt)))) hml2)
              have HOV8 := hid hOV8
              clear hOV8 hd8 oc of_ os rc rf rs hDT hDR
              generalize w8.alloc (.cells #[.int .i64 8, .int .i64 z2, .slice ao6 m cap6, .slice z4 z8 z9, .slice z5 z10 z11] 61) = w9 at *
              generalize w8.heap.size = g9 at *
              have hlt9 := hQ.2.2
              obtain ⟨q0, q1, q2, q3, q4⟩ := hQ.s5
              have hbd : Below w9.heap.size w9 w9.drew := below_drewN (Below.refl _ _) 1
              have hPd := hP.below hbd
              have HNE := hid (show (w.heap.size + 1 ≠ lp ∧ w.heap.size + 1 ≠ cp) ∧ (g9 ≠ lp ∧ g9 ≠ cp) from by omega)
              have HN2 := hid (show g9 ≠ w.heap.size + 1 from by omega)
              have HOVK := hid (show ∀ w10 : World, Held w9.drew.heap.size lp cp w9.drew w10 → OV (fun g => w.heap.size + 2 ≤ g ∧ g < w10.heap.size) w10 [.int .i64 8, .int .i64 z2, .slice ao6 m cap6, .slice z4 z8 z9, .slice z5 z10 z11] (.mk 8 n0 (r1.take m) l0 (wi (bLength, poNull) d)) from fun w10 hh => HOV8.out.keep (fun g hg => ⟨hg.1, Nat.lt_of_lt_of_le hg.2 (Nat.le_trans hbd.size hh.size)⟩) (fun g hg hlt => (hh.block g (Nat.lt_of_lt_of_le hlt hbd.size) (by have := hg.1; omega) (by have := hg.1; omega)).trans (hbd.block g hlt)))
              obtain ⟨rc, rf, rs⟩ := id hZ
              go_region_held3 (fun w' => w'.cell? ⟨g9, 0, none⟩ = some (.int .i64 8) ∧ w'.cell? ⟨g9, 1, none⟩ = some (.int .i64 z2) ∧ w'.cell? ⟨g9, 2, none⟩ = some (.slice ao6 m cap6) ∧ w'.cell? ⟨g9, 3, none⟩ = some (.slice z4 z8 z9) ∧ w'.cell? ⟨g9, 4, none⟩ = some (.slice z5 z10 z11)) (first | go_keep | with_reducible exact hQ.s5 | with_reducible exact C5.s5 (hQ.held (set5_held _ _ (w.heap.size + 1) _ _ _ _ _) HN2.out HN2.out) | skip) (first | (go_at_call 69; (with_reducible refine (word_w' hPd.fresh _ bEndstream (by decide)).mono ?_); rintro e w10 hq; obtain ⟨c10, t10, hc10, ht10, rfl, j10, hPs⟩ := hq.both; have hP := hPd.join hPs; have hZ := (hZ.up hbd).held hPs.held HNE.out.1.1 HNE.out.1.2; have hQ := (hQ.up hbd).held hPs.held HNE.out.2.1 HNE.out.2.2; have hov10 := hid (HOVK.out _ hPs.held); obtain ⟨rc, rf, rs⟩ := id hZ))
              all_goals
                go_wp2_with fail
                obtain ⟨k0, k1, k2, k3, k4⟩ := set5_cells (a := .int .i64 8) (b := .int .i64 z2) (c := .slice ao6 m cap6) (d := .slice z4 z8 z9) (e := .slice z5 z10 z11) (hZ.five rfl)
                have hh := fun B => set5_held w10 B (w.heap.size + 1) (.int .i64 8) (.int .i64 z2) (.slice ao6 m cap6) (.slice z4 z8 z9) (.slice z5 z10 z11)
                have hP5 := hP.off (hh w10.heap.size) (by omega)
                refine bodyPost_ret (v := .tuple #[.agg #[.int .i64 8, .int .i64 z2, .slice ao6 m cap6, .slice z4 z8 z9, .slice z5 z10 z11], .int .i64 c10]) (by simp [results, Try.results70, go_sem, k0, k1, k2, k3, k4]) rfl ?_
                show StQ q w pp lp cp b _ _ _
                rw [HS2.out, HRR.out]
                have e1 := hc10.out
                have e2 := ht10.out
                rcases hW : wantS bEndstream (eolA rr) with ⟨x, t⟩ | ⟨n9, r9⟩
                · rw [hW] at e1 e2
                  obtain rfl : c10 = x := e1
                  obtain rfl : t10 = t := e2
                  exact ⟨[.int .i64 8, .int .i64 z2, .slice ao6 m cap6, .slice z4 z8 z9, .slice z5 z10 z11], ⟨8, z2, ao6, z4, z5, m, cap6, z8, z9, z10, z11, rfl⟩, rfl, _, hP5⟩
                · rw [hW] at e1 e2
                  obtain rfl : c10 = 0 := e1
                  obtain rfl : t10 = r9 := e2
                  exact ⟨[.int .i64 8, .int .i64 z2, .slice ao6 m cap6, .slice z4 z8 z9, .slice z5 z10 z11], rfl, hov10.out.keep (fun g hg => ⟨by have := hg.1; omega, Nat.lt_of_lt_of_le hg.2 (hh 0).size⟩) (fun g hg hlt => (hh w10.heap.size).block g hlt (by have := hg.1; omega) (by have := hg.1; omega)), _, hP5⟩
            · have H1 := hid h1
              have H2 := hid h2
              have H3 := hid h3
              clear h1 h2 h3
              have HEA := hid hE
              clear hE
              have hs36 := Nat.le_refl w6.heap.size
              go_upto_region 13 with (first | (go_at_call 56; (with_reducible refine (pmatch_no' hP.fresh _ [13] (by decide) (by decide) H3.out).mono ?_); rintro e w3 ⟨rfl, hPs⟩; have hP := hP.join hPs; have hC := hC.held hPs.held (by omega) (by omega); have hZ := hZ.held hPs.held (by omega) (by omega); have p0 := hP.p0; have l1 := hP.l0; have zp := World.block_lt_of_cell? _ _ p0; have zl := World.block_lt_of_cell? _ _ l1; obtain ⟨rc, rf, rs⟩ := id hZ; have hDT := hDT.keep (fun _ h => h) (fun g hg hlt => hPs.held.block g hlt (by have := hg.1; omega) (by have := hg.1; omega)); have hs36 := Nat.le_trans hs36 hPs.held.size) | (go_at_call 56; (with_reducible refine (pmatch_no' hP.fresh _ [10] (by decide) (by decide) H2.out).mono ?_); rintro e w3 ⟨rfl, hPs⟩; have hP := hP.join hPs; have hC := hC.held hPs.held (by omega) (by omega); have hZ := hZ.held hPs.held (by omega) (by omega); have p0 := hP.p0; have l1 := hP.l0; have zp := World.block_lt_of_cell? _ _ p0; have zl := World.block_lt_of_cell? _ _ l1; obtain ⟨rc, rf, rs⟩ := id hZ; have hDT := hDT.keep (fun _ h => h) (fun g hg hlt => hPs.held.block g hlt (by have := hg.1; omega) (by have := hg.1; omega)); have hs36 := Nat.le_trans hs36 hPs.held.size) | (go_at_call 56; (with_reducible refine (pmatch_no' hP.fresh _ [13, 10] (by decide) (by decide) H1.out).mono ?_); rintro e w3 ⟨rfl, hPs⟩; have hP := hP.join hPs; have hC := hC.held hPs.held (by omega) (by omega); have hZ := hZ.held hPs.held (by omega) (by omega); have p0 := hP.p0; have l1 := hP.l0; have zp := World.block_lt_of_cell? _ _ p0; have zl := World.block_lt_of_cell? _ _ l1; obtain ⟨rc, rf, rs⟩ := id hZ; have hDT := hDT.keep (fun _ h => h) (fun g hg hlt => hPs.held.block g hlt (by have := hg.1; omega) (by have := hg.1; omega)); have hs36 := Nat.le_trans hs36 hPs.held.size))
              have hP : Ps q w w3 pp lp cp b j6 (eolA rr) := by rw [HEA.out]; exact hP
              clear p0 l1 oc of_ os rc rf rs
              obtain ⟨oc, of_, os⟩ := id hC
              obtain ⟨rc, rf, rs⟩ := id hZ
              have hDR := hid (drop_any bLength (SlX.lit1 w3 w3.heap.size rfl [.string (st bLength)] 9 1 rfl) (HHO.out (w3.alloc (.cells #[.string (st bLength)] 9)) (hP.below (alb w3 (.cells #[.string (st bLength)] 9))).held) hd)
              go_upto_region 15 with (go_at_call 104; refine hDR.out.mono ?_; rintro e w8 ⟨vs8, rfl, hd8, hb8⟩; have hP := (hP.below (alb w3 (.cells #[.string (st bLength)] 9))).below hb8; have hC := (hC.up (alb w3 (.cells #[.string (st bLength)] 9))).up hb8; have hZ := (hZ.up (alb w3 (.cells #[.string (st bLength)] 9))).up hb8; have hs8 := hb8.size; have hV8 := hd8.v5; have hd8 := hid hd8; obtain ⟨z1, z2, z3, z4, z5, z6, z7, z8, z9, z10, z11, rfl⟩ := hV8)
              have hQ := C5.new w8 _ rfl [.int .i64 8, .int .i64 z2, .slice ao6 m cap6, .slice z4 z8 z9, .slice z5 z10 z11] 61
              have hP := hP.below (alb w8 (.cells #[.int .i64 8, .int .i64 z2, .slice ao6 m cap6, .slice z4 z8 z9, .slice z5 z10 z11] 61))
              have hZ := hZ.up (alb w8 (.cells #[.int .i64 8, .int .i64 z2, .slice ao6 m cap6, .slice z4 z8 z9, .slice z5 z10 z11] 61))
              have hzz : w3.heap.size + 1 ≤ w8.heap.size := by simpa using hs8
              have hOV8 := (OV.data2 (k2 := 8) (vb2 := .slice ao6 m cap6) (b2 := r1.take m) (hd8.out.keep (B := fun g => w.heap.size + 2 ≤ g ∧ g < (w8.alloc (.cells #[.int .i64 8, .int .i64 z2, .slice ao6 m cap6, .slice z4 z8 z9, .slice z5 z10 z11] 61)).heap.size) (w' := w8.alloc (.cells #[.int .i64 8, .int .i64 z2, .slice ao6 m cap6, .slice z4 z8 z9, .slice z5 z10 z11] 61)) (fun g hg => ⟨by have := hg.1; simp at this; omega, Nat.lt_of_lt_of_le hg.2 (alb w8 (.cells #[.int .i64 8, .int .i64 z2, .slice ao6 m cap6, .slice z4 z8 z9, .slice z5 z10 z11] 61)).size⟩) (fun g hg hlt => (alb w8 (.cells #[.int .i64 8, .int .i64 z2, .slice ao6 m cap6, .slice z4 z8 z9, .slice z5 z10 z11] 61)).block g hlt)) (hDT.keep (fun g hg => ⟨by have := hg.1; omega, by have := hg.2; simp; omega⟩) (fun g hg hlt => ((alb w8 (.cells #[.int .i64 8, .int .i64 z2, .slice ao6 m cap6, .slice z4 z8 z9, .slice z5 z10 z11] 61)).block g (by omega)).trans ((hb8.block g (by simp; omega)).trans ((alb w3 (.cells #[.string (st bLength)] 9)).block g hlt)))) hml2)
              have HOV8 := hid hOV8
              clear hOV8 hd8 oc of_ os rc rf rs hDT hDR
              generalize w8.alloc (.cells #[.int .i64 8, .int .i64 z2, .slice ao6 m cap6, .slice z4 z8 z9, .slice z5 z10 z11] 61) = w9 at *
              generalize w8.heap.size = g9 at *
              have hlt9 := hQ.2.2
              obtain ⟨q0, q1, q2, q3, q4⟩ := hQ.s5
              have hbd : Below w9.heap.size w9 w9.drew := below_drewN (Below.refl _ _) 1
              have hPd := hP.below hbd
              have HNE := hid (show (w.heap.size + 1 ≠ lp ∧ w.heap.size + 1 ≠ cp) ∧ (g9 ≠ lp ∧ g9 ≠ cp) from by omega)
              have HN2 := hid (show g9 ≠ w.heap.size + 1 from by omega)
              have HOVK := hid (show ∀ w10 : World, Held w9.drew.heap.size lp cp w9.drew w10 → OV (fun g => w.heap.size + 2 ≤ g ∧ g < w10.heap.size) w10 [.int .i64 8, .int .i64 z2, .slice ao6 m cap6, .slice z4 z8 z9, .slice z5 z10 z11] (.mk 8 n0 (r1.take m) l0 (wi (bLength, poNull) d)) from fun w10 hh => HOV8.out.keep (fun g hg => ⟨hg.1, Nat.lt_of_lt_of_le hg.2 (Nat.le_trans hbd.size hh.size)⟩) (fun g hg hlt => (hh.block g (Nat.lt_of_lt_of_le hlt hbd.size) (by have := hg.1; omega) (by have := hg.1; omega)).trans (hbd.block g hlt)))
              obtain ⟨rc, rf, rs⟩ := id hZ
              go_region_held3 (fun w' => w'.cell? ⟨g9, 0, none⟩ = some (.int .i64 8) ∧ w'.cell? ⟨g9, 1, none⟩ = some (.int .i64 z2) ∧ w'.cell? ⟨g9, 2, none⟩ = some (.slice ao6 m cap6) ∧ w'.cell? ⟨g9, 3, none⟩ = some (.slice z4 z8 z9) ∧ w'.cell? ⟨g9, 4, none⟩ = some (.slice z5 z10 z11)) (first | go_keep | with_reducible exact hQ.s5 | with_reducible exact C5.s5 (hQ.held (set5_held _ _ (w.heap.size + 1) _ _ _ _ _) HN2.out HN2.out) | skip) (first | (go_at_call 69; (with_reducible refine (word_w' hPd.fresh _ bEndstream (by decide)).mono ?_); rintro e w10 hq; obtain ⟨c10, t10, hc10, ht10, rfl, j10, hPs⟩ := hq.both; have hP := hPd.join hPs; have hZ := (hZ.up hbd).held hPs.held HNE.out.1.1 HNE.out.1.2; have hQ := (hQ.up hbd).held hPs.held HNE.out.2.1 HNE.out.2.2; have hov10 := hid (HOVK.out _ hPs.held); obtain ⟨rc, rf, rs⟩ := id hZ))
              all_goals
                go_wp2_with fail
                obtain ⟨k0, k1, k2, k3, k4⟩ := set5_cells (a := .int .i64 8) (b := .int .i64 z2) (c := .slice ao6 m cap6) (d := .slice z4 z8 z9) (e := .slice z5 z10 z11) (hZ.five rfl)
                have hh := fun B => set5_held w10 B (w.heap.size + 1) (.int .i64 8) (.int .i64 z2) (.slice ao6 m cap6) (.slice z4 z8 z9) (.slice z5 z10 z11)
                have hP5 := hP.off (hh w10.heap.size) (by omega)
                refine bodyPost_ret (v := .tuple #[.agg #[.int .i64 8, .int .i64 z2, .slice ao6 m cap6, .slice z4 z8 z9, .slice z5 z10 z11], .int .i64 c10]) (by simp [results, Try.results70, go_sem, k0, k1, k2, k3, k4]) rfl ?_
                show StQ q w pp lp cp b _ _ _
                rw [HS2.out, HRR.out]
                have e1 := hc10.out
                have e2 := ht10.out
                rcases hW : wantS bEndstream (eolA rr) with ⟨x, t⟩ | ⟨n9, r9⟩
                · rw [hW] at e1 e2
                  obtain rfl : c10 = x := e1
                  obtain rfl : t10 = t := e2
                  exact ⟨[.int .i64 8, .int .i64 z2, .slice ao6 m cap6, .slice z4 z8 z9, .slice z5 z10 z11], ⟨8, z2, ao6, z4, z5, m, cap6, z8, z9, z10, z11, rfl⟩, rfl, _, hP5⟩
                · rw [hW] at e1 e2
                  obtain rfl : c10 = 0 := e1
                  obtain rfl : t10 = r9 := e2
                  exact ⟨[.int .i64 8, .int .i64 z2, .slice ao6 m cap6, .slice z4 z8 z9, .slice z5 z10 z11], rfl, hov10.out.keep (fun g hg => ⟨by have := hg.1; omega, Nat.lt_of_lt_of_le hg.2 (hh 0).size⟩) (fun g hg hlt => (hh w10.heap.size).block g hlt (by have := hg.1; omega) (by have := hg.1; omega)), _, hP5⟩
    · have hS2 := hS1
      rw [if_pos hk] at hS2
      have HS2 := hid hS2
      have hk2 : (y1 != 2) = true ∨ (y1 = 2 ∧ decide (y2 < 0) = true) := by
        by_cases z : y1 = 2
        · exact .inr ⟨z, decide_eq_true (by omega)⟩
        · exact .inl (by simp [z])
      clear hS1 hS2 hk
      rcases hk2 with bk | ⟨rfl, bk⟩
      · go_wp2
        obtain ⟨k0, k1, k2, k3, k4⟩ := set5_cells (a := .int .i64 0) (b := .int .i64 0) (c := .slice none 0 0) (d := .slice none 0 0) (e := .slice none 0 0) (hZ.five rfl)
        have hh := fun B => set5_held w4 B (w.heap.size + 1) (.int .i64 0) (.int .i64 0) (.slice none 0 0) (.slice none 0 0) (.slice none 0 0)
        have hP5 := hP.off (hh w4.heap.size) (by omega)
        refine bodyPost_ret (v := .tuple #[.agg #[.int .i64 0, .int .i64 0, .slice none 0 0, .slice none 0 0, .slice none 0 0], .int .i64 4]) (by simp [results, Try.results70, go_sem, k0, k1, k2, k3, k4]) rfl ?_
        show StQ q w pp lp cp b _ _ _
        rw [HS2.out]
        exact ⟨[.int .i64 0, .int .i64 0, .slice none 0 0, .slice none 0 0, .slice none 0 0], V5.zero, rfl, _, hP5⟩
      · go_wp2
        obtain ⟨k0, k1, k2, k3, k4⟩ := set5_cells (a := .int .i64 0) (b := .int .i64 0) (c := .slice none 0 0) (d := .slice none 0 0) (e := .slice none 0 0) (hZ.five rfl)
        have hh := fun B => set5_held w4 B (w.heap.size + 1) (.int .i64 0) (.int .i64 0) (.slice none 0 0) (.slice none 0 0) (.slice none 0 0)
        have hP5 := hP.off (hh w4.heap.size) (by omega)
        refine bodyPost_ret (v := .tuple #[.agg #[.int .i64 0, .int .i64 0, .slice none 0 0, .slice none 0 0, .slice none 0 0], .int .i64 4]) (by simp [results, Try.results70, go_sem, k0, k1, k2, k3, k4]) rfl ?_
        show StQ q w pp lp cp b _ _ _
        rw [HS2.out]
        exact ⟨[.int .i64 0, .int .i64 0, .slice none 0 0, .slice none 0 0, .slice none 0 0], V5.zero, rfl, _, hP5⟩
end Go.Proofs.Ytlmgklebikcbjaa
