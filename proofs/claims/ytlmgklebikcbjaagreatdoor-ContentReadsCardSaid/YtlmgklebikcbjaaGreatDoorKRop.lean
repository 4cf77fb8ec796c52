/-
  The document's op: the next operator, by image's contract. Condition: the reader stands in its bytes, these are no more than 3600000.
-/
import Derived.Test.YtlmgklebikcbjaaGreatDoorKRrd
/-
  The document's op: the next operator, by image's contract. Condition: the reader stands in its bytes, these are no more than 3600000.
-/
namespace Go.Proofs.YtlmgklebikcbjaaGreatDoor
open Go.RowKit
set_option linter.unusedVariables false

set_option maxHeartbeats 6400000 in
set_option maxRecDepth 100000 in
theorem rop_of {w : World} {rp pp : Nat} {b s : List UInt8} {i : Nat} (hI : ImgC rp pp b) (h : Rr w w rp pp b i s) (hsb : b.length ≤ 3600000) :
    Calls Tryz.prog 41 #[.pointer (some ⟨rp, 0, none⟩)] w fun e w' => ∃ res, OP b.length [] s res ∧ RoQ w.heap.size w rp pp b res e w' := by
  have hlo := h.lt
  have hv := rvalue_all (q := true) (dp := 28) (pp := pp) hsb 28 (Nat.le_refl _)
  have hR := h.below (alb w (.cells #[.string ⟨#[]⟩, .slice none 0 0, .slice none 0 0, .int .i64 0] 49))
  have hZ := C5.new w w.heap.size rfl [.string ⟨#[]⟩, .slice none 0 0, .slice none 0 0, .int .i64 0] 49
  have hG : RowG (fun c => c) OV 5 47 (w.heap.size + 1) (w.alloc (.cells #[.string ⟨#[]⟩, .slice none 0 0, .slice none 0 0, .int .i64 0] 49)) (.slice none 0 0) [] [] := RowG.nil _ _ _ _ _ _
  go_enter Tryz.func41, Tryz.ntmps41
  go_wp2
  go_loopw [5, 6, 7, 8, 9, 10, 11, 12] (fun s5 _ _ _ _ _ _ _ wr => ∃ args : List PO, ∃ C : List (List Value), ∃ p : Nat, ∃ t : List UInt8, Rr w wr rp pp b p t ∧ C5 wr w.heap.size [.string ⟨#[]⟩, .slice none 0 0, .slice none 0 0, .int .i64 0] ∧ RowG (fun c => c) OV 5 47 (w.heap.size + 1) wr s5 C args ∧ args.length ≤ 33 ∧ ∀ res, OP b.length args t res → OP b.length [] s res) (fun _ _ _ _ _ _ _ _ wr => remOf wr pp)
  case atStart => exact ⟨[], [], _, _, hR, hZ, hG, by simp, fun _ h => h⟩
  case round =>
    clear hR hZ hG h
    obtain ⟨args, C, p, t, hR, hZ, hG, hal, hback⟩ := hrel
    have hat := hid hR.pd.cx.at_
    have hdr := hid hR.pd.cx.drp
    have hbl := bl_le t false
    have hpl : p + bl t false ≤ b.length := by have := hat.out; omega
    have hplc : plc b.length t = ((p + bl t false : Nat) : Int) := by
      have := hat.out
      unfold plc
      rw [List.length_drop]; omega
    have r0 := hR.r0
    have c1 := hR.c1
    have f1 := hR.f1
    have zr := World.block_lt_of_cell? _ _ r0
    have zp := World.block_lt_of_cell? _ _ c1
    have hrm := hid hR.pd.rem
    have hBK := hid hback
    have hClen : C.length = args.length := All2.len hG.rel
    clear hback
    have hRl := hG.row.lin
    rw [List.length_map, hClen] at hRl
    obtain ⟨aol, capl, hvl⟩ := hRl
    subst hvl
    obtain ⟨rc, rf, rs⟩ := id hZ
    cases hT : TK t with
    | bad x =>
      have bx := TK_err hT
      have T1 := hid hT
      have hpv := hid (OP.err (N := b.length) (args := args) hT)
      clear hT
      generalize hpa : p + bl t false = pa at hpl hplc
      have HPA := hid hpa
      clear hpa hbl hplc
      go_wp2_with (first | (go_at_call 68; (with_reducible refine (rtoken_q (TK_good _) hR.pd.cx.fresh).mono ?_); rw [T1.out, HPA.out]; rintro e w3 ⟨rfl, hC3⟩; have hR := hR.step hC3; have hZ := hZ.held hC3.held (by omega) (by omega); have hG := hG.held keepOV hC3.held (by omega) (by omega); have r0 := hR.r0; have c1 := hR.c1; have f1 := hR.f1; have zr := World.block_lt_of_cell? _ _ r0; have zp := World.block_lt_of_cell? _ _ c1; obtain ⟨rc, rf, rs⟩ := id hZ))
      obtain ⟨k0, k1, k2, k3⟩ := (hZ.set4 (a := .string ⟨#[]⟩) (b := .slice none 0 0) (c := .slice none 0 0) (d := .int .i64 0) rfl).s4
      have hh := set4_held w3 w.heap.size w.heap.size (.string ⟨#[]⟩) (.slice none 0 0) (.slice none 0 0) (.int .i64 0)
      have hR5 := hR.off hh (Nat.le_refl _) (Nat.le_refl _)
      have k0 := cell_up' (alb _ (.cells #[.int .i64 0, .int .i64 pa, .int .i64 0, .slice none 0 0] 130)) k0
      have k1 := cell_up' (alb _ (.cells #[.int .i64 0, .int .i64 pa, .int .i64 0, .slice none 0 0] 130)) k1
      have k2 := cell_up' (alb _ (.cells #[.int .i64 0, .int .i64 pa, .int .i64 0, .slice none 0 0] 130)) k2
      have k3 := cell_up' (alb _ (.cells #[.int .i64 0, .int .i64 pa, .int .i64 0, .slice none 0 0] 130)) k3
      have hR5 := hR5.below (alb _ (.cells #[.int .i64 0, .int .i64 pa, .int .i64 0, .slice none 0 0] 130))
      exact bodyPost_ret (v := .tuple #[.agg #[.string ⟨#[]⟩, .slice none 0 0, .slice none 0 0, .int .i64 0], .bool false, .int .i64 x]) (by simp [results, Tryz.results41, go_sem, k0, k1, k2, k3]) rfl ⟨_, hBK.out _ hpv.out, rfl, _, _, hR5⟩
    | tok k n out r =>
      by_cases h0 : k = 0
      · subst h0
        by_cases ha : args = []
        · have ta : decide (0 < args.length) = false := decide_eq_false (by rw [ha]; simp)
          have T1 := hid hT
          have hpv := hid (show OP b.length args t .fin by rw [ha]; exact OP.fin hT)
          clear hT ha
          generalize hpa : p + bl t false = pa at hpl hplc
          have HPA := hid hpa
          clear hpa hbl hplc
          go_wp2_with (first | (go_at_call 68; (with_reducible refine (rtoken_q (TK_good _) hR.pd.cx.fresh).mono ?_); rw [T1.out, HPA.out]; rintro e w3 ⟨u3, rfl, j3, hC3⟩; have hR3 := hC3.row; obtain ⟨ao3, cap3, rfl, -, -, -⟩ := Rd.own hR3; have hR := hR.step hC3; have hZ := hZ.held hC3.held (by omega) (by omega); have hG := hG.held keepOV hC3.held (by omega) (by omega); have r0 := hR.r0; have c1 := hR.c1; have f1 := hR.f1; have zr := World.block_lt_of_cell? _ _ r0; have zp := World.block_lt_of_cell? _ _ c1; obtain ⟨rc, rf, rs⟩ := id hZ; have hS3 := Sl.own hR3; have hlt3 := hC3.held.size))
          obtain ⟨k0, k1, k2, k3⟩ := (hZ.set4 (a := .string ⟨#[]⟩) (b := .slice none 0 0) (c := .slice none 0 0) (d := .int .i64 0) rfl).s4
          have hh := set4_held w3 w.heap.size w.heap.size (.string ⟨#[]⟩) (.slice none 0 0) (.slice none 0 0) (.int .i64 0)
          have hR5 := hR.off hh (Nat.le_refl _) (Nat.le_refl _)
          have k0 := cell_up' (alb _ (.cells #[.int .i64 0, .int .i64 pa, .int .i64 n, .slice ao3 out.length cap3] 130)) k0
          have k1 := cell_up' (alb _ (.cells #[.int .i64 0, .int .i64 pa, .int .i64 n, .slice ao3 out.length cap3] 130)) k1
          have k2 := cell_up' (alb _ (.cells #[.int .i64 0, .int .i64 pa, .int .i64 n, .slice ao3 out.length cap3] 130)) k2
          have k3 := cell_up' (alb _ (.cells #[.int .i64 0, .int .i64 pa, .int .i64 n, .slice ao3 out.length cap3] 130)) k3
          have hR5 := hR5.below (alb _ (.cells #[.int .i64 0, .int .i64 pa, .int .i64 n, .slice ao3 out.length cap3] 130))
          exact bodyPost_ret (v := .tuple #[.agg #[.string ⟨#[]⟩, .slice none 0 0, .slice none 0 0, .int .i64 0], .bool false, .int .i64 0]) (by simp [results, Tryz.results41, go_sem, k0, k1, k2, k3]) rfl ⟨_, hBK.out _ hpv.out, rfl, _, _, hR5⟩
        · have ta : decide (0 < args.length) = true := decide_eq_true (List.length_pos_iff.2 ha)
          have T1 := hid hT
          have hpv := hid (OP.eof (N := b.length) hT ha)
          clear hT ha
          generalize hpa : p + bl t false = pa at hpl hplc
          have HPA := hid hpa
          clear hpa hbl hplc
          go_wp2_with (first | (go_at_call 68; (with_reducible refine (rtoken_q (TK_good _) hR.pd.cx.fresh).mono ?_); rw [T1.out, HPA.out]; rintro e w3 ⟨u3, rfl, j3, hC3⟩; have hR3 := hC3.row; obtain ⟨ao3, cap3, rfl, -, -, -⟩ := Rd.own hR3; have hR := hR.step hC3; have hZ := hZ.held hC3.held (by omega) (by omega); have hG := hG.held keepOV hC3.held (by omega) (by omega); have r0 := hR.r0; have c1 := hR.c1; have f1 := hR.f1; have zr := World.block_lt_of_cell? _ _ r0; have zp := World.block_lt_of_cell? _ _ c1; obtain ⟨rc, rf, rs⟩ := id hZ; have hS3 := Sl.own hR3; have hlt3 := hC3.held.size))
          obtain ⟨k0, k1, k2, k3⟩ := (hZ.set4 (a := .string ⟨#[]⟩) (b := .slice none 0 0) (c := .slice none 0 0) (d := .int .i64 0) rfl).s4
          have hh := set4_held w3 w.heap.size w.heap.size (.string ⟨#[]⟩) (.slice none 0 0) (.slice none 0 0) (.int .i64 0)
          have hR5 := hR.off hh (Nat.le_refl _) (Nat.le_refl _)
          have k0 := cell_up' (alb _ (.cells #[.int .i64 0, .int .i64 pa, .int .i64 n, .slice ao3 out.length cap3] 130)) k0
          have k1 := cell_up' (alb _ (.cells #[.int .i64 0, .int .i64 pa, .int .i64 n, .slice ao3 out.length cap3] 130)) k1
          have k2 := cell_up' (alb _ (.cells #[.int .i64 0, .int .i64 pa, .int .i64 n, .slice ao3 out.length cap3] 130)) k2
          have k3 := cell_up' (alb _ (.cells #[.int .i64 0, .int .i64 pa, .int .i64 n, .slice ao3 out.length cap3] 130)) k3
          have hR5 := hR5.below (alb _ (.cells #[.int .i64 0, .int .i64 pa, .int .i64 n, .slice ao3 out.length cap3] 130))
          exact bodyPost_ret (v := .tuple #[.agg #[.string ⟨#[]⟩, .slice none 0 0, .slice none 0 0, .int .i64 0], .bool false, .int .i64 4]) (by simp [results, Tryz.results41, go_sem, k0, k1, k2, k3]) rfl ⟨_, hBK.out _ hpv.out, rfl, _, _, hR5⟩
      have b0 : (k == 0) = false := by simp [h0]
      have T1 := hid hT
      have H0 := hid h0
      clear hT h0
      generalize hpa : p + bl t false = pa at hpl hplc
      have HPA := hid hpa
      have HPC := hid hplc
      clear hpa hbl hplc
      have hst := st_toList out
      obtain ⟨bo, hbo⟩ : ∃ bo, bo = (decide (k = 9) && decide (wordO out = none)) := ⟨_, rfl⟩
      have HBO := hid hbo
      clear hbo
      go_upto_region 10 with (first | (go_at_call 68; (with_reducible refine (rtoken_q (TK_good _) hR.pd.cx.fresh).mono ?_); rw [T1.out, HPA.out]; rintro e w3 ⟨u3, rfl, j3, hC3⟩; have hR3 := hC3.row; obtain ⟨ao3, cap3, rfl, -, -, -⟩ := Rd.own hR3; have hR := hR.step hC3; have hZ := hZ.held hC3.held (by omega) (by omega); have hG := hG.held keepOV hC3.held (by omega) (by omega); have r0 := hR.r0; have c1 := hR.c1; have f1 := hR.f1; have zr := World.block_lt_of_cell? _ _ r0; have zp := World.block_lt_of_cell? _ _ c1; obtain ⟨rc, rf, rs⟩ := id hZ; have hS3 := Sl.own hR3; have hlt3 := hC3.held.size))
      have hTk := C5.new w3 _ rfl [.int .i64 k, .int .i64 pa, .int .i64 n, .slice ao3 out.length cap3] 130
      have hab := alb w3 (.cells #[.int .i64 k, .int .i64 pa, .int .i64 n, .slice ao3 out.length cap3] 130)
      have hR := hR.below hab
      have hZ := hZ.up hab
      have hG := hG.up keepOV hab
      have hS4 := hS3.up hab
      have hz4 : (w3.alloc (.cells #[.int .i64 k, .int .i64 pa, .int .i64 n, .slice ao3 out.length cap3] 130)).heap.size = w3.heap.size + 1 := by simp
      clear rc rf rs r0 c1 f1 zr zp hab hS3 hC3 hR3
      generalize w3.alloc (.cells #[.int .i64 k, .int .i64 pa, .int .i64 n, .slice ao3 out.length cap3] 130) = w4 at *
      generalize w3.heap.size = g3 at *
      obtain ⟨tc, tf, ts⟩ := id hTk
      have hcv : (convert 27 9 (.slice ao3 out.length cap3)).run Tryz.prog w4 = .ok (.string (st out)) w4 := sl_string (P := Tryz.prog) w4 27 9 5 Tryz.underlying27 (by kernel_rfl) (by kernel_rfl) _ _ hS4
      go_upto_region 11 with fail
      go_cut [60] (fun s60 wx => s60 = .bool bo ∧ wx = w4)
      case first =>
        by_cases h9 : k = 9
        · subst h9
          have hbo : bo = (!(out == [116, 114, 117, 101]) && (!(out == [102, 97, 108, 115, 101]) && !(out == [110, 117, 108, 108]))) := by rw [HBO.out, wordO_bool]; rfl
          cases b1 : (out == [116, 114, 117, 101]) with
          | true =>
            have HX := hid (show bo = false by rw [hbo, b1]; rfl)
            clear hbo
            go_wp2_with fail
            go_meet
            exact ⟨by rw [HX.out], rfl⟩
          | false =>
            cases b2 : (out == [102, 97, 108, 115, 101]) with
            | true =>
              have HX := hid (show bo = false by rw [hbo, b1, b2]; rfl)
              clear hbo
              go_wp2_with fail
              go_meet
              exact ⟨by rw [HX.out], rfl⟩
            | false =>
              cases b3 : (out == [110, 117, 108, 108]) with
              | true =>
                have HX := hid (show bo = false by rw [hbo, b1, b2, b3]; rfl)
                clear hbo
                go_wp2_with fail
                go_meet
                exact ⟨by rw [HX.out], rfl⟩
              | false =>
                have HX := hid (show bo = true by rw [hbo, b1, b2, b3]; rfl)
                clear hbo
                go_wp2_with fail
                go_meet
                exact ⟨by rw [HX.out], rfl⟩
        · have b9 : (k == 9) = false := by simp [h9]
          have HX := hid (show bo = false by rw [HBO.out, decide_eq_false h9]; rfl)
          go_wp2_with fail
          go_meet
          exact ⟨by rw [HX.out], rfl⟩
      case rest =>
        obtain ⟨rfl, rfl⟩ := hcut
        obtain ⟨w4, rfl⟩ : ∃ x : World, x = wc := ⟨_, rfl⟩
        obtain ⟨rc, rf, rs⟩ := id hZ
        have r0 := hR.r0
        have c1 := hR.c1
        have f1 := hR.f1
        have zr := World.block_lt_of_cell? _ _ r0
        have zp := World.block_lt_of_cell? _ _ c1
        cases bo with
        | true =>
          have h9 : k = 9 ∧ wordO out = none := by
            have := HBO.out.symm
            simpa using this
          have H9 := hid h9
          clear h9
          by_cases hb : out = bBI
          · have hq : (out == [66, 73]) = true := by rw [hb]; rfl
            have hTT := hid (show TK t = .tok 9 n bBI r by rw [← hb, ← H9.out.1]; exact T1.out)
            clear hb
            by_cases ha : args.length = 0
            · have ta : decide (0 < args.length) = false := decide_eq_false (by omega)
              have HA := hid ha
              clear ha
              go_wp2_with (first | (go_at_call 69; refine (hI _ _ _ _ hR.fresh).mono ?_; rintro e w5 ⟨res5, hdi5, hq5⟩; rcases bik_cases 0 ((pa : Nat) : Int) res5 with ⟨x5, hx5⟩ | ⟨o5, r5, hx5⟩; rotate_left; (rw [hx5] at hq5; obtain ⟨vs, rfl, hov, j5, hR5⟩ := hq5; obtain ⟨va, vd, rfl, hva, hvd⟩ := hov; have hva0 := hva; obtain ⟨C5', ⟨aov, capv, rfl, -⟩, -⟩ := hva; obtain ⟨aod, capd, rfl, -, -, -, -⟩ := id hvd.1; have hz45 := hR5.pd.cx.size; have hR := hR.joinR hR5; have hZ := hZ.held hR5.pd.cx.held (by omega) (by omega); have HVA := hid hva0; have HVD := hid hvd; clear hva0 hvd; obtain ⟨rc, rf, rs⟩ := id hZ); rotate_left; (rw [hx5] at hq5; have hop5 : OP b.length [] t (.bad x5) := (by rw [← hx5, ← HPC.out]; exact OP.img hTT.out hdi5); have bx := hop5.ne _ rfl; obtain ⟨rfl, j5, t5, hR5⟩ := hq5; have hz45 := hR5.pd.cx.size; have hR := hR.joinR hR5; have hZ := hZ.held hR5.pd.cx.held (by omega) (by omega); obtain ⟨rc, rf, rs⟩ := id hZ)))
              · obtain ⟨k0, k1, k2, k3⟩ := (hZ.set4 (a := .string ⟨#[]⟩) (b := .slice none 0 0) (c := .slice none 0 0) (d := .int .i64 0) rfl).s4
                have hh := set4_held w5 w.heap.size w.heap.size (.string ⟨#[]⟩) (.slice none 0 0) (.slice none 0 0) (.int .i64 0)
                have hR5 := hR.off hh (Nat.le_refl _) (Nat.le_refl _)
                have k0 := cell_up' (alb _ (.cells #[.string ⟨#[]⟩, .slice none 0 0, .slice none 0 0, .int .i64 0] 49)) k0
                have k1 := cell_up' (alb _ (.cells #[.string ⟨#[]⟩, .slice none 0 0, .slice none 0 0, .int .i64 0] 49)) k1
                have k2 := cell_up' (alb _ (.cells #[.string ⟨#[]⟩, .slice none 0 0, .slice none 0 0, .int .i64 0] 49)) k2
                have k3 := cell_up' (alb _ (.cells #[.string ⟨#[]⟩, .slice none 0 0, .slice none 0 0, .int .i64 0] 49)) k3
                have hR5 := hR5.below (alb _ (.cells #[.string ⟨#[]⟩, .slice none 0 0, .slice none 0 0, .int .i64 0] 49))
                exact bodyPost_ret (v := .tuple #[.agg #[.string ⟨#[]⟩, .slice none 0 0, .slice none 0 0, .int .i64 0], .bool false, .int .i64 x5]) (by simp [results, Tryz.results41, go_sem, k0, k1, k2, k3]) rfl ⟨_, hBK.out _ (show OP b.length args t (.bad x5) by rw [← bik_bad (m := args.length) hx5, ← HPC.out]; exact OP.img hTT.out hdi5), rfl, _, _, hR5⟩
              · obtain ⟨k0, k1, k2, k3⟩ := (hZ.set4 (a := .string (st o5.name)) (b := .slice aov o5.args.length capv) (c := .slice aod o5.data.length capd) (d := .int .i64 o5.at_) rfl).s4
                have hh := fun B => set4_held w5 B w.heap.size (.string (st o5.name)) (.slice aov o5.args.length capv) (.slice aod o5.data.length capd) (.int .i64 o5.at_)
                have hR6 := hR.off (hh w.heap.size) (Nat.le_refl _) (Nat.le_refl _)
                have k0 := cell_up' (alb _ (.cells #[.string (st o5.name), .slice aov o5.args.length capv, .slice aod o5.data.length capd, .int .i64 o5.at_] 49)) k0
                have k1 := cell_up' (alb _ (.cells #[.string (st o5.name), .slice aov o5.args.length capv, .slice aod o5.data.length capd, .int .i64 o5.at_] 49)) k1
                have k2 := cell_up' (alb _ (.cells #[.string (st o5.name), .slice aov o5.args.length capv, .slice aod o5.data.length capd, .int .i64 o5.at_] 49)) k2
                have k3 := cell_up' (alb _ (.cells #[.string (st o5.name), .slice aov o5.args.length capv, .slice aod o5.data.length capd, .int .i64 o5.at_] 49)) k3
                have hab := alb (set4 w5 w.heap.size (.string (st o5.name)) (.slice aov o5.args.length capv) (.slice aod o5.data.length capd) (.int .i64 o5.at_)) (.cells #[.string (st o5.name), .slice aov o5.args.length capv, .slice aod o5.data.length capd, .int .i64 o5.at_] 49)
                have hR6 := hR6.below hab
                have hzz : (set4 w5 w.heap.size (.string (st o5.name)) (.slice aov o5.args.length capv) (.slice aod o5.data.length capd) (.int .i64 o5.at_)).heap.size = w5.heap.size := by simp
                have hkk : ∀ g, w.heap.size < g → g < w5.heap.size → ((set4 w5 w.heap.size (.string (st o5.name)) (.slice aov o5.args.length capv) (.slice aod o5.data.length capd) (.int .i64 o5.at_)).alloc (.cells #[.string (st o5.name), .slice aov o5.args.length capv, .slice aod o5.data.length capd, .int .i64 o5.at_] 49)).heap[g]? = w5.heap[g]? := fun g h1 h2 => (hab.block g (by omega)).trans ((hh w5.heap.size).block g h2 (by omega) (by omega))
                have hzs := hab.size
                have hRt := hid (show ∀ g, g < w5.heap.size → g < ((set4 w5 w.heap.size (.string (st o5.name)) (.slice aov o5.args.length capv) (.slice aod o5.data.length capd) (.int .i64 o5.at_)).alloc (.cells #[.string (st o5.name), .slice aov o5.args.length capv, .slice aod o5.data.length capd, .int .i64 o5.at_] 49)).heap.size from fun g h => Nat.lt_of_lt_of_le h (by rw [← hzz]; exact hzs))
                exact bodyPost_ret (v := .tuple #[.agg #[.string (st o5.name), .slice aov o5.args.length capv, .slice aod o5.data.length capd, .int .i64 o5.at_], .bool true, .int .i64 0]) (by simp [results, Tryz.results41, go_sem, k0, k1, k2, k3]) rfl ⟨_, hBK.out _ (show OP b.length args t (.op o5 r5) by have hb5 := bik_op (m := args.length) hx5; rw [if_pos HA.out] at hb5; rw [← hb5, ← HPC.out]; exact OP.img hTT.out hdi5), [.string (st o5.name), .slice aov o5.args.length capv, .slice aod o5.data.length capd, .int .i64 o5.at_], rfl, ⟨_, _, rfl, HVA.out.keep (fun g hg => ⟨by have := hg.1; omega, hRt.out g hg.2⟩) (fun g hg hlt => hkk g (by have := hg.1; omega) hlt), HVD.out.keep (fun g hg => ⟨by have := hg.1; omega, hRt.out g hg.2⟩) (fun g hg hlt => hkk g (by have := hg.1; omega) hlt)⟩, _, hR6⟩
            · have ta : decide (0 < args.length) = true := decide_eq_true (by omega)
              have HA := hid ha
              clear ha
              go_wp2_with (first | (go_at_call 69; refine (hI _ _ _ _ hR.fresh).mono ?_; rintro e w5 ⟨res5, hdi5, hq5⟩; rcases bik_cases 0 ((pa : Nat) : Int) res5 with ⟨x5, hx5⟩ | ⟨o5, r5, hx5⟩; rotate_left; (rw [hx5] at hq5; obtain ⟨vs, rfl, hov, j5, hR5⟩ := hq5; obtain ⟨va, vd, rfl, hva, hvd⟩ := hov; have hva0 := hva; obtain ⟨C5', ⟨aov, capv, rfl, -⟩, -⟩ := hva; obtain ⟨aod, capd, rfl, -, -, -, -⟩ := id hvd.1; have hz45 := hR5.pd.cx.size; have hR := hR.joinR hR5; have hZ := hZ.held hR5.pd.cx.held (by omega) (by omega); have HVA := hid hva0; have HVD := hid hvd; clear hva0 hvd; obtain ⟨rc, rf, rs⟩ := id hZ); rotate_left; (rw [hx5] at hq5; have hop5 : OP b.length [] t (.bad x5) := (by rw [← hx5, ← HPC.out]; exact OP.img hTT.out hdi5); have bx := hop5.ne _ rfl; obtain ⟨rfl, j5, t5, hR5⟩ := hq5; have hz45 := hR5.pd.cx.size; have hR := hR.joinR hR5; have hZ := hZ.held hR5.pd.cx.held (by omega) (by omega); obtain ⟨rc, rf, rs⟩ := id hZ)))
              · obtain ⟨k0, k1, k2, k3⟩ := (hZ.set4 (a := .string ⟨#[]⟩) (b := .slice none 0 0) (c := .slice none 0 0) (d := .int .i64 0) rfl).s4
                have hh := set4_held w5 w.heap.size w.heap.size (.string ⟨#[]⟩) (.slice none 0 0) (.slice none 0 0) (.int .i64 0)
                have hR5 := hR.off hh (Nat.le_refl _) (Nat.le_refl _)
                have k0 := cell_up' (alb _ (.cells #[.string ⟨#[]⟩, .slice none 0 0, .slice none 0 0, .int .i64 0] 49)) k0
                have k1 := cell_up' (alb _ (.cells #[.string ⟨#[]⟩, .slice none 0 0, .slice none 0 0, .int .i64 0] 49)) k1
                have k2 := cell_up' (alb _ (.cells #[.string ⟨#[]⟩, .slice none 0 0, .slice none 0 0, .int .i64 0] 49)) k2
                have k3 := cell_up' (alb _ (.cells #[.string ⟨#[]⟩, .slice none 0 0, .slice none 0 0, .int .i64 0] 49)) k3
                have hR5 := hR5.below (alb _ (.cells #[.string ⟨#[]⟩, .slice none 0 0, .slice none 0 0, .int .i64 0] 49))
                exact bodyPost_ret (v := .tuple #[.agg #[.string ⟨#[]⟩, .slice none 0 0, .slice none 0 0, .int .i64 0], .bool false, .int .i64 x5]) (by simp [results, Tryz.results41, go_sem, k0, k1, k2, k3]) rfl ⟨_, hBK.out _ (show OP b.length args t (.bad x5) by rw [← bik_bad (m := args.length) hx5, ← HPC.out]; exact OP.img hTT.out hdi5), rfl, _, _, hR5⟩
              · obtain ⟨k0, k1, k2, k3⟩ := (hZ.set4 (a := .string ⟨#[]⟩) (b := .slice none 0 0) (c := .slice none 0 0) (d := .int .i64 0) rfl).s4
                have hh := set4_held w5 w.heap.size w.heap.size (.string ⟨#[]⟩) (.slice none 0 0) (.slice none 0 0) (.int .i64 0)
                have hR5 := hR.off hh (Nat.le_refl _) (Nat.le_refl _)
                have k0 := cell_up' (alb _ (.cells #[.string (st o5.name), .slice aov o5.args.length capv, .slice aod o5.data.length capd, .int .i64 o5.at_] 49)) k0
                have k1 := cell_up' (alb _ (.cells #[.string (st o5.name), .slice aov o5.args.length capv, .slice aod o5.data.length capd, .int .i64 o5.at_] 49)) k1
                have k2 := cell_up' (alb _ (.cells #[.string (st o5.name), .slice aov o5.args.length capv, .slice aod o5.data.length capd, .int .i64 o5.at_] 49)) k2
                have k3 := cell_up' (alb _ (.cells #[.string (st o5.name), .slice aov o5.args.length capv, .slice aod o5.data.length capd, .int .i64 o5.at_] 49)) k3
                have hR5 := hR5.below (alb _ (.cells #[.string (st o5.name), .slice aov o5.args.length capv, .slice aod o5.data.length capd, .int .i64 o5.at_] 49))
                exact bodyPost_ret (v := .tuple #[.agg #[.string ⟨#[]⟩, .slice none 0 0, .slice none 0 0, .int .i64 0], .bool false, .int .i64 4]) (by simp [results, Tryz.results41, go_sem, k0, k1, k2, k3]) rfl ⟨_, hBK.out _ (show OP b.length args t (.bad 4) by have hb5 := bik_op (m := args.length) hx5; rw [if_neg HA.out] at hb5; rw [← hb5, ← HPC.out]; exact OP.img hTT.out hdi5), rfl, _, _, hR5⟩
          · have hq : (out == [66, 73]) = false := by simp only [beq_eq_false_iff_ne]; exact hb
            have HB := hid hb
            clear hb
            go_wp2
            obtain ⟨k0, k1, k2, k3⟩ := (hZ.set4 (a := .string (st out)) (b := .slice aol args.length capl) (c := .slice none 0 0) (d := .int .i64 pa) rfl).s4
            have hh := fun B => set4_held w4 B w.heap.size (.string (st out)) (.slice aol args.length capl) (.slice none 0 0) (.int .i64 pa)
            have hR6 := hR.off (hh w.heap.size) (Nat.le_refl _) (Nat.le_refl _)
            have hzz : (set4 w4 w.heap.size (.string (st out)) (.slice aol args.length capl) (.slice none 0 0) (.int .i64 pa)).heap.size = w4.heap.size := by simp
            exact bodyPost_ret (v := .tuple #[.agg #[.string (st out), .slice aol args.length capl, .slice none 0 0, .int .i64 pa], .bool true, .int .i64 0]) (by simp [results, Tryz.results41, go_sem, k0, k1, k2, k3]) rfl ⟨_, hBK.out _ (show OP b.length args t (.op ⟨out, args, [], ((pa : Nat) : Int)⟩ r) by rw [← HPC.out]; exact OP.word (by rw [← H9.out.1]; exact T1.out) H9.out.2 HB.out), [.string (st out), .slice aol args.length capl, .slice none 0 0, .int .i64 pa], rfl, ⟨_, _, rfl, (AR.of (A := fun g => w.heap.size + 1 ≤ g ∧ g < w4.heap.size) hG (fun g h1 h2 => ⟨h1, h2⟩)).keep (fun g hg => ⟨by have := hg.1; omega, by rw [hzz]; exact hg.2⟩) (fun g hg hlt => (hh w4.heap.size).block g hlt (by have := hg.1; omega) (by have := hg.1; omega)), SlA.nil _ _⟩, _, hR6⟩
        | false =>
          have h9 : ¬ (k = 9 ∧ wordO out = none) := fun q => by have := HBO.out; rw [decide_eq_true q.1, decide_eq_true q.2] at this; cases this
          have H9 := hid h9
          clear h9
          have hone : ∀ y1 y2 : Int, ∀ y3 y4 y5 : Option Addr, ∀ y6 y7 y8 y9 y10 y11 : Nat, ∀ c ∈ ([[.int .i64 y1, .int .i64 y2, .slice y3 y6 y7, .slice y4 y8 y9, .slice y5 y10 y11]] : List (List Value)), ∀ u ∈ c, u.oneCell' = true := fun y1 y2 y3 y4 y5 y6 y7 y8 y9 y10 y11 c hc => by
            rw [List.mem_singleton] at hc; subst hc; exact V5.one ⟨_, _, _, _, _, _, _, _, _, _, _, rfl⟩
          have hsP := fun B => Held.set (B := B) (p := pp) (q := pp) w4 ⟨pp, 1, none⟩ (.int .i64 (p : Int)) (.inl rfl)
          have hRp := hR.to p (p : Int) rfl (by have := hat.out; omega)
          rw [hdr.out] at hRp
          have hZp := hZ.held (hsP _) (by omega) (by omega)
          have hGp := hG.held keepOV (hsP _) (by omega) (by omega)
          have hszp := (hsP 0).size
          have HRp := hid hRp
          have HZp := hid hZp
          have HGp := hid hGp
          clear hRp hZp hGp hsP
          by_cases hm : args.length < 33
          · have tm : decide (33 < args.length + 1) = false := decide_eq_false (by omega)
            go_wp2_with (first | (at_builtin; refine wpList_append_slx rfl _ _ 32 rfl (w.heap.size + 1) 47 zObj 5 88 objTy' objIn rfl (by decide) (.slice aol args.length capl) C rfl hrow.out _ [[.int .i64 y1, .int .i64 y2, .slice y3 y6 y7, .slice y4 y8 y9, .slice y5 y10 y11]] rfl (SlX.lit1 (w6.alloc (.cells #[.int .i64 y1, .int .i64 y2, .slice y3 y6 y7, .slice y4 y8 y9, .slice y5 y10 y11] 47)) (w6.heap.size + 1) (by simp) [.int .i64 y1, .int .i64 y2, .slice y3 y6 y7, .slice y4 y8 y9, .slice y5 y10 y11] _ 5 rfl) (hone _ _ _ _ _ _ _ _ _ _ _) (by simp; omega) (by decide) (by simp; omega) ?_; intro v8 w8 q1 q2 q3; obtain ⟨g8, cap8, rfl⟩ := q1.cons (by simp); have e8 : (C ++ ([[.int .i64 y1, .int .i64 y2, .slice y3 y6 y7, .slice y4 y8 y9, .slice y5 y10 y11]] : List (List Value))).length = args.length + 1 := (by rw [List.length_append, hClen]; rfl); rw [e8] at q1 q3; have hBW : Below w6.heap.size w6 ((w6.alloc (.cells #[.int .i64 y1, .int .i64 y2, .slice y3 y6 y7, .slice y4 y8 y9, .slice y5 y10 y11] 47)).alloc (.cells #[.int .i64 y1, .int .i64 y2, .slice y3 y6 y7, .slice y4 y8 y9, .slice y5 y10 y11] 47)) := below_then (alb _ _) (alb _ _); have hZ8 := (hZ.up hBW).grown q2 (fun z => by have := (hrow4 _ z).1; omega); obtain ⟨rc, rf, rs⟩ := id hZ8) | (go_at_call 70; refine (rvalue_top HRp.out.fresh.pd hv).mono ?_; rintro e w6 ⟨res, hpv, hvq⟩; have hfit := hpv.fit; have hrow4 := HGp.out.row.lt; rcases res with ⟨x9, t9⟩ | ⟨o9, t9⟩; rotate_left; (obtain ⟨vs, rfl, hov, j9, hPs⟩ := hvq; have hR := HRp.out.join hPs; have hZ := HZp.out.held hPs.cx.held (by omega) (by omega); have hG := HGp.out.held keepOV hPs.cx.held (by omega) (by omega); obtain ⟨rc, rf, rs⟩ := id hZ; have hzp := hPs.cx.size; have hV5 := hov.v5; have hov2 := hid hov; clear hov; obtain ⟨y1, y2, y3, y4, y5, y6, y7, y8, y9, y10, y11, rfl⟩ := hV5; have hrow := hid (show OwX 5 47 ((w6.alloc (.cells #[.int .i64 y1, .int .i64 y2, .slice y3 y6 y7, .slice y4 y8 y9, .slice y5 y10 y11] 47)).alloc (.cells #[.int .i64 y1, .int .i64 y2, .slice y3 y6 y7, .slice y4 y8 y9, .slice y5 y10 y11] 47)) (w.heap.size + 1) (.slice aol args.length capl) C from (by simpa using (hG.up keepOV (below_then (alb w6 (.cells #[.int .i64 y1, .int .i64 y2, .slice y3 y6 y7, .slice y4 y8 y9, .slice y5 y10 y11] 47)) (alb _ (.cells #[.int .i64 y1, .int .i64 y2, .slice y3 y6 y7, .slice y4 y8 y9, .slice y5 y10 y11] 47)))).row))); rotate_left; (obtain ⟨rfl, j9, hPs⟩ := hvq; have bx : (x9 == 0) = false := hfit; have hR := HRp.out.join hPs; have hZ := HZp.out.held hPs.cx.held (by omega) (by omega); have hG := HGp.out.held keepOV hPs.cx.held (by omega) (by omega); obtain ⟨rc, rf, rs⟩ := id hZ; have hzp := hPs.cx.size)))
            · obtain ⟨k0, k1, k2, k3⟩ := (hZ.set4 (a := .string ⟨#[]⟩) (b := .slice none 0 0) (c := .slice none 0 0) (d := .int .i64 0) rfl).s4
              have hh := set4_held w6 w.heap.size w.heap.size (.string ⟨#[]⟩) (.slice none 0 0) (.slice none 0 0) (.int .i64 0)
              have hR5 := hR.off hh (Nat.le_refl _) (Nat.le_refl _)
              have k0 := cell_up' (alb _ (.cells #[.int .i64 0, .int .i64 0, .slice none 0 0, .slice none 0 0, .slice none 0 0] 47)) k0
              have k1 := cell_up' (alb _ (.cells #[.int .i64 0, .int .i64 0, .slice none 0 0, .slice none 0 0, .slice none 0 0] 47)) k1
              have k2 := cell_up' (alb _ (.cells #[.int .i64 0, .int .i64 0, .slice none 0 0, .slice none 0 0, .slice none 0 0] 47)) k2
              have k3 := cell_up' (alb _ (.cells #[.int .i64 0, .int .i64 0, .slice none 0 0, .slice none 0 0, .slice none 0 0] 47)) k3
              have hR5 := hR5.below (alb _ (.cells #[.int .i64 0, .int .i64 0, .slice none 0 0, .slice none 0 0, .slice none 0 0] 47))
              exact bodyPost_ret (v := .tuple #[.agg #[.string ⟨#[]⟩, .slice none 0 0, .slice none 0 0, .int .i64 0], .bool false, .int .i64 x9]) (by simp [results, Tryz.results41, go_sem, k0, k1, k2, k3]) rfl ⟨_, hBK.out _ (OP.stop T1.out H0.out H9.out hpv), rfl, _, _, hR5⟩
            · have hf : t9.length < t.length := hfit
              have hR8 := (hR.below hBW).grow q2 (fun z hz => by have := (hrow4 _ hz).1; omega)
              have hG8 := (hG.up keepOV hBW).push keepOV (a := [.int .i64 y1, .int .i64 y2, .slice y3 y6 y7, .slice y4 y8 y9, .slice y5 y10 y11]) (b := o9) (hov2.out.keep (fun g hg => ⟨by have := hg.1; omega, Nat.lt_of_lt_of_le hg.2 hBW.size, fun z => by have := (hrow4 _ z).2; have := hg.1; omega⟩) (fun g _ hlt => hBW.block g hlt)) (by simpa using q1) q2 q3
              go_roundw
              case rel => exact ⟨args ++ [o9], C ++ [[.int .i64 y1, .int .i64 y2, .slice y3 y6 y7, .slice y4 y8 y9, .slice y5 y10 y11]], _, _, hR8, hZ8, by rw [List.length_append] at *; exact hG8, by rw [List.length_append, List.length_singleton]; omega, fun res hr => hBK.out _ (OP.step T1.out H0.out H9.out hpv hm hr)⟩
              case measure => rw [hR8.pd.rem, hrm.out]; omega
          · have tm : decide (33 < args.length + 1) = true := decide_eq_true (by omega)
            go_wp2_with (first | (at_builtin; refine wpList_append_slx rfl _ _ 32 rfl (w.heap.size + 1) 47 zObj 5 88 objTy' objIn rfl (by decide) (.slice aol args.length capl) C rfl hrow.out _ [[.int .i64 y1, .int .i64 y2, .slice y3 y6 y7, .slice y4 y8 y9, .slice y5 y10 y11]] rfl (SlX.lit1 (w6.alloc (.cells #[.int .i64 y1, .int .i64 y2, .slice y3 y6 y7, .slice y4 y8 y9, .slice y5 y10 y11] 47)) (w6.heap.size + 1) (by simp) [.int .i64 y1, .int .i64 y2, .slice y3 y6 y7, .slice y4 y8 y9, .slice y5 y10 y11] _ 5 rfl) (hone _ _ _ _ _ _ _ _ _ _ _) (by simp; omega) (by decide) (by simp; omega) ?_; intro v8 w8 q1 q2 q3; obtain ⟨g8, cap8, rfl⟩ := q1.cons (by simp); have e8 : (C ++ ([[.int .i64 y1, .int .i64 y2, .slice y3 y6 y7, .slice y4 y8 y9, .slice y5 y10 y11]] : List (List Value))).length = args.length + 1 := (by rw [List.length_append, hClen]; rfl); rw [e8] at q1 q3; have hBW : Below w6.heap.size w6 ((w6.alloc (.cells #[.int .i64 y1, .int .i64 y2, .slice y3 y6 y7, .slice y4 y8 y9, .slice y5 y10 y11] 47)).alloc (.cells #[.int .i64 y1, .int .i64 y2, .slice y3 y6 y7, .slice y4 y8 y9, .slice y5 y10 y11] 47)) := below_then (alb _ _) (alb _ _); have hZ8 := (hZ.up hBW).grown q2 (fun z => by have := (hrow4 _ z).1; omega); obtain ⟨rc, rf, rs⟩ := id hZ8) | (go_at_call 70; refine (rvalue_top HRp.out.fresh.pd hv).mono ?_; rintro e w6 ⟨res, hpv, hvq⟩; have hfit := hpv.fit; have hrow4 := HGp.out.row.lt; rcases res with ⟨x9, t9⟩ | ⟨o9, t9⟩; rotate_left; (obtain ⟨vs, rfl, hov, j9, hPs⟩ := hvq; have hR := HRp.out.join hPs; have hZ := HZp.out.held hPs.cx.held (by omega) (by omega); have hG := HGp.out.held keepOV hPs.cx.held (by omega) (by omega); obtain ⟨rc, rf, rs⟩ := id hZ; have hzp := hPs.cx.size; have hV5 := hov.v5; have hov2 := hid hov; clear hov; obtain ⟨y1, y2, y3, y4, y5, y6, y7, y8, y9, y10, y11, rfl⟩ := hV5; have hrow := hid (show OwX 5 47 ((w6.alloc (.cells #[.int .i64 y1, .int .i64 y2, .slice y3 y6 y7, .slice y4 y8 y9, .slice y5 y10 y11] 47)).alloc (.cells #[.int .i64 y1, .int .i64 y2, .slice y3 y6 y7, .slice y4 y8 y9, .slice y5 y10 y11] 47)) (w.heap.size + 1) (.slice aol args.length capl) C from (by simpa using (hG.up keepOV (below_then (alb w6 (.cells #[.int .i64 y1, .int .i64 y2, .slice y3 y6 y7, .slice y4 y8 y9, .slice y5 y10 y11] 47)) (alb _ (.cells #[.int .i64 y1, .int .i64 y2, .slice y3 y6 y7, .slice y4 y8 y9, .slice y5 y10 y11] 47)))).row))); rotate_left; (obtain ⟨rfl, j9, hPs⟩ := hvq; have bx : (x9 == 0) = false := hfit; have hR := HRp.out.join hPs; have hZ := HZp.out.held hPs.cx.held (by omega) (by omega); have hG := HGp.out.held keepOV hPs.cx.held (by omega) (by omega); obtain ⟨rc, rf, rs⟩ := id hZ; have hzp := hPs.cx.size)))
            · obtain ⟨k0, k1, k2, k3⟩ := (hZ.set4 (a := .string ⟨#[]⟩) (b := .slice none 0 0) (c := .slice none 0 0) (d := .int .i64 0) rfl).s4
              have hh := set4_held w6 w.heap.size w.heap.size (.string ⟨#[]⟩) (.slice none 0 0) (.slice none 0 0) (.int .i64 0)
              have hR5 := hR.off hh (Nat.le_refl _) (Nat.le_refl _)
              have k0 := cell_up' (alb _ (.cells #[.int .i64 0, .int .i64 0, .slice none 0 0, .slice none 0 0, .slice none 0 0] 47)) k0
              have k1 := cell_up' (alb _ (.cells #[.int .i64 0, .int .i64 0, .slice none 0 0, .slice none 0 0, .slice none 0 0] 47)) k1
              have k2 := cell_up' (alb _ (.cells #[.int .i64 0, .int .i64 0, .slice none 0 0, .slice none 0 0, .slice none 0 0] 47)) k2
              have k3 := cell_up' (alb _ (.cells #[.int .i64 0, .int .i64 0, .slice none 0 0, .slice none 0 0, .slice none 0 0] 47)) k3
              have hR5 := hR5.below (alb _ (.cells #[.int .i64 0, .int .i64 0, .slice none 0 0, .slice none 0 0, .slice none 0 0] 47))
              exact bodyPost_ret (v := .tuple #[.agg #[.string ⟨#[]⟩, .slice none 0 0, .slice none 0 0, .int .i64 0], .bool false, .int .i64 x9]) (by simp [results, Tryz.results41, go_sem, k0, k1, k2, k3]) rfl ⟨_, hBK.out _ (OP.stop T1.out H0.out H9.out hpv), rfl, _, _, hR5⟩
            · have hR8 := (hR.below hBW).grow q2 (fun z hz => by have := (hrow4 _ hz).1; omega)
              have hZ := hZ8
              have hR := hR8
              obtain ⟨k0, k1, k2, k3⟩ := (hZ.set4 (a := .string ⟨#[]⟩) (b := .slice none 0 0) (c := .slice none 0 0) (d := .int .i64 0) rfl).s4
              have hh := set4_held w8 w.heap.size w.heap.size (.string ⟨#[]⟩) (.slice none 0 0) (.slice none 0 0) (.int .i64 0)
              have hR5 := hR.off hh (Nat.le_refl _) (Nat.le_refl _)
              exact bodyPost_ret (v := .tuple #[.agg #[.string ⟨#[]⟩, .slice none 0 0, .slice none 0 0, .int .i64 0], .bool false, .int .i64 4]) (by simp [results, Tryz.results41, go_sem, k0, k1, k2, k3]) rfl ⟨_, hBK.out _ (OP.much T1.out H0.out H9.out hpv (by omega)), rfl, _, _, hR5⟩
end Go.Proofs.YtlmgklebikcbjaaGreatDoor
