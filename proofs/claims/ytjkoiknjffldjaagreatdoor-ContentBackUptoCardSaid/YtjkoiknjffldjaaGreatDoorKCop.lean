/-
  The reader's Op: the next operator, with what stands ahead of it. Condition: the reader stands in its bytes, these are no more than 3600000.
-/
import Derived.Test.YtjkoiknjffldjaaGreatDoorKCen
/-
  The reader's Op: the next operator, with what stands ahead of it. Condition: the reader stands in its bytes, these are no more than 3600000.
-/
namespace Go.Proofs.YtjkoiknjffldjaaGreatDoor
open Go.RowKit
set_option linter.unusedVariables false

theorem bik_cases (m : Nat) (a : Int) (r : PRes) : (∃ x, bik m a r = .bad x) ∨ (∃ o r2, bik m a r = .op o r2) := by
  cases r with
  | bad e t => exact .inl ⟨e, rfl⟩
  | ok d r =>
    unfold bik
    simp only []
    cases imgF r with
    | inl e => exact .inl ⟨e, rfl⟩
    | inr y =>
      obtain ⟨x, r2⟩ := y
      simp only []
      by_cases hm : m = 0
      · rw [if_pos hm]; exact .inr ⟨_, _, rfl⟩
      · rw [if_neg hm]; exact .inl ⟨_, rfl⟩

set_option maxHeartbeats 6400000 in
set_option maxRecDepth 100000 in
theorem op_any {w : World} {rp pp lp cp : Nat} {b s : List UInt8} {i : Nat} (h : Rs w w rp pp lp cp b i s) (hsb : b.length ≤ 3600000) :
    Calls Tryz.prog 24 #[.pointer (some ⟨rp, 0, none⟩)] w fun e w' => ∃ res, OP b.length [] s res ∧ OpQ w.heap.size w rp pp lp cp b res e w' := by
  have hlo := h.lt
  have hv := value_all (q := true) (pp := pp) (lp := lp) (cp := cp) hsb 28 (Nat.le_refl _)
  have hR := h.below (alb w (.cells #[.string ⟨#[]⟩, .slice none 0 0, .slice none 0 0, .int .i64 0] 51))
  have hZ := C5.new w w.heap.size rfl [.string ⟨#[]⟩, .slice none 0 0, .slice none 0 0, .int .i64 0] 51
  have hG : RowG (fun c => c) OV 5 34 (w.heap.size + 1) (w.alloc (.cells #[.string ⟨#[]⟩, .slice none 0 0, .slice none 0 0, .int .i64 0] 51)) (.slice none 0 0) [] [] := RowG.nil _ _ _ _ _ _
  go_enter Tryz.func24, Tryz.ntmps24
  go_wp2_with (go_at_call 37; refine (made_r hR.fresh).mono ?_; rintro e w1 ⟨rfl, rfl⟩)
  go_loopw [5, 6, 7, 8, 9] (fun s5 _ _ _ _ wr => ∃ args : List PO, ∃ C : List (List Value), ∃ p : Nat, ∃ t : List UInt8, Rs w wr rp pp lp cp b p t ∧ C5 wr w.heap.size [.string ⟨#[]⟩, .slice none 0 0, .slice none 0 0, .int .i64 0] ∧ RowG (fun c => c) OV 5 34 (w.heap.size + 1) wr s5 C args ∧ args.length ≤ 33 ∧ ∀ res, OP b.length args t res → OP b.length [] s res) (fun _ _ _ _ _ wr => remOf wr cp)
  case atStart => exact ⟨[], [], _, _, hR, hZ, hG, by simp, fun _ h => h⟩
  case round =>
    clear hR hZ hG h
    obtain ⟨args, C, p, t, hR, hZ, hG, hal, hback⟩ := hrel
    have hat := hid hR.ps.at_
    have hdr := hid hR.ps.drp
    have hbl := bl_le t false
    have hpl : p + bl t false ≤ b.length := by have := hat.out; omega
    have hplc : plc b.length t = ((p + bl t false : Nat) : Int) := by
      have := hat.out
      unfold plc
      rw [List.length_drop]; omega
    have r0 := hR.r0
    have p0 := hR.ps.p0
    have l0 := hR.ps.l0
    have zr := World.block_lt_of_cell? _ _ r0
    have zp := World.block_lt_of_cell? _ _ p0
    have zl := World.block_lt_of_cell? _ _ l0
    have hrm := hid hR.ps.rem
    have hBK := hid hback
    have hClen : C.length = args.length := All2.len hG.rel
    clear hback
    have hRl := hG.row.lin
    rw [List.length_map, hClen] at hRl
    obtain ⟨aol, capl, hvl⟩ := hRl
    subst hvl
    obtain ⟨rc, rf, rs⟩ := id hZ
    cases hT : TK t with
    | bad x =>
      have bx := TK_err hT
      have T1 := hid hT
      have hpv := hid (OP.err (N := b.length) (args := args) hT)
      clear hT
      generalize hpa : p + bl t false = pa at hpl hplc
      have HPA := hid hpa
      have HPC := hid hplc
      clear hpa hbl hplc
      go_wp2_with (first | (go_at_call 39; obtain ⟨m0, v0, hL⟩ := hR.ps.lx; (with_reducible refine (token_q (TK_good _) hL.fresh).mono ?_); rw [T1.out, HPA.out]; rintro e w3 ⟨rfl, m3, v3, u3, o3, hL3⟩; have hR := hR.step hL3; have hZ := hZ.held hL3.held (by omega) (by omega); have hG := hG.held keepOV hL3.held (by omega) (by omega); have r0 := hR.r0; have p0 := hR.ps.p0; have l0 := hR.ps.l0; have zr := World.block_lt_of_cell? _ _ r0; have zp := World.block_lt_of_cell? _ _ p0; have zl := World.block_lt_of_cell? _ _ l0; obtain ⟨rc, rf, rs⟩ := id hZ) | (go_at_call 38; refine (r_pos hR).mono ?_; rintro e w1 ⟨rfl, rfl⟩))
      obtain ⟨k0, k1, k2, k3⟩ := (hZ.set4 (a := .string ⟨#[]⟩) (b := .slice none 0 0) (c := .slice none 0 0) (d := .int .i64 0) rfl).s4
      have hh := set4_held w3 w3.heap.size w.heap.size (.string ⟨#[]⟩) (.slice none 0 0) (.slice none 0 0) (.int .i64 0)
      have hR5 := hR.off hh (Nat.le_refl _)
      have k0 := cell_up' (alb _ (.cells #[.int .i64 0, .int .i64 pa, .int .i64 0, .slice none 0 0] 85)) k0
      have k1 := cell_up' (alb _ (.cells #[.int .i64 0, .int .i64 pa, .int .i64 0, .slice none 0 0] 85)) k1
      have k2 := cell_up' (alb _ (.cells #[.int .i64 0, .int .i64 pa, .int .i64 0, .slice none 0 0] 85)) k2
      have k3 := cell_up' (alb _ (.cells #[.int .i64 0, .int .i64 pa, .int .i64 0, .slice none 0 0] 85)) k3
      have hR5 := hR5.below (alb _ (.cells #[.int .i64 0, .int .i64 pa, .int .i64 0, .slice none 0 0] 85))
      exact bodyPost_ret (v := .tuple #[.agg #[.string ⟨#[]⟩, .slice none 0 0, .slice none 0 0, .int .i64 0], .bool false, .int .i64 x]) (by simp [results, Tryz.results24, go_sem, k0, k1, k2, k3]) rfl ⟨_, hBK.out _ hpv.out, rfl, _, _, hR5⟩
    | tok k n out r =>
      by_cases h0 : k = 0
      · subst h0
        by_cases ha : args = []
        · have ta : decide (0 < args.length) = false := decide_eq_false (by rw [ha]; simp)
          have T1 := hid hT
          have hpv := hid (show OP b.length args t .fin by rw [ha]; exact OP.fin hT)
          clear hT ha
          generalize hpa : p + bl t false = pa at hpl hplc
          have HPA := hid hpa
          have HPC := hid hplc
          clear hpa hbl hplc
          go_wp2_with (first | (go_at_call 39; obtain ⟨m0, v0, hL⟩ := hR.ps.lx; (with_reducible refine (token_q (TK_good _) hL.fresh).mono ?_); rw [T1.out, HPA.out]; rintro e w3 ⟨u3, rfl, j3, m3, v3, hL3⟩; obtain ⟨ao3, cap3, rfl, -, -, -⟩ := Rd.own hL3.row; have hR := hR.step hL3; have hZ := hZ.held hL3.held (by omega) (by omega); have hG := hG.held keepOV hL3.held (by omega) (by omega); have r0 := hR.r0; have p0 := hR.ps.p0; have l0 := hR.ps.l0; have zr := World.block_lt_of_cell? _ _ r0; have zp := World.block_lt_of_cell? _ _ p0; have zl := World.block_lt_of_cell? _ _ l0; obtain ⟨rc, rf, rs⟩ := id hZ; have hS3 := Sl.own hL3.row; have hlt3 := hL3.held.size) | (go_at_call 38; refine (r_pos hR).mono ?_; rintro e w1 ⟨rfl, rfl⟩))
          obtain ⟨k0, k1, k2, k3⟩ := (hZ.set4 (a := .string ⟨#[]⟩) (b := .slice none 0 0) (c := .slice none 0 0) (d := .int .i64 0) rfl).s4
          have hh := set4_held w3 w3.heap.size w.heap.size (.string ⟨#[]⟩) (.slice none 0 0) (.slice none 0 0) (.int .i64 0)
          have hR5 := hR.off hh (Nat.le_refl _)
          have k0 := cell_up' (alb _ (.cells #[.int .i64 0, .int .i64 pa, .int .i64 n, .slice ao3 out.length cap3] 85)) k0
          have k1 := cell_up' (alb _ (.cells #[.int .i64 0, .int .i64 pa, .int .i64 n, .slice ao3 out.length cap3] 85)) k1
          have k2 := cell_up' (alb _ (.cells #[.int .i64 0, .int .i64 pa, .int .i64 n, .slice ao3 out.length cap3] 85)) k2
          have k3 := cell_up' (alb _ (.cells #[.int .i64 0, .int .i64 pa, .int .i64 n, .slice ao3 out.length cap3] 85)) k3
          have hR5 := hR5.below (alb _ (.cells #[.int .i64 0, .int .i64 pa, .int .i64 n, .slice ao3 out.length cap3] 85))
          exact bodyPost_ret (v := .tuple #[.agg #[.string ⟨#[]⟩, .slice none 0 0, .slice none 0 0, .int .i64 0], .bool false, .int .i64 0]) (by simp [results, Tryz.results24, go_sem, k0, k1, k2, k3]) rfl ⟨_, hBK.out _ hpv.out, rfl, _, _, hR5⟩
        · have ta : decide (0 < args.length) = true := decide_eq_true (List.length_pos_iff.2 ha)
          have T1 := hid hT
          have hpv := hid (OP.eof (N := b.length) hT ha)
          clear hT ha
          generalize hpa : p + bl t false = pa at hpl hplc
          have HPA := hid hpa
          have HPC := hid hplc
          clear hpa hbl hplc
          go_wp2_with (first | (go_at_call 39; obtain ⟨m0, v0, hL⟩ := hR.ps.lx; (with_reducible refine (token_q (TK_good _) hL.fresh).mono ?_); rw [T1.out, HPA.out]; rintro e w3 ⟨u3, rfl, j3, m3, v3, hL3⟩; obtain ⟨ao3, cap3, rfl, -, -, -⟩ := Rd.own hL3.row; have hR := hR.step hL3; have hZ := hZ.held hL3.held (by omega) (by omega); have hG := hG.held keepOV hL3.held (by omega) (by omega); have r0 := hR.r0; have p0 := hR.ps.p0; have l0 := hR.ps.l0; have zr := World.block_lt_of_cell? _ _ r0; have zp := World.block_lt_of_cell? _ _ p0; have zl := World.block_lt_of_cell? _ _ l0; obtain ⟨rc, rf, rs⟩ := id hZ; have hS3 := Sl.own hL3.row; have hlt3 := hL3.held.size) | (go_at_call 38; refine (r_pos hR).mono ?_; rintro e w1 ⟨rfl, rfl⟩))
          obtain ⟨k0, k1, k2, k3⟩ := (hZ.set4 (a := .string ⟨#[]⟩) (b := .slice none 0 0) (c := .slice none 0 0) (d := .int .i64 0) rfl).s4
          have hh := set4_held w3 w3.heap.size w.heap.size (.string ⟨#[]⟩) (.slice none 0 0) (.slice none 0 0) (.int .i64 0)
          have hR5 := hR.off hh (Nat.le_refl _)
          have k0 := cell_up' (alb _ (.cells #[.int .i64 0, .int .i64 pa, .int .i64 n, .slice ao3 out.length cap3] 85)) k0
          have k1 := cell_up' (alb _ (.cells #[.int .i64 0, .int .i64 pa, .int .i64 n, .slice ao3 out.length cap3] 85)) k1
          have k2 := cell_up' (alb _ (.cells #[.int .i64 0, .int .i64 pa, .int .i64 n, .slice ao3 out.length cap3] 85)) k2
          have k3 := cell_up' (alb _ (.cells #[.int .i64 0, .int .i64 pa, .int .i64 n, .slice ao3 out.length cap3] 85)) k3
          have hR5 := hR5.below (alb _ (.cells #[.int .i64 0, .int .i64 pa, .int .i64 n, .slice ao3 out.length cap3] 85))
          exact bodyPost_ret (v := .tuple #[.agg #[.string ⟨#[]⟩, .slice none 0 0, .slice none 0 0, .int .i64 0], .bool false, .int .i64 4]) (by simp [results, Tryz.results24, go_sem, k0, k1, k2, k3]) rfl ⟨_, hBK.out _ hpv.out, rfl, _, _, hR5⟩
      have b0 : (k == 0) = false := by simp [h0]
      by_cases h9 : k = 9 ∧ wordO out = none
      · have HO := hid (show (decide (k = 9) && decide (wordO out = none)) = true by rw [decide_eq_true h9.1, decide_eq_true h9.2]; rfl)
        by_cases hb : out = bBI
        · have HB := hid hb
          have T1 := hid hT
          have hpv := hid (show ∀ res5, DI [] [] r res5 → OP b.length args t (bik args.length ((p + bl t false : Nat) : Int) res5) from fun res5 hd => by rw [← hplc]; exact OP.img (by rw [← hb, ← h9.1]; exact hT) hd)
          clear hT h9 hb
          generalize hpa : p + bl t false = pa at hpl hplc hpv
          have HPA := hid hpa
          clear hpa hbl hplc
          go_wp2_with (first | (go_at_call 41; refine (ended_bi (B := w.heap.size + 1) hR.fresh hsb ((hS3.up (alb _ _)).up hb4) (AR.of hG (fun g h1 h2 => ⟨h1, h2⟩)) (by omega) ⟨by omega, by omega⟩ HB.out).mono ?_; rintro e w5 ⟨res5, hdi5, hq5⟩; rcases bik_cases args.length ((pa : Nat) : Int) res5 with ⟨x5, hx5⟩ | ⟨o5, r5, hx5⟩; rotate_left; (rw [hx5] at hq5; obtain ⟨vs, rfl, hov, j5, hR5⟩ := hq5; obtain ⟨va, vd, rfl, hva, hvd⟩ := hov; have hva0 := hva; obtain ⟨C5', ⟨aov, capv, rfl, -⟩, -⟩ := hva; obtain ⟨aod, capd, rfl, -, -, -, -⟩ := id hvd.1; have hz45 := hR5.ps.size; have hR := hR.joinR hR5; have hZ := hZ.held hR5.ps.held (by omega) (by omega); have HVA := hid hva0; have HVD := hid hvd; clear hva0 hvd; obtain ⟨rc, rf, rs⟩ := id hZ); rotate_left; (rw [hx5] at hq5; obtain ⟨rfl, j5, t5, hR5⟩ := hq5; have hz45 := hR5.ps.size; have hR := hR.joinR hR5; have hZ := hZ.held hR5.ps.held (by omega) (by omega); obtain ⟨rc, rf, rs⟩ := id hZ)) | (go_at_call 40; refine (operator_any _ _ _ _ _ out (hS3.up (alb _ _))).mono ?_; rw [HO.out]; rintro e w4 ⟨rfl, hb4⟩; have hb34 := below_then (alb w3 (.cells #[.int .i64 k, .int .i64 pa, .int .i64 n, .slice ao3 out.length cap3] 85)) hb4; have hR := hR.below hb34; have hZ := hZ.up hb34; have hG := hG.up keepOV hb34; have hTk := (C5.new w3 _ rfl [.int .i64 k, .int .i64 pa, .int .i64 n, .slice ao3 out.length cap3] 85).up hb4; obtain ⟨tc, tf, ts⟩ := id hTk; have hz34 := hb34.size; have r0 := hR.r0; have p0 := hR.ps.p0; have l0 := hR.ps.l0; have zr := World.block_lt_of_cell? _ _ r0; have zp := World.block_lt_of_cell? _ _ p0; have zl := World.block_lt_of_cell? _ _ l0; obtain ⟨rc, rf, rs⟩ := id hZ) | (go_at_call 39; obtain ⟨m0, v0, hL⟩ := hR.ps.lx; (with_reducible refine (token_q (TK_good _) hL.fresh).mono ?_); rw [T1.out, HPA.out]; rintro e w3 ⟨u3, rfl, j3, m3, v3, hL3⟩; obtain ⟨ao3, cap3, rfl, -, -, -⟩ := Rd.own hL3.row; have hR := hR.step hL3; have hZ := hZ.held hL3.held (by omega) (by omega); have hG := hG.held keepOV hL3.held (by omega) (by omega); have r0 := hR.r0; have p0 := hR.ps.p0; have l0 := hR.ps.l0; have zr := World.block_lt_of_cell? _ _ r0; have zp := World.block_lt_of_cell? _ _ p0; have zl := World.block_lt_of_cell? _ _ l0; obtain ⟨rc, rf, rs⟩ := id hZ; have hS3 := Sl.own hL3.row; have hlt3 := hL3.held.size) | (go_at_call 38; refine (r_pos hR).mono ?_; rintro e w1 ⟨rfl, rfl⟩))
          · obtain ⟨k0, k1, k2, k3⟩ := (hZ.set4 (a := .string ⟨#[]⟩) (b := .slice none 0 0) (c := .slice none 0 0) (d := .int .i64 0) rfl).s4
            have hh := set4_held w5 w5.heap.size w.heap.size (.string ⟨#[]⟩) (.slice none 0 0) (.slice none 0 0) (.int .i64 0)
            have hR5 := hR.off hh (Nat.le_refl _)
            exact bodyPost_ret (v := .tuple #[.agg #[.string ⟨#[]⟩, .slice none 0 0, .slice none 0 0, .int .i64 0], .bool false, .int .i64 x5]) (by simp [results, Tryz.results24, go_sem, k0, k1, k2, k3]) rfl ⟨_, hBK.out _ (show OP b.length args t (.bad x5) by rw [← hx5]; exact hpv.out _ hdi5), rfl, _, _, hR5⟩
          · obtain ⟨k0, k1, k2, k3⟩ := (hZ.set4 (a := .string (st o5.name)) (b := .slice aov o5.args.length capv) (c := .slice aod o5.data.length capd) (d := .int .i64 o5.at_) rfl).s4
            have hh := fun B => set4_held w5 B w.heap.size (.string (st o5.name)) (.slice aov o5.args.length capv) (.slice aod o5.data.length capd) (.int .i64 o5.at_)
            have hR6 := hR.off (hh _) (Nat.le_refl _)
            have hzz : (set4 w5 w.heap.size (.string (st o5.name)) (.slice aov o5.args.length capv) (.slice aod o5.data.length capd) (.int .i64 o5.at_)).heap.size = w5.heap.size := by simp
            exact bodyPost_ret (v := .tuple #[.agg #[.string (st o5.name), .slice aov o5.args.length capv, .slice aod o5.data.length capd, .int .i64 o5.at_], .bool true, .int .i64 0]) (by simp [results, Tryz.results24, go_sem, k0, k1, k2, k3]) rfl ⟨_, hBK.out _ (show OP b.length args t (.op o5 r5) by rw [← hx5]; exact hpv.out _ hdi5), [.string (st o5.name), .slice aov o5.args.length capv, .slice aod o5.data.length capd, .int .i64 o5.at_], rfl, ⟨_, _, rfl, HVA.out.keep (fun g hg => ⟨by have := hg.1; omega, by rw [hzz]; exact hg.2⟩) (fun g hg hlt => (hh w5.heap.size).block g hlt (by have := hg.1; omega) (by have := hg.1; omega)), HVD.out.keep (fun g hg => ⟨by have := hg.1; omega, by rw [hzz]; exact hg.2⟩) (fun g hg hlt => (hh w5.heap.size).block g hlt (by have := hg.1; omega) (by have := hg.1; omega))⟩, _, hR6⟩
        · have HB := hid hb
          have T1 := hid hT
          have hpv := hid (show OP b.length args t (.op ⟨out, args, [], ((p + bl t false : Nat) : Int)⟩ r) by rw [← hplc]; exact OP.word (by rw [← h9.1]; exact hT) h9.2 hb)
          clear hT h9 hb
          generalize hpa : p + bl t false = pa at hpl hplc hpv
          have HPA := hid hpa
          clear hpa hbl hplc
          go_wp2_with (first | (go_at_call 41; refine (ended_word (B := w.heap.size + 1) hR.fresh ((hS3.up (alb _ _)).up hb4) (AR.of hG (fun g h1 h2 => ⟨h1, h2⟩)) HB.out).mono ?_; rintro e w5 hq5; obtain ⟨vs, rfl, hov, j5, hR5⟩ := hq5; obtain ⟨va, vd, rfl, hva, hvd⟩ := hov; have hva0 := hva; obtain ⟨C5', ⟨aov, capv, rfl, -⟩, -⟩ := hva; obtain ⟨aod, capd, rfl, -, -, -, -⟩ := id hvd.1; have hz45 := hR5.ps.size; have hR := hR.joinR hR5; have hZ := hZ.held hR5.ps.held (by omega) (by omega); have HVA := hid hva0; have HVD := hid hvd; clear hva0 hvd; obtain ⟨rc, rf, rs⟩ := id hZ) | (go_at_call 40; refine (operator_any _ _ _ _ _ out (hS3.up (alb _ _))).mono ?_; rw [HO.out]; rintro e w4 ⟨rfl, hb4⟩; have hb34 := below_then (alb w3 (.cells #[.int .i64 k, .int .i64 pa, .int .i64 n, .slice ao3 out.length cap3] 85)) hb4; have hR := hR.below hb34; have hZ := hZ.up hb34; have hG := hG.up keepOV hb34; have hTk := (C5.new w3 _ rfl [.int .i64 k, .int .i64 pa, .int .i64 n, .slice ao3 out.length cap3] 85).up hb4; obtain ⟨tc, tf, ts⟩ := id hTk; have hz34 := hb34.size; have r0 := hR.r0; have p0 := hR.ps.p0; have l0 := hR.ps.l0; have zr := World.block_lt_of_cell? _ _ r0; have zp := World.block_lt_of_cell? _ _ p0; have zl := World.block_lt_of_cell? _ _ l0; obtain ⟨rc, rf, rs⟩ := id hZ) | (go_at_call 39; obtain ⟨m0, v0, hL⟩ := hR.ps.lx; (with_reducible refine (token_q (TK_good _) hL.fresh).mono ?_); rw [T1.out, HPA.out]; rintro e w3 ⟨u3, rfl, j3, m3, v3, hL3⟩; obtain ⟨ao3, cap3, rfl, -, -, -⟩ := Rd.own hL3.row; have hR := hR.step hL3; have hZ := hZ.held hL3.held (by omega) (by omega); have hG := hG.held keepOV hL3.held (by omega) (by omega); have r0 := hR.r0; have p0 := hR.ps.p0; have l0 := hR.ps.l0; have zr := World.block_lt_of_cell? _ _ r0; have zp := World.block_lt_of_cell? _ _ p0; have zl := World.block_lt_of_cell? _ _ l0; obtain ⟨rc, rf, rs⟩ := id hZ; have hS3 := Sl.own hL3.row; have hlt3 := hL3.held.size) | (go_at_call 38; refine (r_pos hR).mono ?_; rintro e w1 ⟨rfl, rfl⟩))
          obtain ⟨k0, k1, k2, k3⟩ := (hZ.set4 (a := .string (st out)) (b := .slice aov args.length capv) (c := .slice aod 0 capd) (d := .int .i64 pa) rfl).s4
          have hh := fun B => set4_held w5 B w.heap.size (.string (st out)) (.slice aov args.length capv) (.slice aod 0 capd) (.int .i64 pa)
          have hR6 := hR.off (hh _) (Nat.le_refl _)
          have hzz : (set4 w5 w.heap.size (.string (st out)) (.slice aov args.length capv) (.slice aod 0 capd) (.int .i64 pa)).heap.size = w5.heap.size := by simp
          exact bodyPost_ret (v := .tuple #[.agg #[.string (st out), .slice aov args.length capv, .slice aod 0 capd, .int .i64 pa], .bool true, .int .i64 0]) (by simp [results, Tryz.results24, go_sem, k0, k1, k2, k3]) rfl ⟨_, hBK.out _ (hpv.out), [.string (st out), .slice aov args.length capv, .slice aod 0 capd, .int .i64 pa], rfl, ⟨_, _, rfl, HVA.out.keep (fun g hg => ⟨by have := hg.1; omega, by rw [hzz]; exact hg.2⟩) (fun g hg hlt => (hh w5.heap.size).block g hlt (by have := hg.1; omega) (by have := hg.1; omega)), HVD.out.keep (fun g hg => ⟨by have := hg.1; omega, by rw [hzz]; exact hg.2⟩) (fun g hg hlt => (hh w5.heap.size).block g hlt (by have := hg.1; omega) (by have := hg.1; omega))⟩, _, hR6⟩
      · have HO := hid (show (decide (k = 9) && decide (wordO out = none)) = false by
          by_cases q : k = 9
          · rw [decide_eq_false (fun z => h9 ⟨q, z⟩)]; simp
          · rw [decide_eq_false q]; rfl)
        have H0 := hid h0
        have H9 := hid h9
        have T1 := hid hT
        clear hT h0 h9
        generalize hpa : p + bl t false = pa at hpl hplc
        have HPA := hid hpa
        have HPC := hid hplc
        clear hpa hbl hplc
        have hone : ∀ y1 y2 : Int, ∀ y3 y4 y5 : Option Addr, ∀ y6 y7 y8 y9 y10 y11 : Nat, ∀ c ∈ ([[.int .i64 y1, .int .i64 y2, .slice y3 y6 y7, .slice y4 y8 y9, .slice y5 y10 y11]] : List (List Value)), ∀ u ∈ c, u.oneCell' = true := fun y1 y2 y3 y4 y5 y6 y7 y8 y9 y10 y11 c hc => by
          rw [List.mem_singleton] at hc; subst hc; exact V5.one ⟨_, _, _, _, _, _, _, _, _, _, _, rfl⟩
        by_cases hm : args.length < 33
        · have tm : decide (33 < args.length + 1) = false := decide_eq_false (by omega)
          have tm2 : decide ((33 : Int) < (args.length : Int) + 1) = false := decide_eq_false (by omega)
          go_wp2_with (first | (at_builtin; refine wpList_append_slx rfl _ _ 25 rfl (w.heap.size + 1) 34 zObj 5 88 objTy' objIn rfl (by decide) (.slice aol args.length capl) C rfl hrow.out _ [[.int .i64 y1, .int .i64 y2, .slice y3 y6 y7, .slice y4 y8 y9, .slice y5 y10 y11]] rfl (SlX.lit1 (w6.alloc (.cells #[.int .i64 y1, .int .i64 y2, .slice y3 y6 y7, .slice y4 y8 y9, .slice y5 y10 y11] 34)) (w6.heap.size + 1) (by simp) [.int .i64 y1, .int .i64 y2, .slice y3 y6 y7, .slice y4 y8 y9, .slice y5 y10 y11] _ 5 rfl) (hone _ _ _ _ _ _ _ _ _ _ _) (by simp; omega) (by decide) (by simp; omega) ?_; intro v8 w8 q1 q2 q3; obtain ⟨g8, cap8, rfl⟩ := q1.cons (by simp); have e8 : (C ++ ([[.int .i64 y1, .int .i64 y2, .slice y3 y6 y7, .slice y4 y8 y9, .slice y5 y10 y11]] : List (List Value))).length = args.length + 1 := (by rw [List.length_append, hClen]; rfl); rw [e8] at q1 q3; have hBW : Below w6.heap.size w6 ((w6.alloc (.cells #[.int .i64 y1, .int .i64 y2, .slice y3 y6 y7, .slice y4 y8 y9, .slice y5 y10 y11] 34)).alloc (.cells #[.int .i64 y1, .int .i64 y2, .slice y3 y6 y7, .slice y4 y8 y9, .slice y5 y10 y11] 34)) := below_then (alb _ _) (alb _ _); have hZ8 := (hZ.up hBW).grown q2 (fun z => by have := (hrow4 _ z).1; omega); obtain ⟨rc, rf, rs⟩ := id hZ8) | (go_at_call 43; refine (value_top hR.fresh.ps hR.d1 hv).mono ?_; rintro e w6 ⟨res, hpv, hvq⟩; have hfit := hpv.fit; have hrow4 := hG.row.lt; rcases res with ⟨x9, t9⟩ | ⟨o9, t9⟩; rotate_left; (obtain ⟨vs, rfl, hov, j9, hPs⟩ := hvq; have hzp := hPs.size; have hR := hR.join hPs; have hZ := hZ.held hPs.held (by omega) (by omega); have hG := hG.held keepOV hPs.held (by omega) (by omega); obtain ⟨rc, rf, rs⟩ := id hZ; have hV5 := hov.v5; have hov2 := hid hov; clear hov; obtain ⟨y1, y2, y3, y4, y5, y6, y7, y8, y9, y10, y11, rfl⟩ := hV5; have hrow := hid (show OwX 5 34 ((w6.alloc (.cells #[.int .i64 y1, .int .i64 y2, .slice y3 y6 y7, .slice y4 y8 y9, .slice y5 y10 y11] 34)).alloc (.cells #[.int .i64 y1, .int .i64 y2, .slice y3 y6 y7, .slice y4 y8 y9, .slice y5 y10 y11] 34)) (w.heap.size + 1) (.slice aol args.length capl) C from (by simpa using (hG.up keepOV (below_then (alb w6 (.cells #[.int .i64 y1, .int .i64 y2, .slice y3 y6 y7, .slice y4 y8 y9, .slice y5 y10 y11] 34)) (alb _ (.cells #[.int .i64 y1, .int .i64 y2, .slice y3 y6 y7, .slice y4 y8 y9, .slice y5 y10 y11] 34)))).row))); rotate_left; (obtain ⟨rfl, j9, hPs⟩ := hvq; have bx : (x9 == 0) = false := hfit; have hR := hR.join hPs; have hZ := hZ.held hPs.held (by omega) (by omega); have hG := hG.held keepOV hPs.held (by omega) (by omega); obtain ⟨rc, rf, rs⟩ := id hZ)) | (go_at_call 42; refine (r_seek hR p _ rfl (by have := hat.out; omega)).mono ?_; rw [hdr.out]; rintro e w5 ⟨rfl, hR, hh5⟩; have hz5 := hh5.size; have hZ := hZ.held hh5 (by omega) (by omega); have hG := hG.held keepOV hh5 (by omega) (by omega); have r0 := hR.r0; have p0 := hR.ps.p0; have l0 := hR.ps.l0; have zr := World.block_lt_of_cell? _ _ r0; have zp := World.block_lt_of_cell? _ _ p0; have zl := World.block_lt_of_cell? _ _ l0; obtain ⟨rc, rf, rs⟩ := id hZ) | (go_at_call 40; refine (operator_any _ _ _ _ _ out (hS3.up (alb _ _))).mono ?_; rw [HO.out]; rintro e w4 ⟨rfl, hb4⟩; have hb34 := below_then (alb w3 (.cells #[.int .i64 k, .int .i64 pa, .int .i64 n, .slice ao3 out.length cap3] 85)) hb4; have hR := hR.below hb34; have hZ := hZ.up hb34; have hG := hG.up keepOV hb34; have hTk := (C5.new w3 _ rfl [.int .i64 k, .int .i64 pa, .int .i64 n, .slice ao3 out.length cap3] 85).up hb4; obtain ⟨tc, tf, ts⟩ := id hTk; have hz34 := hb34.size; have r0 := hR.r0; have p0 := hR.ps.p0; have l0 := hR.ps.l0; have zr := World.block_lt_of_cell? _ _ r0; have zp := World.block_lt_of_cell? _ _ p0; have zl := World.block_lt_of_cell? _ _ l0; obtain ⟨rc, rf, rs⟩ := id hZ) | (go_at_call 39; obtain ⟨m0, v0, hL⟩ := hR.ps.lx; (with_reducible refine (token_q (TK_good _) hL.fresh).mono ?_); rw [T1.out, HPA.out]; rintro e w3 ⟨u3, rfl, j3, m3, v3, hL3⟩; obtain ⟨ao3, cap3, rfl, -, -, -⟩ := Rd.own hL3.row; have hR := hR.step hL3; have hZ := hZ.held hL3.held (by omega) (by omega); have hG := hG.held keepOV hL3.held (by omega) (by omega); have r0 := hR.r0; have p0 := hR.ps.p0; have l0 := hR.ps.l0; have zr := World.block_lt_of_cell? _ _ r0; have zp := World.block_lt_of_cell? _ _ p0; have zl := World.block_lt_of_cell? _ _ l0; obtain ⟨rc, rf, rs⟩ := id hZ; have hS3 := Sl.own hL3.row; have hlt3 := hL3.held.size) | (go_at_call 38; refine (r_pos hR).mono ?_; rintro e w1 ⟨rfl, rfl⟩))
          · obtain ⟨k0, k1, k2, k3⟩ := (hZ.set4 (a := .string ⟨#[]⟩) (b := .slice none 0 0) (c := .slice none 0 0) (d := .int .i64 0) rfl).s4
            have hh := set4_held w6 w6.heap.size w.heap.size (.string ⟨#[]⟩) (.slice none 0 0) (.slice none 0 0) (.int .i64 0)
            have hR5 := hR.off hh (Nat.le_refl _)
            have k0 := cell_up' (alb _ (.cells #[.int .i64 0, .int .i64 0, .slice none 0 0, .slice none 0 0, .slice none 0 0] 34)) k0
            have k1 := cell_up' (alb _ (.cells #[.int .i64 0, .int .i64 0, .slice none 0 0, .slice none 0 0, .slice none 0 0] 34)) k1
            have k2 := cell_up' (alb _ (.cells #[.int .i64 0, .int .i64 0, .slice none 0 0, .slice none 0 0, .slice none 0 0] 34)) k2
            have k3 := cell_up' (alb _ (.cells #[.int .i64 0, .int .i64 0, .slice none 0 0, .slice none 0 0, .slice none 0 0] 34)) k3
            have hR5 := hR5.below (alb _ (.cells #[.int .i64 0, .int .i64 0, .slice none 0 0, .slice none 0 0, .slice none 0 0] 34))
            exact bodyPost_ret (v := .tuple #[.agg #[.string ⟨#[]⟩, .slice none 0 0, .slice none 0 0, .int .i64 0], .bool false, .int .i64 x9]) (by simp [results, Tryz.results24, go_sem, k0, k1, k2, k3]) rfl ⟨_, hBK.out _ (OP.stop T1.out H0.out H9.out hpv), rfl, _, _, hR5⟩
          · have hf : t9.length < t.length := hfit
            have hnx : (Value.slice aol args.length capl).ownBlock ≠ some w.heap.size := fun z => by have := (hrow4 _ z).1; omega
            have hR8 := (hR.below hBW).grow q2 (fun z hz => by have := (hrow4 _ hz).1; omega)
            have hZ8 := (hZ.up hBW).grown q2 hnx
            have hG8 := (hG.up keepOV hBW).push keepOV (a := [.int .i64 y1, .int .i64 y2, .slice y3 y6 y7, .slice y4 y8 y9, .slice y5 y10 y11]) (b := o9) (hov2.out.keep (fun g hg => ⟨by have := hg.1; omega, Nat.lt_of_lt_of_le hg.2 hBW.size, fun z => by have := (hrow4 _ z).2; have := hg.1; omega⟩) (fun g _ hlt => hBW.block g hlt)) (by simpa using q1) q2 q3
            go_roundw
            case rel => exact ⟨args ++ [o9], C ++ [[.int .i64 y1, .int .i64 y2, .slice y3 y6 y7, .slice y4 y8 y9, .slice y5 y10 y11]], _, _, hR8, hZ8, by rw [List.length_append] at *; exact hG8, by rw [List.length_append, List.length_singleton]; omega, fun res hr => hBK.out _ (OP.step T1.out H0.out H9.out hpv hm hr)⟩
            case measure => rw [hR8.ps.rem, hrm.out]; omega
        · have tm : decide (33 < args.length + 1) = true := decide_eq_true (by omega)
          have tm2 : decide ((33 : Int) < (args.length : Int) + 1) = true := decide_eq_true (by omega)
          go_wp2_with (first | (at_builtin; refine wpList_append_slx rfl _ _ 25 rfl (w.heap.size + 1) 34 zObj 5 88 objTy' objIn rfl (by decide) (.slice aol args.length capl) C rfl hrow.out _ [[.int .i64 y1, .int .i64 y2, .slice y3 y6 y7, .slice y4 y8 y9, .slice y5 y10 y11]] rfl (SlX.lit1 (w6.alloc (.cells #[.int .i64 y1, .int .i64 y2, .slice y3 y6 y7, .slice y4 y8 y9, .slice y5 y10 y11] 34)) (w6.heap.size + 1) (by simp) [.int .i64 y1, .int .i64 y2, .slice y3 y6 y7, .slice y4 y8 y9, .slice y5 y10 y11] _ 5 rfl) (hone _ _ _ _ _ _ _ _ _ _ _) (by simp; omega) (by decide) (by simp; omega) ?_; intro v8 w8 q1 q2 q3; obtain ⟨g8, cap8, rfl⟩ := q1.cons (by simp); have e8 : (C ++ ([[.int .i64 y1, .int .i64 y2, .slice y3 y6 y7, .slice y4 y8 y9, .slice y5 y10 y11]] : List (List Value))).length = args.length + 1 := (by rw [List.length_append, hClen]; rfl); rw [e8] at q1 q3; have hBW : Below w6.heap.size w6 ((w6.alloc (.cells #[.int .i64 y1, .int .i64 y2, .slice y3 y6 y7, .slice y4 y8 y9, .slice y5 y10 y11] 34)).alloc (.cells #[.int .i64 y1, .int .i64 y2, .slice y3 y6 y7, .slice y4 y8 y9, .slice y5 y10 y11] 34)) := below_then (alb _ _) (alb _ _); have hZ8 := (hZ.up hBW).grown q2 (fun z => by have := (hrow4 _ z).1; omega); obtain ⟨rc, rf, rs⟩ := id hZ8) | (go_at_call 43; refine (value_top hR.fresh.ps hR.d1 hv).mono ?_; rintro e w6 ⟨res, hpv, hvq⟩; have hfit := hpv.fit; have hrow4 := hG.row.lt; rcases res with ⟨x9, t9⟩ | ⟨o9, t9⟩; rotate_left; (obtain ⟨vs, rfl, hov, j9, hPs⟩ := hvq; have hzp := hPs.size; have hR := hR.join hPs; have hZ := hZ.held hPs.held (by omega) (by omega); have hG := hG.held keepOV hPs.held (by omega) (by omega); obtain ⟨rc, rf, rs⟩ := id hZ; have hV5 := hov.v5; have hov2 := hid hov; clear hov; obtain ⟨y1, y2, y3, y4, y5, y6, y7, y8, y9, y10, y11, rfl⟩ := hV5; have hrow := hid (show OwX 5 34 ((w6.alloc (.cells #[.int .i64 y1, .int .i64 y2, .slice y3 y6 y7, .slice y4 y8 y9, .slice y5 y10 y11] 34)).alloc (.cells #[.int .i64 y1, .int .i64 y2, .slice y3 y6 y7, .slice y4 y8 y9, .slice y5 y10 y11] 34)) (w.heap.size + 1) (.slice aol args.length capl) C from (by simpa using (hG.up keepOV (below_then (alb w6 (.cells #[.int .i64 y1, .int .i64 y2, .slice y3 y6 y7, .slice y4 y8 y9, .slice y5 y10 y11] 34)) (alb _ (.cells #[.int .i64 y1, .int .i64 y2, .slice y3 y6 y7, .slice y4 y8 y9, .slice y5 y10 y11] 34)))).row))); rotate_left; (obtain ⟨rfl, j9, hPs⟩ := hvq; have bx : (x9 == 0) = false := hfit; have hR := hR.join hPs; have hZ := hZ.held hPs.held (by omega) (by omega); have hG := hG.held keepOV hPs.held (by omega) (by omega); obtain ⟨rc, rf, rs⟩ := id hZ)) | (go_at_call 42; refine (r_seek hR p _ rfl (by have := hat.out; omega)).mono ?_; rw [hdr.out]; rintro e w5 ⟨rfl, hR, hh5⟩; have hz5 := hh5.size; have hZ := hZ.held hh5 (by omega) (by omega); have hG := hG.held keepOV hh5 (by omega) (by omega); have r0 := hR.r0; have p0 := hR.ps.p0; have l0 := hR.ps.l0; have zr := World.block_lt_of_cell? _ _ r0; have zp := World.block_lt_of_cell? _ _ p0; have zl := World.block_lt_of_cell? _ _ l0; obtain ⟨rc, rf, rs⟩ := id hZ) | (go_at_call 40; refine (operator_any _ _ _ _ _ out (hS3.up (alb _ _))).mono ?_; rw [HO.out]; rintro e w4 ⟨rfl, hb4⟩; have hb34 := below_then (alb w3 (.cells #[.int .i64 k, .int .i64 pa, .int .i64 n, .slice ao3 out.length cap3] 85)) hb4; have hR := hR.below hb34; have hZ := hZ.up hb34; have hG := hG.up keepOV hb34; have hTk := (C5.new w3 _ rfl [.int .i64 k, .int .i64 pa, .int .i64 n, .slice ao3 out.length cap3] 85).up hb4; obtain ⟨tc, tf, ts⟩ := id hTk; have hz34 := hb34.size; have r0 := hR.r0; have p0 := hR.ps.p0; have l0 := hR.ps.l0; have zr := World.block_lt_of_cell? _ _ r0; have zp := World.block_lt_of_cell? _ _ p0; have zl := World.block_lt_of_cell? _ _ l0; obtain ⟨rc, rf, rs⟩ := id hZ) | (go_at_call 39; obtain ⟨m0, v0, hL⟩ := hR.ps.lx; (with_reducible refine (token_q (TK_good _) hL.fresh).mono ?_); rw [T1.out, HPA.out]; rintro e w3 ⟨u3, rfl, j3, m3, v3, hL3⟩; obtain ⟨ao3, cap3, rfl, -, -, -⟩ := Rd.own hL3.row; have hR := hR.step hL3; have hZ := hZ.held hL3.held (by omega) (by omega); have hG := hG.held keepOV hL3.held (by omega) (by omega); have r0 := hR.r0; have p0 := hR.ps.p0; have l0 := hR.ps.l0; have zr := World.block_lt_of_cell? _ _ r0; have zp := World.block_lt_of_cell? _ _ p0; have zl := World.block_lt_of_cell? _ _ l0; obtain ⟨rc, rf, rs⟩ := id hZ; have hS3 := Sl.own hL3.row; have hlt3 := hL3.held.size) | (go_at_call 38; refine (r_pos hR).mono ?_; rintro e w1 ⟨rfl, rfl⟩))
          · obtain ⟨k0, k1, k2, k3⟩ := (hZ.set4 (a := .string ⟨#[]⟩) (b := .slice none 0 0) (c := .slice none 0 0) (d := .int .i64 0) rfl).s4
            have hh := set4_held w6 w6.heap.size w.heap.size (.string ⟨#[]⟩) (.slice none 0 0) (.slice none 0 0) (.int .i64 0)
            have hR5 := hR.off hh (Nat.le_refl _)
            have k0 := cell_up' (alb _ (.cells #[.int .i64 0, .int .i64 0, .slice none 0 0, .slice none 0 0, .slice none 0 0] 34)) k0
            have k1 := cell_up' (alb _ (.cells #[.int .i64 0, .int .i64 0, .slice none 0 0, .slice none 0 0, .slice none 0 0] 34)) k1
            have k2 := cell_up' (alb _ (.cells #[.int .i64 0, .int .i64 0, .slice none 0 0, .slice none 0 0, .slice none 0 0] 34)) k2
            have k3 := cell_up' (alb _ (.cells #[.int .i64 0, .int .i64 0, .slice none 0 0, .slice none 0 0, .slice none 0 0] 34)) k3
            have hR5 := hR5.below (alb _ (.cells #[.int .i64 0, .int .i64 0, .slice none 0 0, .slice none 0 0, .slice none 0 0] 34))
            exact bodyPost_ret (v := .tuple #[.agg #[.string ⟨#[]⟩, .slice none 0 0, .slice none 0 0, .int .i64 0], .bool false, .int .i64 x9]) (by simp [results, Tryz.results24, go_sem, k0, k1, k2, k3]) rfl ⟨_, hBK.out _ (OP.stop T1.out H0.out H9.out hpv), rfl, _, _, hR5⟩
          · have hnx : (Value.slice aol args.length capl).ownBlock ≠ some w.heap.size := fun z => by have := (hrow4 _ z).1; omega
            have hR8 := (hR.below hBW).grow q2 (fun z hz => by have := (hrow4 _ hz).1; omega)
            have hZ8 := (hZ.up hBW).grown q2 hnx
            have hZ := hZ8
            have hR := hR8
            obtain ⟨k0, k1, k2, k3⟩ := (hZ.set4 (a := .string ⟨#[]⟩) (b := .slice none 0 0) (c := .slice none 0 0) (d := .int .i64 0) rfl).s4
            have hh := set4_held w8 w8.heap.size w.heap.size (.string ⟨#[]⟩) (.slice none 0 0) (.slice none 0 0) (.int .i64 0)
            have hR5 := hR.off hh (Nat.le_refl _)
            exact bodyPost_ret (v := .tuple #[.agg #[.string ⟨#[]⟩, .slice none 0 0, .slice none 0 0, .int .i64 0], .bool false, .int .i64 4]) (by simp [results, Tryz.results24, go_sem, k0, k1, k2, k3]) rfl ⟨_, hBK.out _ (OP.much T1.out H0.out H9.out hpv (by omega)), rfl, _, _, hR5⟩
end Go.Proofs.YtjkoiknjffldjaaGreatDoor
