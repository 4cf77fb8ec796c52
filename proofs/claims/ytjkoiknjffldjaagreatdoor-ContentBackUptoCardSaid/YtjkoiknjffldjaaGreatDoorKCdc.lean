/-
  The reader's dict: an image's entries. Condition: the reader stands in its bytes, these are no more than 3600000.
-/
import Derived.Test.YtjkoiknjffldjaaGreatDoorKCdt
import Derived.Test.YtjkoiknjffldjaaGreatDoorHh
/-
  The reader's dict: an image's entries. Condition: the reader stands in its bytes, these are no more than 3600000.
-/
namespace Go.Proofs.YtjkoiknjffldjaaGreatDoor
open Go.RowKit
set_option linter.unusedVariables false

/-- what dict gives -/
def DcQ (w : World) (rp pp lp cp : Nat) (b : List UInt8) : PRes → Ending → World → Prop
  | .bad x _, e, w' => e = .returned (.tuple #[.agg #[.int .i64 0, .int .i64 0, .slice none 0 0, .slice none 0 0, .slice none 0 0], .int .i64 x]) ∧ ∃ j t, Rs w w' rp pp lp cp b j t
  | .ok o r, e, w' => ∃ vs : List Value, e = .returned (.tuple #[.agg vs.toArray, .int .i64 0]) ∧ OV (fun g => w.heap.size ≤ g ∧ g < w'.heap.size) w' vs o ∧ ∃ j, Rs w w' rp pp lp cp b j r

set_option maxHeartbeats 3200000 in
set_option maxRecDepth 100000 in
theorem cdict_any {w : World} {rp pp lp cp : Nat} {b s : List UInt8} {i : Nat} (h : Rs w w rp pp lp cp b i s) (hsb : b.length ≤ 3600000) :
    Calls Tryz.prog 63 #[.pointer (some ⟨rp, 0, none⟩)] w fun e w' => ∃ res, DI [] [] s res ∧ DcQ w rp pp lp cp b res e w' := by
  have hlo := h.lt
  have hv := value_all (q := true) (pp := pp) (lp := lp) (cp := cp) hsb 28 (Nat.le_refl _)
  obtain ⟨O1, hO1⟩ : ∃ o, o = Obj.cells #[.int .i64 0, .int .i64 0, .slice none 0 0, .slice none 0 0, .slice none 0 0] 34 := ⟨_, rfl⟩
  have hR := (h.below (alb w O1)).below (alb _ (.map #[] 0))
  have hZ : Z5 ((w.alloc O1).alloc (.map #[] 0)) w.heap.size := by subst hO1; exact (Z5.new w _).up (alb _ _)
  have hM : Mp ((w.alloc O1).alloc (.map #[] 0)) (w.heap.size + 1) [] := Mp.new _ _ (by simp)
  have hG : RowG ecl EV 6 41 (w.heap.size + 2) ((w.alloc O1).alloc (.map #[] 0)) (.slice none 0 0) [] [] := RowG.nil _ _ _ _ _ _
  subst hO1
  have hmm := @run_makeMap Tryz.prog
  go_enter Tryz.func63, Tryz.ntmps63
  go_wp2
  clear hmm
  go_loopw [5, 6, 7, 8, 9, 10, 11] (fun s5 _ _ _ _ _ _ wr => ∃ keys : List (List UInt8), ∃ ents : List (List UInt8 × PO), ∃ E : List KV, ∃ p : Nat, ∃ t : List UInt8, Rs w wr rp pp lp cp b p t ∧ Z5 wr w.heap.size ∧ Mp wr (w.heap.size + 1) keys ∧ RowG ecl EV 6 41 (w.heap.size + 2) wr s5 E ents ∧ ents.length + t.length ≤ s.length ∧ keys.length + t.length ≤ s.length ∧ ∀ res, DI keys ents t res → DI [] [] s res) (fun _ _ _ _ _ _ _ wr => remOf wr cp)
  case atStart => exact ⟨[], [], [], _, _, hR, hZ, hM, hG, by simp, by simp, fun _ h => h⟩
  case round =>
    have hsl : s.length ≤ 3600000 := by have := h.ps.at_; omega
    clear hR hZ hM hG h
    obtain ⟨keys, ents, E, p, t, hR, hZ, hM, hG, hal, hak, hback⟩ := hrel
    have hat := hid hR.ps.at_
    have hbl := bl_le t false
    have hpl : p + bl t false ≤ b.length := by have := hat.out; omega
    have r0 := hR.r0
    have p0 := hR.ps.p0
    have l0 := hR.ps.l0
    have zr := World.block_lt_of_cell? _ _ r0
    have zp := World.block_lt_of_cell? _ _ p0
    have zl := World.block_lt_of_cell? _ _ l0
    have hrm := hid hR.ps.rem
    have hBK := hid hback
    have hElen : E.length = ents.length := All2.len hG.rel
    clear hback
    have hRl := hG.row.lin
    rw [List.length_map, hElen] at hRl
    obtain ⟨aol, capl, hvl⟩ := hRl
    subst hvl
    obtain ⟨rc, rf, rs⟩ := id hZ
    cases hT : TK t with
    | bad x =>
      have bx := TK_err hT
      have T1 := hid hT
      have hpv := hid (DI.err (keys := keys) (ents := ents) hT)
      clear hT
      generalize hpa : p + bl t false = pa at hpl
      have HPA := hid hpa
      clear hpa hbl
      go_wp2_with (first | (go_at_call 39; obtain ⟨m0, v0, hL⟩ := hR.ps.lx; (with_reducible refine (token_q (TK_good _) hL.fresh).mono ?_); rw [T1.out, HPA.out]; rintro e w3 ⟨rfl, m3, v3, u3, o3, hL3⟩; have hR := hR.step hL3; have hZ := hZ.held hL3.held (by omega) (by omega); have hM := hM.held hL3.held (by omega) (by omega); have hG := hG.held keepEV hL3.held (by omega) (by omega); have r0 := hR.r0; have p0 := hR.ps.p0; have l0 := hR.ps.l0; have zr := World.block_lt_of_cell? _ _ r0; have zp := World.block_lt_of_cell? _ _ p0; have zl := World.block_lt_of_cell? _ _ l0; obtain ⟨rc, rf, rs⟩ := id hZ; have hcv : ∀ o : Obj, (convert 24 9 (.slice none 0 0)).run Tryz.prog (w3.alloc o) = .ok (.string (st [])) (w3.alloc o) := fun o => sl_string (P := Tryz.prog) (w3.alloc o) 24 9 5 Tryz.underlying24 (by kernel_rfl) (by kernel_rfl) _ _ (Sl.nil _)))
      obtain ⟨k0, k1, k2, k3, k4⟩ := set5_cells (a := .int .i64 0) (b := .int .i64 0) (c := .slice none 0 0) (d := .slice none 0 0) (e := .slice none 0 0) hZ.five
      have hh := set5_held w3 w3.heap.size w.heap.size (.int .i64 0) (.int .i64 0) (.slice none 0 0) (.slice none 0 0) (.slice none 0 0)
      have hR5 := hR.off hh (Nat.le_refl _)
      have k0 := cell_up' (alb _ (.cells #[.int .i64 0, .int .i64 pa, .int .i64 0, .slice none 0 0] 85)) k0
      have k1 := cell_up' (alb _ (.cells #[.int .i64 0, .int .i64 pa, .int .i64 0, .slice none 0 0] 85)) k1
      have k2 := cell_up' (alb _ (.cells #[.int .i64 0, .int .i64 pa, .int .i64 0, .slice none 0 0] 85)) k2
      have k3 := cell_up' (alb _ (.cells #[.int .i64 0, .int .i64 pa, .int .i64 0, .slice none 0 0] 85)) k3
      have k4 := cell_up' (alb _ (.cells #[.int .i64 0, .int .i64 pa, .int .i64 0, .slice none 0 0] 85)) k4
      have hR5 := hR5.below (alb _ (.cells #[.int .i64 0, .int .i64 pa, .int .i64 0, .slice none 0 0] 85))
      exact bodyPost_ret (v := .tuple #[.agg #[.int .i64 0, .int .i64 0, .slice none 0 0, .slice none 0 0, .slice none 0 0], .int .i64 x]) (by simp [results, Tryz.results63, go_sem, k0, k1, k2, k3, k4]) rfl ⟨_, hBK.out _ hpv.out, rfl, _, _, hR5⟩
    | tok k n out r =>
      have hst := st_toList out
      by_cases hid9 : k = 9 ∧ out = bID
      · obtain ⟨rfl, ho⟩ := hid9
        have hq : (out == [73, 68]) = true := by rw [ho]; rfl
        have T1 := hid hT
        have hpv := hid (DI.close (keys := keys) (ents := ents) (by rw [ho] at hT; exact hT))
        clear hT ho
        generalize hpa : p + bl t false = pa at hpl
        have HPA := hid hpa
        clear hpa hbl
        go_wp2_with (first | (go_at_call 88; refine (dict_any (hG.up keepEV (alb _ _)).rel (hG.up keepEV (alb _ _)).row.sl (by omega)).mono ?_; rintro e w9 ⟨vs', rfl, hov, hb9⟩; have hR := (hR.below (alb _ _)).below hb9; have hZ := (hZ.up (alb _ _)).up hb9; obtain ⟨rc, rf, rs⟩ := id hZ; have hV5 := hov.v5; have hov2 := hid hov; clear hov; obtain ⟨y1, y2, y3, y4, y5, y6, y7, y8, y9, y10, y11, rfl⟩ := hV5; have hwy := hL3.size) | (go_at_call 39; obtain ⟨m0, v0, hL⟩ := hR.ps.lx; (with_reducible refine (token_q (TK_good _) hL.fresh).mono ?_); rw [T1.out, HPA.out]; rintro e w3 ⟨u3, rfl, j3, m3, v3, hL3⟩; obtain ⟨ao3, cap3, rfl, -, -, -⟩ := Rd.own hL3.row; have hR := hR.step hL3; have hZ := hZ.held hL3.held (by omega) (by omega); have hM := hM.held hL3.held (by omega) (by omega); have hG := hG.held keepEV hL3.held (by omega) (by omega); have r0 := hR.r0; have p0 := hR.ps.p0; have l0 := hR.ps.l0; have zr := World.block_lt_of_cell? _ _ r0; have zp := World.block_lt_of_cell? _ _ p0; have zl := World.block_lt_of_cell? _ _ l0; obtain ⟨rc, rf, rs⟩ := id hZ; have hS3 := Sl.own hL3.row; have hcv : ∀ o : Obj, (convert 24 9 (.slice ao3 out.length cap3)).run Tryz.prog (w3.alloc o) = .ok (.string (st out)) (w3.alloc o) := fun o => sl_string (P := Tryz.prog) (w3.alloc o) 24 9 5 Tryz.underlying24 (by kernel_rfl) (by kernel_rfl) _ _ (hS3.up (alb _ _)); obtain ⟨Dm, hown, hhas⟩ := id hM; have HH := hid hhas; clear hhas))
        obtain ⟨k0, k1, k2, k3, k4⟩ := set5_cells (a := .int .i64 y1) (b := .int .i64 y2) (c := .slice y3 y6 y7) (d := .slice y4 y8 y9) (e := .slice y5 y10 y11) hZ.five
        have hh := set5_held w9 w9.heap.size w.heap.size (.int .i64 y1) (.int .i64 y2) (.slice y3 y6 y7) (.slice y4 y8 y9) (.slice y5 y10 y11)
        have hR5 := hR.off hh (Nat.le_refl _)
        have hs9 := hh.size
        have hov := hov2.out.keep (B := fun g => w.heap.size ≤ g ∧ g < (set5 w9 w.heap.size (.int .i64 y1) (.int .i64 y2) (.slice y3 y6 y7) (.slice y4 y8 y9) (.slice y5 y10 y11)).heap.size) (fun g hg => ⟨by have := hg.1; simp at this; omega, Nat.lt_of_lt_of_le hg.2 hs9⟩) (fun g hg hlt => hh.block g hlt (by have := hg.1; simp at this; omega) (by have := hg.1; simp at this; omega))
        exact bodyPost_ret (v := .tuple #[.agg #[.int .i64 y1, .int .i64 y2, .slice y3 y6 y7, .slice y4 y8 y9, .slice y5 y10 y11], .int .i64 0]) (by simp [results, Tryz.results63, go_sem, k0, k1, k2, k3, k4]) rfl ⟨_, hBK.out _ hpv.out, _, rfl, hov, _, hR5⟩
      by_cases h0 : k = 0
      · subst h0
        have T1 := hid hT
        have hpv := hid (DI.eof (keys := keys) (ents := ents) hT)
        clear hT hid9
        generalize hpa : p + bl t false = pa at hpl
        have HPA := hid hpa
        clear hpa hbl
        go_wp2_with (first | (go_at_call 39; obtain ⟨m0, v0, hL⟩ := hR.ps.lx; (with_reducible refine (token_q (TK_good _) hL.fresh).mono ?_); rw [T1.out, HPA.out]; rintro e w3 ⟨u3, rfl, j3, m3, v3, hL3⟩; obtain ⟨ao3, cap3, rfl, -, -, -⟩ := Rd.own hL3.row; have hR := hR.step hL3; have hZ := hZ.held hL3.held (by omega) (by omega); have hM := hM.held hL3.held (by omega) (by omega); have hG := hG.held keepEV hL3.held (by omega) (by omega); have r0 := hR.r0; have p0 := hR.ps.p0; have l0 := hR.ps.l0; have zr := World.block_lt_of_cell? _ _ r0; have zp := World.block_lt_of_cell? _ _ p0; have zl := World.block_lt_of_cell? _ _ l0; obtain ⟨rc, rf, rs⟩ := id hZ; have hS3 := Sl.own hL3.row; have hcv : ∀ o : Obj, (convert 24 9 (.slice ao3 out.length cap3)).run Tryz.prog (w3.alloc o) = .ok (.string (st out)) (w3.alloc o) := fun o => sl_string (P := Tryz.prog) (w3.alloc o) 24 9 5 Tryz.underlying24 (by kernel_rfl) (by kernel_rfl) _ _ (hS3.up (alb _ _)); obtain ⟨Dm, hown, hhas⟩ := id hM; have HH := hid hhas; clear hhas))
        obtain ⟨k0, k1, k2, k3, k4⟩ := set5_cells (a := .int .i64 0) (b := .int .i64 0) (c := .slice none 0 0) (d := .slice none 0 0) (e := .slice none 0 0) hZ.five
        have hh := set5_held w3 w3.heap.size w.heap.size (.int .i64 0) (.int .i64 0) (.slice none 0 0) (.slice none 0 0) (.slice none 0 0)
        have hR5 := hR.off hh (Nat.le_refl _)
        have k0 := cell_up' (alb _ (.cells #[.int .i64 0, .int .i64 pa, .int .i64 n, .slice ao3 out.length cap3] 85)) k0
        have k1 := cell_up' (alb _ (.cells #[.int .i64 0, .int .i64 pa, .int .i64 n, .slice ao3 out.length cap3] 85)) k1
        have k2 := cell_up' (alb _ (.cells #[.int .i64 0, .int .i64 pa, .int .i64 n, .slice ao3 out.length cap3] 85)) k2
        have k3 := cell_up' (alb _ (.cells #[.int .i64 0, .int .i64 pa, .int .i64 n, .slice ao3 out.length cap3] 85)) k3
        have k4 := cell_up' (alb _ (.cells #[.int .i64 0, .int .i64 pa, .int .i64 n, .slice ao3 out.length cap3] 85)) k4
        have hR5 := hR5.below (alb _ (.cells #[.int .i64 0, .int .i64 pa, .int .i64 n, .slice ao3 out.length cap3] 85))
        exact bodyPost_ret (v := .tuple #[.agg #[.int .i64 0, .int .i64 0, .slice none 0 0, .slice none 0 0, .slice none 0 0], .int .i64 2]) (by simp [results, Tryz.results63, go_sem, k0, k1, k2, k3, k4]) rfl ⟨_, hBK.out _ hpv.out, rfl, _, _, hR5⟩
      by_cases h4 : ¬ k = 4
      · by_cases h9 : k = 9
        · subst h9
          have hq : (out == [73, 68]) = false := by simp only [beq_eq_false_iff_ne]; exact fun z => hid9 ⟨rfl, z⟩
          have T1 := hid hT
          have hpv := hid (DI.form (keys := keys) (ents := ents) hT hid9 h0 h4)
          clear hT hid9 h0 h4
          generalize hpa : p + bl t false = pa at hpl
          have HPA := hid hpa
          clear hpa hbl
          go_wp2_with (first | (go_at_call 39; obtain ⟨m0, v0, hL⟩ := hR.ps.lx; (with_reducible refine (token_q (TK_good _) hL.fresh).mono ?_); rw [T1.out, HPA.out]; rintro e w3 ⟨u3, rfl, j3, m3, v3, hL3⟩; obtain ⟨ao3, cap3, rfl, -, -, -⟩ := Rd.own hL3.row; have hR := hR.step hL3; have hZ := hZ.held hL3.held (by omega) (by omega); have hM := hM.held hL3.held (by omega) (by omega); have hG := hG.held keepEV hL3.held (by omega) (by omega); have r0 := hR.r0; have p0 := hR.ps.p0; have l0 := hR.ps.l0; have zr := World.block_lt_of_cell? _ _ r0; have zp := World.block_lt_of_cell? _ _ p0; have zl := World.block_lt_of_cell? _ _ l0; obtain ⟨rc, rf, rs⟩ := id hZ; have hS3 := Sl.own hL3.row; have hcv : ∀ o : Obj, (convert 24 9 (.slice ao3 out.length cap3)).run Tryz.prog (w3.alloc o) = .ok (.string (st out)) (w3.alloc o) := fun o => sl_string (P := Tryz.prog) (w3.alloc o) 24 9 5 Tryz.underlying24 (by kernel_rfl) (by kernel_rfl) _ _ (hS3.up (alb _ _)); obtain ⟨Dm, hown, hhas⟩ := id hM; have HH := hid hhas; clear hhas))
          obtain ⟨k0, k1, k2, k3, k4⟩ := set5_cells (a := .int .i64 0) (b := .int .i64 0) (c := .slice none 0 0) (d := .slice none 0 0) (e := .slice none 0 0) hZ.five
          have hh := set5_held w3 w3.heap.size w.heap.size (.int .i64 0) (.int .i64 0) (.slice none 0 0) (.slice none 0 0) (.slice none 0 0)
          have hR5 := hR.off hh (Nat.le_refl _)
          have k0 := cell_up' (alb _ (.cells #[.int .i64 9, .int .i64 pa, .int .i64 n, .slice ao3 out.length cap3] 85)) k0
          have k1 := cell_up' (alb _ (.cells #[.int .i64 9, .int .i64 pa, .int .i64 n, .slice ao3 out.length cap3] 85)) k1
          have k2 := cell_up' (alb _ (.cells #[.int .i64 9, .int .i64 pa, .int .i64 n, .slice ao3 out.length cap3] 85)) k2
          have k3 := cell_up' (alb _ (.cells #[.int .i64 9, .int .i64 pa, .int .i64 n, .slice ao3 out.length cap3] 85)) k3
          have k4 := cell_up' (alb _ (.cells #[.int .i64 9, .int .i64 pa, .int .i64 n, .slice ao3 out.length cap3] 85)) k4
          have hR5 := hR5.below (alb _ (.cells #[.int .i64 9, .int .i64 pa, .int .i64 n, .slice ao3 out.length cap3] 85))
          exact bodyPost_ret (v := .tuple #[.agg #[.int .i64 0, .int .i64 0, .slice none 0 0, .slice none 0 0, .slice none 0 0], .int .i64 4]) (by simp [results, Tryz.results63, go_sem, k0, k1, k2, k3, k4]) rfl ⟨_, hBK.out _ hpv.out, rfl, _, _, hR5⟩
        · have b9 : (k == 9) = false := by simp [h9]
          have b0 : (k == 0) = false := by simp [h0]
          have b4 : (k != 4) = true := by simp [h4]
          have T1 := hid hT
          have hpv := hid (DI.form (keys := keys) (ents := ents) hT hid9 h0 h4)
          clear hT hid9 h0 h4 h9
          generalize hpa : p + bl t false = pa at hpl
          have HPA := hid hpa
          clear hpa hbl
          go_wp2_with (first | (go_at_call 39; obtain ⟨m0, v0, hL⟩ := hR.ps.lx; (with_reducible refine (token_q (TK_good _) hL.fresh).mono ?_); rw [T1.out, HPA.out]; rintro e w3 ⟨u3, rfl, j3, m3, v3, hL3⟩; obtain ⟨ao3, cap3, rfl, -, -, -⟩ := Rd.own hL3.row; have hR := hR.step hL3; have hZ := hZ.held hL3.held (by omega) (by omega); have hM := hM.held hL3.held (by omega) (by omega); have hG := hG.held keepEV hL3.held (by omega) (by omega); have r0 := hR.r0; have p0 := hR.ps.p0; have l0 := hR.ps.l0; have zr := World.block_lt_of_cell? _ _ r0; have zp := World.block_lt_of_cell? _ _ p0; have zl := World.block_lt_of_cell? _ _ l0; obtain ⟨rc, rf, rs⟩ := id hZ; have hS3 := Sl.own hL3.row; have hcv : ∀ o : Obj, (convert 24 9 (.slice ao3 out.length cap3)).run Tryz.prog (w3.alloc o) = .ok (.string (st out)) (w3.alloc o) := fun o => sl_string (P := Tryz.prog) (w3.alloc o) 24 9 5 Tryz.underlying24 (by kernel_rfl) (by kernel_rfl) _ _ (hS3.up (alb _ _)); obtain ⟨Dm, hown, hhas⟩ := id hM; have HH := hid hhas; clear hhas))
          obtain ⟨k0, k1, k2, k3, k4⟩ := set5_cells (a := .int .i64 0) (b := .int .i64 0) (c := .slice none 0 0) (d := .slice none 0 0) (e := .slice none 0 0) hZ.five
          have hh := set5_held w3 w3.heap.size w.heap.size (.int .i64 0) (.int .i64 0) (.slice none 0 0) (.slice none 0 0) (.slice none 0 0)
          have hR5 := hR.off hh (Nat.le_refl _)
          have k0 := cell_up' (alb _ (.cells #[.int .i64 k, .int .i64 pa, .int .i64 n, .slice ao3 out.length cap3] 85)) k0
          have k1 := cell_up' (alb _ (.cells #[.int .i64 k, .int .i64 pa, .int .i64 n, .slice ao3 out.length cap3] 85)) k1
          have k2 := cell_up' (alb _ (.cells #[.int .i64 k, .int .i64 pa, .int .i64 n, .slice ao3 out.length cap3] 85)) k2
          have k3 := cell_up' (alb _ (.cells #[.int .i64 k, .int .i64 pa, .int .i64 n, .slice ao3 out.length cap3] 85)) k3
          have k4 := cell_up' (alb _ (.cells #[.int .i64 k, .int .i64 pa, .int .i64 n, .slice ao3 out.length cap3] 85)) k4
          have hR5 := hR5.below (alb _ (.cells #[.int .i64 k, .int .i64 pa, .int .i64 n, .slice ao3 out.length cap3] 85))
          exact bodyPost_ret (v := .tuple #[.agg #[.int .i64 0, .int .i64 0, .slice none 0 0, .slice none 0 0, .slice none 0 0], .int .i64 4]) (by simp [results, Tryz.results63, go_sem, k0, k1, k2, k3, k4]) rfl ⟨_, hBK.out _ hpv.out, rfl, _, _, hR5⟩
      obtain rfl : k = 4 := by omega
      have hol : out.length ≤ 4000000 := by have := TK_ol hT; omega
      by_cases hm : out ∈ keys
      · have hdm : decide (out ∈ keys) = true := decide_eq_true hm
        have HM := hid hdm
        have T1 := hid hT
        have hpv := hid (DI.twice (keys := keys) (ents := ents) hT hm)
        clear hT hm hdm hid9 h0 h4
        generalize hpa : p + bl t false = pa at hpl
        have HPA := hid hpa
        clear hpa hbl
        go_wp2_with (first | (at_lookup; refine wpList_lookup_own_unit _ rfl _ _ 135 rfl 9 136 strLaw mapTy (zeroU _) (w.heap.size + 1) keys.length Dm rfl (hown.alloc _) _ _ rfl (keyS out hol) ?_; rw [HH.out, HM.out]) | (go_at_call 39; obtain ⟨m0, v0, hL⟩ := hR.ps.lx; (with_reducible refine (token_q (TK_good _) hL.fresh).mono ?_); rw [T1.out, HPA.out]; rintro e w3 ⟨u3, rfl, j3, m3, v3, hL3⟩; obtain ⟨ao3, cap3, rfl, -, -, -⟩ := Rd.own hL3.row; have hR := hR.step hL3; have hZ := hZ.held hL3.held (by omega) (by omega); have hM := hM.held hL3.held (by omega) (by omega); have hG := hG.held keepEV hL3.held (by omega) (by omega); have r0 := hR.r0; have p0 := hR.ps.p0; have l0 := hR.ps.l0; have zr := World.block_lt_of_cell? _ _ r0; have zp := World.block_lt_of_cell? _ _ p0; have zl := World.block_lt_of_cell? _ _ l0; obtain ⟨rc, rf, rs⟩ := id hZ; have hS3 := Sl.own hL3.row; have hcv : ∀ o : Obj, (convert 24 9 (.slice ao3 out.length cap3)).run Tryz.prog (w3.alloc o) = .ok (.string (st out)) (w3.alloc o) := fun o => sl_string (P := Tryz.prog) (w3.alloc o) 24 9 5 Tryz.underlying24 (by kernel_rfl) (by kernel_rfl) _ _ (hS3.up (alb _ _)); obtain ⟨Dm, hown, hhas⟩ := id hM; have HH := hid hhas; clear hhas))
        obtain ⟨k0, k1, k2, k3, k4⟩ := set5_cells (a := .int .i64 0) (b := .int .i64 0) (c := .slice none 0 0) (d := .slice none 0 0) (e := .slice none 0 0) hZ.five
        have hh := set5_held w3 w3.heap.size w.heap.size (.int .i64 0) (.int .i64 0) (.slice none 0 0) (.slice none 0 0) (.slice none 0 0)
        have hR5 := hR.off hh (Nat.le_refl _)
        have k0 := cell_up' (alb _ (.cells #[.int .i64 4, .int .i64 pa, .int .i64 n, .slice ao3 out.length cap3] 85)) k0
        have k1 := cell_up' (alb _ (.cells #[.int .i64 4, .int .i64 pa, .int .i64 n, .slice ao3 out.length cap3] 85)) k1
        have k2 := cell_up' (alb _ (.cells #[.int .i64 4, .int .i64 pa, .int .i64 n, .slice ao3 out.length cap3] 85)) k2
        have k3 := cell_up' (alb _ (.cells #[.int .i64 4, .int .i64 pa, .int .i64 n, .slice ao3 out.length cap3] 85)) k3
        have k4 := cell_up' (alb _ (.cells #[.int .i64 4, .int .i64 pa, .int .i64 n, .slice ao3 out.length cap3] 85)) k4
        have hR5 := hR5.below (alb _ (.cells #[.int .i64 4, .int .i64 pa, .int .i64 n, .slice ao3 out.length cap3] 85))
        have k0 := cell_up' (alb _ (.cells #[] 136)) k0
        have k1 := cell_up' (alb _ (.cells #[] 136)) k1
        have k2 := cell_up' (alb _ (.cells #[] 136)) k2
        have k3 := cell_up' (alb _ (.cells #[] 136)) k3
        have k4 := cell_up' (alb _ (.cells #[] 136)) k4
        have hR5 := hR5.below (alb _ (.cells #[] 136))
        exact bodyPost_ret (v := .tuple #[.agg #[.int .i64 0, .int .i64 0, .slice none 0 0, .slice none 0 0, .slice none 0 0], .int .i64 4]) (by simp [results, Tryz.results63, go_sem, k0, k1, k2, k3, k4]) rfl ⟨_, hBK.out _ hpv.out, rfl, _, _, hR5⟩
      · have HK := hid hm
        have hdm : decide (out ∈ keys) = false := decide_eq_false hm
        have HM := hid hdm
        have hrl := TK_rest hT (by decide)
        have hone : ∀ y1 y2 : Int, ∀ y3 y4 y5 : Option Addr, ∀ y6 y7 y8 y9 y10 y11 : Nat, ∀ c ∈ [ecl (out, [.int .i64 y1, .int .i64 y2, .slice y3 y6 y7, .slice y4 y8 y9, .slice y5 y10 y11])], ∀ u ∈ c, u.oneCell' = true := fun y1 y2 y3 y4 y5 y6 y7 y8 y9 y10 y11 c hc => by
          rw [List.mem_singleton] at hc; subst hc; exact ecl_one (e := (out, _)) ⟨_, _, _, _, _, _, _, _, _, _, _, rfl⟩
        have T1 := hid hT
        clear hT hm hdm hid9 h0 h4
        generalize hpa : p + bl t false = pa at hpl
        have HPA := hid hpa
        clear hpa hbl
        go_wp2_with (first | (at_builtin; refine wpList_append_slx rfl _ _ 32 rfl (w.heap.size + 2) 41 zEnt 6 104 entTy' entIn rfl (by decide) (.slice aol ents.length capl) _ rfl (hG.up keepEV (below_then (alb w5 (.cells #[.int .i64 y1, .int .i64 y2, .slice y3 y6 y7, .slice y4 y8 y9, .slice y5 y10 y11] 34)) (alb _ (.cells #[.string (st out), .int .i64 y1, .int .i64 y2, .slice y3 y6 y7, .slice y4 y8 y9, .slice y5 y10 y11] 41)))).row _ [ecl (out, [.int .i64 y1, .int .i64 y2, .slice y3 y6 y7, .slice y4 y8 y9, .slice y5 y10 y11])] rfl (SlX.lit1 (w5.alloc (.cells #[.int .i64 y1, .int .i64 y2, .slice y3 y6 y7, .slice y4 y8 y9, .slice y5 y10 y11] 34)) (w5.heap.size + 1) (by simp) (ecl (out, [.int .i64 y1, .int .i64 y2, .slice y3 y6 y7, .slice y4 y8 y9, .slice y5 y10 y11])) _ 6 rfl) (hone _ _ _ _ _ _ _ _ _ _ _) (by simp; omega) (by decide) (by simp; omega) ?_; intro v8 w8 q1 q2 q3; obtain ⟨g8, cap8, rfl⟩ := q1.cons (by simp); have e8 : (E.map ecl ++ ([ecl (out, [.int .i64 y1, .int .i64 y2, .slice y3 y6 y7, .slice y4 y8 y9, .slice y5 y10 y11])] : List (List Value))).length = ents.length + 1 := (by rw [List.length_append, List.length_map, hElen]; rfl); rw [e8] at q1 q3; have hBW : Below w5.heap.size w5 ((w5.alloc (.cells #[.int .i64 y1, .int .i64 y2, .slice y3 y6 y7, .slice y4 y8 y9, .slice y5 y10 y11] 34)).alloc (.cells #[.string (st out), .int .i64 y1, .int .i64 y2, .slice y3 y6 y7, .slice y4 y8 y9, .slice y5 y10 y11] 41)) := below_then (alb _ _) (alb _ _)) | (go_at_call 43; refine (value_top hR.fresh.ps hR.d1 hv).mono ?_; rintro e w5 ⟨res, hpv, hvq⟩; have hfit := hpv.fit; have hrow4 := hG.row.lt; have hwm := hM.lt; rcases res with ⟨x9, t9⟩ | ⟨o9, t9⟩; rotate_left; (obtain ⟨vs, rfl, hov, j9, hPs⟩ := hvq; have hR := hR.join hPs; have hZ := hZ.held hPs.held (by omega) (by omega); have hM := hM.held hPs.held (by omega) (by omega); have hG := hG.held keepEV hPs.held (by omega) (by omega); obtain ⟨rc, rf, rs⟩ := id hZ; have hV5 := hov.v5; have hov2 := hid hov; clear hov; obtain ⟨y1, y2, y3, y4, y5, y6, y7, y8, y9, y10, y11, rfl⟩ := hV5); rotate_left; (obtain ⟨rfl, j9, hPs⟩ := hvq; have bx : (x9 == 0) = false := hfit; have hR := hR.join hPs; have hZ := hZ.held hPs.held (by omega) (by omega); have hM := hM.held hPs.held (by omega) (by omega); have hG := hG.held keepEV hPs.held (by omega) (by omega); obtain ⟨rc, rf, rs⟩ := id hZ)) | (at_mapUpdate; refine wpList_mapUpdate_own _ rfl _ _ _ 135 rfl 9 136 strLaw mapTy _ (w.heap.size + 1) keys.length Dm rfl ((hown.alloc _).alloc _) (by unfold maxLen; omega) _ _ _ rfl rfl (keyS out hol) _ [] unitElem_mk ?_; intro w4 hown4 hg4; have hB34 := below_then (alb w3 (.cells #[.int .i64 4, .int .i64 pa, .int .i64 n, .slice ao3 out.length cap3] 85)) (alb _ (.cells #[] 136)); have hh4 : Held ((w3.alloc (.cells #[.int .i64 4, .int .i64 pa, .int .i64 n, .slice ao3 out.length cap3] 85)).alloc (.cells #[] 136)).heap.size (w.heap.size + 1) (w.heap.size + 1) ((w3.alloc (.cells #[.int .i64 4, .int .i64 pa, .int .i64 n, .slice ao3 out.length cap3] 85)).alloc (.cells #[] 136)) w4 := held_of_some hg4; have hR := (hR.below hB34).off hh4 (by omega); have hZ := (hZ.up hB34).held hh4 (by omega) (by omega); have hG := (hG.up keepEV hB34).held keepEV hh4 (by omega) (by omega); have hM := Mp.put (hown.isMap) hown4 HH.out; have r0 := hR.r0; have p0 := hR.ps.p0; have l0 := hR.ps.l0; have zr := World.block_lt_of_cell? _ _ r0; have zp := World.block_lt_of_cell? _ _ p0; have zl := World.block_lt_of_cell? _ _ l0; obtain ⟨rc, rf, rs⟩ := id hZ) | (at_lookup; refine wpList_lookup_own_unit _ rfl _ _ 135 rfl 9 136 strLaw mapTy (zeroU _) (w.heap.size + 1) keys.length Dm rfl (hown.alloc _) _ _ rfl (keyS out hol) ?_; rw [HH.out, HM.out]) | (go_at_call 39; obtain ⟨m0, v0, hL⟩ := hR.ps.lx; (with_reducible refine (token_q (TK_good _) hL.fresh).mono ?_); rw [T1.out, HPA.out]; rintro e w3 ⟨u3, rfl, j3, m3, v3, hL3⟩; obtain ⟨ao3, cap3, rfl, -, -, -⟩ := Rd.own hL3.row; have hR := hR.step hL3; have hZ := hZ.held hL3.held (by omega) (by omega); have hM := hM.held hL3.held (by omega) (by omega); have hG := hG.held keepEV hL3.held (by omega) (by omega); have r0 := hR.r0; have p0 := hR.ps.p0; have l0 := hR.ps.l0; have zr := World.block_lt_of_cell? _ _ r0; have zp := World.block_lt_of_cell? _ _ p0; have zl := World.block_lt_of_cell? _ _ l0; obtain ⟨rc, rf, rs⟩ := id hZ; have hS3 := Sl.own hL3.row; have hcv : ∀ o : Obj, (convert 24 9 (.slice ao3 out.length cap3)).run Tryz.prog (w3.alloc o) = .ok (.string (st out)) (w3.alloc o) := fun o => sl_string (P := Tryz.prog) (w3.alloc o) 24 9 5 Tryz.underlying24 (by kernel_rfl) (by kernel_rfl) _ _ (hS3.up (alb _ _)); obtain ⟨Dm, hown, hhas⟩ := id hM; have HH := hid hhas; clear hhas))
        · obtain ⟨k0, k1, k2, k3, k4⟩ := set5_cells (a := .int .i64 0) (b := .int .i64 0) (c := .slice none 0 0) (d := .slice none 0 0) (e := .slice none 0 0) hZ.five
          have hh := set5_held w5 w5.heap.size w.heap.size (.int .i64 0) (.int .i64 0) (.slice none 0 0) (.slice none 0 0) (.slice none 0 0)
          have hR5 := hR.off hh (Nat.le_refl _)
          have k0 := cell_up' (alb _ (.cells #[.int .i64 0, .int .i64 0, .slice none 0 0, .slice none 0 0, .slice none 0 0] 34)) k0
          have k1 := cell_up' (alb _ (.cells #[.int .i64 0, .int .i64 0, .slice none 0 0, .slice none 0 0, .slice none 0 0] 34)) k1
          have k2 := cell_up' (alb _ (.cells #[.int .i64 0, .int .i64 0, .slice none 0 0, .slice none 0 0, .slice none 0 0] 34)) k2
          have k3 := cell_up' (alb _ (.cells #[.int .i64 0, .int .i64 0, .slice none 0 0, .slice none 0 0, .slice none 0 0] 34)) k3
          have k4 := cell_up' (alb _ (.cells #[.int .i64 0, .int .i64 0, .slice none 0 0, .slice none 0 0, .slice none 0 0] 34)) k4
          have hR5 := hR5.below (alb _ (.cells #[.int .i64 0, .int .i64 0, .slice none 0 0, .slice none 0 0, .slice none 0 0] 34))
          exact bodyPost_ret (v := .tuple #[.agg #[.int .i64 0, .int .i64 0, .slice none 0 0, .slice none 0 0, .slice none 0 0], .int .i64 x9]) (by simp [results, Tryz.results63, go_sem, k0, k1, k2, k3, k4]) rfl ⟨_, hBK.out _ (DI.stop T1.out HK.out hpv), rfl, _, _, hR5⟩
        · have hf : t9.length < r.length := hfit
          have hnx : (Value.slice aol ents.length capl).ownBlock ≠ some w.heap.size := fun z => by have := (hrow4 _ z).1; omega
          have hnm : (Value.slice aol ents.length capl).ownBlock ≠ some (w.heap.size + 1) := fun z => by have := (hrow4 _ z).1; omega
          have hR8 := (hR.below hBW).grow q2 (fun z hz => by have := (hrow4 _ hz).1; omega)
          have hZ8 := (hZ.up hBW).grown q2 hnx
          have hM8 := (hM.up hBW).grown q2 hnm
          have hG8 := (hG.up keepEV hBW).push keepEV (a := (out, [.int .i64 y1, .int .i64 y2, .slice y3 y6 y7, .slice y4 y8 y9, .slice y5 y10 y11])) (b := (out, o9)) ⟨rfl, hov2.out.keep (fun g hg => ⟨by have := hg.1; omega, Nat.lt_of_lt_of_le hg.2 hBW.size, fun z => by have := (hrow4 _ z).2; have := hg.1; omega⟩) (fun g _ hlt => hBW.block g hlt)⟩ q1 q2 q3
          go_roundw
          case rel => exact ⟨keys ++ [out], ents ++ [(out, o9)], _, _, _, hR8, hZ8, hM8, hG8, by rw [List.length_append, List.length_singleton]; omega, by rw [List.length_append, List.length_singleton]; omega, fun res hr => hBK.out _ (DI.step T1.out HK.out hpv hr)⟩
          case measure => rw [hR8.ps.rem, hrm.out]; omega
end Go.Proofs.YtjkoiknjffldjaaGreatDoor
