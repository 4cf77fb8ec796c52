/-
  The document's dict, by value's contract. Condition: the parser stands in its bytes; at most 28 deep.
-/
import Derived.Test.YtlmgklebikcbjaaGreatDoorHf
import Derived.Test.YtlmgklebikcbjaaGreatDoorHe
import Derived.Test.YtlmgklebikcbjaaGreatDoorHc
import Derived.Deep.CutRange
/-
  The document's array, by value's contract. Condition: the parser stands in its bytes; at most 28 deep.
-/
namespace Go.Proofs.YtlmgklebikcbjaaGreatDoor
open Go.RowKit
set_option linter.unusedVariables false

theorem Pd.grow {q : Bool} {dp : Nat} {w0 w w' : World} {pp : Nat} {b : List UInt8} {i : Nat} {s : List UInt8} (h : Pd q dp w0 w pp b i s) {row : Option Nat} (hg : w.grownBy w' row) (hr : ∀ k, row = Option.some k → w0.heap.size ≤ k) : Pd q dp w0 w' pp b i s :=
  h.under ⟨hg.os, hg.tape, hg.output, hg.size, fun k hk => hg.block k (Nat.lt_of_lt_of_le hk h.cx.size) (fun z => by have := hr k z.symm; omega)⟩
theorem Pd.rem {q : Bool} {dp : Nat} {w0 w : World} {pp : Nat} {b : List UInt8} {i : Nat} {s : List UInt8} (h : Pd q dp w0 w pp b i s) : remOf w pp = s.length := h.cx.rem

set_option maxHeartbeats 1600000 in
set_option maxRecDepth 100000 in
theorem rarray_of {q : Bool} {dp pp : Nat} {b : List UInt8} {d : Nat} (hd : d ≤ 28) (hv : RValueC q dp pp b d) : RArrayC q dp pp b d := by
  intro w i s h
  obtain ⟨O1, hO1⟩ : ∃ o, o = Obj.cells #[.int .i64 0, .int .i64 0, .slice none 0 0, .slice none 0 0, .slice none 0 0] 47 := ⟨_, rfl⟩
  obtain ⟨O2, hO2⟩ : ∃ o, o = Obj.cells #[.int .i64 6, .int .i64 0, .slice none 0 0, .slice none 0 0, .slice none 0 0] 47 := ⟨_, rfl⟩
  have hP := (h.below (alb w O1)).below (alb _ O2)
  have hZ : Z5 ((w.alloc O1).alloc O2) w.heap.size := by subst hO1; exact (Z5.new w _).up (alb _ O2)
  have hO : O5 ((w.alloc O1).alloc O2) (w.heap.size + 1) (.slice none 0 0) := by subst hO2; exact O5.new _ _ (by simp) _
  have hG : GotO ((w.alloc O1).alloc O2) (w.heap.size + 2) (.slice none 0 0) [] (fun _ => []) := GotO.nil _ _ _
  have hlow := h.low.1
  subst hO1 hO2
  go_enter Tryz.func142, Tryz.ntmps142
  go_wp2
  go_loopw [7, 8, 9, 10] (fun _ _ _ _ wr => ∃ acc : List PO, ∃ vl : Value, ∃ c : Nat → List Value, ∃ p : Nat, ∃ t : List UInt8, Pd q dp w wr pp b p t ∧ Z5 wr w.heap.size ∧ O5 wr (w.heap.size + 1) vl ∧ GotO wr (w.heap.size + 2) vl acc c ∧ acc.length + t.length ≤ s.length ∧ ∀ res, PV q (.a d acc) t res → PV q (.a d []) s res) (fun _ _ _ _ wr => remOf wr pp)
  case atStart => exact ⟨[], _, _, _, _, hP, hZ, hO, hG, by simp, fun _ h => h⟩
  case round =>
    have hsl : s.length ≤ 4000000 := by have := h.cx.at_; have := h.cx.sm; omega
    clear hP hZ hO hG h
    obtain ⟨acc, vl, c, p, t, hP, hZ, hO, hG, hal, hback⟩ := hrel
    have hat := hid hP.cx.at_
    have hdr := hid hP.cx.drp
    have hbl := bl_le t false
    have hpl : p + bl t false ≤ b.length := by have := hat.out; omega
    have hdp : b.drop (p + bl t false) = t.drop (bl t false) := by rw [← hP.cx.drp, List.drop_drop]
    obtain ⟨aol, capl, hvl⟩ : ∃ ao cap, vl = .slice ao acc.length cap := by
      rcases hG.row.2 with ⟨h1, h2⟩ | ⟨g, cap, cur, h1, _⟩
      · exact ⟨none, 0, by rw [h1, h2]⟩
      · exact ⟨_, cap, h1⟩
    subst hvl
    have hc1 := hP.cx.c1
    have hf1 := hP.cx.f1
    have hlo := hP.low.2
    have hrm := hid hP.rem
    have hBK := hid hback
    clear hback
    cases hT : TK t with
    | bad x =>
      have bx := TK_err hT
      have T1 := hid hT
      have hpv := hid (PV.a_bad (q := q) (d := d) (acc := acc) hT)
      clear hT
      generalize hpa : p + bl t false = pa at hpl hdp
      have HPA := hid hpa
      have HD := hid hdp
      clear hpa hdp hbl
      go_wp2_with (first | (go_at_call 68; (with_reducible refine (rtoken_q (TK_good _) hP.cx.fresh).mono ?_); rw [T1.out, HPA.out]; rintro e w3 ⟨rfl, hC3⟩; have hP := hP.step hC3; have hlo3 := hP.low.2; have hwy := hC3.size; have hZ := hZ.held hC3.held (by omega) (by omega); have hO := hO.held hC3.held (by omega) (by omega); have hG := hG.held hC3.held (by omega) (by omega); have hc1 := hP.cx.c1; have hf1 := hP.cx.f1; obtain ⟨rc, rf, rs⟩ := id hZ; obtain ⟨oc, of_, os⟩ := id hO))
      obtain ⟨k0, k1, k2, k3, k4⟩ := set5_cells (a := .int .i64 0) (b := .int .i64 0) (c := .slice none 0 0) (d := .slice none 0 0) (e := .slice none 0 0) hZ.five
      have hh := fun B => set5_held w3 B w.heap.size (.int .i64 0) (.int .i64 0) (.slice none 0 0) (.slice none 0 0) (.slice none 0 0)
      have hP5 := hP.off (hh w.heap.size) (Nat.le_refl _) (Nat.le_refl _)
      have k0 := cell_up' (alb _ (.cells #[.int .i64 0, .int .i64 pa, .int .i64 0, .slice none 0 0] 130)) k0
      have k1 := cell_up' (alb _ (.cells #[.int .i64 0, .int .i64 pa, .int .i64 0, .slice none 0 0] 130)) k1
      have k2 := cell_up' (alb _ (.cells #[.int .i64 0, .int .i64 pa, .int .i64 0, .slice none 0 0] 130)) k2
      have k3 := cell_up' (alb _ (.cells #[.int .i64 0, .int .i64 pa, .int .i64 0, .slice none 0 0] 130)) k3
      have k4 := cell_up' (alb _ (.cells #[.int .i64 0, .int .i64 pa, .int .i64 0, .slice none 0 0] 130)) k4
      rw [HD.out] at hP5
      exact bodyPost_ret (v := .tuple #[.agg #[.int .i64 0, .int .i64 0, .slice none 0 0, .slice none 0 0, .slice none 0 0], .int .i64 x]) (by simp [results, Tryz.results142, go_sem, k0, k1, k2, k3, k4]) rfl ⟨_, hBK.out _ hpv.out, rfl, _, hP5.below (alb _ _)⟩
    | tok k n out r =>
      by_cases hk : k = 6
      · subst hk
        have T1 := hid hT
        have hpv := hid (PV.a_close (q := q) (d := d) (acc := acc) hT)
        clear hT
        generalize hpa : p + bl t false = pa at hpl hdp
        have HPA := hid hpa
        have HD := hid hdp
        clear hpa hdp hbl
        go_wp2_with (first | (go_at_call 68; (with_reducible refine (rtoken_q (TK_good _) hP.cx.fresh).mono ?_); rw [T1.out, HPA.out]; rintro e w3 ⟨u3, rfl, j3, hC3⟩; obtain ⟨ao3, cap3, rfl, -, -, -⟩ := Rd.own hC3.row; have hP := hP.step hC3; have hlo3 := hP.low.2; have hwy := hC3.size; have hZ := hZ.held hC3.held (by omega) (by omega); have hO := hO.held hC3.held (by omega) (by omega); have hG := hG.held hC3.held (by omega) (by omega); have hc1 := hP.cx.c1; have hf1 := hP.cx.f1; obtain ⟨rc, rf, rs⟩ := id hZ; obtain ⟨oc, of_, os⟩ := id hO))
        obtain ⟨k0, k1, k2, k3, k4⟩ := set5_cells (a := .int .i64 6) (b := .int .i64 0) (c := .slice none 0 0) (d := .slice aol acc.length capl) (e := .slice none 0 0) hZ.five
        have hh := fun B => set5_held w3 B w.heap.size (.int .i64 6) (.int .i64 0) (.slice none 0 0) (.slice aol acc.length capl) (.slice none 0 0)
        have hP5 := hP.off (hh w.heap.size) (Nat.le_refl _) (Nat.le_refl _)
        have k0 := cell_up' (alb _ (.cells #[.int .i64 6, .int .i64 pa, .int .i64 n, .slice ao3 out.length cap3] 130)) k0
        have k1 := cell_up' (alb _ (.cells #[.int .i64 6, .int .i64 pa, .int .i64 n, .slice ao3 out.length cap3] 130)) k1
        have k2 := cell_up' (alb _ (.cells #[.int .i64 6, .int .i64 pa, .int .i64 n, .slice ao3 out.length cap3] 130)) k2
        have k3 := cell_up' (alb _ (.cells #[.int .i64 6, .int .i64 pa, .int .i64 n, .slice ao3 out.length cap3] 130)) k3
        have k4 := cell_up' (alb _ (.cells #[.int .i64 6, .int .i64 pa, .int .i64 n, .slice ao3 out.length cap3] 130)) k4
        have hov := (hG.arr (by omega)).keep (B := fun g => w.heap.size ≤ g ∧ g < ((set5 w3 w.heap.size (.int .i64 6) (.int .i64 0) (.slice none 0 0) (.slice aol acc.length capl) (.slice none 0 0)).alloc (.cells #[.int .i64 6, .int .i64 pa, .int .i64 n, .slice ao3 out.length cap3] 130)).heap.size) (w' := (set5 w3 w.heap.size (.int .i64 6) (.int .i64 0) (.slice none 0 0) (.slice aol acc.length capl) (.slice none 0 0)).alloc (.cells #[.int .i64 6, .int .i64 pa, .int .i64 n, .slice ao3 out.length cap3] 130)) (fun g hg => ⟨by have := hg.1; omega, Nat.lt_of_lt_of_le hg.2 (Nat.le_trans (hh 0).size (alb _ _).size)⟩) (fun g hg hlt => ((alb _ (.cells #[.int .i64 6, .int .i64 pa, .int .i64 n, .slice ao3 out.length cap3] 130)).block g (Nat.lt_of_lt_of_le hlt (hh 0).size)).trans ((hh w3.heap.size).block g hlt (by have := hg.1; omega) (by have := hg.1; omega)))
        exact bodyPost_ret (v := .tuple #[.agg #[.int .i64 6, .int .i64 0, .slice none 0 0, .slice aol acc.length capl, .slice none 0 0], .int .i64 0]) (by simp [results, Tryz.results142, go_sem, k0, k1, k2, k3, k4]) rfl ⟨_, hBK.out _ hpv.out, _, rfl, hov, _, hP5.below (alb _ _)⟩
      · have bk : (k == 6) = false := by simp [hk]
        have T1 := hid hT
        have HK := hid hk
        clear hT hk
        generalize hpa : p + bl t false = pa at hpl hdp
        have HPA := hid hpa
        have HD := hid hdp
        clear hpa hdp hbl
        go_wp2_with (first | (go_at_call 113; have hP := hP.to p _ rfl (by have := hat.out; omega); rw [hdr.out] at hP; have hP := hP.below (alb (w3.setCell ⟨pp, 1, none⟩ (.int .i64 (p : Int))) (.cells #[.int .i64 k, .int .i64 pa, .int .i64 n, .slice ao3 out.length cap3] 130)); have hZ := (hZ.held (Held.set (B := w3.heap.size) (p := pp) (q := pp) w3 ⟨pp, 1, none⟩ (.int .i64 (p : Int)) (.inl rfl)) (by omega) (by omega)).up (alb _ (.cells #[.int .i64 k, .int .i64 pa, .int .i64 n, .slice ao3 out.length cap3] 130)); have hO := (hO.held (Held.set (B := w3.heap.size) (p := pp) (q := pp) w3 ⟨pp, 1, none⟩ (.int .i64 (p : Int)) (.inl rfl)) (by omega) (by omega)).up (alb _ (.cells #[.int .i64 k, .int .i64 pa, .int .i64 n, .slice ao3 out.length cap3] 130)); have hG := (hG.held (Held.set (B := w3.heap.size) (p := pp) (q := pp) w3 ⟨pp, 1, none⟩ (.int .i64 (p : Int)) (.inl rfl)) (by omega) (by omega)).up (alb _ (.cells #[.int .i64 k, .int .i64 pa, .int .i64 n, .slice ao3 out.length cap3] 130)); refine (hv _ _ t hP.fresh).mono ?_; rintro e w5 ⟨res, hpv, hvq⟩; have hfit := hpv.fit; have hrow4 := World.ownsRow.lt hG.row; have os4 := hO.2.2; rcases res with ⟨x9, t9⟩ | ⟨o9, t9⟩; rotate_left; (obtain ⟨vs, rfl, hov, j9, hPs⟩ := hvq; have hP := hP.join hPs; have hZ := hZ.held hPs.cx.held (by omega) (by omega); have hO := hO.held hPs.cx.held (by omega) (by omega); have hG := hG.held hPs.cx.held (by omega) (by omega); have hc1 := hP.cx.c1; have hf1 := hP.cx.f1; obtain ⟨rc, rf, rs⟩ := id hZ; obtain ⟨oc, of_, os⟩ := id hO; have hov2 := hov; obtain ⟨k9, n9, vb, vx, vd, b9, l9, d9, cl, cd, hb, hl, hl9, hd9, hk9, hd9', hz9⟩ := hov; obtain ⟨⟨aob, capb, rfl, -, -, -, -⟩, -⟩ := id hb; obtain ⟨aox, capx, rfl, -⟩ := id hl; obtain ⟨aod, capd, rfl, -⟩ := id hd9); rotate_left; (obtain ⟨rfl, j9, hPs⟩ := hvq; have bx : (x9 == 0) = false := hfit; have hP := hP.join hPs; have hZ := hZ.held hPs.cx.held (by omega) (by omega); have hO := hO.held hPs.cx.held (by omega) (by omega); have hG := hG.held hPs.cx.held (by omega) (by omega); have hc1 := hP.cx.c1; have hf1 := hP.cx.f1; obtain ⟨rc, rf, rs⟩ := id hZ; obtain ⟨oc, of_, os⟩ := id hO)) | (go_at_call 68; (with_reducible refine (rtoken_q (TK_good _) hP.cx.fresh).mono ?_); rw [T1.out, HPA.out]; rintro e w3 ⟨u3, rfl, j3, hC3⟩; obtain ⟨ao3, cap3, rfl, -, -, -⟩ := Rd.own hC3.row; have hP := hP.step hC3; have hlo3 := hP.low.2; have hwy := hC3.size; have hZ := hZ.held hC3.held (by omega) (by omega); have hO := hO.held hC3.held (by omega) (by omega); have hG := hG.held hC3.held (by omega) (by omega); have hc1 := hP.cx.c1; have hf1 := hP.cx.f1; obtain ⟨rc, rf, rs⟩ := id hZ; obtain ⟨oc, of_, os⟩ := id hO) | (at_builtin; refine wpList_append_row rfl _ _ 32 rfl (w.heap.size + 2) 47 (.agg #[.int .i64 0, .int .i64 0, .slice none 0 0, .slice none 0 0, .slice none 0 0]) 5 88 (by kernel_rfl) (by kernel_rfl) rfl (by decide) (.slice aol acc.length capl) acc.length (flatC c acc.length) rfl (hG.up (below_then (alb _ _) (alb _ _))).row _ 1 1 [.int .i64 k9, .int .i64 n9, .slice aob b9.length capb, .slice aox l9.length capx, .slice aod d9.length capd] rfl rfl (news_cells _ _ (by simp) _ _) (by intro u hu; simp at hu; rcases hu with rfl | rfl | rfl | rfl | rfl <;> rfl) (by unfold maxLen; omega) (by omega) (by simp; omega) ?_; intro v' w8 q1 q2 q3; obtain ⟨ao8, cap8, rfl⟩ := (show ∃ ao cap, v' = .slice ao (acc.length + 1) cap by rcases q1.2 with ⟨z1, z2⟩ | ⟨g, cap, cur, z1, _⟩; exact absurd z2 (by omega); exact ⟨_, cap, z1⟩); have hBW : Below w5.heap.size w5 ((w5.alloc (.cells #[.int .i64 k9, .int .i64 n9, .slice aob b9.length capb, .slice aox l9.length capx, .slice aod d9.length capd] 47)).alloc (.cells #[.int .i64 k9, .int .i64 n9, .slice aob b9.length capb, .slice aox l9.length capx, .slice aod d9.length capd] 47)) := below_then (alb _ _) (alb _ _); have hO8 := (hO.up hBW).grown q2 (fun z => by have := (hrow4 _ z).1; omega); have hZ8 := (hZ.up hBW).grown q2 (fun z => by have := (hrow4 _ z).1; omega); have hP8 := (hP.below hBW).grow q2 (fun z hz => by have := (hrow4 _ hz).1; omega); obtain ⟨oc, of_, os⟩ := id hO8))
        · obtain ⟨k0, k1, k2, k3, k4⟩ := set5_cells (a := .int .i64 0) (b := .int .i64 0) (c := .slice none 0 0) (d := .slice none 0 0) (e := .slice none 0 0) hZ.five
          have hh := fun B => set5_held w5 B w.heap.size (.int .i64 0) (.int .i64 0) (.slice none 0 0) (.slice none 0 0) (.slice none 0 0)
          have hP5 := hP.off (hh w.heap.size) (Nat.le_refl _) (Nat.le_refl _)
          have k0 := cell_up' (alb _ (.cells #[.int .i64 0, .int .i64 0, .slice none 0 0, .slice none 0 0, .slice none 0 0] 47)) k0
          have k1 := cell_up' (alb _ (.cells #[.int .i64 0, .int .i64 0, .slice none 0 0, .slice none 0 0, .slice none 0 0] 47)) k1
          have k2 := cell_up' (alb _ (.cells #[.int .i64 0, .int .i64 0, .slice none 0 0, .slice none 0 0, .slice none 0 0] 47)) k2
          have k3 := cell_up' (alb _ (.cells #[.int .i64 0, .int .i64 0, .slice none 0 0, .slice none 0 0, .slice none 0 0] 47)) k3
          have k4 := cell_up' (alb _ (.cells #[.int .i64 0, .int .i64 0, .slice none 0 0, .slice none 0 0, .slice none 0 0] 47)) k4
          exact bodyPost_ret (v := .tuple #[.agg #[.int .i64 0, .int .i64 0, .slice none 0 0, .slice none 0 0, .slice none 0 0], .int .i64 x9]) (by simp [results, Tryz.results142, go_sem, k0, k1, k2, k3, k4]) rfl ⟨_, hBK.out _ (PV.a_stop T1.out HK.out hpv), rfl, _, hP5.below (alb _ _)⟩
        · have hx := hov2.keep (B := fun g => w.heap.size + 2 ≤ g ∧ g < ((w5.alloc (.cells #[.int .i64 k9, .int .i64 n9, .slice aob b9.length capb, .slice aox l9.length capx, .slice aod d9.length capd] 47)).alloc (.cells #[.int .i64 k9, .int .i64 n9, .slice aob b9.length capb, .slice aox l9.length capx, .slice aod d9.length capd] 47)).heap.size ∧ (.slice aol acc.length capl : Value).ownBlock ≠ some g) (w' := (w5.alloc (.cells #[.int .i64 k9, .int .i64 n9, .slice aob b9.length capb, .slice aox l9.length capx, .slice aod d9.length capd] 47)).alloc (.cells #[.int .i64 k9, .int .i64 n9, .slice aob b9.length capb, .slice aox l9.length capx, .slice aod d9.length capd] 47)) (fun g hg => ⟨by have := hg.1; omega, Nat.lt_of_lt_of_le hg.2 hBW.size, fun z => by have := (hrow4 _ z).2; have := hg.1; omega⟩) (fun g _ hlt => hBW.block g hlt)
          have hS := fun B => Held.set (B := B) (p := w.heap.size + 1) (q := w.heap.size + 1) w8 ⟨w.heap.size + 1, 3, none⟩ (.slice ao8 (acc.length + 1) cap8) (.inl rfl)
          have hG9 := ((hG.up hBW).push q1 q2 q3 hx).held (hS _) (by omega) (by omega)
          have hP9 := hP8.off (hS w.heap.size) (Nat.le_refl _) (by omega)
          have hZ9 := hZ8.held (hS _) (by omega) (by omega)
          have hO9 := hO8.set3 (v := .slice ao8 (acc.length + 1) cap8)
          have hf : t9.length < t.length := hfit
          go_roundw
          case rel => exact ⟨_, _, _, _, _, hP9, hZ9, hO9, hG9, by rw [List.length_append, List.length_singleton]; omega, fun res hr => hBK.out _ (PV.a_step T1.out HK.out hpv hr)⟩
          case measure => rw [hP9.rem, hrm.out]; exact hf
end Go.Proofs.YtlmgklebikcbjaaGreatDoor

/-
  The document's dict on its way: its keys, its entries, in memory of the call's own. Conditions: none but what is said.
-/
namespace Go.Proofs.YtlmgklebikcbjaaGreatDoor
open Go.RowKit
set_option linter.unusedVariables false

/-- a key's cell -/
def kcl (k : List UInt8) : List Value := [.string (st k)]
theorem kcl_map_len (l : List (List UInt8)) : ∀ c ∈ l.map kcl, c.length = 1 := fun c hc => by
  obtain ⟨k, -, rfl⟩ := List.mem_map.1 hc; rfl
theorem kcl_one (k : List UInt8) : ∀ c ∈ [kcl k], ∀ u ∈ c, u.oneCell' = true := fun c hc u hu => by
  rw [List.mem_singleton] at hc; subst hc
  rw [kcl, List.mem_singleton] at hu; subst hu; rfl
theorem strsTy : Tryz.prog.underlying 67 = some (.slice 9) := by kernel_rfl
theorem strsIn : (Tryz.prog.info? 9).map (fun i => (i.zero, i.size, i.bytes)) = some (some (.string ⟨#[]⟩), 1, 16) := by kernel_rfl
theorem SlA.grown {A B : Nat → Prop} {w w' : World} {v : Value} {b : List UInt8} {row : Option Nat} (h : SlA A w v b) (hA : ∀ g, A g → B g) (hg : w.grownBy w' row) (hr : ∀ g, A g → row ≠ some g) : SlA B w' v b := h.keep hA (fun g hq hlt => hg.block g hlt (fun q => hr g hq q.symm))

/-- keys in a row vk, entries E in a row vd that read as x -/
structure RowK (B : Nat) (w : World) (vk vd : Value) (keys : List (List UInt8)) (E : List KV) (x : List (List UInt8 × PO)) : Prop where
  krow : OwX 1 9 w B vk (keys.map kcl)
  drow : OwX 6 59 w B vd (E.map ecl)
  rel : EVs (fun g => B ≤ g ∧ g < w.heap.size ∧ vk.ownBlock ≠ some g) w E x
  ne : ∀ g, vd.ownBlock = some g → vk.ownBlock ≠ some g
section
variable {B : Nat} {w w' : World} {vk vd : Value} {keys : List (List UInt8)} {E : List KV} {x : List (List UInt8 × PO)}
theorem RowK.nil (B : Nat) (w : World) : RowK B w (.slice Option.none 0 0) (.slice Option.none 0 0) [] [] [] := ⟨OwX.nil _ _ _ _, OwX.nil _ _ _ _, .nil, fun g hg => by cases hg⟩
theorem RowK.held (h : RowK B w vk vd keys E x) {p r : Nat} (hb : Held w.heap.size p r w w') (hp : p < B) (hr : r < B) : RowK B w' vk vd keys E x :=
  ⟨h.krow.held hb (fun g hg => by have := (h.krow.lt g hg).1; exact ⟨by omega, by omega⟩), h.drow.held hb (fun g hg => by have := (h.drow.lt g hg).1; exact ⟨by omega, by omega⟩), h.rel.keep (fun g hg => ⟨hg.1, Nat.lt_of_lt_of_le hg.2.1 hb.size, hg.2.2⟩) (fun g hg hlt => hb.block g hlt (by have := hg.1; omega) (by have := hg.1; omega)), h.ne⟩
theorem RowK.up (h : RowK B w vk vd keys E x) (hb : Below w.heap.size w w') : RowK B w' vk vd keys E x :=
  ⟨h.krow.up hb, h.drow.up hb, h.rel.keep (fun g hg => ⟨hg.1, Nat.lt_of_lt_of_le hg.2.1 hb.size, hg.2.2⟩) (fun g hg hlt => hb.block g hlt), h.ne⟩
theorem RowK.len (h : RowK B w vk vd keys E x) : E.length = x.length := All2.len h.rel
/-- one key more -/
theorem RowK.push (h : RowK B w vk vd keys E x) {vk' : Value} {k : List UInt8} (hrow : OwX 1 9 w' B vk' (keys.map kcl ++ [kcl k])) (hg : w.grownBy w' vk.ownBlock) (hm : Moved w vk vk') : RowK B w' vk' vd (keys ++ [k]) E x := by
  have hne' : ∀ g, vk'.ownBlock = some g → vk.ownBlock = some g ∨ g = w.heap.size := by
    intro g hq
    rcases hm with hm | hm
    · left; rw [← hm]; exact hq
    · right; rw [hm] at hq; injection hq with hq; exact hq.symm
  refine ⟨by rw [List.map_append]; exact hrow, ⟨h.drow.1.kept hg ?_, h.drow.2⟩, h.rel.keep (fun g hq => ⟨hq.1, Nat.lt_of_lt_of_le hq.2.1 hg.size, fun q => ?_⟩) (fun g hq hlt => hg.block g hlt (fun q => hq.2.2 q.symm)), fun g hq q => ?_⟩
  · cases hb : vd.ownBlock with
    | none => exact .inl rfl
    | some g => exact .inr (fun q => h.ne g hb q.symm)
  · rcases hne' g q with q1 | q1
    · exact hq.2.2 q1
    · have := hq.2.1; omega
  · rcases hne' g q with q1 | q1
    · exact h.ne g hq q1
    · have := (h.drow.lt g hq).2; omega
/-- new entries -/
theorem RowK.put (h : RowK B w vk vd keys E x) (hb : Below w.heap.size w w') {vd' : Value} {E' : List KV} {y : List (List UInt8 × PO)} (hrow : OwX 6 59 w' w.heap.size vd' (E'.map ecl)) (hB : B ≤ w.heap.size) (hE : EVs (fun g => (B ≤ g ∧ g < w.heap.size ∧ vk.ownBlock ≠ some g) ∨ (w.heap.size ≤ g ∧ g < w'.heap.size)) w' E' y) : RowK B w' vk vd' keys E' y :=
  ⟨h.krow.up hb, hrow.base hB, hE.keep (fun g hg => by
    rcases hg with hg | hg
    · exact ⟨hg.1, Nat.lt_of_lt_of_le hg.2.1 hb.size, hg.2.2⟩
    · exact ⟨Nat.le_trans hB hg.1, hg.2, fun q => by have := (h.krow.lt g q).2; have := hg.1; omega⟩) (fun _ _ _ => rfl), fun g hg q => by have := (h.krow.lt g q).2; have := (hrow.lt g hg).1; omega⟩
/-- the object at the end -/
theorem RowK.obj (h : RowK B w vk vd keys E x) {A : Nat → Prop} (hA : ∀ g, B ≤ g → g < w.heap.size → A g) (hz : x.length ≤ 4000000) : OV A w [.int .i64 7, .int .i64 0, .slice none 0 0, .slice none 0 0, vd] (poDict x) := by
  have hr := h.drow.row hA
  rw [List.length_map] at hr
  exact OV.make (C := []) (SlA.nil A w) (RowA.nil _ _ _ _) .nil hr (h.rel.keep (fun g hg => hA g hg.1 hg.2.1) (fun _ _ _ => rfl)) ⟨by simp, by simp, hz⟩
end
end Go.Proofs.YtlmgklebikcbjaaGreatDoor

/-
  The document's dict, by value's contract. Condition: the parser stands in its bytes; at most 28 deep.
-/
namespace Go.Proofs.YtlmgklebikcbjaaGreatDoor
open Go.RowKit
set_option linter.unusedVariables false

theorem key_at {keys : List (List UInt8)} {j : Nat} (h : j < keys.length) : (keys.map kcl)[j]'(by rw [List.length_map]; exact h) = kcl keys[j] := by rw [List.getElem_map]
theorem take_no {keys : List (List UInt8)} {out : List UInt8} {j : Nat} (h : ∀ k ∈ keys.take j, ¬ k = out) (hj : j < keys.length) (hk : ¬ keys[j] = out) : ∀ k ∈ keys.take (j + 1), ¬ k = out := fun k hq => by
  rw [List.take_succ_eq_append_getElem hj] at hq
  rcases List.mem_append.1 hq with q | q
  · exact h k q
  · rw [List.mem_singleton] at q; subst q; exact hk

set_option maxHeartbeats 3200000 in
set_option maxRecDepth 100000 in
theorem rdict_of {q : Bool} {dp pp : Nat} {b : List UInt8} {d : Nat} (hd : d ≤ 28) (hv : RValueC q dp pp b d) (hsb : b.length ≤ 3600000) : RDictC q dp pp b d := by
  intro w i s h
  have hP := (h.below (alb w (.cells #[.int .i64 0, .int .i64 0, .slice none 0 0, .slice none 0 0, .slice none 0 0] 47))).below (alb _ (.cells #[.int .i64 7, .int .i64 0, .slice none 0 0, .slice none 0 0, .slice none 0 0] 47))
  have hZ : Z5 ((w.alloc (.cells #[.int .i64 0, .int .i64 0, .slice none 0 0, .slice none 0 0, .slice none 0 0] 47)).alloc (.cells #[.int .i64 7, .int .i64 0, .slice none 0 0, .slice none 0 0, .slice none 0 0] 47)) w.heap.size := (Z5.new w _).up (alb _ _)
  have hO := C5.new (w.alloc (.cells #[.int .i64 0, .int .i64 0, .slice none 0 0, .slice none 0 0, .slice none 0 0] 47)) (w.heap.size + 1) (by simp) [.int .i64 7, .int .i64 0, .slice none 0 0, .slice none 0 0, .slice none 0 0] 47
  have hK : RowK (w.heap.size + 2) ((w.alloc (.cells #[.int .i64 0, .int .i64 0, .slice none 0 0, .slice none 0 0, .slice none 0 0] 47)).alloc (.cells #[.int .i64 7, .int .i64 0, .slice none 0 0, .slice none 0 0, .slice none 0 0] 47)) (.slice none 0 0) (.slice none 0 0) [] [] [] := RowK.nil _ _
  have hlow := h.low.1
  have hW2 : ((w.alloc (.cells #[.int .i64 0, .int .i64 0, .slice none 0 0, .slice none 0 0, .slice none 0 0] 47)).alloc (.cells #[.int .i64 7, .int .i64 0, .slice none 0 0, .slice none 0 0, .slice none 0 0] 47)).heap.size = w.heap.size + 2 := by simp
  go_enter Tryz.func143, Tryz.ntmps143
  go_wp2
  go_loopw [6, 8, 9, 10, 11] (fun s6 _ _ _ _ wr => ∃ keys ents vd E p t, w.heap.size + 2 ≤ wr.heap.size ∧ Pd q dp w wr pp b p t ∧ Z5 wr w.heap.size ∧ C5 wr (w.heap.size + 1) [.int .i64 7, .int .i64 0, .slice none 0 0, .slice none 0 0, vd] ∧ RowK (w.heap.size + 2) wr s6 vd keys E (ents.foldl (fun d e => wi e d) []) ∧ ents.length + t.length ≤ s.length ∧ keys.length + t.length ≤ s.length ∧ ∀ res, PV q (.m d keys ents) t res → PV q (.m d [] []) s res) (fun _ _ _ _ _ wr => remOf wr pp)
  case atStart => exact ⟨[], [], _, [], _, _, by simp, hP, hZ, hO, hK, by simp, by simp, fun _ h => h⟩
  case round =>
    have hsl : s.length ≤ 3600000 := by have := h.cx.at_; omega
    clear hP hZ hO hK h hsb hW2
    obtain ⟨keys, ents, vd, E, p, t, hz2, hP, hZ, hO, hK, hal, hak, hback⟩ := hrel
    have hat := hid hP.cx.at_
    have hbl := bl_le t false
    have hpl : p + bl t false ≤ b.length := by have := hat.out; omega
    have hdp : b.drop (p + bl t false) = t.drop (bl t false) := by rw [← hP.cx.drp, List.drop_drop]
    have hfl : (ents.foldl (fun d e => wi e d) []).length ≤ ents.length := by have := fold_len ents []; simpa using this
    obtain ⟨aok, capk, hvk⟩ := hK.krow.lin
    obtain ⟨aod, capd, hvd⟩ := hK.drow.lin
    have hKl := hK.len
    rw [List.length_map] at hvk hvd
    rw [hKl] at hvd
    generalize hX : ents.foldl (fun d e => wi e d) [] = X at hK hfl hvd hKl
    have HX := hid hX
    clear hX
    subst hvk
    subst hvd
    have hc1 := hP.cx.c1
    have hf1 := hP.cx.f1
    have hlo := hP.low.2
    have hrm := hid hP.rem
    have hBK := hid hback
    clear hback
    obtain ⟨oc, of_, os⟩ := id hO
    obtain ⟨rc, rf, rs⟩ := id hZ
    cases hT : TK t with
    | bad x =>
      have bx := TK_err hT
      have T1 := hid hT
      have hpv := hid (PV.m_bad (q := q) (d := d) (keys := keys) (ents := ents) hT)
      clear hT
      generalize hpa : p + bl t false = pa at hpl hdp
      have HPA := hid hpa
      have HD := hid hdp
      clear hpa hdp hbl
      go_wp2_with (first | (go_at_call 68; (with_reducible refine (rtoken_q (TK_good _) hP.cx.fresh).mono ?_); rw [T1.out, HPA.out]; rintro e w3 ⟨rfl, hC3⟩; have hP := hP.step hC3; have hlo3 := hP.low.2; have hwy := hC3.size; have hZ := hZ.held hC3.held (by omega) (by omega); have hO := hO.held hC3.held (by omega) (by omega); have hK3 := hK.held hC3.held (by omega) (by omega); have hc1 := hP.cx.c1; have hf1 := hP.cx.f1; obtain ⟨rc, rf, rs⟩ := id hZ; obtain ⟨oc, of_, os⟩ := id hO))
      obtain ⟨k0, k1, k2, k3, k4⟩ := set5_cells (a := .int .i64 0) (b := .int .i64 0) (c := .slice none 0 0) (d := .slice none 0 0) (e := .slice none 0 0) hZ.five
      have hh := fun B => set5_held w3 B w.heap.size (.int .i64 0) (.int .i64 0) (.slice none 0 0) (.slice none 0 0) (.slice none 0 0)
      have hP5 := hP.off (hh w.heap.size) (Nat.le_refl _) (Nat.le_refl _)
      have k0 := cell_up' (alb _ (.cells #[.int .i64 0, .int .i64 pa, .int .i64 0, .slice none 0 0] 130)) k0
      have k1 := cell_up' (alb _ (.cells #[.int .i64 0, .int .i64 pa, .int .i64 0, .slice none 0 0] 130)) k1
      have k2 := cell_up' (alb _ (.cells #[.int .i64 0, .int .i64 pa, .int .i64 0, .slice none 0 0] 130)) k2
      have k3 := cell_up' (alb _ (.cells #[.int .i64 0, .int .i64 pa, .int .i64 0, .slice none 0 0] 130)) k3
      have k4 := cell_up' (alb _ (.cells #[.int .i64 0, .int .i64 pa, .int .i64 0, .slice none 0 0] 130)) k4
      have hP5 := hP5.below (alb _ (.cells #[.int .i64 0, .int .i64 pa, .int .i64 0, .slice none 0 0] 130))
      rw [HD.out] at hP5
      exact bodyPost_ret (v := .tuple #[.agg #[.int .i64 0, .int .i64 0, .slice none 0 0, .slice none 0 0, .slice none 0 0], .int .i64 x]) (by simp [results, Tryz.results143, go_sem, k0, k1, k2, k3, k4]) rfl ⟨_, hBK.out _ hpv.out, rfl, _, hP5⟩
    | tok k n out r =>
      by_cases h8 : k = 8
      · subst h8
        have T1 := hid hT
        have hpv := hid (PV.m_close (q := q) (d := d) (keys := keys) (ents := ents) hT)
        clear hT
        generalize hpa : p + bl t false = pa at hpl hdp
        have HPA := hid hpa
        have HD := hid hdp
        clear hpa hdp hbl
        go_wp2_with (first | (go_at_call 68; (with_reducible refine (rtoken_q (TK_good _) hP.cx.fresh).mono ?_); rw [T1.out, HPA.out]; rintro e w3 ⟨u3, rfl, j3, hC3⟩; have hR3 := hC3.row; obtain ⟨ao3, cap3, rfl, -, -, -⟩ := Rd.own hR3; have hP := hP.step hC3; have hlo3 := hP.low.2; have hwy := hC3.size; have hZ := hZ.held hC3.held (by omega) (by omega); have hO := hO.held hC3.held (by omega) (by omega); have hK3 := hK.held hC3.held (by omega) (by omega); have hc1 := hP.cx.c1; have hf1 := hP.cx.f1; obtain ⟨rc, rf, rs⟩ := id hZ; obtain ⟨oc, of_, os⟩ := id hO))
        obtain ⟨k0, k1, k2, k3, k4⟩ := set5_cells (a := .int .i64 7) (b := .int .i64 0) (c := .slice none 0 0) (d := .slice none 0 0) (e := .slice aod X.length capd) hZ.five
        have hh := fun B => set5_held w3 B w.heap.size (.int .i64 7) (.int .i64 0) (.slice none 0 0) (.slice none 0 0) (.slice aod X.length capd)
        have hP5 := hP.off (hh w.heap.size) (Nat.le_refl _) (Nat.le_refl _)
        have k0 := cell_up' (alb _ (.cells #[.int .i64 8, .int .i64 pa, .int .i64 n, .slice ao3 out.length cap3] 130)) k0
        have k1 := cell_up' (alb _ (.cells #[.int .i64 8, .int .i64 pa, .int .i64 n, .slice ao3 out.length cap3] 130)) k1
        have k2 := cell_up' (alb _ (.cells #[.int .i64 8, .int .i64 pa, .int .i64 n, .slice ao3 out.length cap3] 130)) k2
        have k3 := cell_up' (alb _ (.cells #[.int .i64 8, .int .i64 pa, .int .i64 n, .slice ao3 out.length cap3] 130)) k3
        have k4 := cell_up' (alb _ (.cells #[.int .i64 8, .int .i64 pa, .int .i64 n, .slice ao3 out.length cap3] 130)) k4
        have hP5 := hP5.below (alb _ (.cells #[.int .i64 8, .int .i64 pa, .int .i64 n, .slice ao3 out.length cap3] 130))
        have hov := (hK3.obj (A := fun g => w.heap.size + 2 ≤ g ∧ g < w3.heap.size) (fun g h1 h2 => ⟨h1, h2⟩) (by omega)).keep (B := fun g => w.heap.size ≤ g ∧ g < ((set5 w3 w.heap.size (.int .i64 7) (.int .i64 0) (.slice none 0 0) (.slice none 0 0) (.slice aod X.length capd)).alloc (.cells #[.int .i64 8, .int .i64 pa, .int .i64 n, .slice ao3 out.length cap3] 130)).heap.size) (w' := (set5 w3 w.heap.size (.int .i64 7) (.int .i64 0) (.slice none 0 0) (.slice none 0 0) (.slice aod X.length capd)).alloc (.cells #[.int .i64 8, .int .i64 pa, .int .i64 n, .slice ao3 out.length cap3] 130)) (fun g hg => ⟨by have := hg.1; omega, Nat.lt_of_lt_of_le hg.2 (Nat.le_trans (hh 0).size (alb _ _).size)⟩) (fun g hg hlt => ((alb _ (.cells #[.int .i64 8, .int .i64 pa, .int .i64 n, .slice ao3 out.length cap3] 130)).block g (Nat.lt_of_lt_of_le hlt (hh 0).size)).trans ((hh w3.heap.size).block g hlt (by have := hg.1; omega) (by have := hg.1; omega)))
        have hob : PV q (.m d keys ents) t (.ok (poDict X) r) := by rw [← HX.out]; exact hpv.out
        exact bodyPost_ret (v := .tuple #[.agg #[.int .i64 7, .int .i64 0, .slice none 0 0, .slice none 0 0, .slice aod X.length capd], .int .i64 0]) (by simp [results, Tryz.results143, go_sem, k0, k1, k2, k3, k4]) rfl ⟨_, hBK.out _ hob, _, rfl, hov, _, hP5⟩
      by_cases h0 : k = 0
      · subst h0
        have T1 := hid hT
        have hpv := hid (PV.m_end (q := q) (d := d) (keys := keys) (ents := ents) hT)
        clear hT
        generalize hpa : p + bl t false = pa at hpl hdp
        have HPA := hid hpa
        have HD := hid hdp
        clear hpa hdp hbl
        go_wp2_with (first | (go_at_call 68; (with_reducible refine (rtoken_q (TK_good _) hP.cx.fresh).mono ?_); rw [T1.out, HPA.out]; rintro e w3 ⟨u3, rfl, j3, hC3⟩; have hR3 := hC3.row; obtain ⟨ao3, cap3, rfl, -, -, -⟩ := Rd.own hR3; have hP := hP.step hC3; have hlo3 := hP.low.2; have hwy := hC3.size; have hZ := hZ.held hC3.held (by omega) (by omega); have hO := hO.held hC3.held (by omega) (by omega); have hK3 := hK.held hC3.held (by omega) (by omega); have hc1 := hP.cx.c1; have hf1 := hP.cx.f1; obtain ⟨rc, rf, rs⟩ := id hZ; obtain ⟨oc, of_, os⟩ := id hO) | (go_at_call 140; refine (rstop_any (hP.below (alb _ _)).fresh pa _ rfl hpl 2).mono ?_; rw [HD.out]; rintro e w9 ⟨rfl, hPs⟩; have hP := (hP.below (alb _ _)).join hPs; have hZ := (hZ.up (alb _ _)).held hPs.cx.held (by omega) (by omega); have hc1 := hP.cx.c1; have hf1 := hP.cx.f1; obtain ⟨rc, rf, rs⟩ := id hZ))
        obtain ⟨k0, k1, k2, k3, k4⟩ := set5_cells (a := .int .i64 0) (b := .int .i64 0) (c := .slice none 0 0) (d := .slice none 0 0) (e := .slice none 0 0) hZ.five
        have hh := fun B => set5_held w9 B w.heap.size (.int .i64 0) (.int .i64 0) (.slice none 0 0) (.slice none 0 0) (.slice none 0 0)
        have hP5 := hP.off (hh w.heap.size) (Nat.le_refl _) (Nat.le_refl _)
        exact bodyPost_ret (v := .tuple #[.agg #[.int .i64 0, .int .i64 0, .slice none 0 0, .slice none 0 0, .slice none 0 0], .int .i64 2]) (by simp [results, Tryz.results143, go_sem, k0, k1, k2, k3, k4]) rfl ⟨_, hBK.out _ hpv.out, rfl, _, hP5⟩
      by_cases h4 : ¬ k = 4
      · have b8 : (k == 8) = false := by simp [h8]
        have b0 : (k == 0) = false := by simp [h0]
        have b4 : (k == 4) = false := by simp [h4]
        have T1 := hid hT
        have hpv := hid (PV.m_form (q := q) (d := d) (keys := keys) (ents := ents) hT h8 h0 h4)
        clear hT h8 h0 h4
        generalize hpa : p + bl t false = pa at hpl hdp
        have HPA := hid hpa
        have HD := hid hdp
        clear hpa hdp hbl
        go_wp2_with (first | (go_at_call 68; (with_reducible refine (rtoken_q (TK_good _) hP.cx.fresh).mono ?_); rw [T1.out, HPA.out]; rintro e w3 ⟨u3, rfl, j3, hC3⟩; have hR3 := hC3.row; obtain ⟨ao3, cap3, rfl, -, -, -⟩ := Rd.own hR3; have hP := hP.step hC3; have hlo3 := hP.low.2; have hwy := hC3.size; have hZ := hZ.held hC3.held (by omega) (by omega); have hO := hO.held hC3.held (by omega) (by omega); have hK3 := hK.held hC3.held (by omega) (by omega); have hc1 := hP.cx.c1; have hf1 := hP.cx.f1; obtain ⟨rc, rf, rs⟩ := id hZ; obtain ⟨oc, of_, os⟩ := id hO) | (go_at_call 140; refine (rstop_any (hP.below (alb _ _)).fresh pa _ rfl hpl 4).mono ?_; rw [HD.out]; rintro e w9 ⟨rfl, hPs⟩; have hP := (hP.below (alb _ _)).join hPs; have hZ := (hZ.up (alb _ _)).held hPs.cx.held (by omega) (by omega); have hc1 := hP.cx.c1; have hf1 := hP.cx.f1; obtain ⟨rc, rf, rs⟩ := id hZ))
        obtain ⟨k0, k1, k2, k3, k4⟩ := set5_cells (a := .int .i64 0) (b := .int .i64 0) (c := .slice none 0 0) (d := .slice none 0 0) (e := .slice none 0 0) hZ.five
        have hh := fun B => set5_held w9 B w.heap.size (.int .i64 0) (.int .i64 0) (.slice none 0 0) (.slice none 0 0) (.slice none 0 0)
        have hP5 := hP.off (hh w.heap.size) (Nat.le_refl _) (Nat.le_refl _)
        exact bodyPost_ret (v := .tuple #[.agg #[.int .i64 0, .int .i64 0, .slice none 0 0, .slice none 0 0, .slice none 0 0], .int .i64 4]) (by simp [results, Tryz.results143, go_sem, k0, k1, k2, k3, k4]) rfl ⟨_, hBK.out _ hpv.out, rfl, _, hP5⟩
      · obtain rfl : k = 4 := by omega
        have T1 := hid hT
        clear hT h4 h0 h8
        generalize hpa : p + bl t false = pa at hpl hdp
        have HPA := hid hpa
        have HD := hid hdp
        clear hpa hdp hbl
        have hsz := hid (show out.length ≤ 4000000 from Nat.le_trans (TK_ol T1.out) (by have := hat.out; omega))
        obtain ⟨wo, rfl⟩ : ∃ x : World, x = wr := ⟨_, rfl⟩
        go_wp2_with (first | (go_at_call 68; (with_reducible refine (rtoken_q (TK_good _) hP.cx.fresh).mono ?_); rw [T1.out, HPA.out]; rintro e w3 ⟨u3, rfl, j3, hC3⟩; have hR3 := hC3.row; obtain ⟨ao3, cap3, rfl, -, -, -⟩ := Rd.own hR3; have hP := hP.step hC3; have hlo3 := hP.low.2; have hwy := hC3.size; have hZ := hZ.held hC3.held (by omega) (by omega); have hO := hO.held hC3.held (by omega) (by omega); have hK3 := hK.held hC3.held (by omega) (by omega); have hc1 := hP.cx.c1; have hf1 := hP.cx.f1; obtain ⟨rc, rf, rs⟩ := id hZ; obtain ⟨oc, of_, os⟩ := id hO))
        have hT4 := C5.new w3 _ rfl [.int .i64 4, .int .i64 pa, .int .i64 n, .slice ao3 out.length cap3] 130
        have hP4 := hP.below (alb w3 (.cells #[.int .i64 4, .int .i64 pa, .int .i64 n, .slice ao3 out.length cap3] 130))
        have hZ4 := hZ.up (alb w3 (.cells #[.int .i64 4, .int .i64 pa, .int .i64 n, .slice ao3 out.length cap3] 130))
        have hO4 := hO.up (alb w3 (.cells #[.int .i64 4, .int .i64 pa, .int .i64 n, .slice ao3 out.length cap3] 130))
        have hK4 := hK3.up (alb w3 (.cells #[.int .i64 4, .int .i64 pa, .int .i64 n, .slice ao3 out.length cap3] 130))
        have hS4 := (Sl.own hR3).up (alb w3 (.cells #[.int .i64 4, .int .i64 pa, .int .i64 n, .slice ao3 out.length cap3] 130))
        have hB3 := World.ownsRow.lt hR3
        have hk3 := hK3.krow.lt
        have hs4 : (w3.alloc (.cells #[.int .i64 4, .int .i64 pa, .int .i64 n, .slice ao3 out.length cap3] 130)).heap.size = w3.heap.size + 1 := by simp
        have HSA : SlA (fun g => wo.heap.size ≤ g ∧ g < w3.heap.size) (w3.alloc (.cells #[.int .i64 4, .int .i64 pa, .int .i64 n, .slice ao3 out.length cap3] 130)) (.slice ao3 out.length cap3) out := ⟨hS4, fun g hg => hB3 g hg⟩
        have hkl : ∀ g, (Value.slice aok keys.length capk).ownBlock = some g → g < wo.heap.size := fun g hg => (hK.krow.lt g hg).2
        clear hP hZ hO hK hK3 hS4 hC3 hR3 oc of_ os rc rf rs hc1 hf1
        generalize hW4 : w3.alloc (.cells #[.int .i64 4, .int .i64 pa, .int .i64 n, .slice ao3 out.length cap3] 130) = w4 at *
        have hlo4 := hP4.low.2
        clear hW4
        generalize w3.heap.size = tb at *
        have hm4 : remOf w4 pp = r.length := hP4.rem
        go_loopw [10] (fun s10 wr => ∃ j : Nat, s10 = .int .i64 j ∧ j ≤ keys.length ∧ Below w4.heap.size w4 wr ∧ ∀ k ∈ keys.take j, ¬ k = out) (fun s10 _ => keys.length - (intOf s10).toNat)
        case atStart => exact ⟨0, rfl, Nat.zero_le _, Below.refl _ _, by simp⟩
        case round =>
          obtain ⟨j, rfl, hj, hb, hno⟩ := hrel
          have HNO := hid hno
          clear hno
          have hTr := hT4.up hb
          have hSr := HSA.keep (B := fun g => wo.heap.size ≤ g ∧ g < tb) (w' := wr) (fun _ h => h) (fun g hg hlt => hb.block g hlt)
          have hbs := hb.size
          obtain ⟨tc, tf, ts⟩ := id hTr
          by_cases hlt : j < keys.length
          · have hjz : (j : Int) < (keys.length : Int) := by omega
            obtain ⟨gk, offk, rfl, hck⟩ := (hK4.krow.sl.up hb).some (by omega)
            have kc := hck j (by rw [List.length_map]; exact hlt) 0 (.string (st keys[j])) (by rw [key_at hlt]; rfl)
            have HKJ := hid (fun h => take_no HNO.out hlt h)
            have HIN := hid (show keys[j] ∈ keys from List.getElem_mem hlt)
            generalize keys[j] = kj at kc HKJ HIN
            rw [Nat.mul_one, Nat.add_zero] at kc
            have hsj := st_toList kj
            have hso := st_toList out
            clear hck
            obtain ⟨bq, hbq⟩ : ∃ bq, bq = (kj == out) := ⟨_, rfl⟩
            have HBQ := hid hbq
            clear hbq
            have hcv : ∀ m, (convert 27 9 (.slice ao3 out.length cap3)).run Tryz.prog (wr.drewN m) = .ok (.string (st out)) (wr.drewN m) := fun m => sl_string (P := Tryz.prog) (wr.drewN m) 27 9 5 Tryz.underlying27 (by kernel_rfl) (by kernel_rfl) _ _ (hSr.1.up (below_drewN (Below.refl _ _) m))
            go_upto_region 15 with fail
            go_cut [63] from 50 to 69 (fun s63 wx => s63 = .bool bq ∧ Below wr.heap.size wr wx)
            case first =>
              go_quiet (fail)
              go_wp2_with fail
              go_meet
              exact ⟨by rw [HBQ.out], below_drewN (Below.refl _ _) _⟩
            case rest =>
              obtain ⟨rfl, hb6⟩ := hcut
              obtain ⟨w6, rfl⟩ : ∃ x : World, x = wc := ⟨_, rfl⟩
              have hbw : Below w4.heap.size w4 w6 := hb.trans (hb6.mono hb.size)
              clear hcv
              cases bq with
              | false =>
                have hne := hid (show ¬ kj = out by have := HBQ.out; simpa using this.symm)
                go_wp2
                go_roundw
                case rel => exact ⟨j + 1, by go_num, by omega, hbw, HKJ.out hne.out⟩
                case measure => simp [intOf]; omega
              | true =>
                have hpv := hid (PV.m_twice (q := q) (d := d) (ents := ents) T1.out (show out ∈ keys by have := HBQ.out; have h2 : kj = out := by simpa using this.symm
                                                                                                        rw [← h2]; exact HIN.out))
                clear tc tf ts
                have hT6 := hTr.up hb6
                obtain ⟨tc, tf, ts⟩ := id hT6
                have hP := hP4.below hbw
                have hZ := hZ4.up hbw
                have hc1 := hP.cx.c1
                have hf1 := hP.cx.f1
                obtain ⟨rc, rf, rs⟩ := id hZ
                have hb6s := hbw.size
                go_wp2_with (first | (go_at_call 140; refine (rstop_any hP.fresh pa _ rfl hpl 4).mono ?_; rw [HD.out]; rintro e w9 ⟨rfl, hPs⟩; have hP := hP.join hPs; have hZ := hZ.held hPs.cx.held (by omega) (by omega); have hc1 := hP.cx.c1; have hf1 := hP.cx.f1; obtain ⟨rc, rf, rs⟩ := id hZ))
                obtain ⟨k0, k1, k2, k3, k4⟩ := set5_cells (a := .int .i64 0) (b := .int .i64 0) (c := .slice none 0 0) (d := .slice none 0 0) (e := .slice none 0 0) hZ.five
                have hh := fun B => set5_held w9 B w.heap.size (.int .i64 0) (.int .i64 0) (.slice none 0 0) (.slice none 0 0) (.slice none 0 0)
                have hP5 := hP.off (hh w.heap.size) (Nat.le_refl _) (Nat.le_refl _)
                exact bodyPost_ret (v := .tuple #[.agg #[.int .i64 0, .int .i64 0, .slice none 0 0, .slice none 0 0, .slice none 0 0], .int .i64 4]) (by simp [results, Tryz.results143, go_sem, k0, k1, k2, k3, k4]) rfl ⟨_, hBK.out _ hpv.out, rfl, _, hP5⟩
          · obtain rfl : j = keys.length := by omega
            have hjz : ¬ (keys.length : Int) < (keys.length : Int) := by omega
            have hni := hid (show ¬ out ∈ keys from fun h => HNO.out out (by rw [List.take_length]; exact h) rfl)
            have hP := hP4.below hb
            have hZ := hZ4.up hb
            have hO := hO4.up hb
            have hK := hK4.up hb
            have hkr := hK.krow
            have hcv : ∀ w9, Below wr.heap.size wr w9 → (convert 27 9 (.slice ao3 out.length cap3)).run Tryz.prog w9 = .ok (.string (st out)) w9 := fun w9 h9 => sl_string (P := Tryz.prog) w9 27 9 5 Tryz.underlying27 (by kernel_rfl) (by kernel_rfl) _ _ (hSr.1.up h9)
            have hcv1 := hcv _ (Below.refl _ _)
            have HCV := hid hcv
            clear hcv
            have hrw := hO.2.2
            have hrz := hZ.2.2
            have hm4r : remOf wr pp = r.length := hP.rem
            have hKL := hid hKl
            go_wp2_with (first | (go_at_call 49; go_loud (refine (with_any (A := fun g => w.heap.size + 2 ≤ g ∧ g < (w5.alloc (.cells #[.int .i64 y1, .int .i64 y2, .slice y3 y6 y7, .slice y4 y8 y9, .slice y5 y10 y11] 47)).heap.size ∧ (Value.slice (some ⟨g8, 0, none⟩) (keys.length + 1) cap8).ownBlock ≠ some g) out (fun g hg => hg.2.1) (hK.up (alb w5 (.cells #[.int .i64 y1, .int .i64 y2, .slice y3 y6 y7, .slice y4 y8 y9, .slice y5 y10 y11] 47))).rel (hK.up (alb w5 (.cells #[.int .i64 y1, .int .i64 y2, .slice y3 y6 y7, .slice y4 y8 y9, .slice y5 y10 y11] 47))).drow.sl ((hov2.out.up (alb w5 (.cells #[.int .i64 y1, .int .i64 y2, .slice y3 y6 y7, .slice y4 y8 y9, .slice y5 y10 y11] 47))).keep (fun g hg => ⟨by have := hg.1; omega, by have := hg.2; simp; omega, fun q => by have q2 : g8 = g := (by injection q); have := hg.1; have := (hK8L g8 rfl); omega⟩) (fun _ _ _ => rfl)) (by omega)).mono ?_; rintro e w9 ⟨v9, rfl, E9, hrow9, hE9, hb9⟩; obtain ⟨a9, c9, hv9⟩ := hrow9.lin; rw [List.length_map] at hv9; subst hv9; have hK9 := ((hK.up (alb w5 (.cells #[.int .i64 y1, .int .i64 y2, .slice y3 y6 y7, .slice y4 y8 y9, .slice y5 y10 y11] 47))).put hb9 hrow9 (by simp; omega) hE9); have hO9 := (hO.up (alb w5 (.cells #[.int .i64 y1, .int .i64 y2, .slice y3 y6 y7, .slice y4 y8 y9, .slice y5 y10 y11] 47))).up hb9; obtain ⟨oc, of_, os⟩ := id hO9)) | (go_at_call 113; refine (hv _ _ r hP.fresh).mono ?_; rintro e w5 ⟨res, hpv, hvq⟩; have hfit := hpv.fit; rcases res with ⟨x9, t9⟩ | ⟨o9, t9⟩; rotate_left; (obtain ⟨vs, rfl, hov, j9, hPs⟩ := hvq; have hP := hP.join hPs; have hZ := hZ.held hPs.cx.held (by omega) (by omega); have hO := hO.held hPs.cx.held (by omega) (by omega); have hK := hK.held hPs.cx.held (by omega) (by omega); have hT9 := hT8.held hPs.cx.held (by omega) (by omega); have hS9 := hS8.keep (B := fun g => wo.heap.size ≤ g ∧ g < tb) (w' := w5) (fun _ h => h) (fun g hg hlt => hPs.cx.held.block g hlt (by have := hg.1; omega) (by have := hg.1; omega)); have hcv5 := fun ob => sl_string (P := Tryz.prog) (w5.alloc ob) 27 9 5 Tryz.underlying27 (by kernel_rfl) (by kernel_rfl) _ _ (hS9.1.up (alb w5 ob)); obtain ⟨tc, tf, ts⟩ := id hT9; obtain ⟨oc, of_, os⟩ := id hO; have hV9 := hov.v5; have hov2 := hid hov; have hK8L := (fun g hg => (q1.lt g hg).2); have hs5 := hPs.cx.size; clear hov; obtain ⟨y1, y2, y3, y4, y5, y6, y7, y8, y9, y10, y11, rfl⟩ := hV9); rotate_left; (obtain ⟨rfl, j9, hPs⟩ := hvq; have bx : (x9 == 0) = false := hfit; have hP := hP.join hPs; have hZ := hZ.held hPs.cx.held (by omega) (by omega); obtain ⟨rc, rf, rs⟩ := id hZ)) | (at_builtin; refine wpList_append_slx rfl _ _ 67 rfl (w.heap.size + 2) 9 (.string ⟨#[]⟩) 1 16 strsTy strsIn rfl (by decide) (.slice aok keys.length capk) (keys.map kcl) rfl (hkr.up (alb _ _)) _ [kcl out] rfl (SlX.lit1 wr wr.heap.size rfl (kcl out) _ 1 rfl) (kcl_one out) (by simp; omega) (by decide) (by simp; omega) ?_; intro v8 w8 q1 q2 q3; obtain ⟨g8, cap8, rfl⟩ := q1.cons (by simp); have e8 : (keys.map kcl ++ [kcl out]).length = keys.length + 1 := (by simp); rw [e8] at q1 q3; have hBA := alb wr (.cells #[.string (st out)] 9); have hk8 : ∀ g, (Value.slice aok keys.length capk).ownBlock = some g → w.heap.size + 2 ≤ g := (fun g hg => (hkr.lt g hg).1); have hP := (hP.below hBA).grow q2 (fun g hg => by have := hk8 g hg; omega); have hZ := (hZ.up hBA).grown q2 (fun hg => by have := hk8 _ hg; omega); have hO := (hO.up hBA).grown q2 (fun hg => by have := hk8 _ hg; omega); have hK := (hK.up hBA).push q1 q2 q3; have hT8 := (hTr.up hBA).grown q2 (fun hg => by have := hkl _ hg; omega); have hS8 := (hSr.keep (B := fun g => wo.heap.size ≤ g ∧ g < tb) (w' := wr.alloc (.cells #[.string (st out)] 9)) (fun _ h => h) (fun g hg hlt => hBA.block g hlt)).grown (B := fun g => wo.heap.size ≤ g ∧ g < tb) (fun _ h => h) q2 (fun g hg q => by have := hkl _ q; have := hg.1; omega); have hs8 := Nat.le_trans hBA.size q2.size; have hc1 := hP.cx.c1; have hf1 := hP.cx.f1))
            · obtain ⟨k0, k1, k2, k3, k4⟩ := set5_cells (a := .int .i64 0) (b := .int .i64 0) (c := .slice none 0 0) (d := .slice none 0 0) (e := .slice none 0 0) hZ.five
              have hh := fun B => set5_held w5 B w.heap.size (.int .i64 0) (.int .i64 0) (.slice none 0 0) (.slice none 0 0) (.slice none 0 0)
              have hP5 := hP.off (hh w.heap.size) (Nat.le_refl _) (Nat.le_refl _)
              have k0 := cell_up' (alb _ (.cells #[.int .i64 0, .int .i64 0, .slice none 0 0, .slice none 0 0, .slice none 0 0] 47)) k0
              have k1 := cell_up' (alb _ (.cells #[.int .i64 0, .int .i64 0, .slice none 0 0, .slice none 0 0, .slice none 0 0] 47)) k1
              have k2 := cell_up' (alb _ (.cells #[.int .i64 0, .int .i64 0, .slice none 0 0, .slice none 0 0, .slice none 0 0] 47)) k2
              have k3 := cell_up' (alb _ (.cells #[.int .i64 0, .int .i64 0, .slice none 0 0, .slice none 0 0, .slice none 0 0] 47)) k3
              have k4 := cell_up' (alb _ (.cells #[.int .i64 0, .int .i64 0, .slice none 0 0, .slice none 0 0, .slice none 0 0] 47)) k4
              have hP5 := hP5.below (alb _ (.cells #[.int .i64 0, .int .i64 0, .slice none 0 0, .slice none 0 0, .slice none 0 0] 47))
              exact bodyPost_ret (v := .tuple #[.agg #[.int .i64 0, .int .i64 0, .slice none 0 0, .slice none 0 0, .slice none 0 0], .int .i64 x9]) (by simp [results, Tryz.results143, go_sem, k0, k1, k2, k3, k4]) rfl ⟨_, hBK.out _ (PV.m_stop T1.out hni.out hpv), rfl, _, hP5⟩
            · have hf : t9.length < r.length := hfit
              have hrt := TK_rest T1.out (by decide)
              have hbB := (alb w5 (.cells #[.int .i64 y1, .int .i64 y2, .slice y3 y6 y7, .slice y4 y8 y9, .slice y5 y10 y11] 47)).trans (hb9.mono (alb w5 (.cells #[.int .i64 y1, .int .i64 y2, .slice y3 y6 y7, .slice y4 y8 y9, .slice y5 y10 y11] 47)).size)
              have hS := fun B => Held.set (B := B) (p := w.heap.size + 1) (q := w.heap.size + 1) w9 ⟨w.heap.size + 1, 4, none⟩ (.slice a9 E9.length c9) (.inl rfl)
              go_roundw
              case rel => exact ⟨keys ++ [out], ents ++ [(out, o9)], _, E9, _, t9, by have := (hS 0).size; have := hb9.size; simp at *; omega, (hP.below hbB).off (hS w.heap.size) (Nat.le_refl _) (by omega), (hZ.up hbB).held (hS _) (by omega) (by omega), hO9.set (k := 4) (by simp), by rw [List.foldl_append, HX.out]; exact hK9.held (hS _) (by omega) (by omega), by rw [List.length_append, List.length_singleton]; omega, by rw [List.length_append, List.length_singleton]; omega, fun res hr => hBK.out _ (PV.m_step T1.out hni.out hpv hr)⟩
              case measure => rw [((hP.below hbB).off (hS w.heap.size) (Nat.le_refl _) (by omega)).rem, hrm.out]; omega
end Go.Proofs.YtlmgklebikcbjaaGreatDoor
