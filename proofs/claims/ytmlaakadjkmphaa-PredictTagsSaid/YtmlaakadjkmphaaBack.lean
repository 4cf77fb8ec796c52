/-
  PredictBack: what was done is undone as it was, of each shape: it returns true. No condition.
-/
import Derived.Test.YtmlaakadjkmphaaAwake
import Derived.Test.YtmlaakadjkmphaaBackLaw
import Derived.Test.YtmlaakadjkmphaaLift
import Derived.Test.YtmlaakadjkmphaaMem3
namespace Go.Proofs.Ytmlaakadjkmphaa
open Go.ChangeShapes Go.WideShapes Go.ChangeAt Go.RowKit
set_option linter.unusedVariables false

set_option maxHeartbeats 2000000 in
theorem back_small (p c m : Int) (v : Value) (r : Int) (w : World) (h : mayB p c m = false ∨ (mayB p c m = true ∧ 200 < c * m)) :
    Calls Try.prog 6 #[.agg #[.int .i64 p, .int .i64 c, .int .i64 m], v, .int .u8 r] w fun e w' => e = .returned (.bool true) ∧ Below w.heap.size w w' := by
  rcases h with h | ⟨h, h2⟩
  · go_enter Try.func6, Try.ntmps6
    go_wp2_with (first
      | (go_at_call 8; refine (awake_any _).mono ?_; rintro e w1 ⟨rfl, hb⟩; obtain ⟨e0, e1, e2, hb⟩ := box3 hb)
      | (go_at_call 17; refine (rmay_any p c m _).mono ?_; rintro e w2 ⟨rfl, hb2⟩; rw [h]))
    go_ret
    exact ⟨rfl, below_then hb hb2⟩
  · obtain ⟨q1, q2, q3, q4, q5⟩ := may_bounds h
    have hb1 : 0 ≤ c * m := Int.mul_nonneg (by omega) (by omega)
    have hb2 : c * m ≤ 4 * 4096 := Int.mul_le_mul q3 q5 (by omega) (by omega)
    go_enter Try.func6, Try.ntmps6
    go_wp2_with (first
      | (go_at_call 8; refine (awake_any _).mono ?_; rintro e w1 ⟨rfl, hb⟩; obtain ⟨e0, e1, e2, hb⟩ := box3 hb)
      | (go_at_call 17; refine (rmay_any p c m _).mono ?_; rintro e w2 ⟨rfl, hb2⟩; rw [h]; have e0' := (hb2.cell (World.block_lt_of_cell? _ _ e0)).trans e0; have e1' := (hb2.cell (World.block_lt_of_cell? _ _ e1)).trans e1; have e2' := (hb2.cell (World.block_lt_of_cell? _ _ e2)).trans e2))
    go_ret
    exact ⟨rfl, below_then hb ‹_›⟩

theorem grownBy_drew {a b : World} {row : Option Nat} (h : a.grownBy b row) : a.grownBy b.drew row := ⟨h.os, h.tape, h.output, h.size, h.block⟩

set_option maxHeartbeats 4000000 in
theorem back_big (p : Int) (c m N K : Nat) (v : Value) (l : List UInt8) (r : Int) (w : World) (h : mayB p c m = true) (HN : Hid (N = c * m)) (hN2 : N ≤ 200) (hr : 0 ≤ r) (hr' : r ≤ 255) (hK : r % 5 = K) (hl0 : 0 < l.length) (hv : Sl w v l) :
    Calls Try.prog 6 #[.agg #[.int .i64 p, .int .i64 c, .int .i64 m], v, .int .u8 r] w fun e w' => e = .returned (.bool true) ∧ Below w.heap.size w w' := by
  obtain ⟨q1, q2, q3, q4, q5⟩ := may_bounds h
  have hcm := cm_bounds (c := c) (m := m) (by omega) (by omega) (by omega) (by omega)
  rw [← HN.out] at hcm
  have hcm' : (c : Int) * (m : Int) = (N : Int) := by rw [HN.out]; simp
  obtain ⟨Z, hZ⟩ : ∃ Z, Z = N * K := ⟨_, rfl⟩
  have hK4 : K ≤ 4 := by omega
  have hZb : Z ≤ 800 := by rw [hZ]; exact Nat.mul_le_mul hN2 hK4
  have hz' : (N : Int) * (K : Int) = (Z : Int) := by rw [hZ]; simp
  have HZ := hid hZ
  obtain ⟨al, cl, rfl, l1, l2, l3, l4⟩ := hv
  unfold maxLen at l2
  obtain ⟨bl, ol, rfl, hls, hlc⟩ := l4.some hl0
  have hl0' : (0 : Int) < (l.length : Int) := by omega
  have HLC := hid hlc
  clear hZ hcm hlc
  go_enter Try.func6, Try.ntmps6
  go_wp2_with (first
      | (go_at_call 8; refine (awake_any _).mono ?_; rintro e w1 ⟨rfl, hb⟩; obtain ⟨e0, e1, e2, hb⟩ := box3 hb)
      | (go_at_call 17; refine (rmay_any p c m _).mono ?_; rintro e w2 ⟨rfl, hb2⟩; rw [h]; have e0' := (hb2.cell (World.block_lt_of_cell? _ _ e0)).trans e0; have e1' := (hb2.cell (World.block_lt_of_cell? _ _ e1)).trans e1; have e2' := (hb2.cell (World.block_lt_of_cell? _ _ e2)).trans e2)
      | (at_make; refine wpList_make_bytes by26 rfl _ _ rfl w2.heap.size _ _ Z rfl rfl (by omega) (Nat.le_refl _) ?_; rintro w3 hrow3 hbel3))
  have hW2 : Below w.heap.size w w2 := below_then hb hb2
  have hl9 : 0 < l.length := hl0
  go_loopw [9] (fun vi wr => ∃ i : Nat, i ≤ Z ∧ vi = .int .i64 i ∧ ∃ X : List UInt8, X.length = Z ∧ OwnB wr w2.heap.size 5 (.slice (some ⟨w2.heap.size, 0, none⟩) Z Z) X ∧ w3.grownBy wr (some w2.heap.size)) (fun vi _ => Z - (intOf vi).toNat)
  case atStart => exact ⟨0, by omega, rfl, _, by simp, hrow3, World.grownBy.refl _ _⟩
  case round =>
    obtain ⟨i, hi, rfl, X, hX, hown, hg⟩ := hrel
    have HX := hid hX
    have hK2 : Below w2.heap.size w2 wr := hbel3.grown hg hbel3.size (fun k h => by cases h; exact Nat.le_refl _)
    clear hX
    by_cases hlt : i < Z
    · have f1 : wr.cell? ⟨bl, ol + i % l.length, none⟩ = some (.int .u8 (b8 l (i % l.length))) := by
        rw [(hW2.trans (hK2.mono hW2.size)).cell hls]; exact HLC.out _ (Nat.mod_lt _ hl0)
      have f2 := OwnB.cell hown HX.out.symm i (by rw [HX.out]; exact hlt)
      have f3 := OwnB.free hown HX.out.symm i
      have m1 : (0 : Int) ≤ (i : Int) % (l.length : Int) := Int.emod_nonneg _ (by omega)
      have m2 : (i : Int) % (l.length : Int) < (l.length : Int) := Int.emod_lt_of_pos _ hl0'
      have m3 : ((i : Int) % (l.length : Int)).toNat = i % l.length := by omega
      have x0 := b8_ge l (i % l.length)
      have x1 := b8_le l (i % l.length)
      go_wp2
      go_region
      go_wp2
      refine ⟨⟨i + 1, by omega, by go_num, X.set i (byteOf (b8 l (i % l.length) + wrap64 (↑i / ↑l.length))), by rw [List.length_set]; exact HX.out, ?_, ?_⟩, by simp [intOf]; omega⟩
      · rw [← bv_byteOf]
        exact (OwnB.stored hown HX.out.symm i _).drew
      · exact grownBy_drew (grownBy_trans hg (grownBy_setCell _ _ _))
    · have hiZ : Z = i := by omega
      clear hlt
      subst hiZ
      have hXl : X.length = c * m * K := by rw [HX.out, HZ.out, HN.out]
      obtain ⟨x, hx1, hx2, hx3⟩ := back_law h hXl
      have HX1 := hid hx1
      have HX2 := hid hx2
      have k0 := (hK2.cell (World.block_lt_of_cell? _ _ e0')).trans e0'
      have k1 := (hK2.cell (World.block_lt_of_cell? _ _ e1')).trans e1'
      have k2 := (hK2.cell (World.block_lt_of_cell? _ _ e2')).trans e2'
      have hcw : Below w.heap.size w wr := hW2.trans (hK2.mono hW2.size)
      have hsX := Sl.own hown
      have hcur := Below.refl wr.heap.size wr
      have HXZ : X.length ≤ 800 := by rw [HX.out]; exact hZb
      obtain ⟨xl, hxl⟩ : ∃ xl, xl = x.length := ⟨_, rfl⟩
      rw [← hxl, HX.out] at hx3
      have HXL := hid hxl
      have hxb : xl ≤ 900 := by rw [hx3]; split <;> omega
      clear hx1 hx2 hxl hXl e0' e1' e2'
      by_cases h10 : 10 ≤ p
      · rw [if_pos h10] at hx3
        have hxe : ((xl : Int) == (Z : Int) + (K : Int)) = true := by rw [beq_iff_eq]; omega
        clear hx3
        go_wp2_with (first
          | (go_at_call 10; refine (shape_any p c m _).mono ?_; rintro e ws ⟨rfl, hbs⟩; have hsX := hsX.up hbs; (try have hsx := hsx.up hbs); have k0 := (hbs.cell (World.block_lt_of_cell? _ _ k0)).trans k0; have k1 := (hbs.cell (World.block_lt_of_cell? _ _ k1)).trans k1; have k2 := (hbs.cell (World.block_lt_of_cell? _ _ k2)).trans k2; have hcur := below_then hcur hbs)
          | (go_at_call 13; refine (encode_any p c m _ X _ hsX (by omega)).mono ?_; rintro e we ⟨u3, rfl, ho3, hbs⟩; rw [HX1.out] at ho3 ⊢; have hsx := Sl.own ho3; obtain ⟨ax, cx, hux, y1, y2, y3, y4⟩ := Sl.own ho3; rw [← HXL.out] at hux; subst hux; have hsX := hsX.up hbs; have k0 := (hbs.cell (World.block_lt_of_cell? _ _ k0)).trans k0; have k1 := (hbs.cell (World.block_lt_of_cell? _ _ k1)).trans k1; have k2 := (hbs.cell (World.block_lt_of_cell? _ _ k2)).trans k2; have hcur := below_then hcur hbs)
          | (go_at_call 9; refine (decode_any p c m _ x _ hsx (by rw [← HXL.out]; omega)).mono ?_; rintro e wd ⟨u4, rfl, ho4, hbs⟩; rw [HX2.out] at ho4 ⊢; have hsy := Sl.own ho4; have hsX := hsX.up hbs; have k0 := (hbs.cell (World.block_lt_of_cell? _ _ k0)).trans k0; have k1 := (hbs.cell (World.block_lt_of_cell? _ _ k1)).trans k1; have k2 := (hbs.cell (World.block_lt_of_cell? _ _ k2)).trans k2; have hcur := below_then hcur hbs)
          | (go_at_call 11; refine (same_sl _ _ X X _ hsy hsX).mono ?_; rintro e w9 ⟨rfl, hb9⟩; rw [decide_eq_true rfl]; have hcur9 := below_of_drewN _ hb9))
        go_ret
        exact ⟨rfl, hcw.trans ((below_then hcur ‹_›).mono hcw.size)⟩
      · rw [if_neg h10] at hx3
        have hxe : ((xl : Int) == (Z : Int)) = true := by rw [beq_iff_eq]; omega
        clear hx3
        go_wp2_with (first
          | (go_at_call 10; refine (shape_any p c m _).mono ?_; rintro e ws ⟨rfl, hbs⟩; have hsX := hsX.up hbs; (try have hsx := hsx.up hbs); have k0 := (hbs.cell (World.block_lt_of_cell? _ _ k0)).trans k0; have k1 := (hbs.cell (World.block_lt_of_cell? _ _ k1)).trans k1; have k2 := (hbs.cell (World.block_lt_of_cell? _ _ k2)).trans k2; have hcur := below_then hcur hbs)
          | (go_at_call 13; refine (encode_any p c m _ X _ hsX (by omega)).mono ?_; rintro e we ⟨u3, rfl, ho3, hbs⟩; rw [HX1.out] at ho3 ⊢; have hsx := Sl.own ho3; obtain ⟨ax, cx, hux, y1, y2, y3, y4⟩ := Sl.own ho3; rw [← HXL.out] at hux; subst hux; have hsX := hsX.up hbs; have k0 := (hbs.cell (World.block_lt_of_cell? _ _ k0)).trans k0; have k1 := (hbs.cell (World.block_lt_of_cell? _ _ k1)).trans k1; have k2 := (hbs.cell (World.block_lt_of_cell? _ _ k2)).trans k2; have hcur := below_then hcur hbs)
          | (go_at_call 9; refine (decode_any p c m _ x _ hsx (by rw [← HXL.out]; omega)).mono ?_; rintro e wd ⟨u4, rfl, ho4, hbs⟩; rw [HX2.out] at ho4 ⊢; have hsy := Sl.own ho4; have hsX := hsX.up hbs; have k0 := (hbs.cell (World.block_lt_of_cell? _ _ k0)).trans k0; have k1 := (hbs.cell (World.block_lt_of_cell? _ _ k1)).trans k1; have k2 := (hbs.cell (World.block_lt_of_cell? _ _ k2)).trans k2; have hcur := below_then hcur hbs)
          | (go_at_call 11; refine (same_sl _ _ X X _ hsy hsX).mono ?_; rintro e w9 ⟨rfl, hb9⟩; rw [decide_eq_true rfl]; have hcur9 := below_of_drewN _ hb9))
        go_ret
        exact ⟨rfl, hcw.trans ((below_then hcur ‹_›).mono hcw.size)⟩
set_option maxHeartbeats 4000000 in
theorem back_nil (p : Int) (c m N K : Nat) (v : Value) (l : List UInt8) (r : Int) (w : World) (h : mayB p c m = true) (HN : Hid (N = c * m)) (hN2 : N ≤ 200) (hr : 0 ≤ r) (hr' : r ≤ 255) (hK : r % 5 = K) (hl0 : l.length = 0) (hv : Sl w v l) :
    Calls Try.prog 6 #[.agg #[.int .i64 p, .int .i64 c, .int .i64 m], v, .int .u8 r] w fun e w' => e = .returned (.bool true) ∧ Below w.heap.size w w' := by
  obtain ⟨q1, q2, q3, q4, q5⟩ := may_bounds h
  have hcm := cm_bounds (c := c) (m := m) (by omega) (by omega) (by omega) (by omega)
  rw [← HN.out] at hcm
  have hcm' : (c : Int) * (m : Int) = (N : Int) := by rw [HN.out]; simp
  obtain ⟨Z, hZ⟩ : ∃ Z, Z = N * K := ⟨_, rfl⟩
  have hK4 : K ≤ 4 := by omega
  have hZb : Z ≤ 800 := by rw [hZ]; exact Nat.mul_le_mul hN2 hK4
  have hz' : (N : Int) * (K : Int) = (Z : Int) := by rw [hZ]; simp
  have HZ := hid hZ
  obtain ⟨al, cl, rfl, l1, l2, l3, l4⟩ := hv
  rw [hl0]
  clear hZ hcm l1 l2 l3 l4
  go_enter Try.func6, Try.ntmps6
  go_wp2_with (first
      | (go_at_call 8; refine (awake_any _).mono ?_; rintro e w1 ⟨rfl, hb⟩; obtain ⟨e0, e1, e2, hb⟩ := box3 hb)
      | (go_at_call 17; refine (rmay_any p c m _).mono ?_; rintro e w2 ⟨rfl, hb2⟩; rw [h]; have e0' := (hb2.cell (World.block_lt_of_cell? _ _ e0)).trans e0; have e1' := (hb2.cell (World.block_lt_of_cell? _ _ e1)).trans e1; have e2' := (hb2.cell (World.block_lt_of_cell? _ _ e2)).trans e2)
      | (at_make; refine wpList_make_bytes by26 rfl _ _ rfl w2.heap.size _ _ Z rfl rfl (by omega) (Nat.le_refl _) ?_; rintro w3 hrow3 hbel3))
  have hW2 : Below w.heap.size w w2 := below_then hb hb2
  clear hl0
  have hown0 := hrow3
  have HX0 := hid (show (List.replicate Z (0 : UInt8)).length = Z by simp)
  obtain ⟨X, hXr⟩ : ∃ X, X = List.replicate Z (0 : UInt8) := ⟨_, rfl⟩
  rw [← hXr] at hown0 HX0
  clear hXr hrow3
  by_cases hZ0 : 0 < Z
  all_goals
    go_loopw [9] (fun vi wr => vi = .int .i64 0 ∧ wr = w3) (fun _ _ => 0)
    case atStart => exact ⟨rfl, rfl⟩
    case round =>
      obtain ⟨rfl, hwr⟩ := hrel
      have hown : OwnB wr w2.heap.size 5 (.slice (some ⟨w2.heap.size, 0, none⟩) Z Z) X := by rw [hwr]; exact hown0
      have hK2 : Below w2.heap.size w2 wr := by rw [hwr]; exact hbel3
      have HX := HX0
      clear hwr
      have hXl : X.length = c * m * K := by rw [HX.out, HZ.out, HN.out]
      obtain ⟨x, hx1, hx2, hx3⟩ := back_law h hXl
      have HX1 := hid hx1
      have HX2 := hid hx2
      have k0 := (hK2.cell (World.block_lt_of_cell? _ _ e0')).trans e0'
      have k1 := (hK2.cell (World.block_lt_of_cell? _ _ e1')).trans e1'
      have k2 := (hK2.cell (World.block_lt_of_cell? _ _ e2')).trans e2'
      have hcw : Below w.heap.size w wr := hW2.trans (hK2.mono hW2.size)
      have hsX := Sl.own hown
      have hcur := Below.refl wr.heap.size wr
      have HXZ : X.length ≤ 800 := by rw [HX.out]; exact hZb
      obtain ⟨xl, hxl⟩ : ∃ xl, xl = x.length := ⟨_, rfl⟩
      rw [← hxl, HX.out] at hx3
      have HXL := hid hxl
      have hxb : xl ≤ 900 := by rw [hx3]; split <;> omega
      clear hx1 hx2 hxl hXl e0' e1' e2'
      by_cases h10 : 10 ≤ p
      · rw [if_pos h10] at hx3
        have hxe : ((xl : Int) == (Z : Int) + (K : Int)) = true := by rw [beq_iff_eq]; omega
        clear hx3
        go_wp2_with (first
          | (go_at_call 10; refine (shape_any p c m _).mono ?_; rintro e ws ⟨rfl, hbs⟩; have hsX := hsX.up hbs; (try have hsx := hsx.up hbs); have k0 := (hbs.cell (World.block_lt_of_cell? _ _ k0)).trans k0; have k1 := (hbs.cell (World.block_lt_of_cell? _ _ k1)).trans k1; have k2 := (hbs.cell (World.block_lt_of_cell? _ _ k2)).trans k2; have hcur := below_then hcur hbs)
          | (go_at_call 13; refine (encode_any p c m _ X _ hsX (by omega)).mono ?_; rintro e we ⟨u3, rfl, ho3, hbs⟩; rw [HX1.out] at ho3 ⊢; have hsx := Sl.own ho3; obtain ⟨ax, cx, hux, y1, y2, y3, y4⟩ := Sl.own ho3; rw [← HXL.out] at hux; subst hux; have hsX := hsX.up hbs; have k0 := (hbs.cell (World.block_lt_of_cell? _ _ k0)).trans k0; have k1 := (hbs.cell (World.block_lt_of_cell? _ _ k1)).trans k1; have k2 := (hbs.cell (World.block_lt_of_cell? _ _ k2)).trans k2; have hcur := below_then hcur hbs)
          | (go_at_call 9; refine (decode_any p c m _ x _ hsx (by rw [← HXL.out]; omega)).mono ?_; rintro e wd ⟨u4, rfl, ho4, hbs⟩; rw [HX2.out] at ho4 ⊢; have hsy := Sl.own ho4; have hsX := hsX.up hbs; have k0 := (hbs.cell (World.block_lt_of_cell? _ _ k0)).trans k0; have k1 := (hbs.cell (World.block_lt_of_cell? _ _ k1)).trans k1; have k2 := (hbs.cell (World.block_lt_of_cell? _ _ k2)).trans k2; have hcur := below_then hcur hbs)
          | (go_at_call 11; refine (same_sl _ _ X X _ hsy hsX).mono ?_; rintro e w9 ⟨rfl, hb9⟩; rw [decide_eq_true rfl]; have hcur9 := below_of_drewN _ hb9))
        go_ret
        exact ⟨rfl, hcw.trans ((below_then hcur ‹_›).mono hcw.size)⟩
      · rw [if_neg h10] at hx3
        have hxe : ((xl : Int) == (Z : Int)) = true := by rw [beq_iff_eq]; omega
        clear hx3
        go_wp2_with (first
          | (go_at_call 10; refine (shape_any p c m _).mono ?_; rintro e ws ⟨rfl, hbs⟩; have hsX := hsX.up hbs; (try have hsx := hsx.up hbs); have k0 := (hbs.cell (World.block_lt_of_cell? _ _ k0)).trans k0; have k1 := (hbs.cell (World.block_lt_of_cell? _ _ k1)).trans k1; have k2 := (hbs.cell (World.block_lt_of_cell? _ _ k2)).trans k2; have hcur := below_then hcur hbs)
          | (go_at_call 13; refine (encode_any p c m _ X _ hsX (by omega)).mono ?_; rintro e we ⟨u3, rfl, ho3, hbs⟩; rw [HX1.out] at ho3 ⊢; have hsx := Sl.own ho3; obtain ⟨ax, cx, hux, y1, y2, y3, y4⟩ := Sl.own ho3; rw [← HXL.out] at hux; subst hux; have hsX := hsX.up hbs; have k0 := (hbs.cell (World.block_lt_of_cell? _ _ k0)).trans k0; have k1 := (hbs.cell (World.block_lt_of_cell? _ _ k1)).trans k1; have k2 := (hbs.cell (World.block_lt_of_cell? _ _ k2)).trans k2; have hcur := below_then hcur hbs)
          | (go_at_call 9; refine (decode_any p c m _ x _ hsx (by rw [← HXL.out]; omega)).mono ?_; rintro e wd ⟨u4, rfl, ho4, hbs⟩; rw [HX2.out] at ho4 ⊢; have hsy := Sl.own ho4; have hsX := hsX.up hbs; have k0 := (hbs.cell (World.block_lt_of_cell? _ _ k0)).trans k0; have k1 := (hbs.cell (World.block_lt_of_cell? _ _ k1)).trans k1; have k2 := (hbs.cell (World.block_lt_of_cell? _ _ k2)).trans k2; have hcur := below_then hcur hbs)
          | (go_at_call 11; refine (same_sl _ _ X X _ hsy hsX).mono ?_; rintro e w9 ⟨rfl, hb9⟩; rw [decide_eq_true rfl]; have hcur9 := below_of_drewN _ hb9))
        go_ret
        exact ⟨rfl, hcw.trans ((below_then hcur ‹_›).mono hcw.size)⟩


theorem back_any (p c m : Int) (v : Value) (l : List UInt8) (r : Int) (w : World) (hr : 0 ≤ r) (hr' : r ≤ 255) (hv : Sl w v l) :
    Calls Try.prog 6 #[.agg #[.int .i64 p, .int .i64 c, .int .i64 m], v, .int .u8 r] w fun e w' => e = .returned (.bool true) ∧ Below w.heap.size w w' := by
  by_cases h : mayB p c m = true
  · by_cases h2 : 200 < c * m
    · exact back_small p c m v r w (.inr ⟨h, h2⟩)
    · obtain ⟨q1, q2, q3, q4, q5⟩ := may_bounds h
      obtain ⟨c, rfl⟩ := Int.eq_ofNat_of_zero_le (show 0 ≤ c by omega)
      obtain ⟨m, rfl⟩ := Int.eq_ofNat_of_zero_le (show 0 ≤ m by omega)
      have hN : c * m ≤ 200 := by
        have : ((c * m : Nat) : Int) = (c : Int) * (m : Int) := by simp
        omega
      obtain ⟨K, hK⟩ := Int.eq_ofNat_of_zero_le (show 0 ≤ r % 5 by omega)
      by_cases hl : 0 < l.length
      · exact back_big p c m (c * m) K v l r w h rfl hN hr hr' hK hl hv
      · exact back_nil p c m (c * m) K v l r w h rfl hN hr hr' hK (by omega) hv
  · exact back_small p c m v r w (.inl (by simpa using h))

set_option maxRecDepth 100000 in
theorem back_lifted (os : Os) (started : os.Started) (H : Type) (enc : TypeId × Value → H) :
    ReturnsInHanded {} Try.checked os 6 .any (Rows.predictBackSpec.pre6 enc Try.prog Try.f6 Rows.predictBackRow.domain false) (Rows.predictBackSpec.post enc Try.prog Try.f6 false true false false) := by
  refine returnsInHanded_of_change (C := Try.checked) own9 started (by kernel_rfl) Try.func6
    (ChangeSpec.witness6 (enc := enc) (C := Try.checked) false ⟨#[], #[.agg #[.int .i64 0, .int .i64 0, .int .i64 0], .slice none 0 0, .int .u8 0], []⟩ 8 (by kernel_rfl) (by kernel_rfl) (by kernel_rfl) (by kernel_rfl)) ?_
  intro W base args ds gs before hval0 hW hcnd _
  have hval : ∀ (j : Nat) t v, Try.f6.params[j]? = some t → args[j]? = some v → Value.okWide Try.prog W .any base t v := hval0
  have hW' := hW
  obtain ⟨p, q, hA0, hV, rfl, hfz, hnd⟩ := hW
  have hA : DataW.TrodAll enc Try.prog W 0 (fun _ => true) true Try.f6.params.toList args.toList ds p := hA0
  rw [Try.params6] at hA hval
  obtain ⟨v0, v1, v2, d0, d1, d2, p0, p1, p2, rfl, rfl, rfl, h0, h1, h2⟩ := trodAll_three hA
  obtain ⟨rfl, rfl⟩ := trodVars_none hV
  obtain ⟨x, y, z, rfl⟩ := shape_open (hval 0 25 v0 rfl rfl) h0
  obtain ⟨l, hl⟩ := sl_open (hval 1 26 v1 rfl rfl) h1
  have k2 := h2
  obtain ⟨r, rfl, rfl, rfl, wr⟩ := open_int Try.underlying5 (hval 2 5 v2 rfl rfl) h2
  have hb := u8_wf wr
  clear hA0 hval0
  refine (back_any x y z v1 l r W hb.1 hb.2 hl).mono fun e W' ⟨he, bel⟩ => ?_
  subst he
  exact ⟨_, rfl, _, _, _, [], _, [], hW', trodAll_mk1 (shut_bool Try.underlying4 _), trodAll_mk3 (Below.trod laidOut9 (by kernel_rfl) (of_decide_eq_true (by kernel_rfl)) h0 bel (trod_lt h0)) (Below.trod laidOut9 (by kernel_rfl) (of_decide_eq_true (by kernel_rfl)) h1 bel (trod_lt h1)) (shut_int Try.underlying5 wr), rfl, bel.frame _, fun h => by cases h⟩

theorem back_holds : Rows.PredictBackSaid :=
  OpenClaim.holds_of_wide 6 Try.f6 rfl rfl rfl rfl rfl rfl rfl ⟨rfl, rfl, rfl, rfl, rfl⟩ rfl rfl rfl rfl rfl (by kernel_rfl) Try.func6 (by kernel_rfl)
    (of_decide_eq_true (by kernel_rfl)) (by unfold Func.isWrapper; first | (rw [if_pos (by decide +kernel)]; kernel_rfl) | (rw [if_neg (by decide +kernel)]; exact ⟨rfl, rfl⟩))
    (fun os started H enc _ => back_lifted os started H enc)
#print axioms back_holds
end Go.Proofs.Ytmlaakadjkmphaa
