/-
  predict.Encode, rows of one way to tag: what comes out is what the plain law says. Conditions: lengths.
-/
import Derived.Test.YtmlaakadjkmphaaEncA
namespace Go.Proofs.Ytmlaakadjkmphaa
open Go.RowKit
set_option linter.unusedVariables false


set_option maxHeartbeats 1600000 in
theorem enc_rowsC (p : Int) (c m N : Nat) (v : Value) (l : List UInt8) (w : World) (h : mayB p c m = true) (hp : ¬ p = 1) (HN : Hid (N = c * m)) (h10 : 10 ≤ p) (h15 : ¬ p = 15) (hv : Sl w v l) (hl : l.length ≤ 20000) (hm : l.length % N = 0) :
    Calls Try.prog 13 #[.agg #[.int .i64 p, .int .i64 c, .int .i64 m], v] w (EncPost p c m l w) := by
  have hN := HN.out
  obtain ⟨R, hR⟩ : ∃ R, R = l.length / N := ⟨_, rfl⟩
  have hd := encode_rows (N := N) h hp (by simpa using hN) hm
  rw [show decide (10 ≤ p) = true from decide_eq_true (by omega), show tagOf p = p - 10 from by unfold tagOf; rw [if_neg h15, if_pos h10], ← hR, show (c : Int).toNat = c by simp] at hd
  have HD := hid hd
  have HR := hid hR
  obtain ⟨b1, b2, b3, b4, b5⟩ := may_bounds h
  have hcm := cm_bounds (c := c) (m := m) (by omega) (by omega) (by omega) (by omega)
  have hcm' : (c : Int) * (m : Int) = (N : Int) := by rw [hN]; simp
  have hp1 : (p == 1) = false := by simpa using hp
  have hN1 : 1 ≤ N := by omega
  have hN2 : N ≤ 16384 := by omega
  have hR2 : R ≤ 20000 := by rw [hR]; exact Nat.le_trans (Nat.div_le_self _ _) hl
  have hdm : decide (l.length % N = 0) = true := by simpa using hm
  have HDM := hid hdm
  have hp15 : (p == 15) = false := by simpa using h15
  have hT0 : 0 ≤ p - 10 := by omega
  have hT4 : p - 10 ≤ 4 := by omega
  clear hm hcm hN hp hdm hR hd
  go_enter Try.func13, Try.ntmps13
  go_wp2_with (first
      | (go_at_call 14; refine (may_any p c m _).mono ?_; rintro e w' ⟨rfl, hb⟩; rw [h]; obtain ⟨e0, e1, e2, hb⟩ := box3 hb)
      | (go_at_call 18; refine (parts_any v l N _ (hv.up (by assumption)) hl (by omega) (by omega)).mono ?_; rintro e w1 ⟨u, rfl, hrows, hb1⟩; rw [HDM.out]; obtain ⟨au, cu, rfl, hrow⟩ := hrows.open; rw [rowsOf_length, ← HR.out]; have f0 : w1.cell? ⟨w.heap.size, 0, none⟩ = some (.int .i64 p) := (by rw [hb1.cell (World.block_lt_of_cell? _ _ e0)]; exact e0); have f1 : w1.cell? ⟨w.heap.size, 1, none⟩ = some (.int .i64 c) := (by rw [hb1.cell (World.block_lt_of_cell? _ _ e1)]; exact e1)))
  have hbw : Below w.heap.size w w1 := hb.trans (hb1.mono hb.size)
  clear e0 e1 e2 hrows
  go_loopw [48, 9, 10] (fun vr vo va wr => ∃ r : Nat, r ≤ R ∧ vr = .int .i64 r ∧ OwnB wr w1.heap.size 5 vo (encTo true (p - 10) c N l r) ∧ (encTo true (p - 10) c N l r).length ≤ r * (N + 1) ∧ Sl w' va (if r = 0 then [] else rowAt l N (r - 1)) ∧ Below w1.heap.size w1 wr) (fun vr _ _ _ => R - (intOf vr).toNat)
  case atStart => exact ⟨0, by omega, rfl, OwnB.nil _ _ _, by simp [encTo], Sl.nil _, Below.refl _ _⟩
  case round =>
    obtain ⟨r, hr, rfl, hown, hol, hah, hbel⟩ := hrel
    obtain ⟨wo, rfl⟩ : ∃ wo : World, wo = wr := ⟨_, rfl⟩
    by_cases hlt : r < R
    · obtain ⟨g, x, rfl, hg, hcell, hx⟩ := hrow r (by rw [rowsOf_length, ← HR.out]; exact hlt)
      rw [rowsOf_get] at hx
      have hrl : (r + 1) * N ≤ l.length := rows_le hN1 HR.out hlt
      have hxl : (rowAt l N r).length = N := rowAt_length hrl
      have hx0 := hx
      obtain ⟨ax, cx, hxe, x1, x2, x3, x4⟩ := hx0
      rw [hxl] at hxe
      subst hxe
      obtain ⟨bx, ox, rfl, hxs, hxc⟩ := x4.some (by omega)
      have hstep : encTo true (p - 10) c N l (r + 1) = encTo true (p - 10) c N l r ++ [byteOf (p - 10)] ++ doTo (p - 10) c (if r = 0 then [] else rowAt l N (r - 1)) (rowAt l N r) N := by simp [encTo]
      have HSTEP := hid hstep
      obtain ⟨above, hab⟩ : ∃ above, above = (if r = 0 then [] else rowAt l N (r - 1)) := ⟨_, rfl⟩
      obtain ⟨xd, hxd⟩ : ∃ xd, xd = rowAt l N r := ⟨_, rfl⟩
      have hal : above = [] ∨ above.length = N := by
        rw [hab]
        by_cases q : r = 0
        · left; rw [if_pos q]
        · right; rw [if_neg q]; exact rowAt_length (Nat.le_trans (Nat.mul_le_mul_right N (by omega)) hrl)
      rw [← hab, ← hxd] at HSTEP
      rw [← hab] at hah
      rw [← hxd] at hxl x4 hxc hx
      have HXD := hid hxd
      have hol2 : (encTo true (p - 10) c N l r).length ≤ 40000 := by
        have q1 : r * (N + 1) ≤ r * (2 * N) := Nat.mul_le_mul_left r (by omega)
        have q2 : r * (2 * N) = 2 * (r * N) := by rw [Nat.mul_left_comm]
        have q3 : r * N ≤ (r + 1) * N := Nat.mul_le_mul_right N (by omega)
        omega
      clear hab hxd hstep
      obtain ⟨aa, ca, rfl, ha1, ha2, ha3, ha4⟩ := hah
      have hW : Below w'.heap.size w' wo := hb1.trans (hbel.mono hb1.size)
      have f20 : wo.cell? ⟨w.heap.size, 0, none⟩ = some (.int .i64 p) := by rw [hbel.cell (World.block_lt_of_cell? _ _ f0)]; exact f0
      have f2 : wo.cell? ⟨w.heap.size, 1, none⟩ = some (.int .i64 c) := by rw [hbel.cell (World.block_lt_of_cell? _ _ f1)]; exact f1
      have f3 : wo.cell? ⟨g, r, none⟩ = some (.slice (some ⟨bx, ox, none⟩) N cx) := by rw [hbel.cell (World.block_lt_of_cell? _ _ hcell)]; exact hcell
      have HXL := hid hxl
      have HB0 := hid hW
      clear hcell hrow hxs hxl
      obtain ⟨E, hE⟩ : ∃ E, E = encTo true (p - 10) c N l r := ⟨_, rfl⟩
      rw [← hE] at hown hol2 hol HSTEP
      clear hE
      go_wp2_with (at_builtin; refine wpList_append_bytes by26 rfl _ _ rfl w1.heap.size u9 E [UInt8.ofNat ((p - 10 : Int)).toNat] rfl (hown.alloc _) _ _ _ rfl rfl (fun q => by cases q) (Rd.one _ (p - 10) _ (by omega) (by omega)) (by simp; omega) (by have := hbel.size; simp; omega) ?_; rintro v5 w5 hown5 hg5 -; rw [tag_one _ (by omega) (by omega)] at hown5; have hbel5 := below_append (hbel.alloc hbel.size _) (hown.alloc _) hg5 (Nat.le_refl _) (by have := hbel.size; simp; omega); have f21 : w5.cell? ⟨w.heap.size, 1, none⟩ = some (.int .i64 c) := (by rw [hbel5.cell (World.block_lt_of_cell? _ _ f1)]; exact f1))
      go_loopw [62, 9] (fun vk vo wr => ∃ k : Nat, k ≤ N ∧ vk = .int .i64 k ∧ OwnB wr w1.heap.size 5 vo ((E ++ [byteOf (p - 10)]) ++ doTo (p - 10) c above xd k) ∧ Below w1.heap.size w1 wr) (fun vk _ _ => N - (intOf vk).toNat)
      case atStart => exact ⟨0, by omega, rfl, by rw [show doTo (p - 10) c above xd 0 = [] from rfl, List.append_nil]; exact hown5, hbel5⟩
      case round =>
        obtain ⟨k, hk, rfl, hown3, hbel3⟩ := hrel
        have hkl := doTo_length (p - 10) c above xd k
        have hlen3 : ((E ++ [byteOf (p - 10)]) ++ doTo (p - 10) c above xd k).length ≤ 80000 := by
          simp only [List.length_append, hkl, List.length_cons, List.length_nil]; omega
        have HKL := hid hkl
        clear hkl
        by_cases hkn : k < N
        · have hk3 := hxc k (by rw [HXL.out]; exact hkn)
          have hW3 : Below w'.heap.size w' wr := hb1.trans (hbel3.mono hb1.size)
          have f5 : wr.cell? ⟨bx, ox + k, none⟩ = some (.int .u8 (b8 xd k)) := by rw [hW3.cell (World.block_lt_of_cell? _ _ hk3)]; exact hk3
          have f6 : wr.cell? ⟨w.heap.size, 1, none⟩ = some (.int .i64 c) := by rw [hbel3.cell (World.block_lt_of_cell? _ _ f1)]; exact f1
          have g0 := guessI_ge (p - 10) (lfI xd k c) (b8 above k) (lfI above k c) (lfI_ge _ _ _) (b8_ge _ _) (lfI_ge _ _ _)
          have g1 := guessI_le (p - 10) (lfI xd k c) (b8 above k) (lfI above k c) (lfI_le _ _ _) (b8_le _ _) (lfI_le _ _ _)
          have x0 := b8_ge xd k
          have x1 := b8_le xd k
          have HXC := hid hxc
          clear hk3 hxc
          go_wp2_with (first
            | (go_at_call 19; refine (at_any' (some ⟨bx, ox, none⟩) aa N above.length cx ca xd above k c _ HXL.out.symm rfl (x4.up hW3) (ha4.up hW3) hkn hal (by omega) (by omega) (by omega)).mono ?_; rintro e w4 ⟨rfl, hb4⟩)
            | (go_at_call 20; refine (guess_any (p - 10) _ _ _ _ (by omega) (by omega) (lfI_ge _ _ _) (lfI_le _ _ _) (b8_ge _ _) (b8_le _ _) (lfI_ge _ _ _) (lfI_le _ _ _)).mono ?_; rintro e w6 ⟨rfl, hb6⟩; have hbel6 := below_then (below_then hbel3 hb4) hb6)
            | (at_builtin; refine wpList_append_bytes by26 rfl _ _ rfl w1.heap.size u9 ((E ++ [byteOf (p - 10)]) ++ doTo (p - 10) c above xd k) [do1 (p - 10) c above xd k] rfl (((hown3.up hb4).up hb6).alloc _) _ _ _ rfl rfl (fun q => by cases q) (Rd.one _ _ _ (Int.emod_nonneg _ (by decide)) (by have := Int.emod_lt_of_pos (b8 xd k - guessI (p - 10) (lfI xd k c) (b8 above k) (lfI above k c)) (show (0 : Int) < 256 by decide); omega)) (by simp only [List.length_cons, List.length_nil]; omega) (by have := hbel6.size; simp; omega) ?_; rintro v7 w7 hown7 hg7 -; have hbel7 := below_append (hbel6.alloc hbel6.size _) (((hown3.up hb4).up hb6).alloc _) hg7 (Nat.le_refl _) (by have := hbel6.size; simp; omega)))
          refine ⟨⟨k + 1, by omega, by go_num, ?_, hbel7⟩, by simp [intOf]; omega⟩
          rw [List.append_assoc] at hown7
          exact hown7
        · obtain rfl : k = N := by omega
          go_wp2
          refine ⟨⟨r + 1, by omega, by go_num, ?_, ?_, ?_, hbel3⟩, by simp [intOf]; omega⟩
          · rw [HSTEP.out]; exact hown3
          · rw [HSTEP.out]
            simp only [List.length_append, HKL.out, List.length_cons, List.length_nil, Nat.succ_mul]; omega
          · rw [if_neg (by omega), Nat.add_sub_cancel, ← HXD.out]; exact hx
    · obtain rfl : r = R := by omega
      go_wp2
      go_ret2
      exact encpost_of HD.out rfl (hown.mono hbw.size) (hbw.trans (hbel.mono hbw.size))
end Go.Proofs.Ytmlaakadjkmphaa
