/-
  predict.Decode, rows without tags; and Decode whole: for whatever shape and bytes it answers what the plain law says. Conditions: lengths.
-/
import Derived.Test.YtmlaakadjkmphaaDecB
import Derived.Test.YtmlaakadjkmphaaShape
import Derived.Test.YtmlaakadjkmphaaMem2
namespace Go.Proofs.Ytmlaakadjkmphaa
open Go.RowKit
set_option linter.unusedVariables false

set_option maxHeartbeats 1000000 in
theorem dec_rows0 (p : Int) (c m N M : Nat) (v : Value) (l : List UInt8) (w : World) (h : mayB p c m = true) (hp : ¬ p = 1) (HN : Hid (N = c * m)) (HM : Hid (M = headOf p + N)) (hh : headOf p = 0) (hp10 : ¬ 10 ≤ p) (hv : Sl w v l) (hl : l.length ≤ 20000) (hm : l.length % M = 0) :
    Calls Try.prog 9 #[.agg #[.int .i64 p, .int .i64 c, .int .i64 m], v] w (DecPost p c m l w) := by
  have hN := HN.out
  have hM := HM.out
  obtain ⟨R, hR⟩ : ∃ R, R = l.length / M := ⟨_, rfl⟩
  have HD := hid (decode_rows (M := M) (N := N) h hp (by simpa using hN) hM hm (x := _) rfl)
  rw [hh, ← hR] at HD
  have HR := hid hR
  obtain ⟨b1, b2, b3, b4, b5⟩ := may_bounds h
  have hcm := cm_bounds (c := c) (m := m) (by omega) (by omega) (by omega) (by omega)
  have hcm' : (c : Int) * (m : Int) = (N : Int) := by rw [hN]; simp
  have hp1 : (p == 1) = false := by simpa using hp
  have hN1 : 1 ≤ N := by omega
  have hN2 : N ≤ 16384 := by omega
  have hR2 : R ≤ 20000 := by rw [hR]; exact Nat.le_trans (Nat.div_le_self _ _) hl
  have hdm : decide (l.length % M = 0) = true := by simpa using hm
  have HDM := hid hdm
  rw [hh] at hM
  have hsum : (0 : Int) + (N : Int) = (M : Int) := by omega
  have hMN : M = N := by omega
  have HMN := hid hMN
  have HS := hid hsum
  have hM1 : 1 ≤ M := by omega
  have hM2 : M ≤ 20001 := by omega
  clear hm hcm hN hp hdm hM hR hMN
  go_enter Try.func9, Try.ntmps9
  go_wp2_with (first
      | (go_at_call 14; refine (may_any p c m _).mono ?_; rintro e w' ⟨rfl, hb⟩; rw [h]; obtain ⟨e0, e1, e2, hb⟩ := box3 hb)
      | (go_at_call 18; refine (parts_any v l M _ (hv.up (by assumption)) hl (by omega) (by omega)).mono ?_; rintro e w1 ⟨u, rfl, hrows, hb1⟩; rw [HDM.out]; obtain ⟨au, cu, rfl, hrow⟩ := hrows.open; rw [rowsOf_length, ← HR.out]))
  have hbw : Below w.heap.size w w1 := hb.trans (hb1.mono hb.size)
  have f1 : w1.cell? ⟨w.heap.size, 1, none⟩ = some (.int .i64 c) := by rw [hb1.cell (World.block_lt_of_cell? _ _ e1)]; exact e1
  clear e0 e1 e2 hrows hsum
  go_loopw [46, 10, 11] (fun vr vo va wr => ∃ r : Nat, r ≤ R ∧ vr = .int .i64 r ∧ ∃ out above, decTo 0 c N l r = some (out, above) ∧ out.length = r * N ∧ OwnB wr w1.heap.size 5 vo out ∧ Ahead wr w1.heap.size N vo va above ∧ Below w1.heap.size w1 wr) (fun vr _ _ _ => R - (intOf vr).toNat)
  case atStart => exact ⟨0, by omega, rfl, [], [], rfl, by simp, OwnB.nil _ _ _, ⟨Sl.nil _, .inl rfl, fun g hg => by simp [Value.ownBlock] at hg⟩, Below.refl _ _⟩
  case round =>
    obtain ⟨r, hr, rfl, out, above, hdec, hol, hown, hahead, hbel⟩ := hrel
    obtain ⟨wo, rfl⟩ : ∃ wo : World, wo = wr := ⟨_, rfl⟩
    have HDEC := hid hdec
    have HOL := hid hol
    clear hdec hol
    by_cases hlt : r < R
    · obtain ⟨g, x, rfl, hg, hcell, hx⟩ := hrow r (by rw [rowsOf_length, ← HR.out]; exact hlt)
      rw [rowsOf_get] at hx
      have hrl : (r + 1) * M ≤ l.length := rows_le hM1 HR.out hlt
      have hxl : (rowAt l M r).length = M := rowAt_length hrl
      have hx0 := hx
      obtain ⟨ax, cx, hxe, x1, x2, x3, x4⟩ := hx0
      rw [hxl] at hxe
      subst hxe
      obtain ⟨bx, ox, rfl, hxs, hxc⟩ := x4.some (by omega)
      have hxc0 := hxc 0 (by omega)
      rw [Nat.add_zero] at hxc0
      have f2 : wo.cell? ⟨w.heap.size, 1, none⟩ = some (.int .i64 c) := by rw [hbel.cell (World.block_lt_of_cell? _ _ f1)]; exact f1
      have f3 : wo.cell? ⟨g, r, none⟩ = some (.slice (some ⟨bx, ox, none⟩) M cx) := by rw [hbel.cell (World.block_lt_of_cell? _ _ hcell)]; exact hcell
      have f4 : wo.cell? ⟨bx, ox, none⟩ = some (.int .u8 (b8 (rowAt l M r) 0)) := by rw [(hb1.trans (hbel.mono hb1.size)).cell (World.block_lt_of_cell? _ _ hxc0)]; exact hxc0
      have t0 := b8_ge (rowAt l M r) 0
      have t1 := b8_le (rowAt l M r) 0
      clear hxc hxc0 hcell hrow hxs
      have hdl : ((rowAt l M r).drop 0).length = N := by have := HMN.out; rw [List.length_drop, hxl]; omega
      obtain ⟨xd, hxd⟩ : ∃ xd, xd = (rowAt l M r).drop 0 := ⟨_, rfl⟩
      have hstep : decTo 0 c N l (r + 1) = some (out ++ undoTo 1 c above xd N, undoTo 1 c above xd N) := by
        have hM := HM.out
        rw [hh] at hM
        rw [hxd]
        subst hM
        exact decTo_step0 HDEC.out
      have HSTEP := hid hstep
      rw [← hxd] at hdl
      have HXD := hid hxd
      clear hstep hxd
      obtain ⟨hah1, hah2, hah3⟩ := hahead
      obtain ⟨aa, ca, rfl, ha1, ha2, ha3, ha4⟩ := hah1
      go_wp2_with (first
        | (at_make; refine wpList_make_bytes by26 rfl _ _ rfl wo.heap.size _ _ N rfl rfl (by omega) (Nat.le_refl _) ?_; rintro w2 hrow2 hbel2)
        | (refine wpList_slice_from by26 rfl _ _ rfl _ _ rfl hx _ _ rfl (by omega) (by rw [hxl]; omega) ?_; rintro v3 hv3; replace hv3 : Sl w' v3 xd := (by rw [HXD.out]; exact hv3); obtain ⟨as3, cs3, hve3, -, -, -, hrd3⟩ := hv3; rw [hdl] at hve3; subst hve3))
      go_loopw [64] (fun vk w3 => ∃ k : Nat, k ≤ N ∧ vk = .int .i64 k ∧ OwnB w3 wo.heap.size 5 (.slice (some ⟨wo.heap.size, 0, none⟩) N N) (mix (undoTo 1 c above xd k) N) ∧ w2.grownBy w3 (some wo.heap.size)) (fun vk _ => N - (intOf vk).toNat)
      case atStart => exact ⟨0, by omega, rfl, by rw [show undoTo 1 c above xd 0 = [] from rfl, mix_nil]; exact hrow2, World.grownBy.refl _ _⟩
      case round =>
        obtain ⟨k, hk, rfl, hrow3, hg3⟩ := hrel
        by_cases hkn : k < N
        · have hkl := undoTo_length 1 c above xd k
          have hmx : (mix (undoTo 1 c above xd k) N).length = N := mix_length (by rw [hkl]; omega)
          obtain ⟨bs, os, rfl, -, hsc⟩ := hrd3.some (by omega)
          have hk3 := hsc k (by omega)
          have hK : Below wo.heap.size wo wr := hbel2.grown hg3 hbel2.size (fun k h => by cases h; exact Nat.le_refl _)
          have hW : Below w'.heap.size w' wo := hb1.trans (hbel.mono hb1.size)
          have f5 : wr.cell? ⟨bs, os + k, none⟩ = some (.int .u8 (b8 xd k)) := by
            have q1 : wo.cell? ⟨bs, os + k, none⟩ = some (.int .u8 (b8 xd k)) := by rw [hW.cell (World.block_lt_of_cell? _ _ hk3)]; exact hk3
            rw [hK.cell (World.block_lt_of_cell? _ _ q1)]; exact q1
          have f6 : wr.cell? ⟨w.heap.size, 1, none⟩ = some (.int .i64 c) := by rw [hK.cell (World.block_lt_of_cell? _ _ f2)]; exact f2
          have g0 := guessI_ge 1 (lfI (undoTo 1 c above xd k) k c) (b8 above k) (lfI above k c) (lfI_ge _ _ _) (b8_ge _ _) (lfI_ge _ _ _)
          have g1 := guessI_le 1 (lfI (undoTo 1 c above xd k) k c) (b8 above k) (lfI above k c) (lfI_le _ _ _) (b8_le _ _) (lfI_le _ _ _)
          have x0 := b8_ge xd k
          have x1 := b8_le xd k
          have HMX := hid hmx
          have HKL := hid hkl
          have HDL := hid hdl
          clear hk3 hsc hmx hkl hdl
          go_wp2_with (first
            | (go_at_call 19; refine (at_any' (some ⟨wo.heap.size, 0, none⟩) aa N above.length N ca (mix (undoTo 1 c above xd k) N) above k c _ HMX.out.symm rfl (OwnB.rd hrow3) (ha4.up hK) hkn hah2 (by omega) (by omega) (by omega)).mono ?_; rintro e w4 ⟨rfl, hb4⟩; rw [lfI_mix HKL.out (by omega)])
            | (go_at_call 20; refine (guess_any 1 _ _ _ _ (by omega) (by omega) (lfI_ge _ _ _) (lfI_le _ _ _) (b8_ge _ _) (b8_le _ _) (lfI_ge _ _ _) (lfI_le _ _ _)).mono ?_; rintro e w5 ⟨rfl, hb5⟩; have f7 := OwnB.cell ((hrow3.up hb4).up hb5) HMX.out.symm k (by rw [HMX.out]; omega); have f8 := OwnB.free ((hrow3.up hb4).up hb5) HMX.out.symm k))
          refine ⟨⟨k + 1, by omega, by go_num, ?_, ?_⟩, by simp [intOf]; omega⟩
          · rw [← bv_byteOf]
            have q := OwnB.stored ((hrow3.up hb4).up hb5) HMX.out.symm k (undo1 1 c above xd (undoTo 1 c above xd k) k)
            have q2 := mix_set (n := N) (l := undoTo 1 c above xd k) (by rw [HKL.out]; exact hkn) (undo1 1 c above xd (undoTo 1 c above xd k) k)
            rw [HKL.out] at q2
            rw [q2] at q
            exact q
          · exact grownBy_trans (grownBy_trans (grownBy_trans hg3 (grownBy_below hb4 _)) (grownBy_below hb5 _)) (grownBy_setCell _ _ _)
        · obtain rfl : k = N := by omega
          have hkl := undoTo_length 1 c above xd k
          rw [mix_full hkl] at hrow3
          have hK : Below wo.heap.size wo wr := hbel2.grown hg3 hbel2.size (fun k h => by cases h; exact Nat.le_refl _)
          have hWO : wo.heap.size < wr.heap.size := by
            have := World.ownsRow.lt hrow3 wo.heap.size rfl; omega
          have hlo := World.ownsRow.lt hown
          have hob : out.length ≤ 20000 := by
            have q1 := HOL.out
            have q2 := HS.out
            have q3 : r * k ≤ r * M := Nat.mul_le_mul_left r (by omega)
            have q4 : r * M ≤ (r + 1) * M := Nat.mul_le_mul_right M (by omega)
            omega
          have HKL := hid hkl
          clear hkl
          go_wp2_with (at_builtin; refine wpList_append_bytes by26 rfl _ _ rfl w1.heap.size u10 out (undoTo 1 c above xd k) rfl (hown.up hK) _ _ _ rfl HKL.out.symm (fun q => by cases q) (OwnB.rd hrow3) (by rw [HKL.out]; omega) (by have := hbel.size; omega) ?_; rintro v6 w6 hown6 hg6 hmv6)
          have hrow6 : Sl w6 (.slice (some ⟨wo.heap.size, 0, none⟩) k k) (undoTo 1 c above xd k) := by
            refine (Sl.own hrow3).kept hg6 ?_
            by_cases hvo : u10.ownBlock = none
            · rw [hvo]; right; simp [Value.ownBlock]
            · obtain ⟨q, hq⟩ := Option.ne_none_iff_exists'.1 hvo
              have := hlo q hq
              rw [hq]; right; simp only [Value.ownBlock, ne_eq, Option.some.injEq]; omega
          refine ⟨⟨r + 1, by omega, by go_num, _, _, HSTEP.out, ?_, hown6, ⟨hrow6, .inr HKL.out, ?_⟩, ?_⟩, by simp [intOf]; omega⟩
          · rw [List.length_append, HKL.out, HOL.out, Nat.succ_mul]
          · intro g' hg'
            simp only [Value.ownBlock, Option.some.injEq] at hg'
            subst hg'
            refine ⟨?_, by have := hg6.size; omega⟩
            rcases hmv6 with hm | hm
            · rw [hm]; intro hq; have := hlo _ hq; omega
            · rw [hm]; simp only [ne_eq, Option.some.injEq]; omega
          · refine Below.grown (hbel.trans (hK.mono hbel.size)) hg6 (by have := hbel.size; omega) ?_
            intro q hq; exact (hlo q hq).1
    · obtain rfl : r = R := by omega
      go_wp2
      go_ret2
      have hdn := HD.out
      rw [show ((c : Int).toNat) = c by simp, HDEC.out] at hdn
      exact decpost_of (out := out) (er := 0) (by rw [hdn]; rfl) rfl (hown.mono hbw.size) (hbw.trans (hbel.mono hbw.size))
theorem decode_any (p c m : Int) (v : Value) (l : List UInt8) (w : World) (hv : Sl w v l) (hl : l.length ≤ 20000) :
    Calls Try.prog 9 #[.agg #[.int .i64 p, .int .i64 c, .int .i64 m], v] w (DecPost p c m l w) := by
  by_cases h : mayB p c m = true
  · obtain ⟨b1, b2, b3, b4, b5⟩ := may_bounds h
    by_cases hp : p = 1
    · subst hp; exact dec_plain c m v l w h hv hl
    · obtain ⟨c, rfl⟩ := Int.eq_ofNat_of_zero_le (show 0 ≤ c by omega)
      obtain ⟨m, rfl⟩ := Int.eq_ofNat_of_zero_le (show 0 ≤ m by omega)
      by_cases hm : l.length % (headOf p + c * m) = 0
      · rcases head_01 p with ⟨hh, hp10⟩ | ⟨hh, hp10⟩
        · exact dec_rows1 p c m (c * m) (headOf p + c * m) v l w h hp rfl rfl hh hp10 hv hl hm
        · exact dec_rows0 p c m (c * m) (headOf p + c * m) v l w h hp rfl rfl hh hp10 hv hl hm
      · exact dec_form p c m (c * m) (headOf p + c * m) v l w h hp rfl rfl hv hl hm
  · exact dec_arg p c m v l w (by simpa using h)
end Go.Proofs.Ytmlaakadjkmphaa
