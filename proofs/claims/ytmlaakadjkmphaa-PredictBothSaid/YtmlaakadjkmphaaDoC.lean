/-
  The reference Do, rows of one way to tag: it answers what the plain law says. Conditions: lengths.
-/
import Derived.Test.YtmlaakadjkmphaaDoA
namespace Go.Proofs.Ytmlaakadjkmphaa
open Go.RowKit
set_option linter.unusedVariables false

set_option maxHeartbeats 3200000 in
theorem do_rowsC (p : Int) (c m N : Nat) (v : Value) (l : List UInt8) (w : World) (h : mayB p c m = true) (hp : ¬ p = 1) (HN : Hid (N = c * m)) (h10 : 10 ≤ p) (h15 : ¬ p = 15) (hv : Sl w v l) (hl : l.length ≤ 19000) (hm : l.length % N = 0) :
    Calls Try.prog 16 #[.agg #[.int .i64 p, .int .i64 c, .int .i64 m], v] w (DoPost p c m l w) := by
  have hN := HN.out
  obtain ⟨R, hR⟩ : ∃ R, R = l.length / N := ⟨_, rfl⟩
  have hd := encode_rows (N := N) h hp (by simpa using hN) hm
  rw [show decide (10 ≤ p) = true from decide_eq_true (by omega), show tagOf p = p - 10 from by unfold tagOf; rw [if_neg h15, if_pos h10], ← hR, show (c : Int).toNat = c by simp] at hd
  have HD := hid hd
  have hRM : R * N = l.length := by rw [hR]; exact Nat.div_mul_cancel (Nat.dvd_of_mod_eq_zero hm)
  have HRM := hid hRM
  obtain ⟨b1, b2, b3, b4, b5⟩ := may_bounds h
  have hcm := cm_bounds (c := c) (m := m) (by omega) (by omega) (by omega) (by omega)
  have hcm' : (c : Int) * (m : Int) = (N : Int) := by rw [hN]; simp
  have hp1 : (p == 1) = false := by simpa using hp
  have hN1 : 1 ≤ N := by omega
  have hN2 : N ≤ 16384 := by omega
  have hmz : ((l.length : Int) % (N : Int) != 0) = false := by
    have : (l.length : Int) % (N : Int) = 0 := by omega
    rw [this]; rfl
  have hp15 : (p == 15) = false := by simpa using h15
  have hp2 : (p == 2) = false := by simp; omega
  have hT0 : 0 ≤ p - 10 := by omega
  have hT4 : p - 10 ≤ 4 := by omega
  obtain ⟨al, cl, rfl, l1, l2, l3, l4⟩ := hv
  clear hm hcm hN hp hR hd hRM
  go_enter Try.func16, Try.ntmps16
  go_wp2_with (go_at_call 17; refine (rmay_any p c m _).mono ?_; rintro e w1 ⟨rfl, hb⟩; rw [h]; obtain ⟨e0, e1, e2, hb⟩ := box3 hb)
  clear hmz
  go_loopw [9, 8] (fun vi vo wr => ∃ i : Nat, i ≤ l.length ∧ vi = .int .i64 i ∧ ∃ r k, k < N ∧ i = r * N + k ∧ OwnB wr w1.heap.size 5 vo (if k = 0 then encTo true (p - 10) c N l r else doMid true (p - 10) c N l r k) ∧ Below w1.heap.size w1 wr) (fun vi _ _ => l.length - (intOf vi).toNat)
  case atStart => exact ⟨0, by omega, rfl, 0, 0, by omega, by simp, by rw [if_pos rfl]; exact OwnB.nil _ _ _, Below.refl _ _⟩
  case round =>
    obtain ⟨i, hi, rfl, r, k, hkn, hirk, hown, hbel⟩ := hrel
    have HI := hid hirk
    by_cases hlt : i < l.length
    · obtain ⟨bl, ol, rfl, hls, hlc⟩ := l4.some (by omega)
      have hc0 := hlc i hlt
      have hrR : r < R := by
        rcases Nat.lt_or_ge r R with hx | hx
        · exact hx
        · have q1 : R * N ≤ r * N := Nat.mul_le_mul_right N hx
          have := HRM.out; omega
      have hql : (r + 1) * N ≤ l.length := by rw [← HRM.out]; exact Nat.mul_le_mul_right N hrR
      have hmk : (i : Int) % (N : Int) = (k : Int) := by rw [hirk]; exact at_mod hkn
      have henc := encTo_length_le true (p - 10) c N l hN1 r
      clear hlc hirk
      by_cases hk0 : k = 0
      · have hmk0 : ((k : Int) == 0) = true := by simp [hk0]
        rw [if_pos hk0] at hown
        have HEL := hid (show (doMid true (p - 10) c N l r k).length ≤ (r + 1) * (N + 1) from doMid_length _ _ _ _ _ _ _ hN1 (by omega) henc)
        obtain ⟨E, hE⟩ : ∃ E, E = doMid true (p - 10) c N l r k := ⟨_, rfl⟩
        rw [← hE] at HEL
        have HE := hid hE
        have HROW := hid (show ∀ j, j < k → b8 l (r * N + j) = b8 (rowAt l N r) j from fun j hj => (b8_rowAt (by omega) hql).symm)
        have HABV := hid (show 0 < r → ∀ j, j < N → b8 l ((r - 1) * N + j) = b8 (if r = 0 then [] else rowAt l N (r - 1)) j from fun h0 j hj => by
          rw [if_neg (by omega), b8_rowAt hj (Nat.le_trans (Nat.mul_le_mul_right N (by omega)) hql)])
        have HAB0 := hid (show r = 0 → (if r = 0 then [] else rowAt l N (r - 1)) = [] from fun h0 => if_pos h0)
        obtain ⟨above, hab⟩ : ∃ above, above = (if r = 0 then [] else rowAt l N (r - 1)) := ⟨_, rfl⟩
        obtain ⟨row, hro⟩ : ∃ row, row = rowAt l N r := ⟨_, rfl⟩
        rw [← hab] at HABV HAB0
        rw [← hro] at HROW
        have HAB := hid hab
        have HRO := hid hro
        have xk : b8 l (r * N + k) = b8 row k := by rw [hro, b8_rowAt hkn hql]
        have g0 := guessI_ge (p - 10) (lfI row k c) (b8 above k) (lfI above k c) (lfI_ge _ _ _) (b8_ge _ _) (lfI_ge _ _ _)
        have g1 := guessI_le (p - 10) (lfI row k c) (b8 above k) (lfI above k c) (lfI_le _ _ _) (b8_le _ _) (lfI_le _ _ _)
        have f0 : wr.cell? ⟨w.heap.size, 0, none⟩ = some (.int .i64 p) := by rw [hbel.cell (World.block_lt_of_cell? _ _ e0)]; exact e0
        have f1 : wr.cell? ⟨w.heap.size, 1, none⟩ = some (.int .i64 c) := by rw [hbel.cell (World.block_lt_of_cell? _ _ e1)]; exact e1
        have f2 : wr.cell? ⟨w.heap.size, 2, none⟩ = some (.int .i64 m) := by rw [hbel.cell (World.block_lt_of_cell? _ _ e2)]; exact e2
        have f6 : ∀ (W : World), Below w.heap.size w W → W.cell? ⟨bl, ol + i, none⟩ = some (.int .u8 (b8 row k)) := by
          intro W hW; rw [hW.cell hls, hc0, HI.out, xk]
        have HF6 := hid f6
        have HSL := hid (show Sl w (.slice (some ⟨bl, ol, none⟩) l.length cl) l from ⟨_, _, rfl, l1, l2, l3, l4⟩)
        have hle2 : E.length ≤ 100000 := by
          have q1 := HEL.out
          have q2 : (r + 1) * (N + 1) ≤ (r + 1) * (2 * N) := Nat.mul_le_mul_left _ (by omega)
          have q3 : (r + 1) * (2 * N) = 2 * ((r + 1) * N) := by rw [Nat.mul_left_comm]
          omega
        have hil : (i : Int) < (l.length : Int) := by omega
        have hEq : encTo true (p - 10) c N l r ++ [byteOf (p - 10)] = E := by rw [hE, hk0]; simp [doMid, doTo]
        obtain ⟨E0, hE0⟩ : ∃ E0, E0 = encTo true (p - 10) c N l r := ⟨_, rfl⟩
        rw [← hE0] at hown hEq
        have HEQ := hid hEq
        have hE0l : E0.length ≤ 100000 := by
          have : (E0 ++ [byteOf (p - 10)]).length = E.length := by rw [hEq]
          simp at this; omega
        clear f6 hc0 xk hab hro hE0 hEq hE henc hk0
        go_wp2_with (first
          | (at_builtin; refine wpList_append_bytes by26 rfl _ _ rfl w1.heap.size u8 E0 [UInt8.ofNat ((p - 10 : Int)).toNat] rfl (hown.alloc _) _ _ _ rfl rfl (fun q => by cases q) (Rd.one _ (p - 10) _ (by omega) (by omega)) (by simp; omega) (by have := hbel.size; simp; omega) ?_; rintro v5 w5 hown5 hg5 -; rw [tag_one _ (by omega) (by omega), HEQ.out] at hown5; have hbel5 := below_append (hbel.alloc hbel.size _) (hown.alloc _) hg5 (Nat.le_refl _) (by have := hbel.size; simp; omega); have k0 := (hbel5.cell (World.block_lt_of_cell? _ _ e0)).trans e0; have k1 := (hbel5.cell (World.block_lt_of_cell? _ _ e1)).trans e1; have k2 := (hbel5.cell (World.block_lt_of_cell? _ _ e2)).trans e2)
          | (go_at_call 21; refine (near_at p c m N r k _ l row above _ (HSL.out.up (hb.trans (hbel5.mono hb.size))) HN (by omega) (by have := HI.out; omega) hkn (by omega) (by omega) (by omega) HROW.out HAB0.out HABV.out _ (by rw [HI.out])).mono ?_; rintro e w6 ⟨rfl, hb6⟩; have hb7 := below_then hbel5 hb6; have hown6 := hown5.up hb6; have f7 := HF6.out _ (hb.trans (hb7.mono hb.size))))
        have x0 := b8_ge row k
        have x1 := b8_le row k
        have hwu1 : IntKind.u8.wrap (guessI (p - 10) (lfI row k c) (b8 above k) (lfI above k c)) = guessI (p - 10) (lfI row k c) (b8 above k) (lfI above k c) := by rw [wrap8, Int.emod_eq_of_lt g0 (by omega)]
        have hwu2 : IntKind.u8.wrap (b8 row k - guessI (p - 10) (lfI row k c) (b8 above k) (lfI above k c)) = (b8 row k - guessI (p - 10) (lfI row k c) (b8 above k) (lfI above k c)) % 256 := wrap8 _
        go_region_held3 (fun w' => w'.cell? ⟨bl, ol + i, none⟩ = some (.int .u8 (b8 row k)))
          (first | go_keep | skip)
          (first
            | (refine step_append_bytes by26 (by rfl) _ _ (by rfl) w1.heap.size v5 E [do1 (p - 10) c above row k] (by rfl) (by first | exact (hown6.alloc _).drew | exact hown6.alloc _) _ _ _ (by rfl) (by rfl) (Rd.up (Rd.one w6 _ 5 (Int.emod_nonneg _ (by decide)) (by have := Int.emod_lt_of_pos (b8 row k - guessI (p - 10) (lfI row k c) (b8 above k) (lfI above k c)) (show (0 : Int) < 256 by decide); omega)) (by first | exact Below.refl _ _ | exact Below.drew (Below.refl _ _))) (by simp only [List.length_cons, List.length_nil]; omega) (by have := hb7.size; simp; omega) ?_; intro v8 w8 hown8 hold8 hg8 hm8; have hb8 := below_append ((hb7.alloc hb7.size _).drew) ((hown6.alloc _).drew) hg8 (Nat.le_refl _) (by have := hb7.size; simp; omega); have k8 := HF6.out _ (hb.trans (hb8.mono hb.size)))
            | (go_at_call 22; refine (rguess_any (p - 10) _ _ _ _ (by omega) (by omega) (lfI_ge _ _ _) (lfI_le _ _ _) (b8_ge _ _) (b8_le _ _) (lfI_ge _ _ _) (lfI_le _ _ _)).mono ?_; rintro e w7 ⟨rfl, rfl⟩))
        clear hwu1 hwu2 f7 k8 hg8 hm8 hold8
        go_wp2
        refine ⟨⟨i + 1, by omega, by go_num, ?_⟩, by simp [intOf]; omega⟩
        have hfin : OwnB w8 w1.heap.size 5 v8 (doMid true (p - 10) c N l r (k + 1)) := by
          rw [HE.out, HAB.out, HRO.out, doMid, List.append_assoc] at hown8
          exact hown8
        by_cases hk1 : k + 1 < N
        · exact ⟨r, k + 1, hk1, by rw [HI.out]; omega, by rw [if_neg (by omega)]; exact hfin, hb8⟩
        · refine ⟨r + 1, 0, by omega, by rw [HI.out, Nat.succ_mul]; omega, ?_, hb8⟩
          rw [if_pos rfl, ← doMid_full, show N = k + 1 by omega]
          rw [show N = k + 1 by omega] at hfin
          exact hfin
      · have hmk0 : ((k : Int) == 0) = false := by simp [hk0]
        rw [if_neg hk0] at hown
        have HEL := hid (show (doMid true (p - 10) c N l r k).length ≤ (r + 1) * (N + 1) from doMid_length _ _ _ _ _ _ _ hN1 (by omega) henc)
        obtain ⟨E, hE⟩ : ∃ E, E = doMid true (p - 10) c N l r k := ⟨_, rfl⟩
        rw [← hE] at HEL
        have HE := hid hE
        have HROW := hid (show ∀ j, j < k → b8 l (r * N + j) = b8 (rowAt l N r) j from fun j hj => (b8_rowAt (by omega) hql).symm)
        have HABV := hid (show 0 < r → ∀ j, j < N → b8 l ((r - 1) * N + j) = b8 (if r = 0 then [] else rowAt l N (r - 1)) j from fun h0 j hj => by
          rw [if_neg (by omega), b8_rowAt hj (Nat.le_trans (Nat.mul_le_mul_right N (by omega)) hql)])
        have HAB0 := hid (show r = 0 → (if r = 0 then [] else rowAt l N (r - 1)) = [] from fun h0 => if_pos h0)
        obtain ⟨above, hab⟩ : ∃ above, above = (if r = 0 then [] else rowAt l N (r - 1)) := ⟨_, rfl⟩
        obtain ⟨row, hro⟩ : ∃ row, row = rowAt l N r := ⟨_, rfl⟩
        rw [← hab] at HABV HAB0
        rw [← hro] at HROW
        have HAB := hid hab
        have HRO := hid hro
        have xk : b8 l (r * N + k) = b8 row k := by rw [hro, b8_rowAt hkn hql]
        have g0 := guessI_ge (p - 10) (lfI row k c) (b8 above k) (lfI above k c) (lfI_ge _ _ _) (b8_ge _ _) (lfI_ge _ _ _)
        have g1 := guessI_le (p - 10) (lfI row k c) (b8 above k) (lfI above k c) (lfI_le _ _ _) (b8_le _ _) (lfI_le _ _ _)
        have f0 : wr.cell? ⟨w.heap.size, 0, none⟩ = some (.int .i64 p) := by rw [hbel.cell (World.block_lt_of_cell? _ _ e0)]; exact e0
        have f1 : wr.cell? ⟨w.heap.size, 1, none⟩ = some (.int .i64 c) := by rw [hbel.cell (World.block_lt_of_cell? _ _ e1)]; exact e1
        have f2 : wr.cell? ⟨w.heap.size, 2, none⟩ = some (.int .i64 m) := by rw [hbel.cell (World.block_lt_of_cell? _ _ e2)]; exact e2
        have f6 : ∀ (W : World), Below w.heap.size w W → W.cell? ⟨bl, ol + i, none⟩ = some (.int .u8 (b8 row k)) := by
          intro W hW; rw [hW.cell hls, hc0, HI.out, xk]
        have HF6 := hid f6
        have HSL := hid (show Sl w (.slice (some ⟨bl, ol, none⟩) l.length cl) l from ⟨_, _, rfl, l1, l2, l3, l4⟩)
        have hle2 : E.length ≤ 100000 := by
          have q1 := HEL.out
          have q2 : (r + 1) * (N + 1) ≤ (r + 1) * (2 * N) := Nat.mul_le_mul_left _ (by omega)
          have q3 : (r + 1) * (2 * N) = 2 * ((r + 1) * N) := by rw [Nat.mul_left_comm]
          omega
        have hil : (i : Int) < (l.length : Int) := by omega
        rw [← hE] at hown
        clear f6 hc0 xk hab hro hE henc
        go_wp2_with (go_at_call 21; refine (near_at p c m N r k _ l row above _ (HSL.out.up (hb.trans (hbel.mono hb.size))) HN (by omega) (by have := HI.out; omega) hkn (by omega) (by omega) (by omega) HROW.out HAB0.out HABV.out _ (by rw [HI.out])).mono ?_; rintro e w6 ⟨rfl, hb6⟩; have hb7 := below_then hbel hb6; have hown6 := hown.up hb6; have f7 := HF6.out _ (hb.trans (hb7.mono hb.size)))
        have x0 := b8_ge row k
        have x1 := b8_le row k
        have hwu1 : IntKind.u8.wrap (guessI (p - 10) (lfI row k c) (b8 above k) (lfI above k c)) = guessI (p - 10) (lfI row k c) (b8 above k) (lfI above k c) := by rw [wrap8, Int.emod_eq_of_lt g0 (by omega)]
        have hwu2 : IntKind.u8.wrap (b8 row k - guessI (p - 10) (lfI row k c) (b8 above k) (lfI above k c)) = (b8 row k - guessI (p - 10) (lfI row k c) (b8 above k) (lfI above k c)) % 256 := wrap8 _
        go_region_held3 (fun w' => w'.cell? ⟨bl, ol + i, none⟩ = some (.int .u8 (b8 row k)))
          (first | go_keep | skip)
          (first
            | (refine step_append_bytes by26 (by rfl) _ _ (by rfl) w1.heap.size u8 E [do1 (p - 10) c above row k] (by rfl) (by first | exact (hown6.alloc _).drew | exact hown6.alloc _) _ _ _ (by rfl) (by rfl) (Rd.up (Rd.one w6 _ 5 (Int.emod_nonneg _ (by decide)) (by have := Int.emod_lt_of_pos (b8 row k - guessI (p - 10) (lfI row k c) (b8 above k) (lfI above k c)) (show (0 : Int) < 256 by decide); omega)) (by first | exact Below.refl _ _ | exact Below.drew (Below.refl _ _))) (by simp only [List.length_cons, List.length_nil]; omega) (by have := hb7.size; simp; omega) ?_; intro v8 w8 hown8 hold8 hg8 hm8; have hb8 := below_append ((hb7.alloc hb7.size _).drew) ((hown6.alloc _).drew) hg8 (Nat.le_refl _) (by have := hb7.size; simp; omega); have k8 := HF6.out _ (hb.trans (hb8.mono hb.size)))
            | (go_at_call 22; refine (rguess_any (p - 10) _ _ _ _ (by omega) (by omega) (lfI_ge _ _ _) (lfI_le _ _ _) (b8_ge _ _) (b8_le _ _) (lfI_ge _ _ _) (lfI_le _ _ _)).mono ?_; rintro e w7 ⟨rfl, rfl⟩))
        clear hwu1 hwu2 f7 k8 hg8 hm8 hold8
        go_wp2
        refine ⟨⟨i + 1, by omega, by go_num, ?_⟩, by simp [intOf]; omega⟩
        have hfin : OwnB w8 w1.heap.size 5 v8 (doMid true (p - 10) c N l r (k + 1)) := by
          rw [HE.out, HAB.out, HRO.out, doMid, List.append_assoc] at hown8
          exact hown8
        by_cases hk1 : k + 1 < N
        · exact ⟨r, k + 1, hk1, by rw [HI.out]; omega, by rw [if_neg (by omega)]; exact hfin, hb8⟩
        · refine ⟨r + 1, 0, by omega, by rw [HI.out, Nat.succ_mul]; omega, ?_, hb8⟩
          rw [if_pos rfl, ← doMid_full, show N = k + 1 by omega]
          rw [show N = k + 1 by omega] at hfin
          exact hfin
    · obtain rfl : i = l.length := by omega
      have hk0 : k = 0 ∧ r = R := by
        have h1 := HRM.out
        have h2 := HI.out
        rcases Nat.lt_or_ge r R with hx | hx
        · have : (r + 1) * N ≤ R * N := Nat.mul_le_mul_right N hx
          rw [Nat.succ_mul] at this; omega
        · rcases Nat.lt_or_ge R r with hy | hy
          · have : (R + 1) * N ≤ r * N := Nat.mul_le_mul_right N hy
            rw [Nat.succ_mul] at this; omega
          · have : r = R := by omega
            subst this; exact ⟨by omega, rfl⟩
      obtain ⟨hk0, hr0⟩ := hk0
      rw [if_pos hk0, hr0] at hown
      clear hk0 hr0
      go_wp2
      go_ret2
      exact dopost_of HD.out rfl (hown.mono hb.size) (hb.trans (hbel.mono hb.size))

end Go.Proofs.Ytmlaakadjkmphaa
