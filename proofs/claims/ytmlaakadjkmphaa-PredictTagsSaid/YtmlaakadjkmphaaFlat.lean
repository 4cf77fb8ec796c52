/-
  PredictFlat: of rows that are alike, or of one colour, the differences are noughts behind the first: it returns true. No condition.
-/
import Derived.Test.YtmlaakadjkmphaaBack
import Derived.Test.YtmlaakadjkmphaaFlatLaw
namespace Go.Proofs.Ytmlaakadjkmphaa
open Go.ChangeShapes Go.WideShapes Go.ChangeAt Go.RowKit
set_option linter.unusedVariables false

def colOf (c0 c1 c2 c3 : Int) (k : Nat) : Int := if k = 0 then c0 else if k = 1 then c1 else if k = 2 then c2 else c3

theorem colOf_bd {c0 c1 c2 c3 : Int} (hc0 : 0 ≤ c0) (hc0' : c0 ≤ 255) (hc1 : 0 ≤ c1) (hc1' : c1 ≤ 255) (hc2 : 0 ≤ c2) (hc2' : c2 ≤ 255) (hc3 : 0 ≤ c3) (hc3' : c3 ≤ 255) (k : Nat) : 0 ≤ colOf c0 c1 c2 c3 k ∧ colOf c0 c1 c2 c3 k ≤ 255 := by
  unfold colOf; repeat' split
  all_goals omega
theorem b8_set_same {l : List UInt8} {i : Nat} {x : UInt8} (h : i < l.length) : b8 (l.set i x) i = x.toNat := by simp [b8, List.getD, h]
theorem b8_set_other {l : List UInt8} {i j : Nat} {x : UInt8} (h : j ≠ i) : b8 (l.set i x) j = b8 l j := by simp [b8, List.getD, Ne.symm h]

theorem cell_up {B : Nat} {a W : World} (h : Below B a W) {p : Addr} {v : Value} (hc : a.cell? p = some v) (hp : p.block < B) : W.cell? p = some v := by rw [h.cell hp]; exact hc
theorem cell_up' {a W : World} (h : Below a.heap.size a W) {p : Addr} {v : Value} (hc : a.cell? p = some v) : W.cell? p = some v := cell_up h hc (World.block_lt_of_cell? _ _ hc)

set_option maxRecDepth 100000 in
set_option maxHeartbeats 4000000 in
theorem flat_any (n0 n1 n2 c0 c1 c2 c3 : Int) (C M K N : Nat) (w : World) (hn0 : 0 ≤ n0) (hn0' : n0 ≤ 255) (hn1 : 0 ≤ n1) (hn1' : n1 ≤ 255) (hn2 : 0 ≤ n2) (hn2' : n2 ≤ 255)
    (hc0 : 0 ≤ c0) (hc0' : c0 ≤ 255) (hc1 : 0 ≤ c1) (hc1' : c1 ≤ 255) (hc2 : 0 ≤ c2) (hc2' : c2 ≤ 255) (hc3 : 0 ≤ c3) (hc3' : c3 ≤ 255)
    (hC : 1 + n0 % 4 = (C : Int)) (hM : 1 + n1 % 50 = (M : Int)) (hK : 1 + n2 % 9 = (K : Int)) (HN : Hid (N = C * M)) :
    Calls Try.prog 7 #[.agg #[.int .u8 n0, .int .u8 n1, .int .u8 n2], .agg #[.int .u8 c0, .int .u8 c1, .int .u8 c2, .int .u8 c3]] w fun e w' => e = .returned (.bool true) ∧ Below w.heap.size w w' := by
  have hC1 : 1 ≤ C := by omega
  have hC4 : C ≤ 4 := by omega
  have hM1 : 1 ≤ M := by omega
  have hM4 : M ≤ 50 := by omega
  have hK1 : 1 ≤ K := by omega
  have hK4 : K ≤ 9 := by omega
  have hN1 : 1 ≤ N := by rw [HN.out]; exact Nat.mul_pos hC1 hM1
  have hN4 : N ≤ 200 := by rw [HN.out]; exact Nat.mul_le_mul hC4 hM4
  have hcm : (C : Int) * (M : Int) = (N : Int) := by rw [HN.out]; simp
  obtain ⟨Z, hZ⟩ : ∃ Z, Z = N * K := ⟨_, rfl⟩
  have hZ4 : Z ≤ 1800 := by rw [hZ]; exact Nat.mul_le_mul hN4 hK4
  have hz : (N : Int) * (K : Int) = (Z : Int) := by rw [hZ]; simp
  have HZ := hid hZ
  clear hZ
  go_enter Try.func7, Try.ntmps7
  go_wp2_with (first
      | (go_at_call 8; refine (awake_any _).mono ?_; rintro e w1 ⟨rfl, hb⟩; have a0 := cell_up hb (p := ⟨w.heap.size, 0, none⟩) (v := .int .u8 n0) (by rw [World.cell?_alloc_past _ _ _ (by simp), World.cell?_alloc_at _ _ _ _ rfl]; rfl) (by simp; omega); have a1 := cell_up hb (p := ⟨w.heap.size, 1, none⟩) (v := .int .u8 n1) (by rw [World.cell?_alloc_past _ _ _ (by simp), World.cell?_alloc_at _ _ _ _ rfl]; rfl) (by simp; omega); have a2 := cell_up hb (p := ⟨w.heap.size, 2, none⟩) (v := .int .u8 n2) (by rw [World.cell?_alloc_past _ _ _ (by simp), World.cell?_alloc_at _ _ _ _ rfl]; rfl) (by simp; omega); have b0 := cell_up hb (p := ⟨w.heap.size + 1, 0, none⟩) (v := .int .u8 c0) (by rw [World.cell?_alloc_at _ _ _ _ (by simp)]; rfl) (by simp); have b1 := cell_up hb (p := ⟨w.heap.size + 1, 1, none⟩) (v := .int .u8 c1) (by rw [World.cell?_alloc_at _ _ _ _ (by simp)]; rfl) (by simp); have b2 := cell_up hb (p := ⟨w.heap.size + 1, 2, none⟩) (v := .int .u8 c2) (by rw [World.cell?_alloc_at _ _ _ _ (by simp)]; rfl) (by simp); have b3 := cell_up hb (p := ⟨w.heap.size + 1, 3, none⟩) (v := .int .u8 c3) (by rw [World.cell?_alloc_at _ _ _ _ (by simp)]; rfl) (by simp); have hb1 : Below w.heap.size w w1 := below_then (below_then (Below.alloc (Below.refl _ _) (Nat.le_refl _) _) (Below.alloc (Below.refl _ _) (Nat.le_refl _) _)) hb; have z0 : w.heap.size + 1 < w1.heap.size := (by have := hb.size; simp at this; omega); have z1 : w.heap.size < w1.heap.size := (by omega); clear hb)
      | (at_make; refine wpList_make_bytes by26 rfl _ _ rfl w1.heap.size _ _ Z rfl rfl (by omega) (by simp; omega) ?_; rintro w3 hrow3 hbel3))
  have s0 := cell_up' hbel3 (p := ⟨w1.heap.size, 0, none⟩) (v := .int .i64 12) (by rw [World.cell?_alloc_past _ _ _ (by simp), World.cell?_alloc_at _ _ _ _ rfl]; rfl)
  have s1 := cell_up' hbel3 (p := ⟨w1.heap.size, 1, none⟩) (v := .int .i64 C) (by rw [World.cell?_alloc_past _ _ _ (by simp), World.cell?_alloc_at _ _ _ _ rfl]; rfl)
  have s2 := cell_up' hbel3 (p := ⟨w1.heap.size, 2, none⟩) (v := .int .i64 M) (by rw [World.cell?_alloc_past _ _ _ (by simp), World.cell?_alloc_at _ _ _ _ rfl]; rfl)
  have t0 := cell_up' hbel3 (p := ⟨w1.heap.size + 1, 0, none⟩) (v := .int .i64 11) (by rw [World.cell?_alloc_at _ _ _ _ (by simp)]; rfl)
  have t1 := cell_up' hbel3 (p := ⟨w1.heap.size + 1, 1, none⟩) (v := .int .i64 C) (by rw [World.cell?_alloc_at _ _ _ _ (by simp)]; rfl)
  have t2 := cell_up' hbel3 (p := ⟨w1.heap.size + 1, 2, none⟩) (v := .int .i64 M) (by rw [World.cell?_alloc_at _ _ _ _ (by simp)]; rfl)
  have hW3 : Below w.heap.size w w3 := hb1.trans ((below_then (below_then (Below.alloc (Below.refl _ _) (Nat.le_refl _) _) (Below.alloc (Below.refl _ _) (Nat.le_refl _) _)) hbel3).mono hb1.size)
  have hB3 : Below w1.heap.size w1 w3 := below_then (below_then (Below.alloc (Below.refl _ _) (Nat.le_refl _) _) (Below.alloc (Below.refl _ _) (Nat.le_refl _) _)) hbel3
  have hcol : ∀ k, k < 4 → w3.cell? ⟨w.heap.size + 1, k, none⟩ = some (.int .u8 (colOf c0 c1 c2 c3 k)) := by
    intro k hk
    have : k = 0 ∨ k = 1 ∨ k = 2 ∨ k = 3 := by omega
    rcases this with rfl | rfl | rfl | rfl
    · exact cell_up' hB3 b0
    · exact cell_up' hB3 b1
    · exact cell_up' hB3 b2
    · exact cell_up' hB3 b3
  have HCOL := hid hcol
  obtain ⟨G, hG⟩ : ∃ G, G = w1.heap.size + 1 + 1 := ⟨_, rfl⟩
  have HG := hid hG
  rw [show (((w1.alloc (Obj.cells #[Value.int IntKind.i64 12, Value.int IntKind.i64 ↑C, Value.int IntKind.i64 ↑M] 30)).alloc (Obj.cells #[Value.int IntKind.i64 11, Value.int IntKind.i64 ↑C, Value.int IntKind.i64 ↑M] 30)).heap.size) = G by rw [hG]; simp] at hrow3
  have hG3 : G < w3.heap.size := (World.ownsRow.lt hrow3 G rfl).2
  rw [← hG]
  clear hcol a0 a1 a2 b0 b1 b2 b3 hG hbel3
  go_loopw [10] (fun vi wr => ∃ i : Nat, i ≤ Z ∧ vi = .int .i64 i ∧ ∃ X : List UInt8, X.length = Z ∧ OwnB wr w1.heap.size 5 (.slice (some ⟨G, 0, none⟩) Z Z) X ∧ Flat X (colOf c0 c1 c2 c3) C N i ∧ w3.grownBy wr (some G)) (fun vi _ => Z - (intOf vi).toNat)
  case atStart => exact ⟨0, by omega, rfl, _, by simp, hrow3, fun j hj => by omega, World.grownBy.refl _ _⟩
  case round =>
    obtain ⟨i, hi, rfl, X, hX, hown, hflat, hg⟩ := hrel
    have HX := hid hX
    have HF := hid hflat
    have hGs : w1.heap.size + 2 = G := by have := HG.out; omega
    clear hX hflat
    by_cases hlt : i < Z
    · have hkc : i % N % C < 4 := Nat.lt_of_lt_of_le (Nat.mod_lt _ (by omega)) hC4
      have f1 : wr.cell? ⟨w.heap.size + 1, i % N % C, none⟩ = some (.int .u8 (colOf c0 c1 c2 c3 (i % N % C))) := hg.cell (HCOL.out _ hkc) (by simp; omega)
      have f4 : wr.cell? ⟨w1.heap.size, 1, none⟩ = some (.int .i64 C) := hg.cell s1 (by simp; omega)
      have f2 := OwnB.cell hown HX.out.symm i (by rw [HX.out]; exact hlt)
      have f3 := OwnB.free hown HX.out.symm i
      have n0' : (0 : Int) ≤ (i : Int) % (N : Int) := Int.emod_nonneg _ (by omega)
      have n1' : (i : Int) % (N : Int) < (N : Int) := Int.emod_lt_of_pos _ (by omega)
      have m1 : (0 : Int) ≤ (i : Int) % (N : Int) % (C : Int) := Int.emod_nonneg _ (by omega)
      have m2 : (i : Int) % (N : Int) % (C : Int) < 4 := by have := Int.emod_lt_of_pos ((i : Int) % (N : Int)) (show (0 : Int) < (C : Int) by omega); omega
      have m3 : ((i : Int) % (N : Int) % (C : Int)).toNat = i % N % C := by rw [show (i : Int) % (N : Int) % (C : Int) = ((i % N % C : Nat) : Int) by simp]; exact Int.toNat_natCast _
      have hGH := hid hGs
      clear hGs
      go_wp2
      go_region
      go_wp2
      refine ⟨⟨i + 1, by omega, by go_num, X.set i (byteOf (colOf c0 c1 c2 c3 (i % N % C))), by rw [List.length_set]; exact HX.out, ?_, ?_, ?_⟩, by simp [intOf]; omega⟩
      · have hcb := colOf_bd hc0 hc0' hc1 hc1' hc2 hc2' hc3 hc3' (i % N % C)
        have := (OwnB.stored hown HX.out.symm i (byteOf (colOf c0 c1 c2 c3 (i % N % C)))).drew
        rw [bv_byteOf, Int.emod_eq_of_lt hcb.1 (by omega)] at this
        exact this
      · intro j hj
        have hcb := colOf_bd hc0 hc0' hc1 hc1' hc2 hc2' hc3 hc3' (i % N % C)
        by_cases hji : j = i
        · subst hji
          rw [b8_set_same (by rw [HX.out]; exact hlt), byteOf_nat, Int.emod_eq_of_lt hcb.1 (by omega)]
        · rw [b8_set_other hji]; exact HF.out j (by omega)
      · exact grownBy_drew (grownBy_trans hg (grownBy_setCell _ _ _))
    · have hiZ : Z = i := by omega
      subst hiZ
      have hXl : X.length = C * M * K := by rw [HX.out, HZ.out, HN.out]
      have hXN : X.length = N * K := by rw [HX.out, HZ.out]
      have HXL := hid hXN
      have HFZ := hid (show Flat X (colOf c0 c1 c2 c3) C N (N * K) from by rw [← HZ.out]; exact HF.out)
      obtain ⟨en1, en2⟩ := flat_enc (p := 12) (by omega) (by omega) hC1 hC4 hM1 (by omega) hXl
      obtain ⟨en3, en4⟩ := flat_enc (p := 11) (by omega) (by omega) hC1 hC4 hM1 (by omega) hXl
      rw [← HN.out] at en1 en2 en3 en4
      rw [show (12 : Int) - 10 = 2 from rfl] at en1 en2
      rw [show (11 : Int) - 10 = 1 from rfl] at en3 en4
      obtain ⟨Z2, hZ2⟩ : ∃ Z2, Z2 = (N + 1) * K := ⟨_, rfl⟩
      rw [← hZ2] at en2 en4
      have hz2 : ((N : Int) + 1) * (K : Int) = (Z2 : Int) := by rw [hZ2]; simp
      have HE1 := hid en1
      have HE3 := hid en3
      have HZ2 := hid hZ2
      have hZ2b : Z2 ≤ 2000 := by rw [hZ2]; exact Nat.le_trans (Nat.mul_le_mul (show N + 1 ≤ 201 by omega) hK4) (by omega)
      have HL1 := hid en2
      have HL3 := hid en4
      have k0 : wr.cell? ⟨w1.heap.size, 0, none⟩ = some (.int .i64 12) := hg.cell s0 (by simp; omega)
      have k1 : wr.cell? ⟨w1.heap.size, 1, none⟩ = some (.int .i64 C) := hg.cell s1 (by simp; omega)
      have k2 : wr.cell? ⟨w1.heap.size, 2, none⟩ = some (.int .i64 M) := hg.cell s2 (by simp; omega)
      have k3 : wr.cell? ⟨w1.heap.size + 1, 0, none⟩ = some (.int .i64 11) := hg.cell t0 (by simp; omega)
      have k4 : wr.cell? ⟨w1.heap.size + 1, 1, none⟩ = some (.int .i64 C) := hg.cell t1 (by simp; omega)
      have k5 : wr.cell? ⟨w1.heap.size + 1, 2, none⟩ = some (.int .i64 M) := hg.cell t2 (by simp; omega)
      have hBr : Below w1.heap.size w1 wr := hB3.grown hg hB3.size (fun q hq => by cases hq; omega)
      have hcr : Below w.heap.size w wr := hb1.trans (hBr.mono hb1.size)
      have hcur := Below.refl wr.heap.size wr
      have hsX := Sl.own hown
      have hoX := hown
      clear en1 en2 en3 en4 hXl hXN hZ2 s0 s1 s2 t0 t1 t2 hown hg hlt hGs
      go_wp2_with (first
        | (go_at_call_of 13 (Value.agg #[.int .i64 12, .int .i64 (C : Int), .int .i64 (M : Int)]); refine (encode_any 12 C M _ X _ hsX (by rw [HX.out]; omega)).mono ?_; rintro e we ⟨u1, rfl, ho1, hbs⟩; rw [HE1.out] at ho1 ⊢; obtain ⟨ax, cx, hux, y1, y2, y3, y4⟩ := Sl.own ho1; rw [HL1.out] at hux; subst hux; have hsX := hsX.up hbs; have hoX := hoX.up hbs; have k1 := cell_up' hbs k1; have k3 := cell_up' hbs k3; have k4 := cell_up' hbs k4; have k5 := cell_up' hbs k5; have hcur := below_then hcur hbs)
        | (go_at_call_of 13 (Value.agg #[.int .i64 11, .int .i64 (C : Int), .int .i64 (M : Int)]); refine (encode_any 11 C M _ X _ hsX (by rw [HX.out]; omega)).mono ?_; rintro e wB ⟨u2, rfl, ho3, hbs⟩; rw [HE3.out] at ho3 ⊢; obtain ⟨ay, cy, huy, z1', z2', z3', z4'⟩ := Sl.own ho3; rw [HL3.out] at huy; subst huy; have hsX := hsX.up hbs; have hoX := hoX.up hbs; have y4 := y4.up hbs; have k1 := cell_up' hbs k1; have hcur := below_then hcur hbs))
      have hcB : Below w.heap.size w wB := hcr.trans (hcur.mono hcr.size)
      have hxl : (encTo true 2 C N X K).length = Z2 := HL1.out
      have hyl : (encTo true 1 C N X K).length = Z2 := HL3.out
      obtain ⟨bx, ox, rfl, hbx, hxc⟩ := y4.some (by rw [hxl, HZ2.out]; exact Nat.mul_pos (by omega) hK1)
      obtain ⟨by_, oy, rfl, hby, hyc⟩ := z4'.some (by rw [hyl, HZ2.out]; exact Nat.mul_pos (by omega) hK1)
      have HXLEN := hid hxl
      have HYLEN := hid hyl
      have HXC := hid hxc
      have HYC := hid hyc
      clear hxl hyl hxc hyc hsX
      go_loopw [15] (fun vi wr => ∃ i : Nat, i ≤ K ∧ vi = .int .i64 i ∧ ∃ n, wr = wB.drewN n) (fun vi _ => K - (intOf vi).toNat)
      case atStart => exact ⟨0, by omega, rfl, 0, rfl⟩
      case round =>
        obtain ⟨i, hi, rfl, n, rfl⟩ := hrel
        by_cases hik : i < K
        · obtain ⟨I, hI⟩ : ∃ I, i * (N + 1) = I := ⟨_, rfl⟩
          have hIw : (i : Int) * ((N : Int) + 1) = (I : Int) := by rw [← hI]; simp
          have hIb : I + (N + 1) ≤ Z2 := by
            rw [← hI, ← Nat.succ_mul, HZ2.out, Nat.mul_comm (N + 1) K]; exact Nat.mul_le_mul_right _ hik
          have HI := hid hI
          clear hI
          go_wp2
          go_loopw [16] (fun vj wr => ∃ j : Nat, j ≤ N ∧ vj = .int .i64 j ∧ ∃ n, wr = wB.drewN n) (fun vj _ => N - (intOf vj).toNat)
          case atStart => exact ⟨0, by omega, rfl, n, rfl⟩
          case round =>
            obtain ⟨j, hj, rfl, n, rfl⟩ := hrel
            by_cases hjn : j < N
            · have hxc := HXC.out
              have hyc := HYC.out
              have hxl := HXLEN.out
              have hyl := HYLEN.out
              have fb := OwnB.cell hoX HX.out.symm j (by rw [HX.out, HZ.out]; exact Nat.lt_of_lt_of_le hjn (Nat.le_mul_of_pos_right N hK1))
              have hjZ : j < Z := by rw [HZ.out]; exact Nat.lt_of_lt_of_le hjn (Nat.le_mul_of_pos_right N hK1)
              by_cases h0 : i = 0 <;> by_cases hc : j < C
              · have fx := hxc (I + 1 + j) (by rw [hxl]; omega)
                rw [show b8 (encTo true 2 C N X K) (I + 1 + j) = b8 X j by rw [← HI.out, flat_up HXL.out HFZ.out hik hjn, if_pos (by omega)]] at fx
                have fy := hyc (I + 1 + j) (by rw [hyl]; omega)
                rw [show b8 (encTo true 1 C N X K) (I + 1 + j) = b8 X j by rw [← HI.out, flat_left hC1 HXL.out HFZ.out hik hjn, if_pos (by omega)]] at fy
                have i1 : decide ((0 : Int) < (i : Int)) = false := by simp; omega
                have i2 : ((i : Int) == 0) = true := by simp; omega
                have i3 : ¬ 0 < i := by omega
                have i4 : decide (0 < i) = false := by simp; omega
                have j1 : decide ((C : Int) ≤ (j : Int)) = false := by simp; omega
                have j2 : decide ((j : Int) < (C : Int)) = true := by simp; omega
                have HIK := hid hik
                have hW1 : IntKind.i64.wrap ((N : Int) + 1) = (N : Int) + 1 := IntWalk.i64_in _ (by omega)
                have hW2 : IntKind.i64.wrap (I : Int) = (I : Int) := IntWalk.i64_in _ (by omega)
                have hW3 : IntKind.i64.wrap ((I : Int) + 1) = (I : Int) + 1 := IntWalk.i64_in _ (by omega)
                have hW4 : IntKind.i64.wrap ((I : Int) + 1 + (j : Int)) = (I : Int) + 1 + (j : Int) := IntWalk.i64_in _ (by omega)
                have l1 : (0 : Int) ≤ (I : Int) + 1 + (j : Int) := by omega
                have l2 : (I : Int) + 1 + (j : Int) < (Z2 : Int) := by omega
                have l3 : ((I : Int) + 1 + (j : Int)).toNat = I + 1 + j := by omega
                have l4 : (j : Int) < (Z : Int) := by omega
                have hwz := hid hIw
                clear hxc hyc hik h0
                go_wp2
                go_quiet (fail)
                clear hW1 hW2 hW3 hW4 l3
                go_wp2
                exact ⟨⟨j + 1, by omega, by go_num, _, rfl⟩, by simp [intOf]; omega⟩
              · have fx := hxc (I + 1 + j) (by rw [hxl]; omega)
                rw [show b8 (encTo true 2 C N X K) (I + 1 + j) = b8 X j by rw [← HI.out, flat_up HXL.out HFZ.out hik hjn, if_pos (by omega)]] at fx
                have fy := hyc (I + 1 + j) (by rw [hyl]; omega)
                rw [show b8 (encTo true 1 C N X K) (I + 1 + j) = 0 by rw [← HI.out, flat_left hC1 HXL.out HFZ.out hik hjn, if_neg (by omega)]] at fy
                have i1 : decide ((0 : Int) < (i : Int)) = false := by simp; omega
                have i2 : ((i : Int) == 0) = true := by simp; omega
                have i3 : ¬ 0 < i := by omega
                have i4 : decide (0 < i) = false := by simp; omega
                have j1 : decide ((C : Int) ≤ (j : Int)) = true := by simp; omega
                have j2 : decide ((j : Int) < (C : Int)) = false := by simp; omega
                have HIK := hid hik
                have hW1 : IntKind.i64.wrap ((N : Int) + 1) = (N : Int) + 1 := IntWalk.i64_in _ (by omega)
                have hW2 : IntKind.i64.wrap (I : Int) = (I : Int) := IntWalk.i64_in _ (by omega)
                have hW3 : IntKind.i64.wrap ((I : Int) + 1) = (I : Int) + 1 := IntWalk.i64_in _ (by omega)
                have hW4 : IntKind.i64.wrap ((I : Int) + 1 + (j : Int)) = (I : Int) + 1 + (j : Int) := IntWalk.i64_in _ (by omega)
                have l1 : (0 : Int) ≤ (I : Int) + 1 + (j : Int) := by omega
                have l2 : (I : Int) + 1 + (j : Int) < (Z2 : Int) := by omega
                have l3 : ((I : Int) + 1 + (j : Int)).toNat = I + 1 + j := by omega
                have l4 : (j : Int) < (Z : Int) := by omega
                have hwz := hid hIw
                clear hxc hyc hik h0
                go_wp2
                go_quiet (fail)
                clear hW1 hW2 hW3 hW4 l3
                go_wp2
                exact ⟨⟨j + 1, by omega, by go_num, _, rfl⟩, by simp [intOf]; omega⟩
              · have fx := hxc (I + 1 + j) (by rw [hxl]; omega)
                rw [show b8 (encTo true 2 C N X K) (I + 1 + j) = 0 by rw [← HI.out, flat_up HXL.out HFZ.out hik hjn, if_neg (by omega)]] at fx
                have fy := hyc (I + 1 + j) (by rw [hyl]; omega)
                rw [show b8 (encTo true 1 C N X K) (I + 1 + j) = b8 X j by rw [← HI.out, flat_left hC1 HXL.out HFZ.out hik hjn, if_pos (by omega)]] at fy
                have i1 : decide ((0 : Int) < (i : Int)) = true := by simp; omega
                have i2 : ((i : Int) == 0) = false := by simp; omega
                have i3 : 0 < i := by omega
                have j1 : decide ((C : Int) ≤ (j : Int)) = false := by simp; omega
                have j2 : decide ((j : Int) < (C : Int)) = true := by simp; omega
                have HIK := hid hik
                have hW1 : IntKind.i64.wrap ((N : Int) + 1) = (N : Int) + 1 := IntWalk.i64_in _ (by omega)
                have hW2 : IntKind.i64.wrap (I : Int) = (I : Int) := IntWalk.i64_in _ (by omega)
                have hW3 : IntKind.i64.wrap ((I : Int) + 1) = (I : Int) + 1 := IntWalk.i64_in _ (by omega)
                have hW4 : IntKind.i64.wrap ((I : Int) + 1 + (j : Int)) = (I : Int) + 1 + (j : Int) := IntWalk.i64_in _ (by omega)
                have l1 : (0 : Int) ≤ (I : Int) + 1 + (j : Int) := by omega
                have l2 : (I : Int) + 1 + (j : Int) < (Z2 : Int) := by omega
                have l3 : ((I : Int) + 1 + (j : Int)).toNat = I + 1 + j := by omega
                have l4 : (j : Int) < (Z : Int) := by omega
                have hwz := hid hIw
                clear hxc hyc hik h0
                go_wp2
                go_quiet (fail)
                clear hW1 hW2 hW3 hW4 l3
                go_wp2
                exact ⟨⟨j + 1, by omega, by go_num, _, rfl⟩, by simp [intOf]; omega⟩
              · have fx := hxc (I + 1 + j) (by rw [hxl]; omega)
                rw [show b8 (encTo true 2 C N X K) (I + 1 + j) = 0 by rw [← HI.out, flat_up HXL.out HFZ.out hik hjn, if_neg (by omega)]] at fx
                have fy := hyc (I + 1 + j) (by rw [hyl]; omega)
                rw [show b8 (encTo true 1 C N X K) (I + 1 + j) = 0 by rw [← HI.out, flat_left hC1 HXL.out HFZ.out hik hjn, if_neg (by omega)]] at fy
                have i1 : decide ((0 : Int) < (i : Int)) = true := by simp; omega
                have i2 : ((i : Int) == 0) = false := by simp; omega
                have i3 : 0 < i := by omega
                have j1 : decide ((C : Int) ≤ (j : Int)) = true := by simp; omega
                have j2 : decide ((j : Int) < (C : Int)) = false := by simp; omega
                have HIK := hid hik
                have hW1 : IntKind.i64.wrap ((N : Int) + 1) = (N : Int) + 1 := IntWalk.i64_in _ (by omega)
                have hW2 : IntKind.i64.wrap (I : Int) = (I : Int) := IntWalk.i64_in _ (by omega)
                have hW3 : IntKind.i64.wrap ((I : Int) + 1) = (I : Int) + 1 := IntWalk.i64_in _ (by omega)
                have hW4 : IntKind.i64.wrap ((I : Int) + 1 + (j : Int)) = (I : Int) + 1 + (j : Int) := IntWalk.i64_in _ (by omega)
                have l1 : (0 : Int) ≤ (I : Int) + 1 + (j : Int) := by omega
                have l2 : (I : Int) + 1 + (j : Int) < (Z2 : Int) := by omega
                have l3 : ((I : Int) + 1 + (j : Int)).toNat = I + 1 + j := by omega
                have l4 : (j : Int) < (Z : Int) := by omega
                have hwz := hid hIw
                clear hxc hyc hik h0
                go_wp2
                go_quiet (fail)
                clear hW1 hW2 hW3 hW4 l3
                go_wp2
                exact ⟨⟨j + 1, by omega, by go_num, _, rfl⟩, by simp [intOf]; omega⟩
            · obtain rfl : j = N := by omega
              go_wp2
              exact ⟨⟨i + 1, by omega, by go_num, _, rfl⟩, by simp [intOf]; omega⟩
        · go_wp2
          go_ret
          exact ⟨rfl, below_drewN hcB _⟩

variable {H : Type} {enc : TypeId × Value → H}

theorem arr3_open {W : World} {v : Value} {d : DataW H} {p : List MemPlace} {base : Nat} (hk : Value.okWide Try.prog W .any base 39 v) (h : DataW.Trod enc Try.prog W 0 (fun _ => true) true 39 v d p) :
    ∃ x y z : Int, v = .agg #[.int .u8 x, .int .u8 y, .int .u8 z] ∧ (0 ≤ x ∧ x ≤ 255) ∧ (0 ≤ y ∧ y ≤ 255) ∧ (0 ≤ z ∧ z ≤ 255) := by
  simp only [Value.okWide, Try.underlying39] at hk
  obtain ⟨cs, rfl, hsz, _⟩ := hk
  obtain ⟨c0, c1, c2, rfl⟩ := Joins.array3 (hsz.trans (show Try.prog.cellsOf 39 = 3 by kernel_rfl))
  obtain ⟨fuel, hf⟩ := h
  obtain ⟨xs, m, _, _, _, hx, hi⟩ := DataW.trod_array Try.underlying39 hf
  have c5 : Try.prog.cellsOf 5 = 1 := by kernel_rfl
  rw [c5] at hi
  have get : ∀ i (hi3 : i < 3), ∃ y, xs[i]? = some y := fun i hi3 => ⟨xs[i]'(by omega), List.getElem?_eq_getElem (by omega)⟩
  obtain ⟨y0, g0⟩ := get 0 (by omega)
  obtain ⟨y1, g1⟩ := get 1 (by omega)
  obtain ⟨y2, g2⟩ := get 2 (by omega)
  have e0 := hi 0 (by omega)
  have e1 := hi 1 (by omega)
  have e2 := hi 2 (by omega)
  rw [g0] at e0
  rw [g1] at e1
  rw [g2] at e2
  obtain ⟨a, r0, _, w0⟩ := DataW.trod_int Try.underlying5 e0
  obtain ⟨b, r1, _, w1⟩ := DataW.trod_int Try.underlying5 e1
  obtain ⟨c, r2, _, w2⟩ := DataW.trod_int Try.underlying5 e2
  simp [Value.cells] at r0 r1 r2
  subst r0 r1 r2
  exact ⟨a, b, c, rfl, u8_wf w0, u8_wf w1, u8_wf w2⟩

theorem arr4_open {W : World} {v : Value} {d : DataW H} {p : List MemPlace} {base : Nat} (hk : Value.okWide Try.prog W .any base 40 v) (h : DataW.Trod enc Try.prog W 0 (fun _ => true) true 40 v d p) :
    ∃ x y z u : Int, v = .agg #[.int .u8 x, .int .u8 y, .int .u8 z, .int .u8 u] ∧ (0 ≤ x ∧ x ≤ 255) ∧ (0 ≤ y ∧ y ≤ 255) ∧ (0 ≤ z ∧ z ≤ 255) ∧ (0 ≤ u ∧ u ≤ 255) := by
  simp only [Value.okWide, Try.underlying40] at hk
  obtain ⟨cs, rfl, hsz, _⟩ := hk
  obtain ⟨c0, c1, c2, c3, rfl⟩ := Joins.array4 (hsz.trans (show Try.prog.cellsOf 40 = 4 by kernel_rfl))
  obtain ⟨fuel, hf⟩ := h
  obtain ⟨xs, m, _, _, _, hx, hi⟩ := DataW.trod_array Try.underlying40 hf
  have c5 : Try.prog.cellsOf 5 = 1 := by kernel_rfl
  rw [c5] at hi
  have get : ∀ i (hi3 : i < 4), ∃ y, xs[i]? = some y := fun i hi3 => ⟨xs[i]'(by omega), List.getElem?_eq_getElem (by omega)⟩
  obtain ⟨y0, g0⟩ := get 0 (by omega)
  obtain ⟨y1, g1⟩ := get 1 (by omega)
  obtain ⟨y2, g2⟩ := get 2 (by omega)
  obtain ⟨y3, g3⟩ := get 3 (by omega)
  have e0 := hi 0 (by omega)
  have e1 := hi 1 (by omega)
  have e2 := hi 2 (by omega)
  have e3 := hi 3 (by omega)
  rw [g0] at e0
  rw [g1] at e1
  rw [g2] at e2
  rw [g3] at e3
  obtain ⟨a, r0, _, w0⟩ := DataW.trod_int Try.underlying5 e0
  obtain ⟨b, r1, _, w1⟩ := DataW.trod_int Try.underlying5 e1
  obtain ⟨c, r2, _, w2⟩ := DataW.trod_int Try.underlying5 e2
  obtain ⟨d', r3, _, w3⟩ := DataW.trod_int Try.underlying5 e3
  simp [Value.cells] at r0 r1 r2 r3
  subst r0 r1 r2 r3
  exact ⟨a, b, c, d', rfl, u8_wf w0, u8_wf w1, u8_wf w2, u8_wf w3⟩

set_option maxRecDepth 100000 in
theorem flat_lifted (os : Os) (started : os.Started) (H : Type) (enc : TypeId × Value → H) :
    ReturnsInHanded {} Try.checked os 7 .any (Rows.predictFlatSpec.pre6 enc Try.prog Try.f7 Rows.predictFlatRow.domain false) (Rows.predictFlatSpec.post enc Try.prog Try.f7 false true false false) := by
  refine returnsInHanded_of_change (C := Try.checked) own9 started (by kernel_rfl) Try.func7
    (ChangeSpec.witness6 (enc := enc) (C := Try.checked) false ⟨#[], #[.agg #[.int .u8 0, .int .u8 0, .int .u8 0], .agg #[.int .u8 0, .int .u8 0, .int .u8 0, .int .u8 0]], []⟩ 8 (by kernel_rfl) (by kernel_rfl) (by kernel_rfl) (by kernel_rfl)) ?_
  intro W base args ds gs before hval0 hW hcnd _
  have hval : ∀ (j : Nat) t v, Try.f7.params[j]? = some t → args[j]? = some v → Value.okWide Try.prog W .any base t v := hval0
  have hW' := hW
  obtain ⟨p, q, hA0, hV, rfl, hfz, hnd⟩ := hW
  have hA : DataW.TrodAll enc Try.prog W 0 (fun _ => true) true Try.f7.params.toList args.toList ds p := hA0
  rw [Try.params7] at hA hval
  obtain ⟨v0, v1, d0, d1, p0, p1, rfl, rfl, rfl, h0, h1⟩ := trodAll_two hA
  obtain ⟨rfl, rfl⟩ := trodVars_none hV
  obtain ⟨x, y, z, rfl, ⟨bx, bx'⟩, ⟨by1, by1'⟩, ⟨bz, bz'⟩⟩ := arr3_open (hval 0 39 v0 rfl rfl) h0
  obtain ⟨a, b, c, d, rfl, ⟨ba, ba'⟩, ⟨bb, bb'⟩, ⟨bc, bc'⟩, ⟨bd, bd'⟩⟩ := arr4_open (hval 1 40 v1 rfl rfl) h1
  clear hA0 hval0
  obtain ⟨C, hC⟩ := Int.eq_ofNat_of_zero_le (show 0 ≤ 1 + x % 4 by omega)
  obtain ⟨M, hM⟩ := Int.eq_ofNat_of_zero_le (show 0 ≤ 1 + y % 50 by omega)
  obtain ⟨K, hK⟩ := Int.eq_ofNat_of_zero_le (show 0 ≤ 1 + z % 9 by omega)
  refine (flat_any x y z a b c d C M K (C * M) W bx bx' by1 by1' bz bz' ba ba' bb bb' bc bc' bd bd' hC hM hK rfl).mono fun e W' ⟨he, bel⟩ => ?_
  subst he
  exact ⟨_, rfl, _, _, _, [], _, [], hW', trodAll_mk1 (shut_bool Try.underlying4 _), trodAll_mk2 (Below.trod laidOut9 (by kernel_rfl) (of_decide_eq_true (by kernel_rfl)) h0 bel (trod_lt h0)) (Below.trod laidOut9 (by kernel_rfl) (of_decide_eq_true (by kernel_rfl)) h1 bel (trod_lt h1)), rfl, bel.frame _, fun h => by cases h⟩

theorem flat_holds : Rows.PredictFlatSaid :=
  OpenClaim.holds_of_wide 7 Try.f7 rfl rfl rfl rfl rfl rfl rfl ⟨rfl, rfl, rfl, rfl, rfl⟩ rfl rfl rfl rfl rfl (by kernel_rfl) Try.func7 (by kernel_rfl)
    (of_decide_eq_true (by kernel_rfl)) (by unfold Func.isWrapper; first | (rw [if_pos (by decide +kernel)]; kernel_rfl) | (rw [if_neg (by decide +kernel)]; exact ⟨rfl, rfl⟩))
    (fun os started H enc _ => flat_lifted os started H enc)
#print axioms flat_holds
end Go.Proofs.Ytmlaakadjkmphaa
