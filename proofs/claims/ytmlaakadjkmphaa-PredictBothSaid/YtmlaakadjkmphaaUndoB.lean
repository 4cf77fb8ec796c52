/-
  The reference Undo, rows with a tag ahead: it answers what the plain law says. Conditions: lengths.
-/
import Derived.Test.YtmlaakadjkmphaaDecB
import Derived.Test.YtmlaakadjkmphaaMem3
import Derived.Test.YtmlaakadjkmphaaNearRows
import Derived.Test.YtmlaakadjkmphaaEncA
namespace Go.Proofs.Ytmlaakadjkmphaa
open Go.RowKit
set_option linter.unusedVariables false

theorem near_at (p : Int) (c m N r k : Nat) (v : Value) (L row above : List UInt8) (w : World) (hv : Sl w v L) (HN : Hid (N = c * m)) (hL : L.length ≤ 20000) (hi : r * N + k ≤ L.length) (hk : k < N) (hc : 1 ≤ c) (hc' : c ≤ 4) (hn : N ≤ 20000)
    (hrow : ∀ j, j < k → b8 L (r * N + j) = b8 row j) (h0 : r = 0 → above = []) (h1 : 0 < r → ∀ j, j < N → b8 L ((r - 1) * N + j) = b8 above j) (i : Int) (he : i = ((r * N + k : Nat) : Int)) :
    Calls Try.prog 21 #[.agg #[.int .i64 p, .int .i64 c, .int .i64 m], v, .int .i64 i] w fun e w' =>
      e = .returned (.tuple #[.int .i64 (lfI row k c), .int .i64 (b8 above k), .int .i64 (lfI above k c)]) ∧ Below w.heap.size w w' := by
  subst he
  obtain ⟨ao, cap, rfl, g1, g2, g3, g4⟩ := hv
  obtain ⟨e1, e2, e3⟩ := near_rows (c := c) hk hc hrow h0 h1
  have hcm : (c : Int) * (m : Int) = (N : Int) := by rw [HN.out]; simp
  have := near_any p c m ((r * N + k : Nat) : Int) ao cap L w g4 (by omega) (by omega) hL (by omega) (by omega) (by rw [hcm]; omega) (by rw [hcm]; omega)
  rw [hcm, e1, e2, e3] at this
  exact this

/-- what the reference answers -/
def UndoPost (p c m : Int) (l : List UInt8) (w : World) (e : Ending) (w' : World) : Prop :=
  ∃ u, e = .returned (.tuple #[u, .int .i64 (decode p c m l).2]) ∧ OwnB w' w.heap.size 5 u (decode p c m l).1 ∧ Below w.heap.size w w'
theorem undopost_of {p c m : Int} {l out : List UInt8} {er : Int} {w w' : World} {u : Value} {e : Ending} (hd : decode p c m l = (out, er)) (he : e = .returned (.tuple #[u, .int .i64 er])) (ho : OwnB w' w.heap.size 5 u out) (hb : Below w.heap.size w w') : UndoPost p c m l w e w' :=
  ⟨u, by rw [hd]; exact he, by rw [hd]; exact ho, hb⟩

set_option maxHeartbeats 1600000 in
theorem undo_rows1 (p : Int) (c m N M : Nat) (v : Value) (l : List UInt8) (w : World) (h : mayB p c m = true) (hp : ¬ p = 1) (HN : Hid (N = c * m)) (HM : Hid (M = headOf p + N)) (hh : headOf p = 1) (hp10 : 10 ≤ p) (hv : Sl w v l) (hl : l.length ≤ 19000) (hm : l.length % M = 0) :
    Calls Try.prog 15 #[.agg #[.int .i64 p, .int .i64 c, .int .i64 m], v] w (UndoPost p c m l w) := by
  have hN := HN.out
  have hM := HM.out
  obtain ⟨R, hR⟩ : ∃ R, R = l.length / M := ⟨_, rfl⟩
  have HD := hid (decode_rows (M := M) (N := N) h hp (by simpa using hN) hM hm (x := _) rfl)
  rw [hh, ← hR] at HD
  have hRM : R * M = l.length := by rw [hR]; exact Nat.div_mul_cancel (Nat.dvd_of_mod_eq_zero hm)
  have HRM := hid hRM
  obtain ⟨b1, b2, b3, b4, b5⟩ := may_bounds h
  have hcm := cm_bounds (c := c) (m := m) (by omega) (by omega) (by omega) (by omega)
  have hcm' : (c : Int) * (m : Int) = (N : Int) := by rw [hN]; simp
  have hp1 : (p == 1) = false := by simpa using hp
  have hN1 : 1 ≤ N := by omega
  have hN2 : N ≤ 16384 := by omega
  rw [hh] at hM
  have hsum : (N : Int) + 1 = (M : Int) := by omega
  have HS := hid hM
  have hM1 : 1 ≤ M := by omega
  have hM2 : M ≤ 20001 := by omega
  have hmz : ((l.length : Int) % (M : Int) != 0) = false := by
    have : (l.length : Int) % (M : Int) = 0 := by omega
    rw [this]; rfl
  obtain ⟨al, cl, rfl, l1, l2, l3, l4⟩ := hv
  clear hm hcm hN hp hM hR hRM
  go_enter Try.func15, Try.ntmps15
  go_wp2_with (go_at_call 17; refine (rmay_any p c m _).mono ?_; rintro e w1 ⟨rfl, hb⟩; rw [h]; obtain ⟨e0, e1, e2, hb⟩ := box3 hb)
  clear hsum hmz
  go_loopw [9, 8] (fun vr vo wr => ∃ q rb : Nat, q ≤ R ∧ rb = q * M ∧ vr = .int .i64 rb ∧ ∃ out above, decTo 1 c N l q = some (out, above) ∧ OwnB wr w1.heap.size 5 vo out ∧ Below w1.heap.size w1 wr) (fun vr _ _ => l.length - (intOf vr).toNat)
  case atStart => exact ⟨0, 0, by omega, by simp, rfl, [], [], rfl, OwnB.nil _ _ _, Below.refl _ _⟩
  case round =>
    obtain ⟨q, rb, hq, hrb, rfl, out, above, hdec, hown, hbel⟩ := hrel
    obtain ⟨wo, rfl⟩ : ∃ wo : World, wo = wr := ⟨_, rfl⟩
    have HRB := hid hrb
    have HDEC := hid hdec
    have hrl : rb ≤ l.length := by rw [hrb, ← HRM.out]; exact Nat.mul_le_mul_right M hq
    by_cases hlt : rb < l.length
    · have hqR : q < R := by
        rcases Nat.lt_or_ge q R with hx | hx
        · exact hx
        · have : q = R := by omega
          rw [hrb, this, HRM.out] at hlt; omega
      have hql : (q + 1) * M ≤ l.length := by rw [← HRM.out]; exact Nat.mul_le_mul_right M hqR
      have hrm : rb + M ≤ l.length := by rw [hrb, ← Nat.succ_mul]; exact hql
      obtain ⟨bl, ol, rfl, hls, hlc⟩ := l4.some (by omega)
      have hW : Below w.heap.size w wo := hb.trans (hbel.mono hb.size)
      have hc0 := hlc rb (by omega)
      have f4 : wo.cell? ⟨bl, ol + rb, none⟩ = some (.int .u8 (b8 l rb)) := by rw [hW.cell hls]; exact hc0
      have t0 := b8_ge l rb
      have t1 := b8_le l rb
      have HT := hid (show b8 (rowAt l M q) 0 = b8 l rb by rw [b8_rowAt (by omega) hql, Nat.add_zero, ← hrb])
      have HLC := hid hlc
      clear hc0 hlc hrb hdec
      by_cases ht : 4 < b8 l rb
      · have hnone : decTo 1 c N l (q + 1) = none := by
          have hM := HS.out
          subst hM
          exact decTo_bad HDEC.out (by rw [HT.out]; exact ht)
        have hdn := HD.out
        rw [decTo_none 1 (c : Int).toNat N l (r := q + 1) (R := R) (by simpa using hnone) (by omega)] at hdn
        have HDN := hid hdn
        clear hnone hdn
        go_wp2
        go_ret2
        exact undopost_of HDN.out rfl (OwnB.nil _ _ _) hW
      · obtain ⟨T, hT⟩ : ∃ T, T = b8 l rb := ⟨_, rfl⟩
        obtain ⟨xd, hxd⟩ : ∃ xd, xd = (rowAt l M q).drop 1 := ⟨_, rfl⟩
        have hstep : decTo 1 c N l (q + 1) = some (out ++ undoTo T c above xd N, undoTo T c above xd N) := by
          have hM := HS.out
          rw [hT, ← HT.out, hxd]
          subst hM
          exact decTo_step1 HDEC.out (by rw [HT.out]; exact ht)
        have HSTEP := hid hstep
        have hxb : ∀ k, k < N → b8 xd k = b8 l (rb + 1 + k) := by
          intro k hk
          have := HS.out
          rw [hxd, b8_drop, b8_rowAt (by omega) hql, ← HRB.out]; congr 1; omega
        have HXB := hid hxb
        rw [← hT] at f4 ht t0 t1
        obtain ⟨inv1, inv2, inv3⟩ := decTo_inv HDEC.out
        have HI1 := hid inv1
        have HI2 := hid inv2
        have HI3 := hid inv3
        clear hT hstep hxd hxb inv1 inv2 inv3
        go_wp2
        go_loopw [11, 8] (fun vk vo wr => ∃ k : Nat, k ≤ N ∧ vk = .int .i64 k ∧ OwnB wr w1.heap.size 5 vo (out ++ undoTo T c above xd k) ∧ Below w1.heap.size w1 wr) (fun vk _ _ => N - (intOf vk).toNat)
        case atStart => exact ⟨0, by omega, rfl, by rw [show undoTo T c above xd 0 = [] from rfl, List.append_nil]; exact hown, hbel⟩
        case round =>
          obtain ⟨k, hk, rfl, hown3, hbel3⟩ := hrel
          obtain ⟨E, hE⟩ : ∃ E, E = out ++ undoTo T c above xd k := ⟨_, rfl⟩
          rw [← hE] at hown3
          have hEl : E.length = q * N + k := by rw [hE, List.length_append, HI1.out, undoTo_length]
          have HE := hid hE
          have HEL := hid hEl
          have hE2 : E.length ≤ 19500 := by
            have q1 : q * N ≤ q * M := Nat.mul_le_mul_left q (by have := HS.out; omega)
            have q2 := HRB.out
            have q3 := HS.out
            omega
          clear hE hEl
          by_cases hkn : k < N
          · obtain ⟨ae, ce, rfl, -, -, -⟩ := Rd.own hown3
            have f0 : wr.cell? ⟨w.heap.size, 0, none⟩ = some (.int .i64 p) := by rw [hbel3.cell (World.block_lt_of_cell? _ _ e0)]; exact e0
            have f1 : wr.cell? ⟨w.heap.size, 1, none⟩ = some (.int .i64 c) := by rw [hbel3.cell (World.block_lt_of_cell? _ _ e1)]; exact e1
            have f2 : wr.cell? ⟨w.heap.size, 2, none⟩ = some (.int .i64 m) := by rw [hbel3.cell (World.block_lt_of_cell? _ _ e2)]; exact e2
            have hW3 : Below w.heap.size w wr := hb.trans (hbel3.mono hb.size)
            have f5 : wr.cell? ⟨bl, ol + (rb + 1 + k), none⟩ = some (.int .u8 (b8 xd k)) := by rw [hW3.cell hls, HXB.out k hkn]; exact HLC.out _ (by have := HS.out; omega)
            have HROW := hid (show ∀ j, j < k → b8 (E ++ [0]) (q * N + j) = b8 (undoTo T c above xd k) j from fun j hj => by
              have hu := undoTo_length T c above xd k
              rw [b8_app_left (by rw [HEL.out]; omega), HE.out, ← HI1.out, b8_app_right])
            have HABV := hid (show 0 < q → ∀ j, j < N → b8 (E ++ [0]) ((q - 1) * N + j) = b8 above j from fun hq0 j hj => by
              have e1 : (q - 1) * N + N = q * N := by rw [← Nat.succ_mul]; congr 1; omega
              rw [b8_app_left (by rw [HEL.out]; omega), HE.out, b8_app_left (by rw [HI1.out]; omega)]
              exact HI3.out hq0 j hj)
            have HIE := hid (show (E.length : Int) = ((q * N + k : Nat) : Int) by rw [HEL.out])
            have HLE := hid (show q * N + k ≤ (E ++ [0]).length by rw [List.length_append, HEL.out]; omega)
            have HLF := hid (show (E ++ [0]).length ≤ 20000 by rw [List.length_append]; simp; omega)
            go_wp2
            go_region_held3 (fun w' => w'.cell? ⟨w.heap.size, 0, none⟩ = some (.int .i64 p) ∧ w'.cell? ⟨w.heap.size, 1, none⟩ = some (.int .i64 c) ∧ w'.cell? ⟨w.heap.size, 2, none⟩ = some (.int .i64 m))
              (first | go_keep | skip)
              (first
                | (refine step_append_bytes by26 (by rfl) _ _ (by rfl) w1.heap.size (.slice ae E.length ce) E [0] (by rfl) ((hown3.alloc _).drew) _ _ _ (by rfl) (by rfl) (Rd.up (Rd.one wr 0 5 (by decide) (by decide)) (Below.drew (Below.refl _ _))) (by simp only [List.length_cons, List.length_nil]; omega) (by have := hbel3.size; simp; omega) ?_; intro v5 w5 hown5 hold5 hg5 hm5; have hb5 := below_append ((hbel3.alloc hbel3.size _).drew) ((hown3.alloc _).drew) hg5 (Nat.le_refl _) (by have := hbel3.size; simp; omega); have k0 := (hb5.cell (World.block_lt_of_cell? _ _ e0)).trans e0; have k1 := (hb5.cell (World.block_lt_of_cell? _ _ e1)).trans e1; have k2 := (hb5.cell (World.block_lt_of_cell? _ _ e2)).trans e2)
                | (go_at_call 21; refine (near_at p c m N q k _ (E ++ [0]) (undoTo T c above xd k) above _ (Sl.own hown5) HN HLF.out HLE.out hkn (by omega) (by omega) (by omega) HROW.out HI2.out HABV.out _ HIE.out).mono ?_; rintro e w6 ⟨rfl, hb6⟩; have hb7 := below_then hb5 hb6; have k3 := (hb7.cell (World.block_lt_of_cell? _ _ e0)).trans e0; have k4 := (hb7.cell (World.block_lt_of_cell? _ _ e1)).trans e1; have k5 := (hb7.cell (World.block_lt_of_cell? _ _ e2)).trans e2))
            have hown6 := hold5.up hb6
            have hW6 : Below w.heap.size w w6 := hb.trans (hb7.mono hb.size)
            have f6 : w6.cell? ⟨bl, ol + (rb + 1 + k), none⟩ = some (.int .u8 (b8 xd k)) := by rw [hW6.cell hls, HXB.out k hkn]; exact HLC.out _ (by have := HS.out; omega)
            have g0 := guessI_ge T (lfI (undoTo T c above xd k) k c) (b8 above k) (lfI above k c) (lfI_ge _ _ _) (b8_ge _ _) (lfI_ge _ _ _)
            have g1 := guessI_le T (lfI (undoTo T c above xd k) k c) (b8 above k) (lfI above k c) (lfI_le _ _ _) (b8_le _ _) (lfI_le _ _ _)
            have x0 := b8_ge xd k
            have x1 := b8_le xd k
            have hrb2 : (rb : Int) + 1 + (k : Int) < (l.length : Int) := by have := HS.out; omega
            have hrb3 : (0 : Int) ≤ (rb : Int) + 1 + (k : Int) := by omega
            have hwu1 : IntKind.u8.wrap (guessI T (lfI (undoTo T c above xd k) k c) (b8 above k) (lfI above k c)) = guessI T (lfI (undoTo T c above xd k) k c) (b8 above k) (lfI above k c) := by rw [wrap8, Int.emod_eq_of_lt g0 (by omega)]
            have hwu2 : IntKind.u8.wrap (b8 xd k + guessI T (lfI (undoTo T c above xd k) k c) (b8 above k) (lfI above k c)) = (b8 xd k + guessI T (lfI (undoTo T c above xd k) k c) (b8 above k) (lfI above k c)) % 256 := wrap8 _
            have hwr1 : IntKind.i64.wrap ((rb : Int) + 1) = (rb : Int) + 1 := IntWalk.i64_in _ (by omega)
            have hwr2 : IntKind.i64.wrap ((rb : Int) + 1 + (k : Int)) = (rb : Int) + 1 + (k : Int) := IntWalk.i64_in _ (by omega)
            have HW2 := hid hwr2
            have hrb4 : ((rb : Int) + 1 + (k : Int)).toNat = rb + 1 + k := by omega
            clear k0 k1 k2 k3 k4 k5 f0 f1 f2 f5 f4 hown3 hold5 hown5 hg5 hm5 hb5 hb6 hW3
            go_wp2
            go_region_held3 (fun w' => w'.cell? ⟨bl, ol + (rb + 1 + k), none⟩ = some (.int .u8 (b8 xd k)))
              (first | go_keep | skip)
              (first
                | (refine step_append_bytes by26 (by rfl) _ _ (by rfl) w1.heap.size (.slice ae E.length ce) E [undo1 T c above xd (undoTo T c above xd k) k] (by rfl) (by first | exact (hown6.alloc _).drew | exact hown6.alloc _) _ _ _ (by rfl) (by rfl) (Rd.up (Rd.one w6 _ 5 (Int.emod_nonneg _ (by decide)) (by have := Int.emod_lt_of_pos (b8 xd k + guessI T (lfI (undoTo T c above xd k) k c) (b8 above k) (lfI above k c)) (show (0 : Int) < 256 by decide); omega)) (by first | exact Below.refl _ _ | exact Below.drew (Below.refl _ _))) (by simp only [List.length_cons, List.length_nil]; omega) (by have := hb7.size; simp; omega) ?_; intro v8 w8 hown8 hold8 hg8 hm8; have hb8 := below_append ((hb7.alloc hb7.size _).drew) ((hown6.alloc _).drew) hg8 (Nat.le_refl _) (by have := hb7.size; simp; omega); have k8 : w8.cell? ⟨bl, ol + (rb + 1 + k), none⟩ = some (.int .u8 (b8 xd k)) := (by rw [(hb.trans (hb8.mono hb.size)).cell hls, HXB.out k hkn]; exact HLC.out _ (by have := HS.out; omega)))
                | (go_at_call 22; refine (rguess_any T _ _ _ _ t0 (by omega) (lfI_ge _ _ _) (lfI_le _ _ _) (b8_ge _ _) (b8_le _ _) (lfI_ge _ _ _) (lfI_le _ _ _)).mono ?_; rintro e w7 ⟨rfl, rfl⟩))
            clear hwu1 hwu2 hwr1 hwr2 hrb4 f6 k8 hg8 hm8 hold8
            go_wp2
            refine ⟨⟨k + 1, by omega, by go_num, ?_, hb8⟩, by simp [intOf]; omega⟩
            rw [HE.out, List.append_assoc] at hown8
            exact hown8
          · obtain rfl : k = N := by omega
            have e3 : ((rb : Int) + (k : Int) + 1) = ((rb + M : Nat) : Int) := by have := HS.out; omega
            have HE3 := hid e3
            clear e3 f4 e0 e1 e2
            go_wp2
            refine ⟨⟨q + 1, rb + M, hqR, by rw [HRB.out, Nat.succ_mul], congrArg (Value.int .i64) HE3.out, _, _, HSTEP.out, by rw [← HE.out]; exact hown3, hbel3⟩, ?_⟩
            have := HE3.out
            simp [intOf]; omega
    · have hrl2 : rb = l.length := by omega
      have hqR : q = R := by
        have h1 := HRM.out
        have h2 := HRB.out
        exact Nat.eq_of_mul_eq_mul_right (show 0 < M by omega) (by omega)
      subst hqR
      go_wp2
      go_ret2
      have hdn := HD.out
      rw [show ((c : Int).toNat) = c by simp, HDEC.out] at hdn
      exact undopost_of (out := out) (er := 0) (by rw [hdn]; rfl) rfl (hown.mono hb.size) (hb.trans (hbel.mono hb.size))
end Go.Proofs.Ytmlaakadjkmphaa
