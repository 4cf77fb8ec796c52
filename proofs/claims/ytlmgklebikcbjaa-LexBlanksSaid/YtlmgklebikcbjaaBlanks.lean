/-
  LexBlanks: whatever blanks and comments stand between tokens: the tokens are the same, but for their places; the statement's walk. Condition: its arguments read as bytes.
-/
import Derived.Test.YtlmgklebikcbjaaNames
import Derived.Test.YtlmgklebikcbjaaPiece
import Derived.Test.YtlmgklebikcbjaaLawSeg
import Derived.Test.YtlmgklebikcbjaaRkey
namespace Go.Proofs.Ytlmgklebikcbjaa
open Go.RowKit
set_option linter.unusedVariables false

/-- an operation behind a name: a region's walk does not try to take it first -/
def opConv (s t : TypeId) (x : Operand) : Op := .convert s t x
theorem st_list (l : List UInt8) : (st l).data.toList = l := by simp [st]
/-- a row of strings -/
def Arr (w : World) (A n : Nat) (f : Nat → List UInt8) : Prop := ∀ r, r < n → w.cell? ⟨A, r, none⟩ = some (.string (st (f r)))
theorem Arr.up {w w' : World} {A n : Nat} {f : Nat → List UInt8} (h : Arr w A n f) (hb : Below w.heap.size w w') : Arr w' A n f := fun r hr => cell_up' hb (h r hr)
theorem wds_arr (w : World) (e : TypeId) : Arr (w.alloc (.cells #[Value.string ⟨#[47, 65]⟩, Value.string ⟨#[40, 120, 41]⟩, Value.string ⟨#[60, 52, 49, 62]⟩, Value.string ⟨#[91]⟩, Value.string ⟨#[93]⟩, Value.string ⟨#[60, 60]⟩, Value.string ⟨#[62, 62]⟩, Value.string ⟨#[49, 50]⟩, Value.string ⟨#[45, 46, 53]⟩, Value.string ⟨#[111, 98, 106]⟩, Value.string ⟨#[116, 114, 117, 101]⟩] e)) w.heap.size 11 wds := by
  intro k hk
  rw [World.cell?_alloc_at _ _ _ _ rfl]
  obtain rfl | rfl | rfl | rfl | rfl | rfl | rfl | rfl | rfl | rfl | rfl : k = 0 ∨ k = 1 ∨ k = 2 ∨ k = 3 ∨ k = 4 ∨ k = 5 ∨ k = 6 ∨ k = 7 ∨ k = 8 ∨ k = 9 ∨ k = 10 := by omega
  all_goals rfl
theorem gps_arr (w : World) (e : TypeId) (g : Nat) (hg : g = w.heap.size) : Arr (w.alloc (.cells #[Value.string ⟨#[32]⟩, Value.string ⟨#[10]⟩, Value.string ⟨#[0]⟩, Value.string ⟨#[37, 99, 13]⟩, Value.string ⟨#[32, 37, 37, 10, 32]⟩, Value.string ⟨#[9, 12]⟩, Value.string ⟨#[13, 10]⟩, Value.string ⟨#[32, 32]⟩] e)) g 8 gps := by
  subst hg
  intro k hk
  rw [World.cell?_alloc_at _ _ _ _ rfl]
  obtain rfl | rfl | rfl | rfl | rfl | rfl | rfl | rfl : k = 0 ∨ k = 1 ∨ k = 2 ∨ k = 3 ∨ k = 4 ∨ k = 5 ∨ k = 6 ∨ k = 7 := by omega
  all_goals rfl

set_option maxHeartbeats 1200000 in
set_option maxRecDepth 100000 in
theorem blanks_any (v1 : Value) (ws : List UInt8) (v2 : Value) (gs : List UInt8) (w : World) (h1 : Sl w v1 ws) (h2 : Sl w v2 gs) :
    Calls Try.prog 7 #[v1, v2] w fun e w' => e = .returned (.bool true) ∧ Below w.heap.size w w' := by
  obtain ⟨ao1, cap1, rfl, a1, a2, a3, a4⟩ := id h1
  obtain ⟨ao2, cap2, rfl, c1, c2, c3, c4⟩ := id h2
  go_enter Try.func7, Try.ntmps7
  by_cases hs : 60 < ws.length
  · have t1 : decide ((60 : Int) < (ws.length : Int)) = true := decide_eq_true (by omega)
    go_wp2_with (go_at_call 15; refine (awake_any _).mono ?_; rintro e w1 ⟨rfl, hb1⟩)
    go_ret
    exact ⟨rfl, hb1⟩
  by_cases hb : 60 < gs.length
  · have t1 : decide ((60 : Int) < (ws.length : Int)) = false := decide_eq_false (by omega)
    have t2 : decide ((60 : Int) < (gs.length : Int)) = true := decide_eq_true (by omega)
    go_wp2_with (go_at_call 15; refine (awake_any _).mono ?_; rintro e w1 ⟨rfl, hb1⟩)
    go_ret
    exact ⟨rfl, hb1⟩
  have t1 : decide ((60 : Int) < (ws.length : Int)) = false := decide_eq_false (by omega)
  have t2 : decide ((60 : Int) < (gs.length : Int)) = false := decide_eq_false (by omega)
  have hlen := sgx_len (segAt ws gs) (seg_len ws gs)
  go_wp2_with (go_at_call 15; refine (awake_any _).mono ?_; rintro e w1 ⟨rfl, hb1⟩)
  go_loopw [7, 8, 9] (fun s i _ wr => ∃ k : Nat, k ≤ ws.length ∧ i = .int .i64 k ∧ s = .string (st (sgx (segAt ws gs) 0 k)) ∧ Below w.heap.size w wr ∧ Arr wr w1.heap.size 11 wds ∧ Arr wr (w1.heap.size + 1) 8 gps) (fun _ i _ _ => ws.length - (intOf i).toNat)
  case atStart => exact ⟨0, Nat.zero_le _, rfl, rfl, (hb1.alloc hb1.size _).alloc (by have := hb1.size; simp; omega) _, (wds_arr w1 _).up (alb _ _), gps_arr _ _ _ (by simp)⟩
  case round =>
    clear hb1
    obtain ⟨k, hk, rfl, rfl, hbel, hA, hB⟩ := hrel
    by_cases hlt : k < ws.length
    · obtain ⟨g1, o1, rfl, hs1, hc1⟩ := (a4.up hbel).some (by omega)
      specialize hc1 k hlt
      have hb8 : b8 ws k = c8 (ws.getD k 0) := rfl
      rw [hb8] at hc1
      clear hb8
      have hsn := sgx_snoc (segAt ws gs) k 0
      rw [Nat.zero_add] at hsn
      have hln := hlen k 0
      generalize sgx (segAt ws gs) 0 k = T at hsn hln ⊢
      have hT : T.length ≤ 600 := by omega
      have hwd : wdAt ws k = wds ((ws.getD k 0).toNat % 11) := rfl
      unfold segAt at hsn
      rw [hwd] at hsn
      generalize ws.getD k 0 = x at hc1 hsn
      have hx0 := c8_ge x
      have hx1 := c8_le x
      have hremw : ∀ t, binOp .rem t (.int .i64 (c8 x)) (.int .i64 11) = pure (.int .i64 ((x.toNat % 11 : Nat) : Int)) := rem_any .i64 x.toNat 11 (by decide)
      have hr11 : x.toNat % 11 < 11 := Nat.mod_lt _ (by decide)
      have hAr := hA _ hr11
      have hwl := (wds_facts _ hr11).1
      generalize x.toNat % 11 = r at hremw hr11 hAr hsn hwl
      generalize wds r = D at hAr hsn hwl
      by_cases hg : k < gs.length
      · obtain ⟨g2, o2, rfl, hs2, hc2⟩ := (c4.up hbel).some (by omega)
        specialize hc2 k hg
        have hb8 : b8 gs k = c8 (gs.getD k 0) := rfl
        rw [hb8] at hc2
        clear hb8
        have hgp : gapAt gs k = gps ((gs.getD k 0).toNat % 8) := by unfold gapAt; rw [if_pos hg]
        rw [hgp] at hsn
        clear hgp
        generalize gs.getD k 0 = y at hc2 hsn
        have hremg : ∀ t, binOp .rem t (.int .u8 (c8 y)) (.int .u8 8) = pure (.int .u8 ((y.toNat % 8 : Nat) : Int)) := rem_any .u8 y.toNat 8 (by decide)
        have hr8 : y.toNat % 8 < 8 := Nat.mod_lt _ (by decide)
        have hBr := hB _ hr8
        have hgl := (gps_facts _ hr8).1
        generalize y.toNat % 8 = z at hremg hr8 hBr hsn hgl
        generalize gps z = G at hBr hsn hgl
        have ha1 : ∀ w : World, (Op.stringOp .add (st T) (st G)).run Try.prog w = .ok (.string (st (T ++ G))) w := fun w => st_add T G (by omega) w
        have ha2 : ∀ w : World, (Op.stringOp .add (st (T ++ G)) (st D)).run Try.prog w = .ok (.string (st (T ++ (G ++ D)))) w := fun w => by rw [← List.append_assoc]; exact st_add (T ++ G) D (by rw [List.length_append]; omega) w
        rw [← hsn] at ha2
        have HS := hid hsn
        clear hsn hln hlen
        go_wp2
        go_roundw
        case rel => exact ⟨k + 1, by omega, by go_num, rfl, hbel, hA, hB⟩
        case measure => simp [intOf]; omega
      · have hgp : gapAt gs k = [32] := by unfold gapAt; rw [if_neg hg]
        rw [hgp] at hsn
        clear hgp
        have hng : ¬ ((k : Int) < (gs.length : Int)) := by omega
        have ha1 : ∀ w : World, (Op.stringOp .add (st T) ⟨#[32]⟩).run Try.prog w = .ok (.string (st (T ++ [32]))) w := fun w => st_add T [32] (by simp; omega) w
        have ha2 : ∀ w : World, (Op.stringOp .add (st (T ++ [32])) (st D)).run Try.prog w = .ok (.string (st (T ++ ([32] ++ D)))) w := fun w => by rw [← List.append_assoc]; exact st_add (T ++ [32]) D (by rw [List.length_append]; simp; omega) w
        rw [← hsn] at ha2
        have HS := hid hsn
        clear hsn hln hlen
        go_wp2
        go_roundw
        case rel => exact ⟨k + 1, by omega, by go_num, rfl, hbel, hA, hB⟩
        case measure => simp [intOf]; omega
    · obtain rfl : k = ws.length := by omega
      have hln := hlen ws.length 0
      have hT : (sgx (segAt ws gs) 0 ws.length).length ≤ 600 := by omega
      generalize hTd : sgx (segAt ws gs) 0 ws.length = T at hT ⊢
      have ha1 : ∀ w : World, (Op.stringOp .add (st T) ⟨#[10]⟩).run Try.prog w = .ok (.string (st (T ++ [10]))) w := fun w => st_add T [10] (by simp; omega) w
      have hzl : (T ++ [10]).length = T.length + 1 := by simp
      have h0 : sgx (segAt ws gs) 0 (ws.length - 0) ++ [10] = T ++ [10] := by rw [Nat.sub_zero, hTd]
      have kb := fun (w : World) (s : List UInt8) => convW_run (P := Try.prog) 9 25 5 (by kernel_rfl) Try.underlying25 Try.underlying5 w s
      generalize hZ : T ++ [10] = Z at ha1 hzl h0
      have HZ := hid hZ
      have hsT := st_size T
      have HZL := hid hzl
      have hzb : Z.length ≤ 601 := by omega
      have hX : Below w.heap.size w (convW wr 5 Z) := below_then' hbel (convW_below _ _ _) hbel.size
      have hAX := hA.up (convW_below wr 5 Z)
      clear hTd hZ hzl hln hlen hlt hB
      go_wp2_with (go_at_call 16; refine (lex_made _ Z _ (Sl.convW _ _ Z _ (by simp) (by omega)) (by omega)).mono ?_; rintro e w5 ⟨lp, cp, rfl, hlp, hcp, hL, hb5⟩)
      generalize hXd : convW wr 5 Z = X at hX hAX hlp hcp hb5 ⊢
      clear hXd hbel hA
      have hlw : w.heap.size ≤ lp := Nat.le_trans hX.size hlp
      have hcw : w.heap.size ≤ cp := Nat.le_trans hX.size hcp
      go_loopw [11, 12, 13, 14, 15] (fun i _ _ _ _ wv => ∃ k p : Nat, ∃ m v : Value, k ≤ ws.length ∧ i = .int .i64 k ∧ Lx wv wv lp cp Z p (sgx (segAt ws gs) k (ws.length - k) ++ [10]) m v (.slice none 0 0) [] ∧ Below X.heap.size X wv) (fun i _ _ _ _ _ => ws.length - (intOf i).toNat)
      case atStart => exact ⟨0, 0, _, _, Nat.zero_le _, rfl, by rw [h0]; exact hL, hb5⟩
      case round =>
        clear hL hb5 h0
        obtain ⟨k, p, m0, v0, hk, rfl, hL, hbX⟩ := hrel
        have hbw : Below w.heap.size w wr := below_then' hX hbX hX.size
        have hAw := hAX.up hbX
        have hpl := hL.at_
        by_cases hlt : k < ws.length
        · have hseg : sgx (segAt ws gs) k (ws.length - k) = segAt ws gs k ++ sgx (segAt ws gs) (k + 1) (ws.length - (k + 1)) := by rw [show ws.length - k = (ws.length - (k + 1)) + 1 by omega, sgx]
          have hRd := sgx_hd ws gs (k + 1) (ws.length - (k + 1))
          rw [hseg, List.append_assoc] at hL hpl
          obtain ⟨hwl, kd, nn, out, hT1, hT2, hb2⟩ := TK_seg ws gs k
          generalize hRR : sgx (segAt ws gs) (k + 1) (ws.length - (k + 1)) ++ [10] = R at hL hRd hpl
          have HRR := hid hRR
          have T1 := hid (hT1 R hRd)
          have T2 := hid (And.intro hT2 hb2)
          clear hT1 hT2 hb2 hRR hseg hRd
          have hpf : pfx (wdAt ws k) (T.drop (p + (gapAt gs k).length)) = true := by
            have hd1 := hL.drp
            have hzt : T = Z.take T.length := by rw [← HZ.out, List.take_left]
            have hd2 : Z.drop (p + (gapAt gs k).length) = wdAt ws k ++ R := by
              rw [← List.drop_drop, hd1]; unfold segAt; rw [List.append_assoc, List.drop_left]
            have hR1 : 1 ≤ R.length := by rw [← HRR.out]; simp
            have hsl : (segAt ws gs k).length = (gapAt gs k).length + (wdAt ws k).length := by unfold segAt; rw [List.length_append]
            rw [List.length_append, hsl] at hpl
            have hzz := HZL.out
            rw [hzt, List.drop_take, hd2]
            unfold pfx
            rw [List.take_take, Nat.min_eq_left (by omega), List.take_left]
            simp
          have hpi : p + (gapAt gs k).length ≤ T.length := by
            have hR1 : 1 ≤ R.length := by rw [← HRR.out]; simp
            have hsl : (segAt ws gs k).length = (gapAt gs k).length + (wdAt ws k).length := by unfold segAt; rw [List.length_append]
            rw [List.length_append, hsl] at hpl
            have hzz := HZL.out
            omega
          have PF := hid hpf
          have HRl : Hid (p + (segAt ws gs k ++ R).length = Z.length) := hid hpl
          generalize segAt ws gs k ++ R = SR at hL T1 HRl
          generalize hgp : p + (gapAt gs k).length = pg at hpi PF
          have HGP := hid hgp
          generalize gapAt gs k = G at T1 HGP
          clear hpf hpl hgp
          obtain ⟨g1, o1, rfl, hs1, hc1⟩ := (a4.up hX).some (by omega)
          specialize hc1 k hlt
          have hb8 : b8 ws k = c8 (ws.getD k 0) := rfl
          rw [hb8] at hc1
          have hwd : wdAt ws k = wds ((ws.getD k 0).toNat % 11) := rfl
          rw [hwd] at hwl T2 PF
          clear hb8 hwd
          generalize ws.getD k 0 = x at hc1 hwl T2 PF
          have hx0 := c8_ge x
          have hx1 := c8_le x
          have hremw : ∀ t, binOp .rem t (.int .i64 (c8 x)) (.int .i64 11) = pure (.int .i64 ((x.toNat % 11 : Nat) : Int)) := rem_any .i64 x.toNat 11 (by decide)
          have hr11 : x.toNat % 11 < 11 := Nat.mod_lt _ (by decide)
          have hAr := hAX _ hr11
          have HTM : Hid ((c8 x).tmod 11 = ((x.toNat % 11 : Nat) : Int)) := hid rfl
          generalize x.toNat % 11 = r at hremw hr11 hAr hwl T2 PF HTM
          generalize wds r = D at hAr hwl T2 PF
          have hcw1 := cell_up' hbX hc1
          have hAw1 := cell_up' hbX hAr
          go_wp2_with (first | (go_at_call 17; (with_reducible refine (token_q (TK_good _) hM).mono ?_); rw [T2.out.1, T2.out.2]; rintro e w8 ⟨u8, rfl, j8, m8, y8, hL8⟩; obtain ⟨ao8, cap8, rfl, -, -, -⟩ := Rd.own hL8.row) | (go_at_call 17; (with_reducible refine (token_q (TK_good _) hL).mono ?_); rw [T1.out.1, T1.out.2, HGP.out]; rintro e w6 ⟨u6, rfl, j6, m6, y6, hL6⟩; obtain ⟨ao6, cap6, rfl, -, -, -⟩ := Rd.own hL6.row; have hB6 : Below X.heap.size X w6 := hL6.out0 hbX hlp hcp; have hc6 := cell_up' hB6 hc1; have hA6 := cell_up' hB6 hAr; have zc6 := World.block_lt_of_cell? _ _ hc6; have zA6 := World.block_lt_of_cell? _ _ hA6) | (go_at_call 16; refine (lex_made _ D _ (Sl.convW _ _ D _ (by simp) (by omega)) (by omega)).mono ?_; rintro e w7 ⟨lp2, cp2, rfl, hlp2, hcp2, hM, hb7⟩))
          have hB7 := below_then' (convW_below (w6.alloc (.cells #[.int .i64 kd, .int .i64 pg, .int .i64 nn, .slice ao6 out.length cap6] 28)) 5 D) hb7 (Nat.le_of_lt (by rw [convW_size]; omega))
          have hq7 := Nat.le_trans (convW_below (w6.alloc (.cells #[.int .i64 kd, .int .i64 pg, .int .i64 nn, .slice ao6 out.length cap6] 28)) 5 D).size hlp2
          have hq8 := Nat.le_trans (convW_below (w6.alloc (.cells #[.int .i64 kd, .int .i64 pg, .int .i64 nn, .slice ao6 out.length cap6] 28)) 5 D).size hcp2
          have hB8 := hL8.out0 hB7 hq7 hq8
          have t0 : (w6.alloc (.cells #[.int .i64 kd, .int .i64 pg, .int .i64 nn, .slice ao6 out.length cap6] 28)).cell? ⟨w6.heap.size, 0, none⟩ = some (.int .i64 kd) := by rw [World.cell?_alloc_at _ _ _ _ rfl]; rfl
          have t1' : (w6.alloc (.cells #[.int .i64 kd, .int .i64 pg, .int .i64 nn, .slice ao6 out.length cap6] 28)).cell? ⟨w6.heap.size, 1, none⟩ = some (.int .i64 pg) := by rw [World.cell?_alloc_at _ _ _ _ rfl]; rfl
          have t2' : (w6.alloc (.cells #[.int .i64 kd, .int .i64 pg, .int .i64 nn, .slice ao6 out.length cap6] 28)).cell? ⟨w6.heap.size, 2, none⟩ = some (.int .i64 nn) := by rw [World.cell?_alloc_at _ _ _ _ rfl]; rfl
          have t3 : (w6.alloc (.cells #[.int .i64 kd, .int .i64 pg, .int .i64 nn, .slice ao6 out.length cap6] 28)).cell? ⟨w6.heap.size, 3, none⟩ = some (.slice ao6 out.length cap6) := by rw [World.cell?_alloc_at _ _ _ _ rfl]; rfl
          have hL6a := (hL6.below (alb w6 (.cells #[.int .i64 kd, .int .i64 pg, .int .i64 nn, .slice ao6 out.length cap6] 28))).fresh
          have S6 := Sl.own (hL6.below (alb w6 (.cells #[.int .i64 kd, .int .i64 pg, .int .i64 nn, .slice ao6 out.length cap6] 28))).row
          have hc6a := cell_up' (alb w6 (.cells #[.int .i64 kd, .int .i64 pg, .int .i64 nn, .slice ao6 out.length cap6] 28)) hc6
          have hA6a := cell_up' (alb w6 (.cells #[.int .i64 kd, .int .i64 pg, .int .i64 nn, .slice ao6 out.length cap6] 28)) hA6
          have hB6a : Below X.heap.size X (w6.alloc (.cells #[.int .i64 kd, .int .i64 pg, .int .i64 nn, .slice ao6 out.length cap6] 28)) := hB6.alloc hB6.size _
          generalize w6.alloc (.cells #[.int .i64 kd, .int .i64 pg, .int .i64 nn, .slice ao6 out.length cap6] 28) = Wa at *
          have S8 := Sl.own hL8.row
          generalize hW : w8.alloc (.cells #[.int .i64 kd, .int .i64 0, .int .i64 nn, .slice ao8 out.length cap8] 28) = W
          have bW : Below w8.heap.size w8 W := by rw [← hW]; exact alb _ _
          have bAW : Below Wa.heap.size Wa W := below_then' hB8 bW hB8.size
          have u0 : W.cell? ⟨w8.heap.size, 0, none⟩ = some (.int .i64 kd) := by rw [← hW, World.cell?_alloc_at _ _ _ _ rfl]; rfl
          have u2 : W.cell? ⟨w8.heap.size, 2, none⟩ = some (.int .i64 nn) := by rw [← hW, World.cell?_alloc_at _ _ _ _ rfl]; rfl
          have u3 : W.cell? ⟨w8.heap.size, 3, none⟩ = some (.slice ao8 out.length cap8) := by rw [← hW, World.cell?_alloc_at _ _ _ _ rfl]; rfl
          have t0 := cell_up' bAW t0
          have t1' := cell_up' bAW t1'
          have t2' := cell_up' bAW t2'
          have t3 := cell_up' bAW t3
          have S6 := S6.up bAW
          have S8 := S8.up bW
          have hcW := cell_up' bAW hc6a
          have hAW := cell_up' bAW hA6a
          have hLW := (hL6a.below bAW).fresh
          have hBW : Below X.heap.size X W := below_then' hB6a bAW hB6a.size
          have hck : ∀ (w : World) (a : Addr) (v : Value), w.cell? a = some v → (convW w 5 T).cell? a = some v := fun w a v hq => cell_up' (convW_below _ _ _) hq
          have kb := fun (w : World) (s : List UInt8) => convW_run (P := Try.prog) 9 25 5 (by kernel_rfl) Try.underlying25 Try.underlying5 w s
          generalize w8.heap.size = B8 at *
          generalize w6.heap.size = B6 at *
          clear hW bW bAW hB6a hc6a hA6a hL6a hB8 hq7 hq8 hB7 hb7 hM hL8 hL6 hB6 hc6 hA6 zc6 zA6 hlp2 hcp2 hcw1 hAw1 hL hAw hAX hAr hc1 T1 T2 HGP HRl
          have hcv : opConv 9 25 (Operand.tmp 124) = Op.convert 9 25 (Operand.tmp 124) := rfl
          have hi0 : (0 : Int) ≤ (r : Int) := by omega
          have hi1 : (r : Int) < 11 := by omega
          have hk0 : (0 : Int) ≤ (k : Int) := by omega
          have hk1 : (k : Int) < (ws.length : Int) := by omega
          have hw64 : IntKind.i64.wrap (c8 x) = c8 x := by simp [IntKind.wrap, IntKind.signed, IntKind.bits]; omega
          have htm := HTM.out
          rw [← hcv]
          go_region_held3 (fun w' => w'.cell? ⟨B6, 0, none⟩ = some (.int .i64 kd) ∧ w'.cell? ⟨B6, 1, none⟩ = some (.int .i64 pg) ∧ w'.cell? ⟨B6, 2, none⟩ = some (.int .i64 nn) ∧ w'.cell? ⟨B6, 3, none⟩ = some (.slice ao6 out.length cap6) ∧ w'.cell? ⟨B8, 0, none⟩ = some (.int .i64 kd) ∧ w'.cell? ⟨B8, 2, none⟩ = some (.int .i64 nn) ∧ w'.cell? ⟨B8, 3, none⟩ = some (.slice ao8 out.length cap8) ∧ w'.cell? ⟨g1, o1 + k, none⟩ = some (.int .u8 (c8 x)) ∧ w'.cell? ⟨w1.heap.size, r, none⟩ = some (.string (st D))) (first | go_keep | skip) (first | (go_at_call 24; refine (same_sl _ _ out out _ (S6.up (below_drewN (Below.refl _ _) _)) (S8.up (below_drewN (Below.refl _ _) _))).mono ?_; rw [decide_eq_true (rfl : out = out)]; rintro e w9 ⟨rfl, n9, rfl⟩) | (go_at_call 26; refine (stands _ T pg (st D) _ (Sl.convW _ _ T _ (by simp) (by omega)) hpi (by omega) (by rw [st_size]; omega)).mono ?_; rw [st_list, PF.out]; rintro e w10 ⟨rfl, rfl⟩))
          go_wp2_with (fail)
          go_roundw
          case rel => exact ⟨k + 1, j6, m6, y6, by omega, by go_num, by rw [HRR.out]; exact (hLW.below (below_then (below_drewN (Below.refl _ _) (1 + n9)) (convW_below _ _ _))).fresh, below_then' hBW (below_then (below_drewN (Below.refl _ _) (1 + n9)) (convW_below _ _ _)) hBW.size⟩
          case measure => simp [intOf]; omega
        · have hk0 : ws.length - k = 0 := by omega
          rw [hk0] at hL hpl
          have hzz := HZL.out
          have T3 : Hid (bl [10] false = 1 ∧ TK [10] = .tok 0 0 [] []) := hid (by decide +kernel)
          have e10 : sgx (segAt ws gs) k 0 ++ [10] = [10] := rfl
          rw [e10] at hL hpl
          obtain rfl : p = T.length := by simp at hpl; omega
          have hnk : ¬ ((k : Int) < (ws.length : Int)) := by omega
          clear e10 hpl hk0 hzz hlt
          go_wp2_with (go_at_call 17; (with_reducible refine (token_q (TK_good _) hL).mono ?_); rw [T3.out.1, T3.out.2]; rintro e w6 ⟨u6, rfl, j6, m6, y6, hL6⟩; obtain ⟨ao6, cap6, rfl, -, -, -⟩ := Rd.own hL6.row)
          have hB6 := hL6.out0 hbw hlw hcw
          go_ret
          exact ⟨rfl, hB6.trans ((alb w6 _).mono hB6.size)⟩
end Go.Proofs.Ytlmgklebikcbjaa
