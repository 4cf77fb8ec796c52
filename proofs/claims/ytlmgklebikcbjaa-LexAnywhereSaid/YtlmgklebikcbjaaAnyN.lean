/-
  LexAnywhere: from any place on: the token there, what a keyword passes, where blanks end; the statement's walk. Condition: none but what its arguments read as.
-/
import Derived.Test.YtlmgklebikcbjaaAny
namespace Go.Proofs.Ytlmgklebikcbjaa
open Go.RowKit
set_option linter.unusedVariables false


set_option maxHeartbeats 3200000 in
set_option maxRecDepth 100000 in
theorem any_none (b : List UInt8) (ao2 : Option Addr) (cap2 : Nat) (at_ : Int) (p : ByteArray) (w : World) (h : Sl w (.slice ao2 b.length cap2) b) (hlen : b.length ≤ 500) (hp : p.size ≤ 50) (hb0 : b.length = 0) :
    Calls Try.prog 9 #[.slice ao2 b.length cap2, .int .i64 at_, .string p] w fun e w' => e = .returned (.bool true) ∧ Below w.heap.size w w' := by
  have hK : 0 ≤ b.length := Nat.zero_le _
  have t0 : decide ((0 : Int) < (b.length : Int)) = false := decide_eq_false (by omega)
  have hnp : ¬ ((0 : Int) < (b.length : Int)) := by omega
  clear hb0
  rcases hT : TK (b.drop 0) with err | ⟨k0, n0, out1, rest⟩
  · have HT := hid hT
    generalize hA : 0 + bl (b.drop 0) false = a
    have HA := hid hA
    clear hT hA
    go_enter Try.func9, Try.ntmps9
    go_wp2_with (first | (go_at_call 15; refine (awake_any _).mono ?_; rintro e w1 ⟨rfl, hb1⟩) | (go_at_call 16; refine (lex_made _ b _ (h.up hb1) (by omega)).mono ?_; rintro e w2 ⟨lp, cp, rfl, hlp, hcp, hL, hb2⟩; have hP := Pr.new (k := 0) h (by omega) hb1 hL hb2 hlp hcp 0 rfl hK 34; have p0 := hP.p0))
    generalize w2.heap.size = mp at *
    go_wp2_with (first | (go_at_call 29; obtain ⟨m0, v0, hLx⟩ := hP.lx; refine (seek_l 0 _ rfl hK hLx).mono ?_; rintro e w7 ⟨rfl, hLs⟩; have hP := hP.stepL hLs; have p0 := hP.p0; have c1 := hP.c1; have f1 := hP.f1) | (go_at_call 17; obtain ⟨m0, v0, hLx⟩ := hP.lx; (with_reducible refine (token_q (TK_good _) hLx).mono ?_); rw [HT.out, HA.out]; rintro e w3 ⟨rfl, m3, v3, u3, o3, hL3⟩; have hP3 := hP.stepL hL3) | (go_at_call 18; (with_reducible refine (rtoken_q (TK_good _) (hP3.alloc _).cx).mono ?_); rw [HT.out, HA.out]; rintro e w4 ⟨rfl, hC4⟩; have hP := (hP3.alloc _).stepC hC4))
    have hz3 : w3.heap.size < (w3.alloc (.cells #[.int .i64 0, .int .i64 a, .int .i64 0, .slice none 0 0] 28)).heap.size := by simp
    have hm3 : mp < w3.heap.size := hP3.hi
    have rt : ∀ o v, (w3.alloc (.cells #[.int .i64 0, .int .i64 a, .int .i64 0, .slice none 0 0] 28)).cell? ⟨w3.heap.size, o, none⟩ = some v → w4.cell? ⟨w3.heap.size, o, none⟩ = some v := fun o v hq => by rw [hC4.held.cell (a := ⟨w3.heap.size, o, none⟩) hz3 (by simp; omega) (by simp; omega)]; exact hq
    have t0 := rt 0 (.int .i64 0) (by rw [World.cell?_alloc_at _ _ _ _ rfl]; rfl)
    have t1' := rt 1 (.int .i64 a) (by rw [World.cell?_alloc_at _ _ _ _ rfl]; rfl)
    have t2 := rt 2 (.int .i64 0) (by rw [World.cell?_alloc_at _ _ _ _ rfl]; rfl)
    have t3 := rt 3 (.slice none 0 0) (by rw [World.cell?_alloc_at _ _ _ _ rfl]; rfl)
    have hs3 : Sl w4 (.slice none 0 0) [] := Sl.nil _
    have hs4 : Sl w4 (.slice none 0 0) [] := Sl.nil _
    generalize hW : w4.alloc (Obj.cells #[Value.int .i64 0, Value.int .i64 a, Value.int .i64 0, .slice none 0 0] 35) = W4
    have bW : Below w4.heap.size w4 W4 := by rw [← hW]; exact alb _ _
    have g0 : W4.cell? ⟨w4.heap.size, 0, none⟩ = some (.int .i64 0) := by rw [← hW, World.cell?_alloc_at _ _ _ _ rfl]; rfl
    have g1 : W4.cell? ⟨w4.heap.size, 1, none⟩ = some (.int .i64 a) := by rw [← hW, World.cell?_alloc_at _ _ _ _ rfl]; rfl
    have g2 : W4.cell? ⟨w4.heap.size, 2, none⟩ = some (.int .i64 0) := by rw [← hW, World.cell?_alloc_at _ _ _ _ rfl]; rfl
    have g3 : W4.cell? ⟨w4.heap.size, 3, none⟩ = some (.slice none 0 0) := by rw [← hW, World.cell?_alloc_at _ _ _ _ rfl]; rfl
    have t0 := cell_up' bW t0
    have t1' := cell_up' bW t1'
    have t2 := cell_up' bW t2
    have t3 := cell_up' bW t3
    have hs3 := hs3.up bW
    have hs4 := hs4.up bW
    have hP := hP.below bW
    have p0 := hP.p0
    have c1 := hP.c1
    clear rt bW hW hz3
    have b1 : ((err : Int) != err) = false := by simp
    go_region_held3 (fun w' => w'.cell? ⟨w3.heap.size, 0, none⟩ = some (.int .i64 0) ∧ w'.cell? ⟨w3.heap.size, 1, none⟩ = some (.int .i64 a) ∧ w'.cell? ⟨w3.heap.size, 2, none⟩ = some (.int .i64 0) ∧ w'.cell? ⟨w3.heap.size, 3, none⟩ = some (.slice none 0 0) ∧ w'.cell? ⟨w4.heap.size, 0, none⟩ = some (.int .i64 0) ∧ w'.cell? ⟨w4.heap.size, 1, none⟩ = some (.int .i64 a) ∧ w'.cell? ⟨w4.heap.size, 2, none⟩ = some (.int .i64 0) ∧ w'.cell? ⟨w4.heap.size, 3, none⟩ = some (.slice none 0 0) ∧ w'.cell? ⟨lp, 0, none⟩ = some (.pointer (some ⟨cp, 0, none⟩)) ∧ w'.cell? ⟨mp, 1, none⟩ = some (.int .i64 a)) (first | go_keep | skip) (first | (go_at_call 20; refine (tokconv _ _ _ _ [] _ (hs3.up (below_drewN (Below.refl _ _) _))).mono ?_; rintro e w5 ⟨rfl, hb5⟩; have hB5 := below_then (below_drewN (Below.refl _ _) _) hb5; have x0 := cell_up' hB5 t0; have x1 := cell_up' hB5 t1'; have x2 := cell_up' hB5 t2; have x3 := cell_up' hB5 t3; have y0 := cell_up' hB5 g0; have y1 := cell_up' hB5 g1; have y2 := cell_up' hB5 g2; have y3 := cell_up' hB5 g3; have z0 := cell_up' hB5 p0; have z1 := cell_up' hB5 c1) | (go_at_call 19; refine (sametok _ _ _ _ _ [] _ (hs3.up hB5) (hs4.up hB5)).mono ?_; rintro e w6 ⟨rfl, hb6⟩; have hB6 := below_then hB5 hb6; have x0 := cell_up' hB6 t0; have x1 := cell_up' hB6 t1'; have x2 := cell_up' hB6 t2; have x3 := cell_up' hB6 t3; have y0 := cell_up' hB6 g0; have y1 := cell_up' hB6 g1; have y2 := cell_up' hB6 g2; have y3 := cell_up' hB6 g3; have z0 := cell_up' hB6 p0; have z1 := cell_up' hB6 c1) | (go_at_call 21; obtain ⟨m9, v9, hLx⟩ := (hP.below hB6).lx; refine (pos_l hLx).mono ?_; rintro e w7 ⟨rfl, rfl⟩))
    have hP := hP.below hB6
    clear t0 t1' t2 t3 g0 g1 g2 g3 p0 c1 x0 x1 x2 x3 y0 y1 y2 y3 z0 z1 hs3 hs4
    have p0 := hP.p0
    cases hk : KW p.data.toList (b.drop 0) with
    | true =>
      have HK := hid hk
      clear hk
      go_wp2_with (first | (go_at_call 29; obtain ⟨m0, v0, hLx⟩ := hP.lx; refine (seek_l 0 _ rfl hK hLx).mono ?_; rintro e w7 ⟨rfl, hLs⟩; have hP := hP.stepL hLs; have p0 := hP.p0; have c1 := hP.c1; have f1 := hP.f1) | (go_at_call 30; obtain ⟨m0, v0, hLx⟩ := (hP.setM 0 rfl hK).lx; refine (keyword_yes _ (by omega) HK.out hLx).mono ?_; rintro e w8 ⟨rfl, hLk⟩; have hP := (hP.setM 0 rfl hK).stepL hLk; have p0 := hP.p0))
      have hlv : opLoad 3 (Operand.tmp 108) = Op.load 3 (Operand.tmp 108) := rfl
      rw [← hlv]
      go_region_held3 (fun w' => w'.cell? ⟨lp, 0, none⟩ = some (.pointer (some ⟨cp, 0, none⟩))) (first | go_keep | skip) (first | (go_at_call 31; refine (rkey_yes _ (by omega) HK.out (hP.drew _).cx).mono ?_; rintro e w9 ⟨rfl, hCk⟩; have hP := (hP.drew _).stepC hCk; have p0 := hP.p0; have c1 := hP.c1) | (go_at_call 21; obtain ⟨m9, v9, hLx⟩ := hP.lx; refine (pos_l hLx).mono ?_; rintro e w10 ⟨rfl, rfl⟩))
      all_goals
        go_wp2_with (first | (go_at_call 32; obtain ⟨m0, v0, hLx⟩ := hP.lx; refine (blank_l hLx).mono ?_; rintro e w11 ⟨rfl, hLb⟩; have hP := hP.stepL hLb; have p0 := hP.p0) | (go_at_call 33; refine (rblank hP.cx).mono ?_; rintro e w12 ⟨rfl, hCb⟩; have hP := hP.stepC hCb; have p0 := hP.p0; have c1 := hP.c1))
        go_region_held3 (fun w' => w'.cell? ⟨lp, 0, none⟩ = some (.pointer (some ⟨cp, 0, none⟩)) ∧ w'.cell? ⟨mp, 1, none⟩ = some (.int .i64 (((0 + bl (b.drop 0) false + p.size) + bl (b.drop (0 + bl (b.drop 0) false + p.size)) false) : Nat))) (first | go_keep | skip) (first | (go_at_call 21; obtain ⟨m9, v9, hLx⟩ := hP.lx; refine (pos_l (hLx.drew _)).mono ?_; rintro e w13 ⟨rfl, rfl⟩) | (go_at_call 34; refine (regular_any _ _).mono ?_; rintro e w14 ⟨rfl, n14, rfl⟩) | (go_at_call 35; refine (rregular_any _ _).mono ?_; rintro e w15 ⟨rfl, n15, rfl⟩))
        all_goals
          go_wp2_with (fail)
          go_ret
          exact ⟨rfl, below_drewN hP.bel _⟩
    | false =>
      have HK := hid hk
      clear hk
      go_wp2_with (first | (go_at_call 29; obtain ⟨m0, v0, hLx⟩ := hP.lx; refine (seek_l 0 _ rfl hK hLx).mono ?_; rintro e w7 ⟨rfl, hLs⟩; have hP := hP.stepL hLs; have p0 := hP.p0; have c1 := hP.c1; have f1 := hP.f1) | (go_at_call 30; obtain ⟨m0, v0, hLx⟩ := (hP.setM 0 rfl hK).lx; refine (keyword_no _ (by omega) HK.out hLx).mono ?_; rintro e w8 ⟨rfl, hLk⟩; have hP := (hP.setM 0 rfl hK).stepL hLk; have p0 := hP.p0))
      have hlv : opLoad 3 (Operand.tmp 108) = Op.load 3 (Operand.tmp 108) := rfl
      rw [← hlv]
      go_region_held3 (fun w' => w'.cell? ⟨lp, 0, none⟩ = some (.pointer (some ⟨cp, 0, none⟩))) (first | go_keep | skip) (first | (go_at_call 31; refine (rkey_no _ (by omega) HK.out (hP.drew _).cx).mono ?_; rintro e w9 ⟨rfl, hCk⟩; have hP := (hP.drew _).stepC hCk; have p0 := hP.p0; have c1 := hP.c1) | (go_at_call 21; obtain ⟨m9, v9, hLx⟩ := hP.lx; refine (pos_l hLx).mono ?_; rintro e w10 ⟨rfl, rfl⟩))
      all_goals
        go_wp2_with (first | (go_at_call 32; obtain ⟨m0, v0, hLx⟩ := hP.lx; refine (blank_l hLx).mono ?_; rintro e w11 ⟨rfl, hLb⟩; have hP := hP.stepL hLb; have p0 := hP.p0) | (go_at_call 33; refine (rblank hP.cx).mono ?_; rintro e w12 ⟨rfl, hCb⟩; have hP := hP.stepC hCb; have p0 := hP.p0; have c1 := hP.c1))
        go_region_held3 (fun w' => w'.cell? ⟨lp, 0, none⟩ = some (.pointer (some ⟨cp, 0, none⟩)) ∧ w'.cell? ⟨mp, 1, none⟩ = some (.int .i64 ((0 + bl (b.drop 0) false) : Nat))) (first | go_keep | skip) (first | (go_at_call 21; obtain ⟨m9, v9, hLx⟩ := hP.lx; refine (pos_l (hLx.drew _)).mono ?_; rintro e w13 ⟨rfl, rfl⟩) | (go_at_call 34; refine (regular_any _ _).mono ?_; rintro e w14 ⟨rfl, n14, rfl⟩) | (go_at_call 35; refine (rregular_any _ _).mono ?_; rintro e w15 ⟨rfl, n15, rfl⟩))
        all_goals
          go_wp2_with (fail)
          go_ret
          exact ⟨rfl, below_drewN hP.bel _⟩
  · have HT := hid hT
    generalize hA : 0 + bl (b.drop 0) false = a
    have HA := hid hA
    clear hT hA
    go_enter Try.func9, Try.ntmps9
    go_wp2_with (first | (go_at_call 15; refine (awake_any _).mono ?_; rintro e w1 ⟨rfl, hb1⟩) | (go_at_call 16; refine (lex_made _ b _ (h.up hb1) (by omega)).mono ?_; rintro e w2 ⟨lp, cp, rfl, hlp, hcp, hL, hb2⟩; have hP := Pr.new (k := 0) h (by omega) hb1 hL hb2 hlp hcp 0 rfl hK 34; have p0 := hP.p0))
    generalize w2.heap.size = mp at *
    go_wp2_with (first | (go_at_call 29; obtain ⟨m0, v0, hLx⟩ := hP.lx; refine (seek_l 0 _ rfl hK hLx).mono ?_; rintro e w7 ⟨rfl, hLs⟩; have hP := hP.stepL hLs; have p0 := hP.p0; have c1 := hP.c1; have f1 := hP.f1) | (go_at_call 17; obtain ⟨m0, v0, hLx⟩ := hP.lx; (with_reducible refine (token_q (TK_good _) hLx).mono ?_); rw [HT.out, HA.out]; rintro e w3 ⟨u1, rfl, j3, m3, v3, hL3⟩; obtain ⟨ao3, cap3, rfl, -, -, -⟩ := Rd.own hL3.row; have hmh := hP.hi; have hP3 := hP.stepL hL3) | (go_at_call 18; (with_reducible refine (rtoken_q (TK_good _) (hP3.alloc _).cx).mono ?_); rw [HT.out, HA.out]; rintro e w4 ⟨u4, rfl, j4, hC4⟩; obtain ⟨ao4, cap4, rfl, -, -, -⟩ := Rd.own hC4.row; obtain rfl : j3 = j4 := (by have h1 := hL3.at_; have h2 := hC4.at_; omega); have hP := (hP3.alloc _).stepC hC4))
    have hz3 : w3.heap.size < (w3.alloc (.cells #[.int .i64 k0, .int .i64 a, .int .i64 n0, .slice ao3 out1.length cap3] 28)).heap.size := by simp
    have hm3 : mp < w3.heap.size := hP3.hi
    have rt : ∀ o v, (w3.alloc (.cells #[.int .i64 k0, .int .i64 a, .int .i64 n0, .slice ao3 out1.length cap3] 28)).cell? ⟨w3.heap.size, o, none⟩ = some v → w4.cell? ⟨w3.heap.size, o, none⟩ = some v := fun o v hq => by rw [hC4.held.cell (a := ⟨w3.heap.size, o, none⟩) hz3 (by simp; omega) (by simp; omega)]; exact hq
    have t0 := rt 0 (.int .i64 k0) (by rw [World.cell?_alloc_at _ _ _ _ rfl]; rfl)
    have t1' := rt 1 (.int .i64 a) (by rw [World.cell?_alloc_at _ _ _ _ rfl]; rfl)
    have t2 := rt 2 (.int .i64 n0) (by rw [World.cell?_alloc_at _ _ _ _ rfl]; rfl)
    have t3 := rt 3 (.slice ao3 out1.length cap3) (by rw [World.cell?_alloc_at _ _ _ _ rfl]; rfl)
    have hs3 : Sl w4 (.slice ao3 out1.length cap3) out1 := Sl.own (World.ownsRow.alloc hL3.row (.cells #[.int .i64 k0, .int .i64 a, .int .i64 n0, .slice ao3 out1.length cap3] 28) |> fun hq => OwnB.held hq hC4.held (fun g hg => by have := (World.ownsRow.lt hL3.row g hg).1; exact ⟨by omega, by omega⟩))
    have hs4 : Sl w4 (.slice ao4 out1.length cap4) out1 := Sl.own hC4.row
    generalize hW : w4.alloc (Obj.cells #[Value.int .i64 k0, Value.int .i64 a, Value.int .i64 n0, .slice ao4 out1.length cap4] 35) = W4
    have bW : Below w4.heap.size w4 W4 := by rw [← hW]; exact alb _ _
    have g0 : W4.cell? ⟨w4.heap.size, 0, none⟩ = some (.int .i64 k0) := by rw [← hW, World.cell?_alloc_at _ _ _ _ rfl]; rfl
    have g1 : W4.cell? ⟨w4.heap.size, 1, none⟩ = some (.int .i64 a) := by rw [← hW, World.cell?_alloc_at _ _ _ _ rfl]; rfl
    have g2 : W4.cell? ⟨w4.heap.size, 2, none⟩ = some (.int .i64 n0) := by rw [← hW, World.cell?_alloc_at _ _ _ _ rfl]; rfl
    have g3 : W4.cell? ⟨w4.heap.size, 3, none⟩ = some (.slice ao4 out1.length cap4) := by rw [← hW, World.cell?_alloc_at _ _ _ _ rfl]; rfl
    have t0 := cell_up' bW t0
    have t1' := cell_up' bW t1'
    have t2 := cell_up' bW t2
    have t3 := cell_up' bW t3
    have hs3 := hs3.up bW
    have hs4 := hs4.up bW
    have hP := hP.below bW
    have p0 := hP.p0
    have c1 := hP.c1
    clear rt bW hW hz3
    have b1 : ((0 : Int) != 0) = false := by simp
    go_region_held3 (fun w' => w'.cell? ⟨w3.heap.size, 0, none⟩ = some (.int .i64 k0) ∧ w'.cell? ⟨w3.heap.size, 1, none⟩ = some (.int .i64 a) ∧ w'.cell? ⟨w3.heap.size, 2, none⟩ = some (.int .i64 n0) ∧ w'.cell? ⟨w3.heap.size, 3, none⟩ = some (.slice ao3 out1.length cap3) ∧ w'.cell? ⟨w4.heap.size, 0, none⟩ = some (.int .i64 k0) ∧ w'.cell? ⟨w4.heap.size, 1, none⟩ = some (.int .i64 a) ∧ w'.cell? ⟨w4.heap.size, 2, none⟩ = some (.int .i64 n0) ∧ w'.cell? ⟨w4.heap.size, 3, none⟩ = some (.slice ao4 out1.length cap4) ∧ w'.cell? ⟨lp, 0, none⟩ = some (.pointer (some ⟨cp, 0, none⟩)) ∧ w'.cell? ⟨mp, 1, none⟩ = some (.int .i64 j3)) (first | go_keep | skip) (first | (go_at_call 20; refine (tokconv _ _ _ _ out1 _ (hs3.up (below_drewN (Below.refl _ _) _))).mono ?_; rintro e w5 ⟨rfl, hb5⟩; have hB5 := below_then (below_drewN (Below.refl _ _) _) hb5; have x0 := cell_up' hB5 t0; have x1 := cell_up' hB5 t1'; have x2 := cell_up' hB5 t2; have x3 := cell_up' hB5 t3; have y0 := cell_up' hB5 g0; have y1 := cell_up' hB5 g1; have y2 := cell_up' hB5 g2; have y3 := cell_up' hB5 g3; have z0 := cell_up' hB5 p0; have z1 := cell_up' hB5 c1) | (go_at_call 19; refine (sametok _ _ _ _ _ out1 _ (hs3.up hB5) (hs4.up hB5)).mono ?_; rintro e w6 ⟨rfl, hb6⟩; have hB6 := below_then hB5 hb6; have x0 := cell_up' hB6 t0; have x1 := cell_up' hB6 t1'; have x2 := cell_up' hB6 t2; have x3 := cell_up' hB6 t3; have y0 := cell_up' hB6 g0; have y1 := cell_up' hB6 g1; have y2 := cell_up' hB6 g2; have y3 := cell_up' hB6 g3; have z0 := cell_up' hB6 p0; have z1 := cell_up' hB6 c1) | (go_at_call 21; obtain ⟨m9, v9, hLx⟩ := (hP.below hB6).lx; refine (pos_l hLx).mono ?_; rintro e w7 ⟨rfl, rfl⟩))
    have hP := hP.below hB6
    clear t0 t1' t2 t3 g0 g1 g2 g3 p0 c1 x0 x1 x2 x3 y0 y1 y2 y3 z0 z1 hs3 hs4
    have p0 := hP.p0
    cases hk : KW p.data.toList (b.drop 0) with
    | true =>
      have HK := hid hk
      clear hk
      go_wp2_with (first | (go_at_call 29; obtain ⟨m0, v0, hLx⟩ := hP.lx; refine (seek_l 0 _ rfl hK hLx).mono ?_; rintro e w7 ⟨rfl, hLs⟩; have hP := hP.stepL hLs; have p0 := hP.p0; have c1 := hP.c1; have f1 := hP.f1) | (go_at_call 30; obtain ⟨m0, v0, hLx⟩ := (hP.setM 0 rfl hK).lx; refine (keyword_yes _ (by omega) HK.out hLx).mono ?_; rintro e w8 ⟨rfl, hLk⟩; have hP := (hP.setM 0 rfl hK).stepL hLk; have p0 := hP.p0))
      have hlv : opLoad 3 (Operand.tmp 108) = Op.load 3 (Operand.tmp 108) := rfl
      rw [← hlv]
      go_region_held3 (fun w' => w'.cell? ⟨lp, 0, none⟩ = some (.pointer (some ⟨cp, 0, none⟩))) (first | go_keep | skip) (first | (go_at_call 31; refine (rkey_yes _ (by omega) HK.out (hP.drew _).cx).mono ?_; rintro e w9 ⟨rfl, hCk⟩; have hP := (hP.drew _).stepC hCk; have p0 := hP.p0; have c1 := hP.c1) | (go_at_call 21; obtain ⟨m9, v9, hLx⟩ := hP.lx; refine (pos_l hLx).mono ?_; rintro e w10 ⟨rfl, rfl⟩))
      all_goals
        go_wp2_with (first | (go_at_call 32; obtain ⟨m0, v0, hLx⟩ := hP.lx; refine (blank_l hLx).mono ?_; rintro e w11 ⟨rfl, hLb⟩; have hP := hP.stepL hLb; have p0 := hP.p0) | (go_at_call 33; refine (rblank hP.cx).mono ?_; rintro e w12 ⟨rfl, hCb⟩; have hP := hP.stepC hCb; have p0 := hP.p0; have c1 := hP.c1))
        go_region_held3 (fun w' => w'.cell? ⟨lp, 0, none⟩ = some (.pointer (some ⟨cp, 0, none⟩)) ∧ w'.cell? ⟨mp, 1, none⟩ = some (.int .i64 (((0 + bl (b.drop 0) false + p.size) + bl (b.drop (0 + bl (b.drop 0) false + p.size)) false) : Nat))) (first | go_keep | skip) (first | (go_at_call 21; obtain ⟨m9, v9, hLx⟩ := hP.lx; refine (pos_l (hLx.drew _)).mono ?_; rintro e w13 ⟨rfl, rfl⟩) | (go_at_call 34; refine (regular_any _ _).mono ?_; rintro e w14 ⟨rfl, n14, rfl⟩) | (go_at_call 35; refine (rregular_any _ _).mono ?_; rintro e w15 ⟨rfl, n15, rfl⟩))
        all_goals
          go_wp2_with (fail)
          go_ret
          exact ⟨rfl, below_drewN hP.bel _⟩
    | false =>
      have HK := hid hk
      clear hk
      go_wp2_with (first | (go_at_call 29; obtain ⟨m0, v0, hLx⟩ := hP.lx; refine (seek_l 0 _ rfl hK hLx).mono ?_; rintro e w7 ⟨rfl, hLs⟩; have hP := hP.stepL hLs; have p0 := hP.p0; have c1 := hP.c1; have f1 := hP.f1) | (go_at_call 30; obtain ⟨m0, v0, hLx⟩ := (hP.setM 0 rfl hK).lx; refine (keyword_no _ (by omega) HK.out hLx).mono ?_; rintro e w8 ⟨rfl, hLk⟩; have hP := (hP.setM 0 rfl hK).stepL hLk; have p0 := hP.p0))
      have hlv : opLoad 3 (Operand.tmp 108) = Op.load 3 (Operand.tmp 108) := rfl
      rw [← hlv]
      go_region_held3 (fun w' => w'.cell? ⟨lp, 0, none⟩ = some (.pointer (some ⟨cp, 0, none⟩))) (first | go_keep | skip) (first | (go_at_call 31; refine (rkey_no _ (by omega) HK.out (hP.drew _).cx).mono ?_; rintro e w9 ⟨rfl, hCk⟩; have hP := (hP.drew _).stepC hCk; have p0 := hP.p0; have c1 := hP.c1) | (go_at_call 21; obtain ⟨m9, v9, hLx⟩ := hP.lx; refine (pos_l hLx).mono ?_; rintro e w10 ⟨rfl, rfl⟩))
      all_goals
        go_wp2_with (first | (go_at_call 32; obtain ⟨m0, v0, hLx⟩ := hP.lx; refine (blank_l hLx).mono ?_; rintro e w11 ⟨rfl, hLb⟩; have hP := hP.stepL hLb; have p0 := hP.p0) | (go_at_call 33; refine (rblank hP.cx).mono ?_; rintro e w12 ⟨rfl, hCb⟩; have hP := hP.stepC hCb; have p0 := hP.p0; have c1 := hP.c1))
        go_region_held3 (fun w' => w'.cell? ⟨lp, 0, none⟩ = some (.pointer (some ⟨cp, 0, none⟩)) ∧ w'.cell? ⟨mp, 1, none⟩ = some (.int .i64 ((0 + bl (b.drop 0) false) : Nat))) (first | go_keep | skip) (first | (go_at_call 21; obtain ⟨m9, v9, hLx⟩ := hP.lx; refine (pos_l (hLx.drew _)).mono ?_; rintro e w13 ⟨rfl, rfl⟩) | (go_at_call 34; refine (regular_any _ _).mono ?_; rintro e w14 ⟨rfl, n14, rfl⟩) | (go_at_call 35; refine (rregular_any _ _).mono ?_; rintro e w15 ⟨rfl, n15, rfl⟩))
        all_goals
          go_wp2_with (fail)
          go_ret
          exact ⟨rfl, below_drewN hP.bel _⟩
end Go.Proofs.Ytlmgklebikcbjaa
