/-
  LexTokens: any bytes: token by token, to the end or the first that is none; the statement's walk. Condition: none but what its argument reads as.
-/
import Derived.Test.YtlmgklebikcbjaaLawT
namespace Go.Proofs.Ytlmgklebikcbjaa
open Go.RowKit
set_option linter.unusedVariables false

theorem Lx.fix {w0 w : World} {lp cp : Nat} {ao : Option Addr} {cap : Nat} {b s : List UInt8} {i j : Nat} {m0 v0 m v u : Value} {out : List UInt8} (h : LexAt w0 lp cp ao cap b i m0 v0) (k : Lx w0 w lp cp b j s m v u out) : LexAt w lp cp ao cap b j m v := by
  obtain ⟨ao', cap', k1, k2⟩ := k.lex
  have e := k2.c0
  rw [h.cur.c0] at e
  injection e with e
  injection e with e1 e2 e3
  subst e1; subst e3
  exact k1
theorem Cx.fix {w0 w : World} {cp : Nat} {ao : Option Addr} {cap : Nat} {b s : List UInt8} {i j : Nat} {u : Value} {out : List UInt8} (h : CurAt w0 cp ao cap b i) (k : Cx w0 w cp b j s u out) : CurAt w cp ao cap b j := by
  obtain ⟨ao', cap', k1, k2⟩ := k.cur
  have e := k2.c0
  rw [h.c0] at e
  injection e with e
  injection e with e1 e2 e3
  subst e1; subst e3
  exact k1

/-- a lexer of the document's, new -/
theorem cur_box {w : World} {ao : Option Addr} {cap : Nat} {b : List UInt8} (h : Sl w (.slice ao b.length cap) b) (hl : b.length ≤ 1000000) (e : TypeId) :
    CurAt (w.alloc (.cells #[.slice ao b.length cap, .int .i64 0] e)) w.heap.size ao cap b 0 := by
  obtain ⟨ao', cap', h1, c1, c2, c3, c4⟩ := h
  injection h1 with e1 e2 e3
  subst e1; subst e3
  refine ⟨?_, ?_, ?_, c4.up (alb _ _), c1, c2, c3, Nat.zero_le _, hl, ?_⟩
  · rw [World.cell?_alloc_at _ _ _ _ rfl]; rfl
  · rw [World.cell?_alloc_at _ _ _ _ rfl]; rfl
  · exact World.frozen?_alloc_at _ _ _ _ rfl
  · intro h0 a ha
    obtain ⟨bb, off, h1, h2, _⟩ := c4.some h0
    rw [h1] at ha; injection ha with ha; subst ha
    show bb ≠ w.heap.size
    omega

set_option maxHeartbeats 6400000 in
set_option maxRecDepth 100000 in
theorem tokens_any (v : Value) (b : List UInt8) (w : World) (h : Sl w v b) : Calls Try.prog 4 #[v] w fun e w' => e = .returned (.bool true) ∧ Below w.heap.size w w' := by
  obtain ⟨ao2, cap2, rfl, c1, c2, c3, c4⟩ := id h
  by_cases hbig : 800 < b.length
  · have t1 : decide (800 < b.length) = true := decide_eq_true hbig
    go_enter Try.func4, Try.ntmps4
    go_wp2_with (first | (go_at_call 15; refine (awake_any _).mono ?_; rintro e w1 ⟨rfl, hb1⟩))
    go_ret
    exact ⟨rfl, hb1⟩
  · have t1 : decide (800 < b.length) = false := decide_eq_false hbig
    have hlen : b.length ≤ 800 := by omega
    clear hbig
    go_enter Try.func4, Try.ntmps4
    go_wp2_with (first | (go_at_call 15; refine (awake_any _).mono ?_; rintro e w1 ⟨rfl, hb1⟩) | (go_at_call 16; refine (lex_made _ b _ (h.up hb1) (by omega)).mono ?_; rintro e w2 ⟨lp, cp, rfl, hlp, hcp, hL, hb2⟩))
    obtain ⟨ao, cap, hl0, hlow⟩ := hL.lex
    have hcur0 := cur_box (h.up (below_then hb1 hb2)) (by omega) 34
    have hlex0 := hl0.same (alb w2 (.cells #[.slice ao2 b.length cap2, .int .i64 0] 34))
    have hbel0 : Below w.heap.size w (w2.alloc (.cells #[.slice ao2 b.length cap2, .int .i64 0] 34)) := below_then (below_then hb1 hb2) (alb _ _)
    have hlm := hlow.lp
    have hcm := hlow.cp
    have ham := hid hlow.ao
    have hwl : w.heap.size ≤ lp := Nat.le_trans hb1.size hlp
    have hwc : w.heap.size ≤ cp := Nat.le_trans hb1.size hcp
    have hwm : w.heap.size ≤ w2.heap.size := Nat.le_trans hwl (Nat.le_of_lt hlm)
    have ha2 : Hid (0 < b.length → ∀ a, ao2 = some a → a.block < w.heap.size) := hid (fun h0 a ha => by
      obtain ⟨bb, off, q1, q2, _⟩ := c4.some h0
      rw [q1] at ha; injection ha with ha; subst ha; exact q2)
    clear hL hl0 hlow hlp hcp hb1 hb2 h c1 c2 c3 c4
    generalize w2.heap.size = mp at *
    go_loopw [5] (fun v5 wr => ∃ k j : Nat, ∃ m v : Value, v5 = .int .i64 k ∧ k ≤ j ∧ LexAt wr lp cp ao cap b j m v ∧ CurAt wr mp ao2 cap2 b j ∧ Below w.heap.size w wr) (fun v5 _ => b.length + 2 - (intOf v5).toNat)
    case atStart => exact ⟨0, 0, _, _, rfl, Nat.le_refl _, hlex0, hcur0, hbel0⟩
    case round =>
      clear hlex0 hcur0 hbel0
      obtain ⟨k, j, m, v, rfl, hkj, hlex, hcur, hbel⟩ := hrel
      have hj := hlex.cur.at_
      have tk1 : decide ((k : Int) ≤ (b.length : Int) + 1) = true := decide_eq_true (by omega)
      have hL := Lx.start hlex
      have hF := TK_fit (b.drop j)
      rcases hT : TK (b.drop j) with err | ⟨k0, n0, out1, rest⟩
      · rw [hT] at hF
        have qe : (err != 0) = true := by
          rcases hF with hz | hz
          · cases hz
          · rw [bne, hz.1]; rfl
        clear hF
        have HT := hid hT
        generalize hA : j + bl (b.drop j) false = a
        have HA := hid hA
        clear hT hA
        have hmw : mp < wr.heap.size := World.block_lt_of_cell? _ _ hcur.c0
        go_wp2_with (first | (go_at_call 17; (with_reducible refine (token_q (TK_good _) hL).mono ?_); rw [HT.out, HA.out]; rintro e w3 ⟨rfl, m3, v3, u3, o3, hL3⟩; have hc3 := (hcur.held hL3.held (by omega) (by omega) (fun h0 aa ha => by have := ha2.out h0 aa ha; exact ⟨by omega, by omega⟩))) | (go_at_call 18; (with_reducible refine (rtoken_q (TK_good _) (Cx.start (hc3.same (alb _ _)))).mono ?_); rw [HT.out, HA.out]; rintro e w4 ⟨rfl, hC4⟩))
        have hl3 := (Lx.fix hlex hL3).same (alb w3 (.cells #[.int .i64 0, .int .i64 a, .int .i64 0, .slice none 0 0] 28))
        have hm3 : mp < w3.heap.size := Nat.lt_of_lt_of_le hmw hL3.held.size
        have hl4 := hl3.held hC4.held ⟨by omega, by omega⟩ ⟨by omega, by omega⟩ (fun h0 aa ha => by have := ham.out h0 aa ha; exact ⟨by omega, by omega⟩)
        have hc4 := Cx.fix (hc3.same (alb w3 (.cells #[.int .i64 0, .int .i64 a, .int .i64 0, .slice none 0 0] 28))) hC4
        have hz3 : w3.heap.size < (w3.alloc (.cells #[.int .i64 0, .int .i64 a, .int .i64 0, .slice none 0 0] 28)).heap.size := by simp
        have rt : ∀ o v, (w3.alloc (.cells #[.int .i64 0, .int .i64 a, .int .i64 0, .slice none 0 0] 28)).cell? ⟨w3.heap.size, o, none⟩ = some v → w4.cell? ⟨w3.heap.size, o, none⟩ = some v := fun o v hq => by rw [hC4.held.cell (a := ⟨w3.heap.size, o, none⟩) hz3 (by simp; omega) (by simp; omega)]; exact hq
        have t0 := rt 0 (.int .i64 0) (by rw [World.cell?_alloc_at _ _ _ _ rfl]; rfl)
        have t1' := rt 1 (.int .i64 a) (by rw [World.cell?_alloc_at _ _ _ _ rfl]; rfl)
        have t2 := rt 2 (.int .i64 0) (by rw [World.cell?_alloc_at _ _ _ _ rfl]; rfl)
        have t3 := rt 3 (.slice none 0 0) (by rw [World.cell?_alloc_at _ _ _ _ rfl]; rfl)
        have hs3 : Sl w4 (.slice none 0 0) [] := Sl.nil _
        have hs4 : Sl w4 (.slice none 0 0) [] := Sl.nil _
        have hbel4 : Below w.heap.size w w4 := (hbel.trans ((hL3.held.below (hbel.size) hwl hwc).trans ((alb w3 _).mono (Nat.le_trans hbel.size hL3.held.size)))).trans (hC4.held.below (Nat.le_trans hbel.size (Nat.le_trans hL3.held.size (Nat.le_of_lt hz3))) hwm hwm)
        generalize hW : w4.alloc (Obj.cells #[Value.int .i64 0, Value.int .i64 a, Value.int .i64 0, .slice none 0 0] 35) = W4
        have bW : Below w4.heap.size w4 W4 := by rw [← hW]; exact alb _ _
        have g0 : W4.cell? ⟨w4.heap.size, 0, none⟩ = some (.int .i64 0) := by rw [← hW, World.cell?_alloc_at _ _ _ _ rfl]; rfl
        have g1 : W4.cell? ⟨w4.heap.size, 1, none⟩ = some (.int .i64 a) := by rw [← hW, World.cell?_alloc_at _ _ _ _ rfl]; rfl
        have g2 : W4.cell? ⟨w4.heap.size, 2, none⟩ = some (.int .i64 0) := by rw [← hW, World.cell?_alloc_at _ _ _ _ rfl]; rfl
        have g3 : W4.cell? ⟨w4.heap.size, 3, none⟩ = some (.slice none 0 0) := by rw [← hW, World.cell?_alloc_at _ _ _ _ rfl]; rfl
        have t0 := cell_up' bW t0
        have t1' := cell_up' bW t1'
        have t2 := cell_up' bW t2
        have t3 := cell_up' bW t3
        have hs3 := hs3.up bW
        have hs4 := hs4.up bW
        have hl5 := hl4.same bW
        have hc5 := hc4.same bW
        have hbel5 : Below w.heap.size w W4 := hbel4.trans (bW.mono hbel4.size)
        have p0 := hl5.p0
        have c1 := hc5.c1
        clear rt hbel4 bW hW hl3 hl4 hc4 hz3
        have b1 : ((err : Int) != err) = false := by simp
        have b2 : ((a : Int) != (a : Int)) = false := by simp
        go_region_held3 (fun w' => w'.cell? ⟨w3.heap.size, 0, none⟩ = some (.int .i64 0) ∧ w'.cell? ⟨w3.heap.size, 1, none⟩ = some (.int .i64 a) ∧ w'.cell? ⟨w3.heap.size, 2, none⟩ = some (.int .i64 0) ∧ w'.cell? ⟨w3.heap.size, 3, none⟩ = some (.slice none 0 0) ∧ w'.cell? ⟨w4.heap.size, 0, none⟩ = some (.int .i64 0) ∧ w'.cell? ⟨w4.heap.size, 1, none⟩ = some (.int .i64 a) ∧ w'.cell? ⟨w4.heap.size, 2, none⟩ = some (.int .i64 0) ∧ w'.cell? ⟨w4.heap.size, 3, none⟩ = some (.slice none 0 0) ∧ w'.cell? ⟨lp, 0, none⟩ = some (.pointer (some ⟨cp, 0, none⟩)) ∧ w'.cell? ⟨mp, 1, none⟩ = some (.int .i64 a)) (first | go_keep | skip) (first | (go_at_call 20; refine (tokconv _ _ _ _ [] _ (hs3.up (below_drewN (Below.refl _ _) _))).mono ?_; rintro e w5 ⟨rfl, hb5⟩; have hB5 := below_then (below_drewN (Below.refl _ _) _) hb5; have x0 := cell_up' hB5 t0; have x1 := cell_up' hB5 t1'; have x2 := cell_up' hB5 t2; have x3 := cell_up' hB5 t3; have y0 := cell_up' hB5 g0; have y1 := cell_up' hB5 g1; have y2 := cell_up' hB5 g2; have y3 := cell_up' hB5 g3; have z0 := cell_up' hB5 p0; have z1 := cell_up' hB5 c1) | (go_at_call 19; refine (sametok _ _ _ _ _ [] _ (hs3.up hB5) (hs4.up hB5)).mono ?_; rintro e w6 ⟨rfl, hb6⟩; have hB6 := below_then hB5 hb6; have x0 := cell_up' hB6 t0; have x1 := cell_up' hB6 t1'; have x2 := cell_up' hB6 t2; have x3 := cell_up' hB6 t3; have y0 := cell_up' hB6 g0; have y1 := cell_up' hB6 g1; have y2 := cell_up' hB6 g2; have y3 := cell_up' hB6 g3; have z0 := cell_up' hB6 p0; have z1 := cell_up' hB6 c1) | (go_at_call 21; refine (pos_any cp ao cap b _ _ (hl5.same hB6).cur).mono ?_; rintro e w7 ⟨rfl, rfl⟩))
        go_wp2_with (fail)
        go_ret
        exact ⟨rfl, hbel5.trans (hB6.mono hbel5.size)⟩
      · rw [hT] at hF
        have HF := hid hF
        clear hF
        have HT := hid hT
        generalize hA : j + bl (b.drop j) false = a
        have HA := hid hA
        clear hT hA
        have hmw : mp < wr.heap.size := World.block_lt_of_cell? _ _ hcur.c0
        go_wp2_with (first | (go_at_call 17; (with_reducible refine (token_q (TK_good _) hL).mono ?_); rw [HT.out, HA.out]; rintro e w3 ⟨u1, rfl, j3, m3, v3, hL3⟩; obtain ⟨ao3, cap3, rfl, -, -, -⟩ := Rd.own hL3.row; have hc3 := (hcur.held hL3.held (by omega) (by omega) (fun h0 aa ha => by have := ha2.out h0 aa ha; exact ⟨by omega, by omega⟩))) | (go_at_call 18; (with_reducible refine (rtoken_q (TK_good _) (Cx.start (hc3.same (alb _ _)))).mono ?_); rw [HT.out, HA.out]; rintro e w4 ⟨u4, rfl, j4, hC4⟩; obtain ⟨ao4, cap4, rfl, -, -, -⟩ := Rd.own hC4.row; obtain rfl : j3 = j4 := (by have h1 := hL3.at_; have h2 := hC4.at_; omega)))
        have hl3 := (Lx.fix hlex hL3).same (alb w3 (.cells #[.int .i64 k0, .int .i64 a, .int .i64 n0, .slice ao3 out1.length cap3] 28))
        have hm3 : mp < w3.heap.size := Nat.lt_of_lt_of_le hmw hL3.held.size
        have hl4 := hl3.held hC4.held ⟨by omega, by omega⟩ ⟨by omega, by omega⟩ (fun h0 aa ha => by have := ham.out h0 aa ha; exact ⟨by omega, by omega⟩)
        have hc4 := Cx.fix (hc3.same (alb w3 (.cells #[.int .i64 k0, .int .i64 a, .int .i64 n0, .slice ao3 out1.length cap3] 28))) hC4
        have hz3 : w3.heap.size < (w3.alloc (.cells #[.int .i64 k0, .int .i64 a, .int .i64 n0, .slice ao3 out1.length cap3] 28)).heap.size := by simp
        have rt : ∀ o v, (w3.alloc (.cells #[.int .i64 k0, .int .i64 a, .int .i64 n0, .slice ao3 out1.length cap3] 28)).cell? ⟨w3.heap.size, o, none⟩ = some v → w4.cell? ⟨w3.heap.size, o, none⟩ = some v := fun o v hq => by rw [hC4.held.cell (a := ⟨w3.heap.size, o, none⟩) hz3 (by simp; omega) (by simp; omega)]; exact hq
        have t0 := rt 0 (.int .i64 k0) (by rw [World.cell?_alloc_at _ _ _ _ rfl]; rfl)
        have t1' := rt 1 (.int .i64 a) (by rw [World.cell?_alloc_at _ _ _ _ rfl]; rfl)
        have t2 := rt 2 (.int .i64 n0) (by rw [World.cell?_alloc_at _ _ _ _ rfl]; rfl)
        have t3 := rt 3 (.slice ao3 out1.length cap3) (by rw [World.cell?_alloc_at _ _ _ _ rfl]; rfl)
        have hs3 : Sl w4 (.slice ao3 out1.length cap3) out1 := Sl.own (World.ownsRow.alloc hL3.row (.cells #[.int .i64 k0, .int .i64 a, .int .i64 n0, .slice ao3 out1.length cap3] 28) |> fun hq => OwnB.held hq hC4.held (fun g hg => by have := (World.ownsRow.lt hL3.row g hg).1; exact ⟨by omega, by omega⟩))
        have hs4 : Sl w4 (.slice ao4 out1.length cap4) out1 := Sl.own hC4.row
        have hbel4 : Below w.heap.size w w4 := (hbel.trans ((hL3.held.below (hbel.size) hwl hwc).trans ((alb w3 _).mono (Nat.le_trans hbel.size hL3.held.size)))).trans (hC4.held.below (Nat.le_trans hbel.size (Nat.le_trans hL3.held.size (Nat.le_of_lt hz3))) hwm hwm)
        generalize hW : w4.alloc (Obj.cells #[Value.int .i64 k0, Value.int .i64 a, Value.int .i64 n0, .slice ao4 out1.length cap4] 35) = W4
        have bW : Below w4.heap.size w4 W4 := by rw [← hW]; exact alb _ _
        have g0 : W4.cell? ⟨w4.heap.size, 0, none⟩ = some (.int .i64 k0) := by rw [← hW, World.cell?_alloc_at _ _ _ _ rfl]; rfl
        have g1 : W4.cell? ⟨w4.heap.size, 1, none⟩ = some (.int .i64 a) := by rw [← hW, World.cell?_alloc_at _ _ _ _ rfl]; rfl
        have g2 : W4.cell? ⟨w4.heap.size, 2, none⟩ = some (.int .i64 n0) := by rw [← hW, World.cell?_alloc_at _ _ _ _ rfl]; rfl
        have g3 : W4.cell? ⟨w4.heap.size, 3, none⟩ = some (.slice ao4 out1.length cap4) := by rw [← hW, World.cell?_alloc_at _ _ _ _ rfl]; rfl
        have t0 := cell_up' bW t0
        have t1' := cell_up' bW t1'
        have t2 := cell_up' bW t2
        have t3 := cell_up' bW t3
        have hs3 := hs3.up bW
        have hs4 := hs4.up bW
        have hl5 := hl4.same bW
        have hc5 := hc4.same bW
        have hbel5 : Below w.heap.size w W4 := hbel4.trans (bW.mono hbel4.size)
        have p0 := hl5.p0
        have c1 := hc5.c1
        clear rt hbel4 bW hW hl3 hl4 hc4 hz3
        have b1 : ((0 : Int) != 0) = false := by simp
        have b2 : ((j3 : Int) != (j3 : Int)) = false := by simp
        go_region_held3 (fun w' => w'.cell? ⟨w3.heap.size, 0, none⟩ = some (.int .i64 k0) ∧ w'.cell? ⟨w3.heap.size, 1, none⟩ = some (.int .i64 a) ∧ w'.cell? ⟨w3.heap.size, 2, none⟩ = some (.int .i64 n0) ∧ w'.cell? ⟨w3.heap.size, 3, none⟩ = some (.slice ao3 out1.length cap3) ∧ w'.cell? ⟨w4.heap.size, 0, none⟩ = some (.int .i64 k0) ∧ w'.cell? ⟨w4.heap.size, 1, none⟩ = some (.int .i64 a) ∧ w'.cell? ⟨w4.heap.size, 2, none⟩ = some (.int .i64 n0) ∧ w'.cell? ⟨w4.heap.size, 3, none⟩ = some (.slice ao4 out1.length cap4) ∧ w'.cell? ⟨lp, 0, none⟩ = some (.pointer (some ⟨cp, 0, none⟩)) ∧ w'.cell? ⟨mp, 1, none⟩ = some (.int .i64 j3)) (first | go_keep | skip) (first | (go_at_call 20; refine (tokconv _ _ _ _ out1 _ (hs3.up (below_drewN (Below.refl _ _) _))).mono ?_; rintro e w5 ⟨rfl, hb5⟩; have hB5 := below_then (below_drewN (Below.refl _ _) _) hb5; have x0 := cell_up' hB5 t0; have x1 := cell_up' hB5 t1'; have x2 := cell_up' hB5 t2; have x3 := cell_up' hB5 t3; have y0 := cell_up' hB5 g0; have y1 := cell_up' hB5 g1; have y2 := cell_up' hB5 g2; have y3 := cell_up' hB5 g3; have z0 := cell_up' hB5 p0; have z1 := cell_up' hB5 c1) | (go_at_call 19; refine (sametok _ _ _ _ _ out1 _ (hs3.up hB5) (hs4.up hB5)).mono ?_; rintro e w6 ⟨rfl, hb6⟩; have hB6 := below_then hB5 hb6; have x0 := cell_up' hB6 t0; have x1 := cell_up' hB6 t1'; have x2 := cell_up' hB6 t2; have x3 := cell_up' hB6 t3; have y0 := cell_up' hB6 g0; have y1 := cell_up' hB6 g1; have y2 := cell_up' hB6 g2; have y3 := cell_up' hB6 g3; have z0 := cell_up' hB6 p0; have z1 := cell_up' hB6 c1) | (go_at_call 21; refine (pos_any cp ao cap b _ _ (hl5.same hB6).cur).mono ?_; rintro e w7 ⟨rfl, rfl⟩))
        have hjl := hL3.at_
        rcases HF.out with hz | ⟨hz1, hz2⟩
        · injection hz with hk0 _ _ _
          have q0 : (k0 == 0) = true := by rw [hk0]; rfl
          clear hk0
          go_wp2_with (fail)
          go_ret
          exact ⟨rfl, hbel5.trans (hB6.mono hbel5.size)⟩
        · rw [List.length_drop] at hz2
          go_wp2_with (fail)
          exact ⟨⟨k + 1, j3, m3, v3, by go_num, by omega, hl5.same hB6, hc5.same hB6, hbel5.trans (hB6.mono hbel5.size)⟩, by simp [intOf]; omega⟩
end Go.Proofs.Ytlmgklebikcbjaa
