/-
  LexKnown: chapter 11's example; the statement's walk. No condition.
-/
import Derived.Test.YtlmgklebikcbjaaGot
namespace Go.Proofs.Ytlmgklebikcbjaa
open Go.RowKit
set_option linter.unusedVariables false

/-- a row that was made since w0 grows: the lexer stands as it stood -/
theorem Lx.grow {w0 w w' : World} {lp cp : Nat} {b s : List UInt8} {i : Nat} {m v u : Value} {out : List UInt8} {row : Option Nat} (h : Lx w0 w lp cp b i s m v u out) (hg : w.grownBy w' row) (hr : ∀ k, row = Option.some k → w0.heap.size ≤ k) : Lx w0 w' lp cp b i s m v (.slice Option.none 0 0) [] := by
  obtain ⟨ao, cap, h1, h2⟩ := h.lex
  have q1 := h2.lp
  have q2 := h2.cp
  have q3 := h2.ao
  cases row with
  | none =>
    have hb : Below w.heap.size w w' := ⟨hg.os, hg.tape, hg.output, hg.size, fun k hk => hg.block k hk (by simp)⟩
    exact (h.below hb).bare
  | some g =>
    have hgg := hr g rfl
    have hb : Held w.heap.size g g w w' := ⟨hg.os, hg.tape, hg.output, hg.size, fun k hk hk2 _ => hg.block k hk (by simp; omega)⟩
    refine ⟨h.drp, ⟨ao, cap, h1.held hb ⟨by omega, by omega⟩ ⟨by omega, by omega⟩ (fun h0 a ha => by have := q3 h0 a ha; exact ⟨by omega, by omega⟩), h2⟩, ?_, OwnB.nil _ _ _⟩
    exact h.held.trans ⟨hg.os, hg.tape, hg.output, hg.size, fun k hk _ _ => hg.block k (Nat.lt_of_lt_of_le hk h.held.size) (by simp; omega)⟩

set_option maxHeartbeats 1600000 in
set_option maxRecDepth 100000 in
theorem known_any (w : World) : Calls Try.prog 3 #[] w fun e w' => e = .returned (.bool true) ∧ Below w.heap.size w w' := by
  have kc := fun (w : World) (C : Array Value) (n c : Nat) => Lib.run_convert_bytes_const (P := Try.prog) w 25 5 C n c Try.underlying25 Try.underlying5
  go_enter Try.func3, Try.ntmps3
  go_wp2_with (first | (go_at_call 15; refine (awake_any _).mono ?_; rintro e w1 ⟨rfl, hb1⟩) | (go_at_call 16; refine (lex_made _ (exS 0) _ (Sl.litM _ _ _ _ _ _ rfl rfl (by decide)) (by decide)).mono ?_; rintro e w2 ⟨lp, cp, rfl, hlp, hcp, hL, hb2⟩; have hB2 := below_then' (hb1.trans ((alb w1 _).mono hb1.size)) hb2 (Nat.le_trans hb1.size (by simp))))
  have hlw : w.heap.size ≤ lp := Nat.le_trans hb1.size (Nat.le_trans (by simp) hlp)
  have hcw : w.heap.size ≤ cp := Nat.le_trans hb1.size (Nat.le_trans (by simp) hcp)
  have hw2 := hB2.size
  clear kc hlp hcp hb1 hb2
  have hl2 := World.block_lt_of_cell? _ _ hL.p0
  obtain ⟨ao0, cap0, hx1, hx2⟩ := hL.lex
  have hc2 := World.block_lt_of_cell? _ _ hx1.cur.c0
  clear hx1 hx2 ao0 cap0
  go_loopw [2, 3, 4, 5] (fun vg i _ _ wr => ∃ L : List (Int × Value), ∃ p : Nat, ∃ m v : Value, L.length ≤ 6 ∧ i = .int .i64 (L.length : Nat) ∧ Lx w2 wr lp cp (exS 0) p (exS L.length) m v (.slice none 0 0) [] ∧ Got wr w2.heap.size lp cp vg L ∧ Below w.heap.size w wr) (fun _ i _ _ _ => 6 - (intOf i).toNat)
  case atStart => exact ⟨[], 0, _, _, by simp, rfl, hL, Got.nil _ _ _ _, hB2⟩
  case round =>
    clear hL hB2
    obtain ⟨L, p, m0, v0, hk, rfl, hL, hG, hbel⟩ := hrel
    by_cases hlt : L.length < 6
    · have T := hid (ex_tok L.length hlt)
      have hsz := hbel.size
      have hs2 := hL.size
      go_wp2_with (first | (go_at_call 17; (with_reducible refine (token_q (TK_good _) hL.fresh).mono ?_); rw [T.out.1]; generalize p + bl (exS L.length) false = pa; rintro e w6 ⟨u6, rfl, j6, m6, y6, hL6⟩; obtain ⟨ao6, cap6, rfl, -, -, -⟩ := Rd.own hL6.row; have hJ := hL.join hL6; have hG6 := hG.held hL6.held) | (at_builtin; refine wpList_append_row rfl _ _ 26 rfl w2.heap.size 28 (.agg #[.int .i64 0, .int .i64 0, .int .i64 0, .slice none 0 0]) 4 48 (by kernel_rfl) (by kernel_rfl) rfl (by decide) u2 L.length (tcells 0 L) rfl (hG6.up (below_then (alb _ _) (alb _ _))).row _ 1 1 [.int .i64 (exK L.length), .int .i64 (pa : Nat), .int .i64 (exN L.length), .slice ao6 (exO L.length).length cap6] rfl rfl (news_cells _ _ (by simp) _ _) (by intro u hu; simp at hu; rcases hu with rfl | rfl | rfl | rfl <;> rfl) (by unfold maxLen; omega) (by omega) (by have := hL6.size; simp; omega) ?_; intro v' w8 q1 q2 q3))
      have hs6 := hL6.size
      have hBW : Below w6.heap.size w6 ((w6.alloc (.cells #[.int .i64 (exK L.length), .int .i64 (pa : Nat), .int .i64 (exN L.length), .slice ao6 (exO L.length).length cap6] 28)).alloc (.cells #[.int .i64 (exK L.length), .int .i64 (pa : Nat), .int .i64 (exN L.length), .slice ao6 (exO L.length).length cap6] 28)) := below_then (alb _ _) (alb _ _)
      have hG2 := hG6.up hBW
      have hB6 := hL6.out0 hbel hlw hcw
      have hpush := hG2.push q1 q2 q3 (by simp; omega) (by simp; omega) ((Sl.own hL6.row).up hBW) (fun g hg => by
        have h1 := World.ownsRow.lt hL6.row g hg
        refine ⟨by omega, by omega, by simp; omega, fun q => ?_⟩
        have h2 := (World.ownsRow.lt hG.row g q).2
        omega)
      have hLx := (hJ.below hBW).grow q2 (fun k q => (World.ownsRow.lt hG2.row k q).1)
      have hBx := (below_then' hB6 hBW hB6.size).grown q2 (Nat.le_trans hB6.size hBW.size) (fun k q => Nat.le_trans hw2 (World.ownsRow.lt hG2.row k q).1)
      clear q1 q2 q3 hBW hG2 hG6 hJ hL6 hB6 hG hL hbel
      go_wp2
      go_roundw
      case rel => exact ⟨_, _, _, _, by simp; omega, by simp, by rw [List.length_append, List.length_singleton]; exact hLx, hpush, hBx⟩
      case measure => simp [intOf]; omega
    · have hl6 : L.length = 6 := by omega
      clear hL hlt hk
      obtain ⟨g, cap, hu2⟩ : ∃ g cap, u2 = .slice (some ⟨g, 0, none⟩) 6 cap := by
        rcases hG.row.2 with ⟨_, h0⟩ | ⟨g, cap, cur, hv, _⟩
        · omega
        · exact ⟨g, cap, by rw [hv, hl6]⟩
      subst hu2
      rcases L with _ | ⟨⟨b0, z0⟩, _ | ⟨⟨b1, z1⟩, _ | ⟨⟨b2, z2⟩, _ | ⟨⟨b3, z3⟩, _ | ⟨⟨b4, z4⟩, _ | ⟨⟨b5, z5⟩, _ | ⟨x, L⟩⟩⟩⟩⟩⟩⟩
      case cons.cons.cons.cons.cons.cons.nil =>
        have hr := hG.row
        have c3 := World.ownsRow.cellAt hr 3 (by decide)
        have c4 := World.ownsRow.cellAt hr 4 (by decide)
        have c7 := World.ownsRow.cellAt hr 7 (by decide)
        have c8' := World.ownsRow.cellAt hr 8 (by decide)
        have c11 := World.ownsRow.cellAt hr 11 (by decide)
        have c12 := World.ownsRow.cellAt hr 12 (by decide)
        have c14 := World.ownsRow.cellAt hr 14 (by decide)
        have c16 := World.ownsRow.cellAt hr 16 (by decide)
        have c19 := World.ownsRow.cellAt hr 19 (by decide)
        have c20 := World.ownsRow.cellAt hr 20 (by decide)
        simp only [tcells, exK, exN, List.getElem?_cons_succ, List.getElem?_cons_zero] at c3 c4 c7 c8' c11 c12 c14 c16 c19 c20
        have s0 : Sl wr z0 [65, 66] := (hG.sl 0 _ rfl).1
        have s1 : Sl wr z1 [120, 40, 121, 41, 65] := (hG.sl 1 _ rfl).1
        have s2 : Sl wr z2 [65] := (hG.sl 2 _ rfl).1
        have s4 : Sl wr z4 [111, 98, 106] := (hG.sl 4 _ rfl).1
        have v0 : (convert 25 9 z0).run Try.prog wr = .ok (.string ⟨#[65, 66]⟩) wr := sl_string (P := Try.prog) wr 25 9 5 Try.underlying25 (by kernel_rfl) (by kernel_rfl) _ _ s0
        have v1 : (convert 25 9 z1).run Try.prog wr = .ok (.string ⟨#[120, 40, 121, 41, 65]⟩) wr := sl_string (P := Try.prog) wr 25 9 5 Try.underlying25 (by kernel_rfl) (by kernel_rfl) _ _ s1
        have v2 : (convert 25 9 z2).run Try.prog wr = .ok (.string ⟨#[65]⟩) wr := sl_string (P := Try.prog) wr 25 9 5 Try.underlying25 (by kernel_rfl) (by kernel_rfl) _ _ s2
        have v4 : (convert 25 9 z4).run Try.prog wr = .ok (.string ⟨#[111, 98, 106]⟩) wr := sl_string (P := Try.prog) wr 25 9 5 Try.underlying25 (by kernel_rfl) (by kernel_rfl) _ _ s4
        clear s0 s1 s2 s4 hr hG hl6
        go_wp2
        go_ret
        exact ⟨rfl, hbel⟩
      all_goals (simp at hl6)
end Go.Proofs.Ytlmgklebikcbjaa
