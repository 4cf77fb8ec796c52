/-
  LexNames: any bytes but noughts, written as a name or a string, are read as they were; the statement's walk. Condition: its arguments read as bytes.
-/
import Derived.Test.YtlmgklebikcbjaaPrint
import Derived.Test.YtlmgklebikcbjaaTokens
namespace Go.Proofs.Ytlmgklebikcbjaa
open Go.RowKit
set_option linter.unusedVariables false

theorem TK_at (x : UInt8) (t : List UInt8) (h : wh (c8 x) = false) (h' : ¬ c8 x = 37) : bl (x :: t) false = 0 ∧ TK (x :: t) = tk (x :: t) := by
  have hb : bl (x :: t) false = 0 := by rw [bl, if_neg (by rw [h]; decide), if_neg h']
  exact ⟨hb, by unfold TK; rw [hb]; rfl⟩
theorem ptx_hd (s : List UInt8) : ∃ x t, ptx s = x :: t ∧ (x = 40 ∨ x = 60) := by
  unfold ptx; split
  · exact ⟨_, _, rfl, .inl rfl⟩
  · exact ⟨_, _, rfl, .inr rfl⟩
theorem ptx_len (s : List UInt8) : (ptx s).length ≤ 2 * s.length + 2 := by
  unfold ptx; split
  · simp; omega
  · simp [dgts_len]
theorem TK_ptx (s : List UInt8) (hs : s.length ≤ 32767) : bl (ptx s) false = 0 ∧ TK (ptx s) = .tok 3 0 s [] := by
  have h := tk_ptx s [] hs
  rw [List.append_nil] at h
  obtain ⟨x, t, e, hx⟩ := ptx_hd s
  rw [e] at h ⊢
  rw [← h]
  rcases hx with rfl | rfl <;> exact TK_at _ _ (by decide) (by decide)
theorem TK_pnm (b s : List UInt8) (h0 : ∀ c ∈ b, ¬ c = 0) (hl : b.length ≤ 127) : bl (47 :: b.flatMap pn1 ++ ptx s) false = 0 ∧ TK (47 :: b.flatMap pn1 ++ ptx s) = .tok 4 0 b (ptx s) := by
  have hr : rg (hd (ptx s)) = false := by
    obtain ⟨x, t, e, hx⟩ := ptx_hd s
    rw [e, hd_cons]
    rcases hx with rfl | rfl <;> decide
  have h := tk_pnm b (ptx s) h0 hl hr
  have h2 := TK_at 47 (b.flatMap pn1 ++ ptx s) (by decide) (by decide)
  rw [List.cons_append]
  exact ⟨h2.1, h2.2.trans h⟩
theorem TK_nil : TK [] = .tok 0 0 [] [] := rfl

/-- a cell that is not the lexer's stays, whatever the lexer reads -/
theorem Lx.ckeep {w0 w w' : World} {o : Obj} {lp cp : Nat} {b s s' : List UInt8} {i j : Nat} {m v u m' v' u' : Value} {out out' : List UInt8} (h : Lx w0 w lp cp b i s m v u out) (h' : Lx (w.alloc o) w' lp cp b j s' m' v' u' out') (hz : w0.heap.size ≤ w.heap.size := by exact Nat.le_refl _) {a : Addr} {x : Value} (ha : w0.heap.size ≤ a.block) (hc : (w.alloc o).cell? a = Option.some x) : w'.cell? a = Option.some x := by
  obtain ⟨ao, cap, h1, h2⟩ := h.lex
  have q1 := h2.lp
  have q2 := h2.cp
  rw [h'.held.cell (World.block_lt_of_cell? _ _ hc) (by omega) (by omega)]
  exact hc

set_option maxHeartbeats 6400000 in
set_option maxRecDepth 100000 in
theorem names_any (v1 : Value) (b : List UInt8) (v2 : Value) (s : List UInt8) (w : World) (h1 : Sl w v1 b) (h2 : Sl w v2 s) :
    Calls Try.prog 5 #[v1, v2] w fun e w' => e = .returned (.bool true) ∧ Below w.heap.size w w' := by
  obtain ⟨ao1, cap1, rfl, a1, a2, a3, a4⟩ := id h1
  obtain ⟨ao2, cap2, rfl, c1, c2, c3, c4⟩ := id h2
  go_enter Try.func5, Try.ntmps5
  by_cases hs : 500 < s.length
  · have t1 : decide ((500 : Int) < (s.length : Int)) = true := decide_eq_true (by omega)
    go_wp2_with (go_at_call 15; refine (awake_any _).mono ?_; rintro e w1 ⟨rfl, hb1⟩)
    go_ret
    exact ⟨rfl, hb1⟩
  by_cases hb : 127 < b.length
  · have t1 : decide ((500 : Int) < (s.length : Int)) = false := decide_eq_false (by omega)
    have t2 : decide ((127 : Int) < (b.length : Int)) = true := decide_eq_true (by omega)
    go_wp2_with (go_at_call 15; refine (awake_any _).mono ?_; rintro e w1 ⟨rfl, hb1⟩)
    go_ret
    exact ⟨rfl, hb1⟩
  have t1 : decide ((500 : Int) < (s.length : Int)) = false := decide_eq_false (by omega)
  have t2 : decide ((127 : Int) < (b.length : Int)) = false := decide_eq_false (by omega)
  go_wp2_with (go_at_call 15; refine (awake_any _).mono ?_; rintro e w1 ⟨rfl, hb1⟩)
  go_loopw [5] (fun i wr => ∃ k : Nat, k ≤ b.length ∧ i = .int .i64 k ∧ (∀ c ∈ b.take k, ¬ c = 0) ∧ Below w.heap.size w wr) (fun i _ => b.length - (intOf i).toNat)
  case atStart => exact ⟨0, Nat.zero_le _, rfl, by simp, hb1⟩
  case round =>
    obtain ⟨k, hk, rfl, hnz, hbel⟩ := hrel
    clear hb1
    by_cases hlt : k < b.length
    · obtain ⟨g1, o1, rfl, hs1, hc1⟩ := (a4.up hbel).some (by omega)
      specialize hc1 k hlt
      have hb8 : b8 b k = c8 (b.getD k 0) := rfl
      rw [hb8] at hc1
      clear hb8
      have htk : b.take (k + 1) = b.take k ++ [b.getD k 0] := by rw [List.take_succ_eq_append_getElem hlt]; simp [List.getD, hlt]
      generalize b.getD k 0 = x at hc1 htk
      cases hx : (c8 x == 0) with
      | true =>
        clear hnz htk
        go_wp2
        go_ret
        exact ⟨rfl, hbel⟩
      | false =>
        have hx0 : ¬ x = 0 := by rintro rfl; exact absurd hx (by decide)
        have hn2 : ∀ c ∈ b.take (k + 1), ¬ c = 0 := by
          rw [htk]; intro c hc
          rw [List.mem_append] at hc
          rcases hc with hc | hc
          · exact hnz c hc
          · simp at hc; rw [hc]; exact hx0
        have HN := hid hn2
        clear hnz htk hn2 hx0
        go_wp2
        go_roundw
        case rel => exact ⟨k + 1, by omega, by go_num, HN.out, hbel⟩
        case measure => simp [intOf]; omega
    · rw [List.take_of_length_le (by omega)] at hnz
      have T1 := hid (TK_pnm b s hnz (by omega))
      have T2 := hid (TK_ptx s (by omega))
      have T3 := hid TK_nil
      have hl1 := pnm_len b
      have hl2 := ptx_len s
      have hzl : (47 :: b.flatMap pn1 ++ ptx s).length ≤ 10000 := by rw [List.length_append, List.length_cons]; omega
      have hcv : (convert 25 9 (.slice ao1 b.length cap1)).run Try.prog wr = .ok (.string (st b)) wr := sl_string (P := Try.prog) wr 25 9 5 Try.underlying25 (by kernel_rfl) (by kernel_rfl) _ _ (h1.up hbel)
      have hnk : ¬ ((k : Int) < (b.length : Int)) := by omega
      clear hnz hlt hk
      go_wp2_with (first | (go_at_call 22; (with_reducible refine (printname_any b _ (by omega)).mono ?_); rintro e w2 ⟨u1, rfl, hu1, hbe2⟩; have hB2 := below_then' hbel hbe2 hbel.size) | (go_at_call 23; (with_reducible refine (printtext_any _ s _ (h2.up hB2) (by omega)).mono ?_); rintro e w3 ⟨u2, rfl, ⟨ao3, cap3, rfl, d1, d2, d3, d4⟩, hbe3⟩; have hB3 := below_then' hB2 hbe3 hB2.size) | (at_builtin; refine wpList_append_bytes bytesTy rfl _ _ rfl wr.heap.size _ (47 :: b.flatMap pn1) (ptx s) rfl (hu1.up hbe3) ao3 _ cap3 rfl rfl d3 d4 (by rw [List.length_cons]; omega) (Nat.le_trans hbe2.size hbe3.size) ?_; intro u4 w4 q1 q2 q3; have hB4 := below_append hB3 (hu1.up hbe3) q2 hbel.size hB3.size; clear q2 q3) | (go_at_call 16; refine (lex_made _ _ _ (Sl.own q1) (by omega)).mono ?_; rintro e w5 ⟨lp, cp, rfl, hlp, hcp, hL, hb5⟩; have hB5 := below_then' hB4 hb5 hB4.size) | (go_at_call 17; (with_reducible refine (token_q (TK_good _) (hM3.below (alb _ _)).fresh).mono ?_); rw [T3.out]; rintro e w8 ⟨u8, rfl, j8, m8, y8, hL8⟩; obtain ⟨ao8, cap8, rfl, -, -, -⟩ := Rd.own hL8.row; have A0 := hM3.ckeep hL8 hM3.size (a := ⟨w6.heap.size, 0, none⟩) hL6.size (cell_up' (alb _ _) A0); have A3 := hM3.ckeep hL8 hM3.size (a := ⟨w6.heap.size, 3, none⟩) hL6.size (cell_up' (alb _ _) A3); have D0 := hM3.ckeep hL8 hM3.size (a := ⟨w7.heap.size, 0, none⟩) hM3.size (by rw [World.cell?_alloc_at _ _ _ _ rfl]; rfl); have D3 := hM3.ckeep hL8 hM3.size (a := ⟨w7.heap.size, 3, none⟩) hM3.size (by rw [World.cell?_alloc_at _ _ _ _ rfl]; rfl); have zA := World.block_lt_of_cell? _ _ A0; have zD := World.block_lt_of_cell? _ _ D0; have S6 := Sl.own ((hM3.below (alb _ _)).keep hL8.held (r6.up (alb _ _))); have S7 := Sl.own ((hM3.below (alb _ _)).keep hL8.held (hM3.below (alb _ _)).row); have hlp' : w.heap.size ≤ lp := Nat.le_trans hB4.size hlp; have hcp' : w.heap.size ≤ cp := Nat.le_trans hB4.size hcp; have hB7 := hM3.out0 hB5 hlp' hcp'; have hB8 := hL8.out0 (hB7.trans ((alb w7 _).mono hB7.size)) hlp' hcp') | (go_at_call 17; (with_reducible refine (token_q (TK_good _) (hL6.below (alb _ _)).fresh).mono ?_); rw [T2.out.2]; rintro e w7 ⟨u7, rfl, j7, m7, y7, hL7⟩; obtain ⟨ao7, cap7, rfl, -, -, -⟩ := Rd.own hL7.row; have A0 := hL6.ckeep hL7 hL6.size (a := ⟨w6.heap.size, 0, none⟩) hL6.size (by rw [World.cell?_alloc_at _ _ _ _ rfl]; rfl); have A3 := hL6.ckeep hL7 hL6.size (a := ⟨w6.heap.size, 3, none⟩) hL6.size (by rw [World.cell?_alloc_at _ _ _ _ rfl]; rfl); have hM3 := (hL6.below (alb _ _)).join hL7; have r6 := (hL6.below (alb _ _)).keep hL7.held (hL6.below (alb _ _)).row) | (go_at_call 17; (with_reducible refine (token_q (TK_good _) hL).mono ?_); rw [T1.out.2]; rintro e w6 ⟨u6, rfl, j6, m6, y6, hL6⟩; obtain ⟨ao6, cap6, rfl, -, -, -⟩ := Rd.own hL6.row) | (go_at_call 24; refine (same_sl _ _ s s _ (S7.up (below_then (alb _ _) (below_drewN (Below.refl _ _) n9))) (h2.up ((hB8.trans ((alb _ _).mono hB8.size)).trans (below_drewN (Below.refl _ _) n9)))).mono ?_; rw [decide_eq_true (rfl : s = s)]; rintro e w9 ⟨rfl, n10, rfl⟩) | (go_at_call 24; refine (same_sl _ _ b b _ (S6.up (alb _ _)) (h1.up (hB8.trans ((alb _ _).mono hB8.size)))).mono ?_; rw [decide_eq_true (rfl : b = b)]; rintro e w9 ⟨rfl, n9, rfl⟩))
      go_ret
      exact ⟨rfl, (hB8.trans ((alb _ _).mono hB8.size)).trans (below_drewN (Below.refl _ _) (n9 + n10))⟩
end Go.Proofs.Ytlmgklebikcbjaa
