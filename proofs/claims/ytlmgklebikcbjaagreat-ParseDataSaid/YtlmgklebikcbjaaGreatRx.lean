/-
  The document's lexer: what it looks at; Blank; the walks. Condition: it stands in its bytes.
-/
import Derived.Test.YtlmgklebikcbjaaGreatCx
import Derived.Test.YtlmgklebikcbjaaGreatTok
namespace Go.Proofs.YtlmgklebikcbjaaGreat
open Go.RowKit
set_option linter.unusedVariables false

theorem Rd.byteM (w : World) (n : Int) (e : TypeId) (k : Nat) (hk : k = w.heap.size) (h : 0 ≤ n) (h' : n ≤ 255) : Rd (w.alloc (.cells #[.int .u8 n] e)) (Option.some ⟨k, 0, none⟩) [byteOf n] := by
  subst hk; exact Rd.byteN w n e h h'
theorem Sl.of_cur {w : World} {cp : Nat} {ao : Option Addr} {cap : Nat} {b : List UInt8} {i : Nat} (h : CurAt w cp ao cap b i) : Sl w (.slice ao b.length cap) b := ⟨ao, cap, rfl, h.le, h.mx, h.ni, h.rd⟩

/-- the document's lexer, wherever it stands -/
structure Cy (w0 w : World) (cp : Nat) (b : List UInt8) : Prop where
  cur : ∃ ao cap n, w.cell? ⟨cp, 0, none⟩ = some (.slice ao b.length cap) ∧ w.cell? ⟨cp, 1, none⟩ = some (.int .i64 n) ∧ w.frozen? ⟨cp, 1, none⟩ = false ∧ Rd w ao b ∧ b.length ≤ cap ∧ cap ≤ maxLen ∧ (ao = none → cap = 0) ∧ b.length ≤ 1000000 ∧ (0 < b.length → ∀ a, ao = some a → a.block ≠ cp) ∧ LowS w0 cp cp ao cap b
  held : Held w0.heap.size cp cp w0 w
  off : ∀ k, 2 ≤ k → w.cell? ⟨cp, k, none⟩ = w0.cell? ⟨cp, k, none⟩

theorem Cx.cy {w0 w : World} {cp : Nat} {b s : List UInt8} {i : Nat} {u : Value} {out : List UInt8} (h : Cx w0 w cp b i s u out) : Cy w0 w cp b := by
  obtain ⟨ao, cap, h1, h2⟩ := h.cur
  exact ⟨⟨ao, cap, _, h1.c0, h1.c1, h1.f1, h1.rd, h1.le, h1.mx, h1.ni, h1.sm, h1.ne, h2⟩, h.held, h.off⟩
theorem Cy.set {w0 w : World} {cp : Nat} {b : List UInt8} (h : Cy w0 w cp b) (n : Int) : Cy w0 (w.setCell ⟨cp, 1, none⟩ (.int .i64 n)) cp b := by
  obtain ⟨⟨ao, cap, k, h0, h1, h2, h3, h4, h5, h6, h7, h8, h9⟩, hh, ho⟩ := h
  refine ⟨⟨ao, cap, n, ?_, cset h1, ?_, h3.held (p := cp) (q := cp) (Held.set w ⟨cp, 1, none⟩ _ (.inl rfl)) (fun h0 a ha => ⟨h8 h0 a ha, h8 h0 a ha⟩), h4, h5, h6, h7, h8, h9⟩, hh.trans (Held.set _ _ _ (.inl rfl)), fun k2 hk => (cset_ne (fun q => by injection q with _ q2; omega)).trans (ho k2 hk)⟩
  · rw [cset_ne (by simp)]; exact h0
  · rw [World.frozen?_setCell]; exact h2
theorem Cy.to {w0 w : World} {cp : Nat} {b : List UInt8} (h : Cy w0 w cp b) (j : Nat) (hj : j ≤ b.length) : Cx w0 (w.setCell ⟨cp, 1, none⟩ (.int .i64 j)) cp b j (b.drop j) (.slice none 0 0) [] := by
  obtain ⟨⟨ao, cap, k, h0, h1, h2, h3, h4, h5, h6, h7, h8, h9⟩, hh, ho⟩ := h.set j
  obtain ⟨⟨ao', cap', k', g0, g1, _⟩, _⟩ := h
  have e1 := cset (v := Value.int IntKind.i64 j) g1
  exact ⟨rfl, ⟨ao, cap, ⟨h0, e1, h2, h3, h4, h5, h6, hj, h7, h8⟩, h9⟩, hh, OwnB.nil _ _ _, ho⟩
theorem Cy.below {w0 w w' : World} {cp : Nat} {b : List UInt8} (h : Cy w0 w cp b) (hb : Below w.heap.size w w') : Cy w0 w' cp b := by
  obtain ⟨⟨ao, cap, k, h0, h1, h2, h3, h4, h5, h6, h7, h8, h9⟩, hh, ho⟩ := h
  have hc := World.block_lt_of_cell? _ _ h0
  exact ⟨⟨ao, cap, k, cell_up' hb h0, cell_up' hb h1, by rw [hb.frozen (p := ⟨cp, 1, none⟩) hc]; exact h2, h3.up hb, h4, h5, h6, h7, h8, h9⟩, hh.then' (Held.of_below hb), fun k2 hk => (hb.cell (p := ⟨cp, k2, none⟩) hc).trans (ho k2 hk)⟩
theorem Cy.c1 {w0 w : World} {cp : Nat} {b : List UInt8} (h : Cy w0 w cp b) : ∃ n, w.cell? ⟨cp, 1, none⟩ = some (.int .i64 n) := by
  obtain ⟨⟨ao, cap, k, h0, h1, _⟩, _⟩ := h; exact ⟨k, h1⟩
theorem Cy.f1 {w0 w : World} {cp : Nat} {b : List UInt8} (h : Cy w0 w cp b) : w.frozen? ⟨cp, 1, none⟩ = false := by
  obtain ⟨⟨ao, cap, k, h0, h1, h2, _⟩, _⟩ := h; exact h2

section
variable {w0 w w' : World} {cp : Nat} {b : List UInt8} {i : Nat} {s t : List UInt8} {u : Value} {out : List UInt8} {x : UInt8}

set_option maxHeartbeats 800000 in
theorem rpeekn (n : Nat) (hn : n ≤ 1000000) (h : Cx w0 w cp b i s u out) :
    Calls Tryz.prog 49 #[.pointer (some ⟨cp, 0, none⟩), .int .i64 n] w fun e w' => e = .returned (.int .i64 (hd (s.drop n))) ∧ Cx w0 w' cp b i s u out ∧ ∃ n, w' = w.drewN n := by
  have HC := hid h
  obtain ⟨ao, cap, h1, h2⟩ := h.cur
  have hp := hid (pk_drop_add h.drp n)
  have c0 := h1.c0
  have c1 := h1.c1
  have ha := h1.at_
  have hs := h1.sm
  have hS := fun m => (Sl.of_cur h1).up (below_drewN (Below.refl _ w) m)
  have d1 : IntKind.i64.wrap ((i : Int) + (n : Int)) = (i : Int) + (n : Int) := IntWalk.i64_in _ (by omega)
  clear h h1 h2
  go_enter Tryz.func49, Tryz.ntmps49
  go_wp2_with (fail)
  go_quiet ((first | (go_at_call 78; exact Calls.quiet_of (rpeek_any _ b _ _ (hS _) hs))))
  go_wp2_with (fail)
  go_ret
  rw [hp.out]
  exact ⟨rfl, HC.out.drew _, _, rfl⟩
theorem rpeek0 (h : Cx w0 w cp b i s u out) :
    Calls Tryz.prog 49 #[.pointer (some ⟨cp, 0, none⟩), .int .i64 0] w fun e w' => e = .returned (.int .i64 (hd s)) ∧ Cx w0 w' cp b i s u out ∧ ∃ n, w' = w.drewN n := rpeekn 0 (by decide) h
theorem rpeek1 (h : Cx w0 w cp b i s u out) :
    Calls Tryz.prog 49 #[.pointer (some ⟨cp, 0, none⟩), .int .i64 1] w fun e w' => e = .returned (.int .i64 (hd s.tail)) ∧ Cx w0 w' cp b i s u out ∧ ∃ n, w' = w.drewN n := by
  have := rpeekn 1 (by decide) h
  rw [List.drop_one] at this; exact this
theorem rregular_c (c : Int) (h : Cx w0 w cp b i s u out) :
    Calls Tryz.prog 48 #[.int .i64 c] w fun e w' => e = .returned (.bool (rg c)) ∧ Cx w0 w' cp b i s u out := by
  refine (rregular_any c w).mono ?_
  rintro e w' ⟨rfl, n, rfl⟩
  exact ⟨rfl, h.drew n⟩

theorem bl_cons (x : UInt8) (s : List UInt8) : bl (x :: s) false = if wh (c8 x) = true then 1 + bl s false else if c8 x = 37 then 1 + bl s true else 0 := by rw [bl]
theorem bl_in (x : UInt8) (s : List UInt8) (h1 : ¬ c8 x = 10) (h2 : ¬ c8 x = 13) : bl (x :: s) true = 1 + bl s true := by rw [bl, if_neg (by omega)]
theorem bl_eol (x : UInt8) (s : List UInt8) (h : c8 x = 10 ∨ c8 x = 13) : bl (x :: s) true = bl (x :: s) false := by
  rw [bl, bl, if_pos h, if_pos]
  rcases h with h | h <;> rw [h] <;> decide
theorem bl_nil (q : Bool) : bl [] q = 0 := by cases q <;> rfl

set_option maxHeartbeats 1600000 in
theorem rblank (h : Cx w0 w cp b i s u out) :
    Calls Tryz.prog 46 #[.pointer (some ⟨cp, 0, none⟩)] w fun e w' => e = .returned (.tuple #[]) ∧ Cx w0 w' cp b (i + bl s false) (s.drop (bl s false)) u out := by
  have hfin : ∀ j s' w', Cx w0 w' cp b j s' u out → j = i + bl s false → Cx w0 w' cp b (i + bl s false) (s.drop (bl s false)) u out := fun j s' w' hc hj => by
    subst hj
    have e1 := hc.drp
    rw [← List.drop_drop, h.drp] at e1
    rw [e1]; exact hc
  have HF := hid hfin
  clear hfin
  generalize hZ : i + bl s false = Z at HF ⊢
  go_enter Tryz.func46, Tryz.ntmps46
  go_wp2_with (fail)
  go_loopw [2] (fun v2 wr => ∃ j s', Cx w0 wr cp b j s' u out ∧ j + bl s' false = Z) (fun v2 wr => remOf wr cp)
  case atStart => exact ⟨i, s, h, hZ⟩
  case round =>
    obtain ⟨j, s1, hC, hz⟩ := hrel
    obtain ⟨wo, rfl⟩ : ∃ wo : World, wo = wr := ⟨_, rfl⟩
    have hm := hid hC.rem
    have c1 := hC.c1
    have f1 := hC.f1
    have hj : j ≤ 1000000 := by have h1 := hC.at_; have h2 := hC.sm; omega
    clear h hZ
    rcases s1 with _ | ⟨x, s1⟩
    · have E : Hid (j = Z) := hid (by rw [bl_nil] at hz; exact hz)
      clear hz
      go_wp2_with (first | (go_at_call 49; (with_reducible refine (rpeek0 hC).mono ?_); rintro e w1 ⟨rfl, hC, -⟩; have c1 := hC.c1; have f1 := hC.f1; first | rw [hd_cons] | rw [hd_nil] | skip))
      ((try simp only [Exit.inBlock, Exit.then]); first | refine bodyPost_ret (results_none rfl _ _ _) rfl ?_ | refine bodyPost_end (results_none rfl _ _ _) rfl ?_)
      exact ⟨rfl, HF.out _ _ _ hC E.out⟩
    rw [bl_cons] at hz
    have x0 := c8_ge x
    have t0 : decide (0 ≤ c8 x) = true := decide_eq_true x0
    by_cases hw : wh (c8 x) = true
    · rw [if_pos hw] at hz
      have HZ := hid hz
      have Hw := hid hw
      clear hz hw
      go_wp2_with (first | (go_at_call 49; (with_reducible refine (rpeek0 hC).mono ?_); rintro e w1 ⟨rfl, hC, -⟩; have c1 := hC.c1; have f1 := hC.f1; first | rw [hd_cons] | rw [hd_nil] | skip) | (go_at_call 77; refine (rwhite_any _ _).mono ?_; rintro e w1 ⟨rfl, rfl⟩; rw [Hw.out]))
      have hC := hC.adv _ rfl
      exact ⟨⟨_, _, hC, by have := HZ.out; omega⟩, by rw [hC.rem, hm.out]; simp⟩
    rw [if_neg hw] at hz
    have Hw : Hid (wh (c8 x) = false) := hid (by simpa using hw)
    clear hw
    by_cases hc : c8 x = 37
    · rw [if_pos hc] at hz
      have b37 : (c8 x == 37) = true := by simpa using hc
      have HZ : Hid (j + bl (x :: s1) true = Z) := hid (by rw [bl_in _ _ (by omega) (by omega)]; exact hz)
      have HX := hid hc
      clear hz hc
      go_wp2_with (first | (go_at_call 49; (with_reducible refine (rpeek0 hC).mono ?_); rintro e w1 ⟨rfl, hC, -⟩; have c1 := hC.c1; have f1 := hC.f1; first | rw [hd_cons] | rw [hd_nil] | skip) | (go_at_call 77; refine (rwhite_any _ _).mono ?_; rintro e w1 ⟨rfl, rfl⟩; rw [Hw.out]))
      obtain ⟨wp, rfl⟩ : ∃ wp : World, wp = w1 := ⟨_, rfl⟩
      go_loopw [] (fun wr => ∃ k s2, Cx w0 wr cp b k s2 u out ∧ k + bl s2 true = Z ∧ (s2 = x :: s1 ∨ s2.length ≤ s1.length)) (fun wr => remOf wr cp)
      case atStart => exact ⟨j, _, hC, HZ.out, .inl rfl⟩
      case round =>
        obtain ⟨k, s2, hC, hz, hor⟩ := hrel
        obtain ⟨wi, rfl⟩ : ∃ wi : World, wi = wr := ⟨_, rfl⟩
        have hm2 := hid hC.rem
        have c1 := hC.c1
        have f1 := hC.f1
        have hk : k ≤ 1000000 := by have h1 := hC.at_; have h2 := hC.sm; omega
        have HO := hid hor
        clear hor
        rcases s2 with _ | ⟨y, s2⟩
        · have E : Hid (k = Z) := hid (by rw [bl_nil] at hz; exact hz)
          clear hz
          go_wp2_with (first | (go_at_call 49; (with_reducible refine (rpeek0 hC).mono ?_); rintro e w1 ⟨rfl, hC, -⟩; have c1 := hC.c1; have f1 := hC.f1; first | rw [hd_cons] | rw [hd_nil] | skip))
          exact ⟨⟨_, _, hC, by rw [bl_nil, E.out]; rfl⟩, by rw [hC.rem, hm.out]; simp⟩
        have y0 := c8_ge y
        have t1 : decide (0 ≤ c8 y) = true := decide_eq_true y0
        have hlen : Hid (y :: s2 ≠ x :: s1 → s2.length + 1 ≤ s1.length) := hid (fun q => by
          rcases HO.out with g | g
          · exact absurd g q
          · simpa using g)
        by_cases h10 : c8 y = 10
        · have hne : Hid (s2.length + 1 ≤ s1.length) := hid (hlen.out (fun q => by injection q with q1 _; rw [q1, HX.out] at h10; omega))
          have q1 : (c8 y != 10) = false := by simpa using h10
          have E : Hid (k + bl (y :: s2) false = Z) := hid (by rw [← bl_eol _ _ (.inl h10)]; exact hz)
          clear hz h10
          go_wp2_with (first | (go_at_call 49; (with_reducible refine (rpeek0 hC).mono ?_); rintro e w1 ⟨rfl, hC, -⟩; have c1 := hC.c1; have f1 := hC.f1; first | rw [hd_cons] | rw [hd_nil] | skip))
          exact ⟨⟨_, _, hC, E.out⟩, by rw [hC.rem, hm.out]; have := hne.out; simp; omega⟩
        have q1 : (c8 y != 10) = true := by simpa using h10
        by_cases h13 : c8 y = 13
        · have hne : Hid (s2.length + 1 ≤ s1.length) := hid (hlen.out (fun q => by injection q with q1 _; rw [q1, HX.out] at h13; omega))
          have q2 : (c8 y != 13) = false := by simpa using h13
          have E : Hid (k + bl (y :: s2) false = Z) := hid (by rw [← bl_eol _ _ (.inr h13)]; exact hz)
          clear hz h13 h10
          go_wp2_with (first | (go_at_call 49; (with_reducible refine (rpeek0 hC).mono ?_); rintro e w1 ⟨rfl, hC, -⟩; have c1 := hC.c1; have f1 := hC.f1; first | rw [hd_cons] | rw [hd_nil] | skip))
          exact ⟨⟨_, _, hC, E.out⟩, by rw [hC.rem, hm.out]; have := hne.out; simp; omega⟩
        have q2 : (c8 y != 13) = true := by simpa using h13
        have E : Hid (k + 1 + bl s2 true = Z) := hid (by rw [bl_in _ _ h10 h13] at hz; omega)
        have hne : Hid (s2.length ≤ s1.length) := hid (by
          rcases HO.out with g | g
          · injection g with g1 g2; rw [g2]; exact Nat.le_refl _
          · simp at g; omega)
        clear hz h10 h13
        go_wp2_with (first | (go_at_call 49; (with_reducible refine (rpeek0 hC).mono ?_); rintro e w1 ⟨rfl, hC, -⟩; have c1 := hC.c1; have f1 := hC.f1; first | rw [hd_cons] | rw [hd_nil] | skip))
        have hC := hC.adv _ rfl
        exact ⟨⟨_, _, hC, E.out, .inr hne.out⟩, by rw [hC.rem, hm2.out]; simp⟩
    rw [if_neg hc] at hz
    have b37 : (c8 x == 37) = false := by simpa using hc
    have E : Hid (j = Z) := hid hz
    clear hz hc
    go_wp2_with (first | (go_at_call 49; (with_reducible refine (rpeek0 hC).mono ?_); rintro e w1 ⟨rfl, hC, -⟩; have c1 := hC.c1; have f1 := hC.f1; first | rw [hd_cons] | rw [hd_nil] | skip) | (go_at_call 77; refine (rwhite_any _ _).mono ?_; rintro e w1 ⟨rfl, rfl⟩; rw [Hw.out]))
    ((try simp only [Exit.inBlock, Exit.then]); first | refine bodyPost_ret (results_none rfl _ _ _) rfl ?_ | refine bodyPost_end (results_none rfl _ _ _) rfl ?_)
    exact ⟨rfl, HF.out _ _ _ hC E.out⟩
end
end Go.Proofs.YtlmgklebikcbjaaGreat
