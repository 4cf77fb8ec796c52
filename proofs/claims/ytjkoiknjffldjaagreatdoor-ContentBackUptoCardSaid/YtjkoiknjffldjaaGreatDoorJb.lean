/-
  Remainders, appends of a string's bytes, appends that leave what they were made from, LexTexts' parts. Conditions: sizes.
-/
import Derived.Test.YtjkoiknjffldjaaGreatDoorJa
import Derived.Laws.IdiomStrings
import Derived.Laws.Concat
import Derived.Lib.AppendStr
/-
  The document's lexer: what it looks at; Blank; the walks. Condition: it stands in its bytes.
-/
namespace Go.Proofs.YtjkoiknjffldjaaGreatDoor
open Go.RowKit
set_option linter.unusedVariables false

theorem Rd.byteM (w : World) (n : Int) (e : TypeId) (k : Nat) (hk : k = w.heap.size) (h : 0 ≤ n) (h' : n ≤ 255) : Rd (w.alloc (.cells #[.int .u8 n] e)) (Option.some ⟨k, 0, none⟩) [byteOf n] := by
  subst hk; exact Rd.byteN w n e h h'
theorem Sl.of_cur {w : World} {cp : Nat} {ao : Option Addr} {cap : Nat} {b : List UInt8} {i : Nat} (h : CurAt w cp ao cap b i) : Sl w (.slice ao b.length cap) b := ⟨ao, cap, rfl, h.le, h.mx, h.ni, h.rd⟩

/-- the document's lexer, wherever it stands -/
structure Cy (w0 w : World) (cp : Nat) (b : List UInt8) : Prop where
  cur : ∃ ao cap n, w.cell? ⟨cp, 0, none⟩ = some (.slice ao b.length cap) ∧ w.cell? ⟨cp, 1, none⟩ = some (.int .i64 n) ∧ w.frozen? ⟨cp, 1, none⟩ = false ∧ Rd w ao b ∧ b.length ≤ cap ∧ cap ≤ maxLen ∧ (ao = none → cap = 0) ∧ b.length ≤ 4000000 ∧ (0 < b.length → ∀ a, ao = some a → a.block ≠ cp) ∧ LowS w0 cp cp ao cap b
  held : Held w0.heap.size cp cp w0 w
  off : ∀ k, 2 ≤ k → w.cell? ⟨cp, k, none⟩ = w0.cell? ⟨cp, k, none⟩

theorem Cx.cy {w0 w : World} {cp : Nat} {b s : List UInt8} {i : Nat} {u : Value} {out : List UInt8} (h : Cx w0 w cp b i s u out) : Cy w0 w cp b := by
  obtain ⟨ao, cap, h1, h2⟩ := h.cur
  exact ⟨⟨ao, cap, _, h1.c0, h1.c1, h1.f1, h1.rd, h1.le, h1.mx, h1.ni, h1.sm, h1.ne, h2⟩, h.held, h.off⟩
theorem Cy.set {w0 w : World} {cp : Nat} {b : List UInt8} (h : Cy w0 w cp b) (n : Int) : Cy w0 (w.setCell ⟨cp, 1, none⟩ (.int .i64 n)) cp b := by
  obtain ⟨⟨ao, cap, k, h0, h1, h2, h3, h4, h5, h6, h7, h8, h9⟩, hh, ho⟩ := h
  refine ⟨⟨ao, cap, n, ?_, cset h1, ?_, h3.held (p := cp) (q := cp) (Held.set w ⟨cp, 1, none⟩ _ (.inl rfl)) (fun h0 a ha => ⟨h8 h0 a ha, h8 h0 a ha⟩), h4, h5, h6, h7, h8, h9⟩, hh.trans (Held.set _ _ _ (.inl rfl)), fun k2 hk => (cset_ne (fun q => by injection q with _ q2; omega)).trans (ho k2 hk)⟩
  · rw [cset_ne (by simp)]; exact h0
  · rw [World.frozen?_setCell]; exact h2
theorem Cy.to {w0 w : World} {cp : Nat} {b : List UInt8} (h : Cy w0 w cp b) (j : Nat) (hj : j ≤ b.length) : Cx w0 (w.setCell ⟨cp, 1, none⟩ (.int .i64 j)) cp b j (b.drop j) (.slice none 0 0) [] := by
  obtain ⟨⟨ao, cap, k, h0, h1, h2, h3, h4, h5, h6, h7, h8, h9⟩, hh, ho⟩ := h.set j
  obtain ⟨⟨ao', cap', k', g0, g1, _⟩, _⟩ := h
  have e1 := cset (v := Value.int IntKind.i64 j) g1
  exact ⟨rfl, ⟨ao, cap, ⟨h0, e1, h2, h3, h4, h5, h6, hj, h7, h8⟩, h9⟩, hh, OwnB.nil _ _ _, ho⟩
theorem Cy.below {w0 w w' : World} {cp : Nat} {b : List UInt8} (h : Cy w0 w cp b) (hb : Below w.heap.size w w') : Cy w0 w' cp b := by
  obtain ⟨⟨ao, cap, k, h0, h1, h2, h3, h4, h5, h6, h7, h8, h9⟩, hh, ho⟩ := h
  have hc := World.block_lt_of_cell? _ _ h0
  exact ⟨⟨ao, cap, k, cell_up' hb h0, cell_up' hb h1, by rw [hb.frozen (p := ⟨cp, 1, none⟩) hc]; exact h2, h3.up hb, h4, h5, h6, h7, h8, h9⟩, hh.then' (Held.of_below hb), fun k2 hk => (hb.cell (p := ⟨cp, k2, none⟩) hc).trans (ho k2 hk)⟩
theorem Cy.c1 {w0 w : World} {cp : Nat} {b : List UInt8} (h : Cy w0 w cp b) : ∃ n, w.cell? ⟨cp, 1, none⟩ = some (.int .i64 n) := by
  obtain ⟨⟨ao, cap, k, h0, h1, _⟩, _⟩ := h; exact ⟨k, h1⟩
theorem Cy.f1 {w0 w : World} {cp : Nat} {b : List UInt8} (h : Cy w0 w cp b) : w.frozen? ⟨cp, 1, none⟩ = false := by
  obtain ⟨⟨ao, cap, k, h0, h1, h2, _⟩, _⟩ := h; exact h2

section
variable {w0 w w' : World} {cp : Nat} {b : List UInt8} {i : Nat} {s t : List UInt8} {u : Value} {out : List UInt8} {x : UInt8}

theorem rregular_c (c : Int) (h : Cx w0 w cp b i s u out) :
    Calls Tryz.prog 58 #[.int .i64 c] w fun e w' => e = .returned (.bool (rg c)) ∧ Cx w0 w' cp b i s u out := by
  refine (rregular_any c w).mono ?_
  rintro e w' ⟨rfl, n, rfl⟩
  exact ⟨rfl, h.drew n⟩

theorem bl_cons (x : UInt8) (s : List UInt8) : bl (x :: s) false = if wh (c8 x) = true then 1 + bl s false else if c8 x = 37 then 1 + bl s true else 0 := by rw [bl]
theorem bl_in (x : UInt8) (s : List UInt8) (h1 : ¬ c8 x = 10) (h2 : ¬ c8 x = 13) : bl (x :: s) true = 1 + bl s true := by rw [bl, if_neg (by omega)]
theorem bl_eol (x : UInt8) (s : List UInt8) (h : c8 x = 10 ∨ c8 x = 13) : bl (x :: s) true = bl (x :: s) false := by
  rw [bl, bl, if_pos h, if_pos]
  rcases h with h | h <;> rw [h] <;> decide
theorem bl_nil (q : Bool) : bl [] q = 0 := by cases q <;> rfl

end
end Go.Proofs.YtjkoiknjffldjaaGreatDoor

/-
  name: what stands behind a stroke; the program's walk. Condition: the lexer's row is the call's own.
-/
namespace Go.Proofs.YtjkoiknjffldjaaGreatDoor
open Go.RowKit
set_option linter.unusedVariables false

theorem rg_neg : rg (-1) = false := by decide
theorem dig_ge (c : Int) : -1 ≤ dig c := by unfold dig; split; omega; split; omega; split <;> omega
theorem dig_le (c : Int) : dig c ≤ 15 := by unfold dig; split; omega; split; omega; split <;> omega
theorem dig_neg : dig (-1) = -1 := by decide

theorem bits_or16 : ∀ a b : Fin 16, bits BinOp.or IntKind.i64 ((a.1 : Int) * 16) (b.1 : Int) = 16 * (a.1 : Int) + (b.1 : Int) := by decide +kernel
theorem bits_or {a b : Int} (h1 : 0 ≤ a) (h2 : a ≤ 15) (h3 : 0 ≤ b) (h4 : b ≤ 15) : bits BinOp.or IntKind.i64 (a * 16) b = 16 * a + b := by
  obtain ⟨m, rfl⟩ := Int.eq_ofNat_of_zero_le h1
  obtain ⟨n, rfl⟩ := Int.eq_ofNat_of_zero_le h3
  exact bits_or16 ⟨m, by omega⟩ ⟨n, by omega⟩

/-- what a reader of bytes leaves -/
def ResP (R : Res) (M : Nat) (w0 : World) (lp cp : Nat) (b : List UInt8) (e : Ending) (w' : World) : Prop :=
  match R with
  | .bad x => e = .returned (.int .i64 x) ∧ ∃ i s v out, Lx w0 w' lp cp b i s (.int .i64 M) v v out
  | .ok out rest => e = .returned (.int .i64 0) ∧ ∃ i v, Lx w0 w' lp cp b i rest (.int .i64 M) v v out

set_option maxHeartbeats 3200000 in
theorem name_l {w0 w : World} {lp cp : Nat} {b : List UInt8} {i : Nat} {s : List UInt8} {v : Value} {out : List UInt8} (h : Lx w0 w lp cp b i s (.int .i64 127) v v out) :
    Calls Tryz.prog 82 #[.pointer (some ⟨lp, 0, none⟩)] w fun e w' => ResP (nm s out) 127 w0 lp cp b e w' := by
  generalize hR : nm s out = R
  go_enter Tryz.func82, Tryz.ntmps82
  go_wp2
  go_loopw [3] (fun v3 wr => ∃ i s v out, Lx w0 wr lp cp b i s (.int .i64 127) v v out ∧ nm s out = R) (fun v3 wr => remOf wr cp)
  case atStart => exact ⟨i, s, v, out, h, hR⟩
  case round =>
    clear h hR
    obtain ⟨i, s, v, out, hL, hR⟩ := hrel
    obtain ⟨wo, rfl⟩ : ∃ wo : World, wo = wr := ⟨_, rfl⟩
    have p0 := hL.p0
    have hm := hid hL.rem
    rcases s with _ | ⟨x, s⟩
    · rw [show nm [] out = .ok out [] from rfl] at hR
      subst hR
      go_wp2_with (first | (go_at_call 77; refine (peek0 hL).mono ?_; rintro e w1 ⟨rfl, hL, -⟩; have p0 := hL.p0; first | rw [hd_cons] | rw [hd_nil] | skip) | (go_at_call 86; refine (regular_l _ hL).mono ?_; rintro e w1 ⟨rfl, hL⟩; have p0 := hL.p0; rw [rg_neg]))
      go_ret
      exact ⟨rfl, _, _, hL⟩
    · rw [nm_cons] at hR
      have x0 := c8_ge x
      have x1 := c8_le x
      cases hr : rg (c8 x) with
      | false =>
        rw [if_neg (by simp [hr])] at hR
        subst hR
        have Hr := hid hr
        clear hr
        go_wp2_with (first | (go_at_call 77; refine (peek0 hL).mono ?_; rintro e w1 ⟨rfl, hL, -⟩; have p0 := hL.p0; first | rw [hd_cons] | rw [hd_nil] | skip) | (go_at_call 86; refine (regular_l _ hL).mono ?_; rintro e w1 ⟨rfl, hL⟩; have p0 := hL.p0; rw [Hr.out]))
        go_ret
        exact ⟨rfl, _, _, hL⟩
      | true =>
        rw [if_pos hr] at hR
        have Hr := hid hr
        clear hr
        by_cases hc : c8 x = 35
        · rw [if_pos hc] at hR
          have q1 : (c8 x == 35) = true := by simpa using hc
          have hc' := hid hc
          clear hc
          go_wp2_with (first | (go_at_call 77; refine (peek0 hL).mono ?_; rintro e w1 ⟨rfl, hL, -⟩; have p0 := hL.p0; first | rw [hd_cons] | rw [hd_nil] | skip) | (go_at_call 86; refine (regular_l _ hL).mono ?_; rintro e w1 ⟨rfl, hL⟩; have p0 := hL.p0; rw [Hr.out]) | (go_at_call 79; refine (next_cons hL).mono ?_; rintro e w1 ⟨rfl, hL⟩; have p0 := hL.p0))
          have a0 := dig_ge (hd s)
          have a1 := dig_le (hd s)
          have b0 := dig_ge (hd s.tail)
          have b1 := dig_le (hd s.tail)
          by_cases h1 : dig (hd s) < 0
          · rw [if_pos (.inl h1)] at hR
            subst hR
            have t1 : decide (dig (hd s) < 0) = true := decide_eq_true h1
            go_quiet ((first | (go_at_call 77; with_reducible exact qpeek0 _ hL) | (go_at_call 77; with_reducible exact qpeek1 _ hL) | (go_at_call 102; exact Calls.quiet_of_same ((digit_any _ _).mono fun e w' ⟨h1, h2⟩ => ⟨h1, h2.symm⟩))))
            go_wp2_with (fail)
            go_ret
            exact ⟨rfl, _, _, _, _, hL.drew _⟩
          by_cases h2 : dig (hd s.tail) < 0
          · rw [if_pos (.inr (.inl h2))] at hR
            subst hR
            have t1 : decide (dig (hd s) < 0) = false := decide_eq_false h1
            have t2 : decide (dig (hd s.tail) < 0) = true := decide_eq_true h2
            go_quiet ((first | (go_at_call 77; with_reducible exact qpeek0 _ hL) | (go_at_call 77; with_reducible exact qpeek1 _ hL) | (go_at_call 102; exact Calls.quiet_of_same ((digit_any _ _).mono fun e w' ⟨h1, h2⟩ => ⟨h1, h2.symm⟩))))
            go_wp2_with (fail)
            go_ret
            exact ⟨rfl, _, _, _, _, hL.drew _⟩
          have t1 : decide (dig (hd s) < 0) = false := decide_eq_false h1
          have t2 : decide (dig (hd s.tail) < 0) = false := decide_eq_false h2
          have t3 := bits_or (a := dig (hd s)) (b := dig (hd s.tail)) (by omega) a1 (by omega) b1
          by_cases h3 : 16 * dig (hd s) + dig (hd s.tail) = 0
          · rw [if_pos (.inr (.inr h3))] at hR
            subst hR
            have t4 : (16 * dig (hd s) + dig (hd s.tail) == 0) = true := by simpa using h3
            have t5 : 0 ≤ dig (hd s) := by omega
            clear h3
            go_quiet ((first | (go_at_call 77; with_reducible exact qpeek0 _ hL) | (go_at_call 77; with_reducible exact qpeek1 _ hL) | (go_at_call 102; exact Calls.quiet_of_same ((digit_any _ _).mono fun e w' ⟨h1, h2⟩ => ⟨h1, h2.symm⟩))))
            go_wp2_with (fail)
            go_ret
            exact ⟨rfl, _, _, _, _, hL.drew _⟩
          rw [if_neg (by omega)] at hR
          have hn : 2 ≤ s.length := by
            rcases s with _ | ⟨y, _ | ⟨z, s⟩⟩
            · exact absurd dig_neg (by rw [hd_nil] at h1; omega)
            · exact absurd dig_neg (by rw [List.tail_cons, hd_nil] at h2; omega)
            · simp
          have t4 : (16 * dig (hd s) + dig (hd s.tail) == 0) = false := by simpa using h3
          have t5 : 0 ≤ dig (hd s) := by omega
          have hb : i + 1 + 2 ≤ b.length := by have := hL.at_; omega
          have hs := hL.sm
          have d1 : IntKind.i64.wrap ((i : Int) + 1 + 2) = (i : Int) + 1 + 2 := IntWalk.i64_in _ (by omega)
          have D1 := hid d1
          have HR0 := hid hR
          clear h3 hR d1
          go_quiet ((first | (go_at_call 77; with_reducible exact qpeek0 _ hL) | (go_at_call 77; with_reducible exact qpeek1 _ hL) | (go_at_call 102; exact Calls.quiet_of_same ((digit_any _ _).mono fun e w' ⟨h1, h2⟩ => ⟨h1, h2.symm⟩))))
          go_wp2_with (fail)
          have d1 := D1.out
          have hdr : b.drop (i + 1 + 2) = s.drop 2 := by rw [← List.drop_drop, hL.drp]
          have HD := hid hdr
          clear hdr
          go_region_held3 (fun w' => w'.cell? ⟨lp, 0, none⟩ = some (.pointer (some ⟨cp, 0, none⟩))) (first | go_keep | skip) (first | (go_at_call 38; refine (pos_l (hL.drew _)).mono ?_; rintro e w1 ⟨rfl, rfl⟩) | (go_at_call 42; refine (seek_l (i + 1 + 2) _ (by omega) (by omega) (hL.drew _)).mono ?_; rintro e w1 ⟨rfl, hL⟩; have p0 := hL.p0))
          clear d1
          have hR := HR0.out
          rw [HD.out] at hL
          by_cases hf : 127 ≤ out.length
          · rw [if_pos hf] at hR
            subst hR
            go_wp2_with (first | (go_at_call 103; refine (put_no 127 _ (by decide) (by exact hf) hL).mono ?_; rintro e w1 ⟨rfl, hL⟩; have p0 := hL.p0))
            go_ret
            exact ⟨rfl, _, _, _, _, hL⟩
          · rw [if_neg hf] at hR
            have HR := hid hR
            clear hR
            go_wp2_with (first | (go_at_call 103; refine (put_yes 127 _ (by decide) (by omega) hL).mono ?_; rintro e w1 ⟨rfl, vv, hL⟩; have p0 := hL.p0))
            exact ⟨⟨_, _, _, _, hL, HR.out⟩, by rw [hL.rem, hm.out]; simp; omega⟩
        · rw [if_neg hc] at hR
          have q1 : (c8 x == 35) = false := by simpa using hc
          clear hc
          by_cases hf : 127 ≤ out.length
          · rw [if_pos hf] at hR
            subst hR
            go_wp2_with (first | (go_at_call 77; refine (peek0 hL).mono ?_; rintro e w1 ⟨rfl, hL, -⟩; have p0 := hL.p0; first | rw [hd_cons] | rw [hd_nil] | skip) | (go_at_call 86; refine (regular_l _ hL).mono ?_; rintro e w1 ⟨rfl, hL⟩; have p0 := hL.p0; rw [Hr.out]) | (go_at_call 79; refine (next_cons hL).mono ?_; rintro e w1 ⟨rfl, hL⟩; have p0 := hL.p0) | (go_at_call 103; refine (put_no 127 _ (by decide) (by exact hf) hL).mono ?_; rintro e w1 ⟨rfl, hL⟩; have p0 := hL.p0))
            go_ret
            exact ⟨rfl, _, _, _, _, hL⟩
          · rw [if_neg hf] at hR
            have HR := hid hR
            clear hR
            go_wp2_with (first | (go_at_call 77; refine (peek0 hL).mono ?_; rintro e w1 ⟨rfl, hL, -⟩; have p0 := hL.p0; first | rw [hd_cons] | rw [hd_nil] | skip) | (go_at_call 86; refine (regular_l _ hL).mono ?_; rintro e w1 ⟨rfl, hL⟩; have p0 := hL.p0; rw [Hr.out]) | (go_at_call 79; refine (next_cons hL).mono ?_; rintro e w1 ⟨rfl, hL⟩; have p0 := hL.p0) | (go_at_call 103; refine (put_yes 127 _ (by decide) (by omega) hL).mono ?_; rintro e w1 ⟨rfl, vv, hL⟩; have p0 := hL.p0))
            rw [byteOf_c8] at hL
            exact ⟨⟨_, _, _, _, hL, HR.out⟩, by rw [hL.rem, hm.out]; simp⟩
end Go.Proofs.YtjkoiknjffldjaaGreatDoor

/-
  The document's name: what stands behind a stroke; the walk. Condition: the lexer stands in its bytes.
-/
namespace Go.Proofs.YtjkoiknjffldjaaGreatDoor
open Go.RowKit
set_option linter.unusedVariables false

/-- what the document's reader of bytes leaves -/
def ResC (R : Res) (w0 : World) (cp : Nat) (b : List UInt8) (e : Ending) (w' : World) : Prop :=
  match R with
  | .bad x => e = .returned (.tuple #[.slice none 0 0, .int .i64 x]) ∧ Cy w0 w' cp b
  | .ok out rest => ∃ u, e = .returned (.tuple #[u, .int .i64 0]) ∧ ∃ i, Cx w0 w' cp b i rest u out

section
variable {w0 w w' : World} {cp : Nat} {b : List UInt8} {i : Nat} {s t : List UInt8} {u : Value} {out : List UInt8} {x : UInt8}

end
end Go.Proofs.YtjkoiknjffldjaaGreatDoor

/-
  text: what stands behind a bracket; ends of line, escapes, octal digits; the program's walks. Condition: the lexer's row is the call's own.
-/
namespace Go.Proofs.YtjkoiknjffldjaaGreatDoor
open Go.RowKit
set_option linter.unusedVariables false

theorem c8_inj {x y : UInt8} (h : c8 x = c8 y) : x = y := by unfold c8 at h; exact UInt8.toNat_inj.1 (by omega)
theorem pfx1 (a : UInt8) (s : List UInt8) : pfx [a] s = decide (hd s = c8 a) := by
  cases s with
  | nil => have := c8_ge a; rw [hd_nil, decide_eq_false (by omega)]; rfl
  | cons x t =>
    rw [hd_cons]
    by_cases h : x = a
    · subst h; simp [pfx]
    · rw [decide_eq_false (fun q => h (c8_inj q))]; simp [pfx, h]

section
variable {w0 w : World} {lp cp : Nat} {b : List UInt8} {i : Nat} {s : List UInt8} {m v u : Value} {out : List UInt8}

theorem eol_l (c : Int) (h : Lx w0 w lp cp b i s m v u out) :
    Calls Tryz.prog 105 #[.pointer (some ⟨lp, 0, none⟩), .int .i64 c] w fun e w' => e = .returned (.tuple #[]) ∧ ∃ j, Lx w0 w' lp cp b j (if c = 13 then sk s else s) m v u out := by
  have hL := h
  have p0 := hL.p0
  by_cases hc : c = 13
  · subst hc
    have t1 : ((13 : Int) == 13) = true := rfl
    rw [if_pos rfl]
    by_cases hh : hd s = 10
    · have hp : pfx [10] s = true := by rw [pfx1]; exact decide_eq_true hh
      obtain ⟨x, t, rfl⟩ : ∃ x t, s = x :: t := by
        rcases s with _ | ⟨x, t⟩
        · rw [hd_nil] at hh; omega
        · exact ⟨x, t, rfl⟩
      have E : sk (x :: t) = t := by rw [hd_cons] at hh; rw [sk, if_pos hh]
      rw [E]
      have H := hid hp
      clear hh hp E h
      go_enter Tryz.func105, Tryz.ntmps105
      go_wp2_with (first | (go_at_call 80; refine (match_yes _ (by decide) H.out hL).mono ?_; rintro e w1 ⟨rfl, hL⟩; have p0 := hL.p0))
      ((try simp only [Exit.inBlock, Exit.then]); first | refine bodyPost_ret (results_none rfl _ _ _) rfl ?_ | refine bodyPost_end (results_none rfl _ _ _) rfl ?_)
      exact ⟨rfl, _, hL⟩
    · have hp : pfx [10] s = false := by rw [pfx1]; exact decide_eq_false hh
      have E : sk s = s := by
        rcases s with _ | ⟨x, t⟩
        · rfl
        · rw [hd_cons] at hh; rw [sk, if_neg hh]
      rw [E]
      have H := hid hp
      clear hh hp E h
      go_enter Tryz.func105, Tryz.ntmps105
      go_wp2_with (first | (go_at_call 80; refine (match_no _ (by decide) H.out hL).mono ?_; rintro e w1 ⟨rfl, hL⟩; have p0 := hL.p0))
      ((try simp only [Exit.inBlock, Exit.then]); first | refine bodyPost_ret (results_none rfl _ _ _) rfl ?_ | refine bodyPost_end (results_none rfl _ _ _) rfl ?_)
      exact ⟨rfl, _, hL⟩
  · have t1 : (c == 13) = false := by simpa using hc
    rw [if_neg hc]
    clear hc h
    go_enter Tryz.func105, Tryz.ntmps105
    go_wp2_with (fail)
    ((try simp only [Exit.inBlock, Exit.then]); first | refine bodyPost_ret (results_none rfl _ _ _) rfl ?_ | refine bodyPost_end (results_none rfl _ _ _) rfl ?_)
    exact ⟨rfl, _, hL⟩

theorem or64 : ∀ (a : Fin 64) (b : Fin 8), bits BinOp.or IntKind.i64 ((a.1 : Int) * 8) (b.1 : Int) = 8 * (a.1 : Int) + (b.1 : Int) := by decide +kernel
theorem or64' {a b : Int} (h1 : 0 ≤ a) (h2 : a ≤ 63) (h3 : 0 ≤ b) (h4 : b ≤ 7) : bits BinOp.or IntKind.i64 (a * 8) b = 8 * a + b := by
  obtain ⟨m, rfl⟩ := Int.eq_ofNat_of_zero_le h1
  obtain ⟨n, rfl⟩ := Int.eq_ofNat_of_zero_le h3
  exact or64 ⟨m, by omega⟩ ⟨n, by omega⟩
theorem and255 : ∀ (a : Fin 512), bits BinOp.and IntKind.i64 (a.1 : Int) 255 = (a.1 : Int) % 256 := by decide +kernel
theorem and255' {a : Int} (h1 : 0 ≤ a) (h2 : a ≤ 511) : bits BinOp.and IntKind.i64 a 255 = a % 256 := by
  obtain ⟨m, rfl⟩ := Int.eq_ofNat_of_zero_le h1
  exact and255 ⟨m, by omega⟩

theorem oc_stop {k : Nat} {n : Int} {s : List UInt8} (h : ¬ (48 ≤ hd s ∧ hd s ≤ 55)) : oc k n s = (n, s) := by
  cases k with
  | zero => rfl
  | succ k => cases s with
    | nil => rfl
    | cons x s => rw [hd_cons] at h; rw [oc, if_neg h]

/-- digits behind the first: k more may come -/
theorem oc_bd : ∀ (k : Nat) (n : Int) (s : List UInt8), 0 ≤ n → 0 ≤ (oc k n s).1
  | 0, n, s, h => h
  | k + 1, n, [], h => h
  | k + 1, n, x :: s, h => by
    rw [oc]; split
    · exact oc_bd k _ s (by omega)
    · exact h

set_option maxHeartbeats 1600000 in
theorem octal_l (c : Int) (hc : 48 ≤ c) (hc' : c ≤ 55) (h : Lx w0 w lp cp b i s m v u out) :
    Calls Tryz.prog 117 #[.pointer (some ⟨lp, 0, none⟩), .int .i64 c] w fun e w' => e = .returned (.int .i64 ((oc 2 (c - 48) s).1 % 256)) ∧ ∃ j, Lx w0 w' lp cp b j (oc 2 (c - 48) s).2 m v u out := by
  generalize hR : oc 2 (c - 48) s = R
  go_enter Tryz.func117, Tryz.ntmps117
  go_wp2
  go_loopw [5, 6] (fun v5 v6 wr => ∃ i s k n, ∃ z : Int, k ≤ 2 ∧ z + (k : Nat) ≤ 2 ∧ 2 ≤ z + (k : Nat) ∧ v6 = .int .i64 z ∧ v5 = .int .i64 n ∧ 0 ≤ n ∧ (k = 2 → n ≤ 7) ∧ (k = 1 → n ≤ 63) ∧ n ≤ 511 ∧ Lx w0 wr lp cp b i s m v u out ∧ oc k n s = R) (fun _ v6 _ => (2 - intOf v6).toNat)
  case atStart => exact ⟨i, s, 2, _, 0, by omega, by omega, by omega, rfl, rfl, by omega, by omega, by omega, by omega, h, hR⟩
  case round =>
    clear h hR
    obtain ⟨i, s, k, n, z, hk, z1, z2, rfl, rfl, n0, n2, n1, n5, hL, hR⟩ := hrel
    obtain ⟨wo, rfl⟩ : ∃ wo : World, wo = wr := ⟨_, rfl⟩
    have p0 := hL.p0
    have g0 := hd_ge s
    have g1 := hd_le s
    have a255 := and255' n0 n5
    by_cases hz : k = 0
    · subst hz
      have t1 : decide (z < 2) = false := decide_eq_false (by omega)
      have e0 : oc 0 n s = (n, s) := rfl
      rw [e0] at hR
      subst hR
      clear n1 n2 hk e0
      go_wp2_with (fail)
      go_ret
      exact ⟨rfl, _, hL⟩
    · have t1 : decide (z < 2) = true := decide_eq_true (by omega)
      by_cases h1 : 48 ≤ hd s ∧ hd s ≤ 55
      · obtain ⟨k', rfl⟩ : ∃ k', k = k' + 1 := ⟨k - 1, by omega⟩
        obtain ⟨x, t, rfl⟩ : ∃ x t, s = x :: t := by
          rcases s with _ | ⟨x, t⟩
          · rw [hd_nil] at h1; omega
          · exact ⟨x, t, rfl⟩
        rw [hd_cons] at h1
        rw [oc, if_pos h1] at hR
        have t2 : decide (48 ≤ c8 x) = true := decide_eq_true h1.1
        have t3 : decide (c8 x ≤ 55) = true := decide_eq_true h1.2
        have n7 : n ≤ 63 := by
          rcases (by omega : k' = 0 ∨ k' = 1) with q | q
          · exact n1 (by omega)
          · have := n2 (by omega); omega
        have n8 : k' = 1 → n ≤ 7 := fun q => n2 (by omega)
        have o64 := or64' n0 n7 (b := c8 x - 48) (by omega) (by omega)
        have y0 := h1.1
        have y1 := h1.2
        have N8 := hid n8
        have HR := hid hR
        clear hR n1 n2 h1 a255 n8
        go_wp2_with (first | (go_at_call 77; refine (peek0 hL).mono ?_; rintro e w1 ⟨rfl, hL, -⟩; have p0 := hL.p0; first | rw [hd_cons] | rw [hd_nil] | skip) | (go_at_call 79; refine (next_cons hL).mono ?_; rintro e w1 ⟨rfl, hL⟩; have p0 := hL.p0))
        exact ⟨⟨_, _, k', _, _, by omega, by omega, by omega, rfl, rfl, by omega, by omega, fun q => by have := N8.out q; omega, by omega, hL, HR.out⟩, by simp [intOf]; omega⟩
      · rw [oc_stop h1] at hR
        subst hR
        clear n1 n2
        by_cases h2 : 48 ≤ hd s
        · have t2 : decide (48 ≤ hd s) = true := decide_eq_true h2
          have t3 : decide (hd s ≤ 55) = false := decide_eq_false (by omega)
          go_wp2_with (first | (go_at_call 77; refine (peek0 hL).mono ?_; rintro e w1 ⟨rfl, hL, -⟩; have p0 := hL.p0; first | rw [hd_cons] | rw [hd_nil] | skip))
          go_ret
          exact ⟨rfl, _, hL⟩
        · have t2 : decide (48 ≤ hd s) = false := decide_eq_false h2
          go_wp2_with (first | (go_at_call 77; refine (peek0 hL).mono ?_; rintro e w1 ⟨rfl, hL, -⟩; have p0 := hL.p0; first | rw [hd_cons] | rw [hd_nil] | skip))
          go_ret
          exact ⟨rfl, _, hL⟩

set_option maxHeartbeats 1600000 in
theorem escape_l (c : Int) (hc : 0 ≤ c) (h : Lx w0 w lp cp b i s m v u out) :
    Calls Tryz.prog 104 #[.pointer (some ⟨lp, 0, none⟩), .int .i64 c] w fun e w' => e = .returned (.int .i64 (es c s).1) ∧ ∃ j, Lx w0 w' lp cp b j (es c s).2 m v u out := by
  generalize hR : es c s = R
  have hL := h
  unfold es at hR
  by_cases q0 : c = 110
  · rw [if_pos q0] at hR; subst hR; subst q0
    go_enter Tryz.func104, Tryz.ntmps104
    go_wp2
    go_ret
    exact ⟨rfl, _, hL⟩
  rw [if_neg q0] at hR
  by_cases q1 : c = 114
  · rw [if_pos q1] at hR; subst hR; subst q1
    go_enter Tryz.func104, Tryz.ntmps104
    go_wp2
    go_ret
    exact ⟨rfl, _, hL⟩
  rw [if_neg q1] at hR
  by_cases q2 : c = 116
  · rw [if_pos q2] at hR; subst hR; subst q2
    go_enter Tryz.func104, Tryz.ntmps104
    go_wp2
    go_ret
    exact ⟨rfl, _, hL⟩
  rw [if_neg q2] at hR
  by_cases q3 : c = 98
  · rw [if_pos q3] at hR; subst hR; subst q3
    go_enter Tryz.func104, Tryz.ntmps104
    go_wp2
    go_ret
    exact ⟨rfl, _, hL⟩
  rw [if_neg q3] at hR
  by_cases q4 : c = 102
  · rw [if_pos q4] at hR; subst hR; subst q4
    go_enter Tryz.func104, Tryz.ntmps104
    go_wp2
    go_ret
    exact ⟨rfl, _, hL⟩
  rw [if_neg q4] at hR
  by_cases q5 : c = 10
  · rw [if_pos q5] at hR; subst hR; subst q5
    go_enter Tryz.func104, Tryz.ntmps104
    go_wp2_with (first | (go_at_call 105; refine (eol_l _ hL).mono ?_; rintro e w1 ⟨rfl, i, hL⟩; have p0 := hL.p0))
    go_ret
    exact ⟨rfl, _, hL⟩
  rw [if_neg q5] at hR
  by_cases q6 : c = 13
  · rw [if_pos q6] at hR; subst hR; subst q6
    go_enter Tryz.func104, Tryz.ntmps104
    go_wp2_with (first | (go_at_call 105; refine (eol_l _ hL).mono ?_; rintro e w1 ⟨rfl, i, hL⟩; have p0 := hL.p0))
    go_ret
    exact ⟨rfl, _, hL⟩
  rw [if_neg q6] at hR
  have p0 : (c == 110) = false := by simpa using q0
  have p1 : (c == 114) = false := by simpa using q1
  have p2 : (c == 116) = false := by simpa using q2
  have p3 : (c == 98) = false := by simpa using q3
  have p4 : (c == 102) = false := by simpa using q4
  have p5 : (c == 10) = false := by simpa using q5
  have p6 : (c == 13) = false := by simpa using q6
  clear q0 q1 q2 q3 q4 q5 q6
  by_cases q7 : 48 ≤ c ∧ c ≤ 55
  · rw [if_pos q7] at hR; subst hR
    have t1 : decide (48 ≤ c) = true := decide_eq_true q7.1
    have t2 : decide (c ≤ 55) = true := decide_eq_true q7.2
    have HQ := hid q7
    clear q7
    go_enter Tryz.func104, Tryz.ntmps104
    go_wp2_with (first | (go_at_call 117; refine (octal_l _ HQ.out.1 HQ.out.2 hL).mono ?_; rintro e w1 ⟨rfl, i, hL⟩))
    go_ret
    exact ⟨rfl, _, hL⟩
  rw [if_neg q7] at hR
  subst hR
  by_cases q8 : 48 ≤ c
  · have t1 : decide (48 ≤ c) = true := decide_eq_true q8
    have t2 : decide (c ≤ 55) = false := decide_eq_false (by omega)
    clear q7
    go_enter Tryz.func104, Tryz.ntmps104
    go_wp2_with (fail)
    go_ret
    exact ⟨rfl, _, hL⟩
  · have t1 : decide (48 ≤ c) = false := decide_eq_false q8
    clear q7
    go_enter Tryz.func104, Tryz.ntmps104
    go_wp2_with (fail)
    go_ret
    exact ⟨rfl, _, hL⟩
end
end Go.Proofs.YtjkoiknjffldjaaGreatDoor

/-
  The document's ends of line, escapes, strings, digits; the walks. Condition: the lexer stands in its bytes.
-/
namespace Go.Proofs.YtjkoiknjffldjaaGreatDoor
open Go.RowKit
set_option linter.unusedVariables false

section
variable {w0 w w' : World} {cp : Nat} {b : List UInt8} {i : Nat} {s t : List UInt8} {u : Value} {out : List UInt8} {x : UInt8}

end
end Go.Proofs.YtjkoiknjffldjaaGreatDoor

/-
  hex: digits by pairs; run: the regular signs from here on; the program's walks. Condition: the lexer's row is the call's own.
-/
namespace Go.Proofs.YtjkoiknjffldjaaGreatDoor
open Go.RowKit
set_option linter.unusedVariables false

theorem dig_neg1 : dig (-1) = -1 := by decide

set_option maxHeartbeats 3200000 in
theorem hex_l {w0 w : World} {lp cp : Nat} {b : List UInt8} {i : Nat} {s : List UInt8} {v : Value} {out : List UInt8} (h : Lx w0 w lp cp b i s (.int .i64 32767) v v out) :
    Calls Tryz.prog 84 #[.pointer (some ⟨lp, 0, none⟩)] w fun e w' => ResP (hx s (-1) out) 32767 w0 lp cp b e w' := by
  generalize hR : hx s (-1) out = R
  go_enter Tryz.func84, Tryz.ntmps84
  go_wp2
  go_loopw [3] (fun v3 wr => ∃ i s v out g, Lx w0 wr lp cp b i s (.int .i64 32767) v v out ∧ hx s g out = R ∧ v3 = .int .i64 g ∧ -1 ≤ g ∧ g ≤ 15) (fun v3 wr => remOf wr cp)
  case atStart => exact ⟨i, s, v, out, -1, h, hR, rfl, by omega, by omega⟩
  case round =>
    clear h hR
    obtain ⟨i, s, v, out, g, hL, hR, rfl, hg0, hg1⟩ := hrel
    obtain ⟨wo, rfl⟩ : ∃ wo : World, wo = wr := ⟨_, rfl⟩
    have p0 := hL.p0
    have hm := hid hL.rem
    rcases s with _ | ⟨x, s⟩
    · rw [show hx [] g out = .bad 2 from rfl] at hR
      subst hR
      go_wp2_with (first | (go_at_call 79; refine (next_nil hL).mono ?_; rintro e w1 ⟨rfl, hL⟩; have p0 := hL.p0) | (go_at_call 102; refine (digit_any _ _).mono ?_; rintro e w1 ⟨rfl, rfl⟩))
      go_ret
      exact ⟨rfl, _, _, _, _, hL⟩
    rw [hx] at hR
    have x0 := c8_ge x
    have x1 := c8_le x
    have d0 := dig_ge (c8 x)
    have d1 := dig_le (c8 x)
    by_cases hw : wh (c8 x) = true
    · rw [if_pos hw] at hR
      have HR := hid hR
      have Hw := hid hw
      clear hR hw
      go_wp2_with (first | (go_at_call 79; refine (next_cons hL).mono ?_; rintro e w1 ⟨rfl, hL⟩; have p0 := hL.p0) | (go_at_call 102; refine (digit_any _ _).mono ?_; rintro e w1 ⟨rfl, rfl⟩) | (go_at_call 78; refine (white_any _ _).mono ?_; rintro e w1 ⟨rfl, rfl⟩; rw [Hw.out]))
      exact ⟨⟨_, _, _, _, g, hL, HR.out, rfl, hg0, hg1⟩, by rw [hL.rem, hm.out]; simp⟩
    rw [if_neg hw] at hR
    have Hw : Hid (wh (c8 x) = false) := hid (by simpa using hw)
    clear hw
    by_cases hc : c8 x = 62
    · rw [if_pos hc] at hR
      have b1 : (c8 x == 62) = true := by simpa using hc
      clear hc
      by_cases hg : g < 0
      · rw [if_pos hg] at hR
        subst hR
        have t1 : decide (g < 0) = true := decide_eq_true hg
        go_wp2_with (first | (go_at_call 79; refine (next_cons hL).mono ?_; rintro e w1 ⟨rfl, hL⟩; have p0 := hL.p0) | (go_at_call 102; refine (digit_any _ _).mono ?_; rintro e w1 ⟨rfl, rfl⟩) | (go_at_call 78; refine (white_any _ _).mono ?_; rintro e w1 ⟨rfl, rfl⟩; rw [Hw.out]))
        go_ret
        exact ⟨rfl, _, _, hL⟩
      rw [if_neg hg] at hR
      have t1 : decide (g < 0) = false := decide_eq_false hg
      by_cases hf : 32767 ≤ out.length
      · rw [if_pos hf] at hR
        subst hR
        go_wp2_with (first | (go_at_call 79; refine (next_cons hL).mono ?_; rintro e w1 ⟨rfl, hL⟩; have p0 := hL.p0) | (go_at_call 102; refine (digit_any _ _).mono ?_; rintro e w1 ⟨rfl, rfl⟩) | (go_at_call 78; refine (white_any _ _).mono ?_; rintro e w1 ⟨rfl, rfl⟩; rw [Hw.out]) | (go_at_call 103; refine (put_no 32767 _ (by decide) (by exact hf) hL).mono ?_; rintro e w1 ⟨rfl, hL⟩; have p0 := hL.p0))
        go_ret
        exact ⟨rfl, _, _, _, _, hL⟩
      · rw [if_neg hf] at hR
        subst hR
        go_wp2_with (first | (go_at_call 79; refine (next_cons hL).mono ?_; rintro e w1 ⟨rfl, hL⟩; have p0 := hL.p0) | (go_at_call 102; refine (digit_any _ _).mono ?_; rintro e w1 ⟨rfl, rfl⟩) | (go_at_call 78; refine (white_any _ _).mono ?_; rintro e w1 ⟨rfl, rfl⟩; rw [Hw.out]) | (go_at_call 103; refine (put_yes 32767 _ (by decide) (by omega) hL).mono ?_; rintro e w1 ⟨rfl, vv, hL⟩; have p0 := hL.p0))
        go_ret
        rw [Int.mul_comm g 16] at hL
        exact ⟨rfl, _, _, hL⟩
    rw [if_neg hc] at hR
    have b1 : (c8 x == 62) = false := by simpa using hc
    clear hc
    by_cases hd0 : dig (c8 x) < 0
    · rw [if_pos hd0] at hR
      subst hR
      have t1 : decide (dig (c8 x) < 0) = true := decide_eq_true hd0
      go_wp2_with (first | (go_at_call 79; refine (next_cons hL).mono ?_; rintro e w1 ⟨rfl, hL⟩; have p0 := hL.p0) | (go_at_call 102; refine (digit_any _ _).mono ?_; rintro e w1 ⟨rfl, rfl⟩) | (go_at_call 78; refine (white_any _ _).mono ?_; rintro e w1 ⟨rfl, rfl⟩; rw [Hw.out]))
      go_ret
      exact ⟨rfl, _, _, _, _, hL⟩
    rw [if_neg hd0] at hR
    have t1 : decide (dig (c8 x) < 0) = false := decide_eq_false hd0
    by_cases hg : g < 0
    · rw [if_pos hg] at hR
      have t2 : decide (g < 0) = true := decide_eq_true hg
      have HR := hid hR
      clear hR
      go_wp2_with (first | (go_at_call 79; refine (next_cons hL).mono ?_; rintro e w1 ⟨rfl, hL⟩; have p0 := hL.p0) | (go_at_call 102; refine (digit_any _ _).mono ?_; rintro e w1 ⟨rfl, rfl⟩) | (go_at_call 78; refine (white_any _ _).mono ?_; rintro e w1 ⟨rfl, rfl⟩; rw [Hw.out]))
      exact ⟨⟨_, _, _, _, _, hL, HR.out, rfl, by omega, by omega⟩, by rw [hL.rem, hm.out]; simp⟩
    rw [if_neg hg] at hR
    have t2 : decide (g < 0) = false := decide_eq_false hg
    have t3 := bits_or (a := g) (b := dig (c8 x)) (by omega) (by omega) (by omega) (by omega)
    by_cases hf : 32767 ≤ out.length
    · rw [if_pos hf] at hR
      subst hR
      go_wp2_with (first | (go_at_call 79; refine (next_cons hL).mono ?_; rintro e w1 ⟨rfl, hL⟩; have p0 := hL.p0) | (go_at_call 102; refine (digit_any _ _).mono ?_; rintro e w1 ⟨rfl, rfl⟩) | (go_at_call 78; refine (white_any _ _).mono ?_; rintro e w1 ⟨rfl, rfl⟩; rw [Hw.out]) | (go_at_call 103; refine (put_no 32767 _ (by decide) (by exact hf) hL).mono ?_; rintro e w1 ⟨rfl, hL⟩; have p0 := hL.p0))
      go_ret
      exact ⟨rfl, _, _, _, _, hL⟩
    · rw [if_neg hf] at hR
      have HR := hid hR
      clear hR
      go_wp2_with (first | (go_at_call 79; refine (next_cons hL).mono ?_; rintro e w1 ⟨rfl, hL⟩; have p0 := hL.p0) | (go_at_call 102; refine (digit_any _ _).mono ?_; rintro e w1 ⟨rfl, rfl⟩) | (go_at_call 78; refine (white_any _ _).mono ?_; rintro e w1 ⟨rfl, rfl⟩; rw [Hw.out]) | (go_at_call 103; refine (put_yes 32767 _ (by decide) (by omega) hL).mono ?_; rintro e w1 ⟨rfl, vv, hL⟩; have p0 := hL.p0))
      exact ⟨⟨_, _, _, _, _, hL, HR.out, rfl, by omega, by omega⟩, by rw [hL.rem, hm.out]; simp⟩

theorem rn_step {s : List UInt8} (h : rg (hd s) = true) : rn s = 1 + rn s.tail := by
  cases s with
  | nil => exact absurd h (by decide)
  | cons x t => rw [hd_cons] at h; rw [rn, if_pos h]; rfl
theorem rn_stop {s : List UInt8} (h : rg (hd s) = false) : rn s = 0 := by
  cases s with
  | nil => rfl
  | cons x t => rw [hd_cons] at h; rw [rn, if_neg (by simp [h])]

set_option maxHeartbeats 1600000 in
theorem run_l {w0 w : World} {lp cp : Nat} {b : List UInt8} {i : Nat} {s : List UInt8} {m v u : Value} {out : List UInt8} (h : Lx w0 w lp cp b i s m v u out) :
    Calls Tryz.prog 87 #[.pointer (some ⟨lp, 0, none⟩)] w fun e w' => ∃ u', e = .returned u' ∧ Lx w0 w' lp cp b (i + rn s) (s.drop (rn s)) m v u' (s.take (rn s)) := by
  have hs0 := h.at_
  have hs1 := h.sm
  have hs2 : s.length ≤ 4000000 := by omega
  have hle := rn_le s
  clear hs0 hs1
  go_enter Tryz.func87, Tryz.ntmps87
  go_wp2
  go_loopw [3] (fun v3 wr => ∃ n : Nat, Lx w0 wr lp cp b i s m v u out ∧ v3 = .int .i64 n ∧ rn s = n + rn (s.drop n)) (fun v3 wr => s.length - (intOf v3).toNat)
  case atStart => exact ⟨0, h, rfl, by simp⟩
  case round =>
    clear h
    obtain ⟨n, hL, rfl, hn⟩ := hrel
    obtain ⟨wo, rfl⟩ : ∃ wo : World, wo = wr := ⟨_, rfl⟩
    have p0 := hL.p0
    have hn1 : n ≤ s.length := by omega
    have HN := hid hn
    clear hn
    by_cases hr : rg (hd (s.drop n)) = true
    · have e1 := hid (rn_step hr)
      have Hr := hid hr
      have hl2 := rn_le (s.drop n)
      rw [List.length_drop] at hl2
      clear hr
      have hlt : n < s.length := by
        have h1 := HN.out; have h2 := e1.out; omega
      go_wp2_with (first | (go_at_call 77; refine (peekn n (by omega) hL).mono ?_; rintro e w1 ⟨rfl, hL, -⟩; have p0 := hL.p0) | (go_at_call 86; refine (regular_l _ hL).mono ?_; rintro e w1 ⟨rfl, hL⟩; have p0 := hL.p0; rw [Hr.out]))
      exact ⟨⟨n + 1, hL, by go_num, by have h1 := HN.out; have h2 := e1.out; rw [List.tail_drop] at h2; omega⟩, by simp [intOf]; omega⟩
    · have Hr : Hid (rg (hd (s.drop n)) = false) := hid (by simpa using hr)
      clear hr
      have e1 : rn s = n := by have h1 := HN.out; rw [rn_stop Hr.out] at h1; omega
      have E := hid e1
      clear e1
      go_wp2_with (first | (go_at_call 77; refine (peekn n (by omega) hL).mono ?_; rintro e w1 ⟨rfl, hL, -⟩; have p0 := hL.p0) | (go_at_call 86; refine (regular_l _ hL).mono ?_; rintro e w1 ⟨rfl, hL⟩; have p0 := hL.p0; rw [Hr.out]) | (go_at_call 90; refine (take_l n hn1 hL).mono ?_; rintro e w1 ⟨u', rfl, hL⟩))
      go_ret
      rw [E.out]
      exact ⟨_, rfl, hL⟩
end Go.Proofs.YtjkoiknjffldjaaGreatDoor

/-
  text: what stands behind a bracket, as the model reads it; the program's walk. Condition: the lexer's row is the call's own.
-/
namespace Go.Proofs.YtjkoiknjffldjaaGreatDoor
open Go.RowKit
set_option linter.unusedVariables false

theorem byteOf10 : byteOf 10 = 10 := by decide

set_option maxHeartbeats 3200000 in
theorem text_l {w0 w : World} {lp cp : Nat} {b : List UInt8} {i : Nat} {s : List UInt8} {v : Value} {out : List UInt8} (h : Lx w0 w lp cp b i s (.int .i64 32767) v v out) :
    Calls Tryz.prog 83 #[.pointer (some ⟨lp, 0, none⟩)] w fun e w' => ResP (TX s 1 out) 32767 w0 lp cp b e w' := by
  generalize hR : TX s 1 out = R
  have hs0 := h.at_
  have hs1 := h.sm
  go_enter Tryz.func83, Tryz.ntmps83
  go_wp2
  go_loopw [3] (fun v3 wr => ∃ i s v out o, Lx w0 wr lp cp b i s (.int .i64 32767) v v out ∧ TX s o out = R ∧ v3 = .int .i64 (o : Nat) ∧ 1 ≤ o ∧ o + s.length ≤ 4000001) (fun v3 wr => remOf wr cp)
  case atStart => exact ⟨i, s, v, out, 1, h, hR, rfl, Nat.le_refl _, by omega⟩
  case round =>
    clear h hR hs0 hs1
    obtain ⟨i, s, v, out, o, hL, hR, rfl, ho, hos⟩ := hrel
    obtain ⟨wo, rfl⟩ : ∃ wo : World, wo = wr := ⟨_, rfl⟩
    have p0 := hL.p0
    have hm := hid hL.rem
    rcases s with _ | ⟨x, s⟩
    · rw [TX_nil] at hR
      subst hR
      go_wp2_with (first | (go_at_call 79; refine (next_nil hL).mono ?_; rintro e w1 ⟨rfl, hL⟩; have p0 := hL.p0))
      go_ret
      exact ⟨rfl, _, _, _, _, hL⟩
    rw [TX_cons] at hR
    rw [List.length_cons] at hos
    have x0 := c8_ge x
    have x1 := c8_le x
    by_cases q92 : c8 x = 92
    · rw [if_pos q92] at hR
      have b92 : (c8 x == 92) = true := by simpa using q92
      clear q92
      rcases s with _ | ⟨y, s⟩
      · rw [if_pos (by decide)] at hR
        subst hR
        go_wp2_with (first | (go_at_call 79; refine (next_cons hL).mono ?_; rintro e w1 ⟨rfl, hL⟩; have p0 := hL.p0) | (go_at_call 79; refine (next_nil hL).mono ?_; rintro e w1 ⟨rfl, hL⟩; have p0 := hL.p0))
        go_ret
        exact ⟨rfl, _, _, _, _, hL⟩
      have y0 := c8_ge y
      have y1 := c8_le y
      rw [hd_cons, List.tail_cons, if_neg (by omega)] at hR
      have he := es_len (c8 y) s
      by_cases hn : (es (c8 y) s).1 < 0
      · rw [if_pos hn] at hR
        have HR := hid hR
        have t1 : decide ((es (c8 y) s).1 < 0) = true := decide_eq_true hn
        clear hR hn
        go_wp2_with (first | (go_at_call 79; refine (next_cons hL).mono ?_; rintro e w1 ⟨rfl, hL⟩; have p0 := hL.p0) | (go_at_call 104; refine (escape_l _ (by omega) hL).mono ?_; rintro e w1 ⟨rfl, i, hL⟩; have p0 := hL.p0))
        exact ⟨⟨_, _, _, _, o, hL, HR.out, rfl, ho, by simp at hos; omega⟩, by rw [hL.rem, hm.out]; simp; omega⟩
      rw [if_neg hn] at hR
      have t1 : decide ((es (c8 y) s).1 < 0) = false := decide_eq_false hn
      clear hn
      by_cases hf : 32767 ≤ out.length
      · rw [if_pos hf] at hR
        subst hR
        go_wp2_with (first | (go_at_call 79; refine (next_cons hL).mono ?_; rintro e w1 ⟨rfl, hL⟩; have p0 := hL.p0) | (go_at_call 104; refine (escape_l _ (by omega) hL).mono ?_; rintro e w1 ⟨rfl, i, hL⟩; have p0 := hL.p0) | (go_at_call 103; refine (put_no 32767 _ (by decide) (by exact hf) hL).mono ?_; rintro e w1 ⟨rfl, hL⟩; have p0 := hL.p0))
        go_ret
        exact ⟨rfl, _, _, _, _, hL⟩
      · rw [if_neg hf] at hR
        have HR := hid hR
        clear hR
        go_wp2_with (first | (go_at_call 79; refine (next_cons hL).mono ?_; rintro e w1 ⟨rfl, hL⟩; have p0 := hL.p0) | (go_at_call 104; refine (escape_l _ (by omega) hL).mono ?_; rintro e w1 ⟨rfl, i, hL⟩; have p0 := hL.p0) | (go_at_call 103; refine (put_yes 32767 _ (by decide) (by omega) hL).mono ?_; rintro e w1 ⟨rfl, vv, hL⟩; have p0 := hL.p0))
        exact ⟨⟨_, _, _, _, o, hL, HR.out, rfl, ho, by simp at hos; omega⟩, by rw [hL.rem, hm.out]; simp; omega⟩
    rw [if_neg q92] at hR
    have b92 : (c8 x == 92) = false := by simpa using q92
    clear q92
    by_cases q41 : c8 x = 41
    · have b41 : (c8 x == 41) = true := by simpa using q41
      have b40 : (c8 x == 40) = false := by simp [q41]
      by_cases q1 : o = 1
      · rw [if_pos ⟨q41, q1⟩] at hR
        subst hR
        subst q1
        clear q41
        go_wp2_with (first | (go_at_call 79; refine (next_cons hL).mono ?_; rintro e w1 ⟨rfl, hL⟩; have p0 := hL.p0))
        go_ret
        exact ⟨rfl, _, _, hL⟩
      rw [if_neg (fun q => q1 q.2)] at hR
      have bo : (((o : Nat) : Int) - 1 == 0) = false := by simp; omega
      have N : ((o - 1 : Nat) : Int) = (o : Int) - 1 := by omega
      have N := hid N
      by_cases hf : 32767 ≤ out.length
      · rw [if_pos hf] at hR
        subst hR
        clear q41
        go_wp2_with (first | (go_at_call 79; refine (next_cons hL).mono ?_; rintro e w1 ⟨rfl, hL⟩; have p0 := hL.p0) | (go_at_call 103; refine (put_no 32767 _ (by decide) (by exact hf) hL).mono ?_; rintro e w1 ⟨rfl, hL⟩; have p0 := hL.p0))
        go_ret
        exact ⟨rfl, _, _, _, _, hL⟩
      · rw [if_neg hf, if_neg (by omega), if_neg (by omega), if_neg (by omega), if_pos q41] at hR
        have HR := hid hR
        clear hR q41
        go_wp2_with (first | (go_at_call 79; refine (next_cons hL).mono ?_; rintro e w1 ⟨rfl, hL⟩; have p0 := hL.p0) | (go_at_call 103; refine (put_yes 32767 _ (by decide) (by omega) hL).mono ?_; rintro e w1 ⟨rfl, vv, hL⟩; have p0 := hL.p0))
        rw [byteOf_c8] at hL
        exact ⟨⟨_, _, _, _, o - 1, hL, HR.out, by rw [N.out], by omega, by omega⟩, by rw [hL.rem, hm.out]; simp⟩
    rw [if_neg (fun q => q41 q.1)] at hR
    have b41 : (c8 x == 41) = false := by simpa using q41
    by_cases hf : 32767 ≤ out.length
    · rw [if_pos hf] at hR
      subst hR
      by_cases q40 : c8 x = 40
      · have b40 : (c8 x == 40) = true := by simpa using q40
        clear q40 q41
        go_wp2_with (first | (go_at_call 79; refine (next_cons hL).mono ?_; rintro e w1 ⟨rfl, hL⟩; have p0 := hL.p0) | (go_at_call 103; refine (put_no 32767 _ (by decide) (by exact hf) hL).mono ?_; rintro e w1 ⟨rfl, hL⟩; have p0 := hL.p0))
        go_ret
        exact ⟨rfl, _, _, _, _, hL⟩
      have b40 : (c8 x == 40) = false := by simpa using q40
      by_cases q10 : c8 x = 10
      · have b10 : (c8 x == 10) = true := by simpa using q10
        clear q40 q41 q10
        go_wp2_with (first | (go_at_call 79; refine (next_cons hL).mono ?_; rintro e w1 ⟨rfl, hL⟩; have p0 := hL.p0) | (go_at_call 105; refine (eol_l _ hL).mono ?_; rintro e w1 ⟨rfl, i, hL⟩; have p0 := hL.p0) | (go_at_call 103; refine (put_no 32767 _ (by decide) (by exact hf) hL).mono ?_; rintro e w1 ⟨rfl, hL⟩; have p0 := hL.p0))
        go_ret
        exact ⟨rfl, _, _, _, _, hL⟩
      have b10 : (c8 x == 10) = false := by simpa using q10
      by_cases q13 : c8 x = 13
      · have b13 : (c8 x == 13) = true := by simpa using q13
        clear q40 q41 q10 q13
        go_wp2_with (first | (go_at_call 79; refine (next_cons hL).mono ?_; rintro e w1 ⟨rfl, hL⟩; have p0 := hL.p0) | (go_at_call 105; refine (eol_l _ hL).mono ?_; rintro e w1 ⟨rfl, i, hL⟩; have p0 := hL.p0) | (go_at_call 103; refine (put_no 32767 _ (by decide) (by exact hf) hL).mono ?_; rintro e w1 ⟨rfl, hL⟩; have p0 := hL.p0))
        go_ret
        exact ⟨rfl, _, _, _, _, hL⟩
      have b13 : (c8 x == 13) = false := by simpa using q13
      clear q40 q41 q10 q13
      go_wp2_with (first | (go_at_call 79; refine (next_cons hL).mono ?_; rintro e w1 ⟨rfl, hL⟩; have p0 := hL.p0) | (go_at_call 105; refine (eol_l _ hL).mono ?_; rintro e w1 ⟨rfl, i, hL⟩; have p0 := hL.p0) | (go_at_call 103; refine (put_no 32767 _ (by decide) (by exact hf) hL).mono ?_; rintro e w1 ⟨rfl, hL⟩; have p0 := hL.p0))
      go_ret
      exact ⟨rfl, _, _, _, _, hL⟩
    rw [if_neg hf] at hR
    have hk := sk_len s
    by_cases q10 : c8 x = 10
    · rw [if_pos q10] at hR
      have b10 : (c8 x == 10) = true := by simpa using q10
      have b40 : (c8 x == 40) = false := by simp [q10]
      have Q := hid q10
      have HR := hid hR
      clear q41 q10 hR
      go_wp2_with (first | (go_at_call 79; refine (next_cons hL).mono ?_; rintro e w1 ⟨rfl, hL⟩; have p0 := hL.p0) | (go_at_call 105; refine (eol_l _ hL).mono ?_; rintro e w1 ⟨rfl, i, hL⟩; have p0 := hL.p0) | (go_at_call 103; refine (put_yes 32767 _ (by decide) (by omega) hL).mono ?_; rintro e w1 ⟨rfl, vv, hL⟩; have p0 := hL.p0))
      rw [byteOf10, if_neg (by rw [Q.out]; decide)] at hL
      exact ⟨⟨_, _, _, _, o, hL, HR.out, rfl, ho, by omega⟩, by rw [hL.rem, hm.out]; simp⟩
    rw [if_neg q10] at hR
    have b10 : (c8 x == 10) = false := by simpa using q10
    by_cases q13 : c8 x = 13
    · rw [if_pos q13] at hR
      have b13 : (c8 x == 13) = true := by simpa using q13
      have b40 : (c8 x == 40) = false := by simp [q13]
      have Q := hid q13
      have HR := hid hR
      clear q41 q10 q13 hR
      go_wp2_with (first | (go_at_call 79; refine (next_cons hL).mono ?_; rintro e w1 ⟨rfl, hL⟩; have p0 := hL.p0) | (go_at_call 105; refine (eol_l _ hL).mono ?_; rintro e w1 ⟨rfl, i, hL⟩; have p0 := hL.p0) | (go_at_call 103; refine (put_yes 32767 _ (by decide) (by omega) hL).mono ?_; rintro e w1 ⟨rfl, vv, hL⟩; have p0 := hL.p0))
      rw [byteOf10, if_pos Q.out] at hL
      exact ⟨⟨_, _, _, _, o, hL, HR.out, rfl, ho, by omega⟩, by rw [hL.rem, hm.out]; simp; omega⟩
    rw [if_neg q13] at hR
    have b13 : (c8 x == 13) = false := by simpa using q13
    by_cases q40 : c8 x = 40
    · rw [if_pos q40] at hR
      have b40 : (c8 x == 40) = true := by simpa using q40
      have HR := hid hR
      clear q41 q10 q13 q40 hR
      go_wp2_with (first | (go_at_call 79; refine (next_cons hL).mono ?_; rintro e w1 ⟨rfl, hL⟩; have p0 := hL.p0) | (go_at_call 105; refine (eol_l _ hL).mono ?_; rintro e w1 ⟨rfl, i, hL⟩; have p0 := hL.p0) | (go_at_call 103; refine (put_yes 32767 _ (by decide) (by omega) hL).mono ?_; rintro e w1 ⟨rfl, vv, hL⟩; have p0 := hL.p0))
      rw [byteOf_c8] at hL
      exact ⟨⟨_, _, _, _, o + 1, hL, HR.out, rfl, by omega, by omega⟩, by rw [hL.rem, hm.out]; simp⟩
    · rw [if_neg q40, if_neg q41] at hR
      have b40 : (c8 x == 40) = false := by simpa using q40
      have HR := hid hR
      clear q41 q10 q13 q40 hR
      go_wp2_with (first | (go_at_call 79; refine (next_cons hL).mono ?_; rintro e w1 ⟨rfl, hL⟩; have p0 := hL.p0) | (go_at_call 105; refine (eol_l _ hL).mono ?_; rintro e w1 ⟨rfl, i, hL⟩; have p0 := hL.p0) | (go_at_call 103; refine (put_yes 32767 _ (by decide) (by omega) hL).mono ?_; rintro e w1 ⟨rfl, vv, hL⟩; have p0 := hL.p0))
      rw [byteOf_c8] at hL
      exact ⟨⟨_, _, _, _, o, hL, HR.out, rfl, by omega, by omega⟩, by rw [hL.rem, hm.out]; simp⟩
end Go.Proofs.YtjkoiknjffldjaaGreatDoor

/-
  The document's strings: text, hex; the walks. Condition: the lexer stands in its bytes.
-/
namespace Go.Proofs.YtjkoiknjffldjaaGreatDoor
open Go.RowKit
set_option linter.unusedVariables false

section
variable {w0 w w' : World} {cp : Nat} {b : List UInt8} {i : Nat} {s t : List UInt8} {u : Value} {out : List UInt8} {x : UInt8}

theorem es_le (c : Int) (s : List UInt8) (h0 : 0 ≤ c) (h : c ≤ 255) : (es c s).1 ≤ 255 := by
  unfold es
  have := Int.emod_lt_of_pos (oc 2 (c - 48) s).1 (show (0 : Int) < 256 by decide)
  repeat (split; · first | (simp; done) | (simp only []; omega))
  exact h

end
end Go.Proofs.YtjkoiknjffldjaaGreatDoor

/-
  The document's hex; Copy; the walks. Condition: the lexer stands in its bytes.
-/
namespace Go.Proofs.YtjkoiknjffldjaaGreatDoor
open Go.RowKit
set_option linter.unusedVariables false

section
variable {w0 w w' : World} {cp : Nat} {b : List UInt8} {i : Nat} {s t : List UInt8} {u : Value} {out : List UInt8} {x : UInt8}

theorem u8_b8 (l : List UInt8) (k : Nat) : UInt8.ofNat (b8 l k).toNat = l.getD k 0 := by unfold b8; simp
theorem take_b8 (l : List UInt8) (k : Nat) (h : k < l.length) : l.take k ++ [UInt8.ofNat (b8 l k).toNat] = l.take (k + 1) := by
  rw [u8_b8, List.take_succ_eq_append_getElem h]; simp [List.getD, h]

set_option maxHeartbeats 800000 in
theorem copy_any (aa : Option Addr) (ca : Nat) (la : List UInt8) (w : World) (ha : Rd w aa la) (hla : la.length ≤ 140737488355328) :
    Calls Tryz.prog 34 #[.slice aa la.length ca] w fun e w' => ∃ v, e = .returned v ∧ OwnB w' w.heap.size 5 v la ∧ Below w.heap.size w w' := by
  go_enter Tryz.func34, Tryz.ntmps34
  go_wp2
  go_loopw [3, 4] (fun v i wr => ∃ k : Nat, k ≤ la.length ∧ i = .int .i64 k ∧ OwnB wr w.heap.size 5 v (la.take k) ∧ Below w.heap.size w wr) (fun _ i _ => la.length - (intOf i).toNat)
  case atStart => exact ⟨0, Nat.zero_le _, rfl, OwnB.nil _ _ _, Below.refl _ _⟩
  case round =>
    obtain ⟨k, hk, rfl, hown, hbel⟩ := hrel
    by_cases hlt : k < la.length
    · obtain ⟨b1, o1, rfl, hs1, hc1⟩ := (ha.up hbel).some (by omega)
      have hc1 := hc1 k hlt
      have g0 := b8_ge la k
      have g1 := b8_le la k
      have ht := List.length_take_le k la
      go_wp2_with (at_builtin; refine wpList_append_bytes bytesTy rfl _ _ rfl w.heap.size _ (la.take k) _ rfl (hown.alloc _) _ _ _ rfl ?c1 ?c2 (Rd.one _ _ _ g0 g1) ?c3 ?c4 ?_)
      case c1 => rfl
      case c2 => intro h; cases h
      case c3 => simp only [List.length_cons, List.length_nil]; omega
      case c4 => have := hbel.size; simp; omega
      intro v' w' hown' hg _
      rw [take_b8 la k hlt] at hown'
      have hb2 : Below w.heap.size w w' := below_append (hbel.alloc hbel.size _) (hown.alloc _) hg (Nat.le_refl _) (by have := hbel.size; simp; omega)
      clear hg hbel hown ha hc1
      go_wp2
      go_roundw
      case rel => exact ⟨k + 1, by omega, by go_num, hown', hb2⟩
      case measure => simp [intOf]; omega
    · go_wp2
      go_ret
      exact ⟨_, rfl, by rw [List.take_of_length_le (by omega)] at hown; exact hown, hbel⟩
theorem copy_sl (v : Value) (l : List UInt8) (w : World) (h : Sl w v l) (hl : l.length ≤ 140737488355328) :
    Calls Tryz.prog 34 #[v] w fun e w' => ∃ v, e = .returned v ∧ OwnB w' w.heap.size 5 v l ∧ Below w.heap.size w w' := by
  obtain ⟨ao, cap, rfl, h1, h2, h3, h4⟩ := h
  exact copy_any ao cap l w h4 hl
end
end Go.Proofs.YtjkoiknjffldjaaGreatDoor

/-
  Names and strings as they are printed: the document's PrintName, PrintText; what they return reads as the plain law says. Conditions: sizes.
-/
namespace Go.Proofs.YtjkoiknjffldjaaGreatDoor
open Go.RowKit
set_option linter.unusedVariables false

/-- a string of these bytes -/
def st (l : List UInt8) : ByteArray := ⟨l.toArray⟩
theorem st_size (l : List UInt8) : (st l).size = l.length := by show l.toArray.size = _; simp
theorem st_add {P : Program} (a b : List UInt8) (h : a.length + b.length ≤ 100000000) (w : World) : (Op.stringOp .add (st a) (st b)).run P w = .ok (.string (st (a ++ b))) w := by
  rw [run_string_add_sum w _ _ (by rw [st_size, st_size]; omega)]
  unfold st
  rw [ByteArray.mk_append_mk]

theorem alb1 (w : World) (o : Obj) : Below w.heap.size w (w.alloc o) := Below.alloc (Below.refl _ _) (Nat.le_refl _) _

/-- a string turned into bytes -/
theorem Sl.conv (w : World) (s : List UInt8) (e : TypeId) (hs : s.length ≤ 100000000) :
    Sl (w.drew.alloc (.cells (bytesRow (st s) (grownCap w (st s).size 0 e)) e ((bytesRow (st s) (grownCap w (st s).size 0 e)).size, (bytesRow (st s) (grownCap w (st s).size 0 e)).size + 1))) (.slice (some ⟨w.heap.size, 0, none⟩) (st s).size (grownCap w (st s).size 0 e)) s := by
  have hz : (st s).size = s.length := st_size s
  refine ⟨_, grownCap w (st s).size 0 e, by rw [hz], by rw [← hz]; exact grownCap_ge w _ 0 e, grownCap_le_maxLen w _ 0 e (by rw [hz]; unfold maxLen; omega), (fun q => by cases q), .inr ⟨w.heap.size, 0, rfl, fun j hj => ?_⟩⟩
  have h1 := World.cell?_alloc_mark w.drew (bytesRow (st s) (grownCap w (st s).size 0 e)) e ((bytesRow (st s) (grownCap w (st s).size 0 e)).size, (bytesRow (st s) (grownCap w (st s).size 0 e)).size + 1) (0 + j)
  have hj' : j < (st s).data.size := by show j < s.toArray.size; simpa using hj
  rw [Nat.zero_add] at h1 ⊢
  rw [bytesRow_at _ _ _ hj'] at h1
  refine Eq.trans h1 ?_
  unfold b8 st
  simp [List.getD, hj]
  rfl

theorem hex_at : ∀ n : Fin 16, ((⟨#[48, 49, 50, 51, 52, 53, 54, 55, 56, 57, 97, 98, 99, 100, 101, 102]⟩ : ByteArray).extract n.1 (n.1 + 1)).data = #[hxd n.1] := by decide +kernel

theorem hex_slice (P : Program) (t : TypeId) (ht : P.underlying t = some .string) (n : Nat) (h : n < 16) (w : World) :
    (Instr.slice t (.string ⟨#[48, 49, 50, 51, 52, 53, 54, 55, 56, 57, 97, 98, 99, 100, 101, 102]⟩) (some (.int .u8 (n : Int))) (some (.int .u8 ((n : Int) + 1))) none).run P w = .ok (.string (st [hxd n])) w := by
  have hz : (⟨#[48, 49, 50, 51, 52, 53, 54, 55, 56, 57, 97, 98, 99, 100, 101, 102]⟩ : ByteArray).size = 16 := by decide
  rw [run_slice_string w t _ .u8 .u8 _ _ ht (by omega) (by omega) (by rw [hz]; omega)]
  have e1 : ((n : Int)).toNat = n := by omega
  have e2 : ((n : Int) + 1).toNat = n + 1 := by omega
  rw [e1, e2]
  congr 2
  exact ByteArray.ext (hex_at ⟨n, h⟩)

set_option maxRecDepth 100000 in
theorem two_any (c : UInt8) (w : World) :
    Calls Tryz.prog 75 #[.int .u8 (c8 c)] w fun e w' => e = .returned (.string (st [hxd (c.toNat / 16), hxd (c.toNat % 16)])) ∧ ∃ n, w' = w.drewN n := by
  have hc := c.toNat_lt
  have hsh : ∀ t, binOp .shr t (.int .u8 (c8 c)) (.int .u64 4) = pure (.int .u8 ((c.toNat / 16 : Nat) : Int)) := fun t => by
    rw [binOp_shr, shift_shr_any _ _ _ _ (by decide)]
    congr 2
  have hand : ∀ t, binOp .and t (.int .u8 (c8 c)) (.int .u8 15) = pure (.int .u8 ((c.toNat % 16 : Nat) : Int)) := fun t => by
    have e1 := u8_and_nat c.toNat 15 (by omega) (by decide)
    have e2 : c.toNat &&& 15 = c.toNat % 16 := Nat.and_two_pow_sub_one_eq_mod c.toNat 4
    rw [e2] at e1
    show pure (Value.int .u8 (bits .and .u8 (c.toNat : Int) ((15 : Nat) : Int))) = _
    rw [e1]
  have h1 := fun w => hex_slice Tryz.prog 9 (by kernel_rfl) (c.toNat / 16) (by omega) w
  have h2 := fun w => hex_slice Tryz.prog 9 (by kernel_rfl) (c.toNat % 16) (by omega) w
  have q1 : c.toNat / 16 < 16 := by omega
  have q2 : c.toNat % 16 < 16 := by omega
  have hadd := fun w => st_add (P := Tryz.prog) [hxd (c.toNat / 16)] [hxd (c.toNat % 16)] (by simp) w
  rw [show [hxd (c.toNat / 16)] ++ [hxd (c.toNat % 16)] = [hxd (c.toNat / 16), hxd (c.toNat % 16)] from rfl] at hadd
  generalize c.toNat / 16 = A at *
  generalize c.toNat % 16 = B at *
  go_enter Tryz.func75, Tryz.ntmps75
  go_wp2
  go_quiet (fail)
  go_wp2
  go_ret
  exact ⟨rfl, _, rfl⟩

theorem dgts_snoc (l : List UInt8) (k : Nat) (h : k < l.length) : dgts (l.take (k + 1)) = dgts (l.take k) ++ [hxd ((l.getD k 0).toNat / 16), hxd ((l.getD k 0).toNat % 16)] := by
  rw [List.take_succ_eq_append_getElem h]
  unfold dgts
  rw [List.flatMap_append]
  simp [List.getD, h]
theorem dgts_len (l : List UInt8) : (dgts l).length = 2 * l.length := by
  induction l with
  | nil => rfl
  | cons c l ih => unfold dgts at *; rw [List.flatMap_cons, List.length_append, ih]; simp; omega

set_option maxHeartbeats 400000 in
set_option maxRecDepth 100000 in
theorem digits2_any (v : Value) (l : List UInt8) (w : World) (h : Sl w v l) (hl : l.length ≤ 4000000) :
    Calls Tryz.prog 57 #[v] w fun e w' => e = .returned (.string (st (dgts l))) ∧ ∃ n, w' = w.drewN n := by
  obtain ⟨ao, cap, rfl, h1, h2, h3, h4⟩ := h
  go_enter Tryz.func57, Tryz.ntmps57
  go_wp2
  go_loopw [3, 4] (fun v i wr => ∃ k : Nat, k ≤ l.length ∧ i = .int .i64 k ∧ v = .string (st (dgts (l.take k))) ∧ ∃ n, wr = w.drewN n) (fun _ i _ => l.length - (intOf i).toNat)
  case atStart => exact ⟨0, Nat.zero_le _, rfl, rfl, 0, rfl⟩
  case round =>
    obtain ⟨k, hk, rfl, rfl, n, rfl⟩ := hrel
    by_cases hlt : k < l.length
    · obtain ⟨b1, o1, rfl, hs1, hc1⟩ := (h4.drewN n).some (by omega)
      specialize hc1 k hlt
      have hsn := dgts_snoc l k hlt
      have hb8 : b8 l k = c8 (l.getD k 0) := rfl
      rw [hb8] at hc1
      clear hb8
      generalize l.getD k 0 = x at hc1 hsn
      have hadd : ∀ w : World, (Op.stringOp .add (st (dgts (l.take k))) (st [hxd (x.toNat / 16), hxd (x.toNat % 16)])).run Tryz.prog w = .ok (.string (st (dgts (l.take (k + 1))))) w := fun w => by
        rw [hsn]; exact st_add _ _ (by rw [dgts_len, List.length_take]; simp; omega) w
      clear hsn
      go_wp2_with (go_at_call 75; (with_reducible refine (two_any x _).mono ?_); rintro e w1 ⟨rfl, m, rfl⟩)
      go_roundw
      case rel => exact ⟨k + 1, by omega, by go_num, rfl, n + m, by simp⟩
      case measure => simp [intOf]; omega
    · go_wp2
      go_ret
      exact ⟨by rw [List.take_of_length_le (by omega)]; rfl, n, rfl⟩
end Go.Proofs.YtjkoiknjffldjaaGreatDoor

/-
  Names and strings as they are printed: the document's PrintName, PrintText. Conditions: sizes.
-/
namespace Go.Proofs.YtjkoiknjffldjaaGreatDoor
open Go.RowKit
set_option linter.unusedVariables false

theorem pn1_len (c : UInt8) : (pn1 c).length ≤ 3 := by unfold pn1; split <;> simp
theorem pnm_len (l : List UInt8) : (l.flatMap pn1).length ≤ 3 * l.length := by
  induction l with
  | nil => simp
  | cons c l ih => have := pn1_len c; rw [List.flatMap_cons, List.length_append, List.length_cons]; omega
theorem pnm_snoc (l : List UInt8) (k : Nat) (h : k < l.length) : (l.take (k + 1)).flatMap pn1 = (l.take k).flatMap pn1 ++ pn1 (l.getD k 0) := by
  rw [List.take_succ_eq_append_getElem h, List.flatMap_append]
  simp [List.getD, h]
theorem st_at (l : List UInt8) (k : Nat) (h : k < l.length) (P : Program) (t : TypeId) (ht : P.underlying t = some .string) (w : World) : (Instr.index t (.string (st l)) (.int .i64 (k : Int))).run P w = .ok (.int .u8 (c8 (l.getD k 0))) w := by
  have hz := st_size l
  rw [run_index_string w t (st l) .i64 (k : Int) ht, dif_pos ⟨by omega, by rw [hz]; omega⟩]
  congr 2
  unfold c8
  congr 1
  have e : ((k : Int)).toNat = k := by omega
  simp only [e, List.getD, List.getElem?_eq_getElem h, Option.getD_some]
  unfold st
  rfl
theorem belowD (w : World) : Below w.heap.size w w.drew := ⟨rfl, rfl, rfl, Nat.le_refl _, fun _ _ => rfl⟩
theorem below_then' {B : Nat} {w W W' : World} (p : Below B w W) (q : Below W.heap.size W W') (hB : B ≤ W.heap.size := by omega) : Below B w W' := p.trans (q.mono hB)
theorem belowC (w : World) (o : Obj) : Below w.heap.size w (w.drew.alloc o) := below_then (belowD w) (alb1 w.drew o)
theorem Rd.oneC (w : World) (x : UInt8) (e : TypeId) (g : Nat) (hg : g = w.heap.size) : Rd (w.alloc (.cells #[.int .u8 (c8 x)] e)) (Option.some ⟨g, 0, none⟩) [x] := by
  subst hg
  have h := Rd.one w (c8 x) e (c8_ge x) (c8_le x)
  have e1 : UInt8.ofNat (c8 x).toNat = x := by unfold c8; simp
  rwa [e1] at h
theorem Sl.oneC (w : World) (x : UInt8) (e : TypeId) (g : Nat) (hg : g = w.heap.size) : Sl (w.alloc (.cells #[.int .u8 (c8 x)] e)) (.slice (Option.some ⟨g, 0, none⟩) 1 1) [x] :=
  ⟨_, _, rfl, Nat.le_refl _, by unfold maxLen; omega, (fun q => by cases q), Rd.oneC w x e g hg⟩
theorem OwnB.litg (w : World) (x : UInt8) (n : Int) (e : TypeId) (base g : Nat) (hn : n = c8 x) (hg : g = w.heap.size) (hb : base ≤ w.heap.size) : OwnB (w.alloc (.cells #[.int .u8 n] e)) base e (.slice (Option.some ⟨g, 0, none⟩) 1 1) [x] := by
  subst hn; subst hg; exact OwnB.lit1 w x e base hb
/-- the world, the capacity behind a conversion of a string to bytes -/
def convC (w : World) (e : TypeId) (s : List UInt8) : Nat := grownCap w (st s).size 0 e
def convW (w : World) (e : TypeId) (s : List UInt8) : World := w.drew.alloc (.cells (bytesRow (st s) (convC w e s)) e ((bytesRow (st s) (convC w e s)).size, (bytesRow (st s) (convC w e s)).size + 1))
theorem convW_below (w : World) (e : TypeId) (s : List UInt8) : Below w.heap.size w (convW w e s) := belowC _ _
theorem convW_size (w : World) (e : TypeId) (s : List UInt8) : (convW w e s).heap.size = w.heap.size + 1 := by simp [convW]
theorem convW_run {P : Program} (src dst e : TypeId) (hs : P.underlying src = Option.some .string) (hd : P.underlying dst = Option.some (.slice e)) (he : P.underlying e = Option.some (.int .u8)) (w : World) (s : List UInt8) :
    (convert src dst (.string (st s))).run P w = .ok (.slice (Option.some ⟨w.heap.size, 0, none⟩) s.length (convC w e s)) (convW w e s) := by
  rw [run_bytes_of_string w src dst e (st s) hs hd he]
  have hz := st_size s
  unfold convW convC
  rw [hz]
theorem Sl.convW (w : World) (e : TypeId) (s : List UInt8) (g : Nat) (hg : g = w.heap.size) (hs : s.length ≤ 100000000) :
    Sl (convW w e s) (.slice (Option.some ⟨g, 0, none⟩) s.length (convC w e s)) s := by
  subst hg
  have h := Sl.conv w s e hs
  have e1 : Value.slice (Option.some ⟨w.heap.size, 0, none⟩) s.length (convC w e s) = Value.slice (Option.some ⟨w.heap.size, 0, none⟩) (st s).size (grownCap w (st s).size 0 e) := by rw [st_size]; unfold convC; rw [st_size]
  rw [e1]
  exact h

set_option maxHeartbeats 1600000 in
set_option maxRecDepth 100000 in
theorem printname_any (l : List UInt8) (w : World) (hl : l.length ≤ 100000) :
    Calls Tryz.prog 33 #[.string (st l)] w fun e w' => ∃ v, e = .returned v ∧ OwnB w' w.heap.size 5 v (47 :: l.flatMap pn1) ∧ Below w.heap.size w w' := by
  have hz := st_size l
  have kb := fun (w : World) (s : List UInt8) => convW_run (P := Tryz.prog) 9 24 5 (by kernel_rfl) Tryz.underlying24 Tryz.underlying5 w s
  go_enter Tryz.func33, Tryz.ntmps33
  go_wp2
  go_loopw [3, 4, 5] (fun v i _ wr => ∃ k : Nat, k ≤ l.length ∧ i = .int .i64 k ∧ OwnB wr w.heap.size 5 v (47 :: (l.take k).flatMap pn1) ∧ Below w.heap.size w wr) (fun _ i _ _ => l.length - (intOf i).toNat)
  case atStart => exact ⟨0, Nat.zero_le _, rfl, OwnB.lit1 w 47 _ _ (Nat.le_refl _), alb1 _ _⟩
  case round =>
    obtain ⟨k, hk, rfl, hown, hbel⟩ := hrel
    by_cases hlt : k < l.length
    · have hix := fun w => st_at l k hlt Tryz.prog 9 (by kernel_rfl) w
      have hsn := pnm_snoc l k hlt
      have hln := pnm_len (l.take k)
      rw [List.length_take] at hln
      have hln : ((l.take k).flatMap pn1).length ≤ 300000 := by omega
      generalize (l.take k).flatMap pn1 = o at hown hsn hln
      generalize l.getD k 0 = x at hix hsn
      have hsz := hbel.size
      have g0 := c8_ge x
      have g1 := c8_le x
      by_cases hp : 33 ≤ c8 x ∧ c8 x ≤ 126 ∧ rg (c8 x) = true ∧ ¬ c8 x = 35
      · have e1 : pn1 x = [x] := by unfold pn1; rw [if_pos hp]
        rw [e1] at hsn
        have b3 : (c8 x != 35) = true := by simp; exact hp.2.2.2
        have t1 : decide (33 ≤ c8 x) = true := decide_eq_true hp.1
        have t2 : decide (c8 x ≤ 126) = true := decide_eq_true hp.2.1
        have R := hid hp.2.2.1
        clear hp
        go_wp2_with (first | (go_at_call 58; (with_reducible refine (rregular_any _ _).mono ?_); rw [R.out]; rintro e w1 ⟨rfl, m, rfl⟩) | (at_builtin; refine wpList_append_bytes bytesTy rfl _ _ rfl w.heap.size _ (47 :: o) [x] rfl ((hown.up (below_drewN (Below.refl _ _) _)).alloc _) _ _ _ rfl rfl (fun q => by cases q) (Rd.oneC _ _ _ _ (by simp)) (by simp; omega) (by simp; omega) ?_; intro v1 w2 q1 q2 q3))
        have hb2 : Below w.heap.size w w2 := below_append (below_then' hbel (below_then (below_drewN (Below.refl _ _) m) (alb1 _ _))) ((hown.up (below_drewN (Below.refl _ _) m)).alloc _) q2 (Nat.le_refl _) (by simp; omega)
        clear q2 q3 hown hbel
        go_wp2
        go_roundw
        case rel => exact ⟨k + 1, by omega, by go_num, by rw [hsn]; exact q1, hb2⟩
        case measure => simp [intOf]; omega
      · have e1 : pn1 x = [35, hxd (x.toNat / 16), hxd (x.toNat % 16)] := by unfold pn1; rw [if_neg hp]
        rw [e1] at hsn
        have hadd : ∀ w : World, (Op.stringOp .add ⟨#[35]⟩ (st (dgts [x]))).run Tryz.prog w = .ok (.string (st [35, hxd (x.toNat / 16), hxd (x.toNat % 16)])) w := fun w => st_add [35] _ (by rw [dgts_len]; simp) w
        generalize hxd (x.toNat / 16) = d1 at hadd hsn
        generalize hxd (x.toNat % 16) = d2 at hadd hsn
        rcases (by omega : c8 x < 33 ∨ (33 ≤ c8 x ∧ 126 < c8 x) ∨ (33 ≤ c8 x ∧ c8 x ≤ 126)) with q | q | q
        · have t1 : decide (33 ≤ c8 x) = false := decide_eq_false (by omega)
          clear hp e1
          go_wp2_with (first | (go_at_call 57; (with_reducible refine (digits2_any _ [x] _ (Sl.oneC _ _ _ _ (by simp)) (by simp)).mono ?_); rintro e w1 ⟨rfl, m, rfl⟩) | (at_builtin; refine wpList_append_bytes bytesTy rfl _ _ rfl w.heap.size _ (47 :: o) [35, d1, d2] rfl (hown.up (below_then (alb1 _ _) (below_then (below_drewN (Below.refl _ _) m) (convW_below _ _ _)))) _ _ _ rfl rfl (fun q => by cases q) (Sl.convW _ _ [35, d1, d2] _ (by simp) (by simp)).rd (by simp; omega) (by rw [convW_size]; simp; omega) ?_; intro v1 w2 q1 q2 q3))
          have hb2 : Below w.heap.size w w2 := below_append (below_then' hbel (below_then (alb1 _ _) (below_then (below_drewN (Below.refl _ _) m) (convW_below _ _ _)))) (hown.up (below_then (alb1 _ _) (below_then (below_drewN (Below.refl _ _) m) (convW_below _ _ _)))) q2 (Nat.le_refl _) (by rw [convW_size]; simp; omega)
          clear q2 q3 hown hbel
          go_wp2
          go_roundw
          case rel => exact ⟨k + 1, by omega, by go_num, by rw [hsn]; exact q1, hb2⟩
          case measure => simp [intOf]; omega
        · have t1 : decide (33 ≤ c8 x) = true := decide_eq_true (by omega)
          have t2 : decide (c8 x ≤ 126) = false := decide_eq_false (by omega)
          clear hp e1
          go_wp2_with (first | (go_at_call 57; (with_reducible refine (digits2_any _ [x] _ (Sl.oneC _ _ _ _ (by simp)) (by simp)).mono ?_); rintro e w1 ⟨rfl, m, rfl⟩) | (at_builtin; refine wpList_append_bytes bytesTy rfl _ _ rfl w.heap.size _ (47 :: o) [35, d1, d2] rfl (hown.up (below_then (alb1 _ _) (below_then (below_drewN (Below.refl _ _) m) (convW_below _ _ _)))) _ _ _ rfl rfl (fun q => by cases q) (Sl.convW _ _ [35, d1, d2] _ (by simp) (by simp)).rd (by simp; omega) (by rw [convW_size]; simp; omega) ?_; intro v1 w2 q1 q2 q3))
          have hb2 : Below w.heap.size w w2 := below_append (below_then' hbel (below_then (alb1 _ _) (below_then (below_drewN (Below.refl _ _) m) (convW_below _ _ _)))) (hown.up (below_then (alb1 _ _) (below_then (below_drewN (Below.refl _ _) m) (convW_below _ _ _)))) q2 (Nat.le_refl _) (by rw [convW_size]; simp; omega)
          clear q2 q3 hown hbel
          go_wp2
          go_roundw
          case rel => exact ⟨k + 1, by omega, by go_num, by rw [hsn]; exact q1, hb2⟩
          case measure => simp [intOf]; omega
        · have t1 : decide (33 ≤ c8 x) = true := decide_eq_true (by omega)
          have t2 : decide (c8 x ≤ 126) = true := decide_eq_true (by omega)
          cases hr : rg (c8 x) with
          | false =>
            have R := hid hr
            clear hp e1
            go_wp2_with (first | (go_at_call 58; (with_reducible refine (rregular_any _ _).mono ?_); rw [R.out]; rintro e w1 ⟨rfl, mr, rfl⟩) | (go_at_call 57; (with_reducible refine (digits2_any _ [x] _ (Sl.oneC _ _ _ _ (by simp)) (by simp)).mono ?_); rintro e w1 ⟨rfl, m, rfl⟩) | (at_builtin; refine wpList_append_bytes bytesTy rfl _ _ rfl w.heap.size _ (47 :: o) [35, d1, d2] rfl (hown.up (below_then (below_drewN (Below.refl _ _) mr) (below_then (alb1 _ _) (below_then (below_drewN (Below.refl _ _) m) (convW_below _ _ _))))) _ _ _ rfl rfl (fun q => by cases q) (Sl.convW _ _ [35, d1, d2] _ (by simp) (by simp)).rd (by simp; omega) (by rw [convW_size]; simp; omega) ?_; intro v1 w2 q1 q2 q3))
            have hb2 : Below w.heap.size w w2 := below_append (below_then' hbel (below_then (below_drewN (Below.refl _ _) mr) (below_then (alb1 _ _) (below_then (below_drewN (Below.refl _ _) m) (convW_below _ _ _))))) (hown.up (below_then (below_drewN (Below.refl _ _) mr) (below_then (alb1 _ _) (below_then (below_drewN (Below.refl _ _) m) (convW_below _ _ _))))) q2 (Nat.le_refl _) (by rw [convW_size]; simp; omega)
            clear q2 q3 hown hbel
            go_wp2
            go_roundw
            case rel => exact ⟨k + 1, by omega, by go_num, by rw [hsn]; exact q1, hb2⟩
            case measure => simp [intOf]; omega
          | true =>
            have c35 : c8 x = 35 := by by_cases q9 : c8 x = 35; exact q9; exact absurd ⟨q.1, q.2, hr, q9⟩ hp
            have R := hid hr
            have b3 : (c8 x != 35) = false := by rw [c35]; rfl
            clear hp e1 c35
            go_wp2_with (first | (go_at_call 58; (with_reducible refine (rregular_any _ _).mono ?_); rw [R.out]; rintro e w1 ⟨rfl, mr, rfl⟩) | (go_at_call 57; (with_reducible refine (digits2_any _ [x] _ (Sl.oneC _ _ _ _ (by simp)) (by simp)).mono ?_); rintro e w1 ⟨rfl, m, rfl⟩) | (at_builtin; refine wpList_append_bytes bytesTy rfl _ _ rfl w.heap.size _ (47 :: o) [35, d1, d2] rfl (hown.up (below_then (below_drewN (Below.refl _ _) mr) (below_then (alb1 _ _) (below_then (below_drewN (Below.refl _ _) m) (convW_below _ _ _))))) _ _ _ rfl rfl (fun q => by cases q) (Sl.convW _ _ [35, d1, d2] _ (by simp) (by simp)).rd (by simp; omega) (by rw [convW_size]; simp; omega) ?_; intro v1 w2 q1 q2 q3))
            have hb2 : Below w.heap.size w w2 := below_append (below_then' hbel (below_then (below_drewN (Below.refl _ _) mr) (below_then (alb1 _ _) (below_then (below_drewN (Below.refl _ _) m) (convW_below _ _ _))))) (hown.up (below_then (below_drewN (Below.refl _ _) mr) (below_then (alb1 _ _) (below_then (below_drewN (Below.refl _ _) m) (convW_below _ _ _))))) q2 (Nat.le_refl _) (by rw [convW_size]; simp; omega)
            clear q2 q3 hown hbel
            go_wp2
            go_roundw
            case rel => exact ⟨k + 1, by omega, by go_num, by rw [hsn]; exact q1, hb2⟩
            case measure => simp [intOf]; omega
    · go_wp2
      go_ret
      exact ⟨_, rfl, by rw [List.take_of_length_le (by omega)] at hown; exact hown, hbel⟩

theorem plain_facts (x : UInt8) : (plain1 x = true ∧ decide (32 ≤ c8 x) = true ∧ decide (c8 x ≤ 126) = true ∧ (c8 x != 40) = true ∧ (c8 x != 41) = true ∧ (c8 x != 92) = true) ∨ (plain1 x = false ∧ (decide (32 ≤ c8 x) = false ∨ (decide (32 ≤ c8 x) = true ∧ decide (c8 x ≤ 126) = false) ∨ (decide (32 ≤ c8 x) = true ∧ decide (c8 x ≤ 126) = true ∧ ((c8 x != 40) = false ∨ ((c8 x != 40) = true ∧ (c8 x != 41) = false) ∨ ((c8 x != 40) = true ∧ (c8 x != 41) = true ∧ (c8 x != 92) = false))))) := by
  unfold plain1
  cases h1 : decide (32 ≤ c8 x) <;> cases h2 : decide (c8 x ≤ 126) <;> cases h3 : (c8 x == 40) <;> cases h4 : (c8 x == 41) <;> cases h5 : (c8 x == 92) <;> simp [bne, h3, h4, h5]
theorem plain_snoc (l : List UInt8) (k : Nat) (h : k < l.length) : (l.take (k + 1)).all plain1 = ((l.take k).all plain1 && plain1 (l.getD k 0)) := by
  rw [List.take_succ_eq_append_getElem h, List.all_append]
  simp [List.getD, h]

set_option maxHeartbeats 1600000 in
set_option maxRecDepth 100000 in
theorem printtext_any (v : Value) (l : List UInt8) (w : World) (h : Sl w v l) (hl : l.length ≤ 100000) :
    Calls Tryz.prog 32 #[v] w fun e w' => ∃ v', e = .returned v' ∧ Sl w' v' (ptx l) ∧ Below w.heap.size w w' := by
  have kb := fun (w : World) (s : List UInt8) => convW_run (P := Tryz.prog) 9 24 5 (by kernel_rfl) Tryz.underlying24 Tryz.underlying5 w s
  obtain ⟨ao, cap, rfl, h1, h2, h3, h4⟩ := h
  obtain ⟨z, hz⟩ : ∃ z, ptx l = z := ⟨_, rfl⟩
  rw [hz]
  go_enter Tryz.func32, Tryz.ntmps32
  go_wp2
  go_loopw [3, 4] (fun p i wr => ∃ k : Nat, k ≤ l.length ∧ i = .int .i64 k ∧ p = .bool ((l.take k).all plain1) ∧ ∃ n, wr = w.drewN n) (fun _ i _ => l.length - (intOf i).toNat)
  case atStart => exact ⟨0, Nat.zero_le _, rfl, rfl, 0, rfl⟩
  case round =>
    obtain ⟨k, hk, rfl, rfl, n, rfl⟩ := hrel
    by_cases hlt : k < l.length
    · have hsn := plain_snoc l k hlt
      obtain ⟨b1, o1, rfl, hs1, hc1⟩ := (h4.drewN n).some (by omega)
      specialize hc1 k hlt
      have hb8 : b8 l k = c8 (l.getD k 0) := rfl
      rw [hb8] at hc1
      clear hb8
      generalize l.getD k 0 = x at hc1 hsn
      cases hq : (l.take k).all plain1 with
      | false =>
        rw [hq, Bool.false_and] at hsn
        have HS := hid hsn
        clear hq hsn
        go_wp2
        go_roundw
        case rel => exact ⟨k + 1, by omega, by go_num, by rw [HS.out], n, rfl⟩
        case measure => simp [intOf]; omega
      | true =>
        rw [hq, Bool.true_and] at hsn
        clear hq
        rcases plain_facts x with ⟨p0, t1, t2, b1', b2, b3⟩ | ⟨p0, t1 | ⟨t1, t2⟩ | ⟨t1, t2, b1' | ⟨b1', b2⟩ | ⟨b1', b2, b3⟩⟩⟩
        all_goals
          rw [p0] at hsn
          have HS := hid hsn
          clear hsn p0
          go_wp2
          go_roundw
          case rel => exact ⟨k + 1, by omega, by go_num, by rw [HS.out], n, rfl⟩
          case measure => simp [intOf]; omega
    · have ha : l.take k = l := List.take_of_length_le (by omega)
      rw [ha]
      have hnn : ¬ ((k : Int) < (l.length : Int)) := by omega
      cases hq : l.all plain1 with
      | true =>
        have e1 : ptx l = [40] ++ l ++ [41] := by unfold ptx; rw [if_pos hq]; rfl
        rw [hz] at e1
        have E1 := hid e1
        clear hq e1 ha hz
        go_wp2_with (first | (at_builtin; refine wpList_append_bytes bytesTy rfl _ _ rfl w.heap.size _ ([40] ++ l) [byteOf 41] rfl (q1.alloc _) _ 1 1 rfl rfl (fun q => by cases q) (Rd.byteM _ _ _ _ (by simp) (by omega) (by omega)) (by simp; omega) (by have := q2.size; simp at *; omega) ?_; intro v2 w3 p1 p2 p3) | (at_builtin; refine wpList_append_bytes bytesTy rfl _ _ rfl w.heap.size _ [40] l rfl (OwnB.litg _ 40 _ _ _ _ rfl (by simp) (by simp)) ao _ cap rfl rfl h3 (h4.up (below_then (below_drewN (Below.refl _ _) n) (alb1 _ _))) (by simp; omega) (by simp) ?_; intro v1 w2 q1 q2 q3))
        have hb2 : Below w.heap.size w w2 := below_append (below_then (below_drewN (Below.refl _ _) n) (alb1 _ _)) (OwnB.litg (w.drewN n) 40 40 5 w.heap.size w.heap.size rfl (by simp) (by simp)) q2 (Nat.le_refl _) (by simp)
        have hb3 : Below w.heap.size w w3 := below_append (hb2.alloc hb2.size _) (q1.alloc _) p2 (Nat.le_refl _) (by have := hb2.size; simp; omega)
        have e41 : byteOf 41 = 41 := by decide
        rw [e41] at p1
        go_ret
        exact ⟨_, rfl, by rw [E1.out]; exact Sl.own p1, hb3⟩
      | false =>
        have e1 : ptx l = [60] ++ dgts l ++ [62] := by unfold ptx; rw [if_neg (by rw [hq]; decide)]; rfl
        rw [hz] at e1
        subst e1
        have ha1 : ∀ w : World, (Op.stringOp .add ⟨#[60]⟩ (st (dgts l))).run Tryz.prog w = .ok (.string (st ([60] ++ dgts l))) w := fun w => st_add [60] _ (by rw [dgts_len]; simp; omega) w
        have ha2 : ∀ w : World, (Op.stringOp .add (st ([60] ++ dgts l)) ⟨#[62]⟩).run Tryz.prog w = .ok (.string (st ([60] ++ dgts l ++ [62]))) w := fun w => st_add _ [62] (by rw [List.length_append, dgts_len]; simp; omega) w
        have hlen : ([60] ++ dgts l ++ [62]).length ≤ 100000000 := by rw [List.length_append, List.length_append, dgts_len]; simp; omega
        generalize hzz : [60] ++ dgts l ++ [62] = z at ha2 hlen
        have HZ := hid hzz
        clear hzz
        generalize [60] ++ dgts l = y at ha1 ha2
        clear hq ha hz
        have hS : Sl (w.drewN n) (.slice ao l.length cap) l := ⟨ao, cap, rfl, h1, h2, h3, h4.drewN _⟩
        go_wp2_with (go_at_call 57; (with_reducible refine (digits2_any _ l _ hS (by omega)).mono ?_); rintro e w1 ⟨rfl, m, rfl⟩)
        go_ret
        exact ⟨_, rfl, by rw [HZ.out]; exact Sl.convW (w.drewN (n + m)) _ z w.heap.size (by simp) hlen, below_then (below_drewN (Below.refl _ _) (n + m)) (convW_below _ _ _)⟩
end Go.Proofs.YtjkoiknjffldjaaGreatDoor

/-
  The program's cursor by itself, in words of suffixes. Condition: it stands in its bytes.
-/
namespace Go.Proofs.YtjkoiknjffldjaaGreatDoor
open Go.RowKit
set_option linter.unusedVariables false

/-- block cp is a cursor, at place i of b, s stands from there on; since w0 all but cp is as it was; u is a row made since w0 -/
structure Kc (w0 w : World) (cp : Nat) (b : List UInt8) (i : Nat) (s : List UInt8) (u : Value) (out : List UInt8) : Prop where
  drp : b.drop i = s
  cur : ∃ ao cap, CurAt w cp ao cap b i ∧ LowS w0 cp cp ao cap b
  held : Held w0.heap.size cp cp w0 w
  row : OwnB w w0.heap.size 5 u out

section
variable {w0 w w' : World} {cp : Nat} {b : List UInt8} {i : Nat} {s t : List UInt8} {u : Value} {out : List UInt8} {x : UInt8}

theorem Kc.start {ao : Option Addr} {cap : Nat} (h : CurAt w cp ao cap b i) : Kc w w cp b i (b.drop i) (.slice none 0 0) [] :=
  ⟨rfl, ⟨ao, cap, h, ⟨h.low, h.c0⟩⟩, Held.refl _ _ _ _, OwnB.nil _ _ _⟩
theorem Kc.at_ (h : Kc w0 w cp b i s u out) : i + s.length = b.length := by
  obtain ⟨ao, cap, h1, h2⟩ := h.cur
  have := h1.at_
  rw [← h.drp, List.length_drop]; omega
theorem Kc.sm (h : Kc w0 w cp b i s u out) : b.length ≤ 4000000 := by
  obtain ⟨ao, cap, h1, h2⟩ := h.cur; exact h1.sm
theorem Kc.rem (h : Kc w0 w cp b i s u out) : remOf w cp = s.length := by
  obtain ⟨ao, cap, h1, h2⟩ := h.cur
  have := h1.at_
  unfold remOf; rw [h1.c0, h1.c1, ← h.drp, List.length_drop]; simp
theorem Kc.c1 (h : Kc w0 w cp b i s u out) : w.cell? ⟨cp, 1, none⟩ = some (.int .i64 i) := by
  obtain ⟨ao, cap, h1, h2⟩ := h.cur; exact h1.c1
theorem Kc.f1 (h : Kc w0 w cp b i s u out) : w.frozen? ⟨cp, 1, none⟩ = false := by
  obtain ⟨ao, cap, h1, h2⟩ := h.cur; exact h1.f1
theorem Kc.size (h : Kc w0 w cp b i s u out) : w0.heap.size ≤ w.heap.size := h.held.size

theorem Kc.keep (h : Kc w0 w cp b i s u out) (hh : Held w.heap.size cp cp w w') {v2 : Value} {l2 : List UInt8} (hr : OwnB w w0.heap.size 5 v2 l2) : OwnB w' w0.heap.size 5 v2 l2 := by
  obtain ⟨ao, cap, h1, h2⟩ := h.cur
  refine hr.held hh fun g hg => ?_
  have h3 := (World.ownsRow.lt hr g hg).1
  have := h2.cp
  exact ⟨by omega, by omega⟩
theorem Kc.next (h : Kc w0 w cp b i s u out) {ao : Option Addr} {cap j : Nat} {s' : List UInt8} (hl : CurAt w' cp ao cap b j) (hlow : LowS w0 cp cp ao cap b) (hs : b.drop j = s') (hh : Held w.heap.size cp cp w w') : Kc w0 w' cp b j s' u out :=
  ⟨hs, ⟨ao, cap, hl, hlow⟩, h.held.then' hh, h.keep hh h.row⟩
theorem Kc.below (h : Kc w0 w cp b i s u out) (hb : Below w.heap.size w w') : Kc w0 w' cp b i s u out := by
  obtain ⟨ao, cap, h1, h2⟩ := h.cur
  exact h.next (h1.same hb) h2 h.drp (Held.of_below hb)
theorem Kc.drew (h : Kc w0 w cp b i s u out) (n : Nat) : Kc w0 (w.drewN n) cp b i s u out := h.below (below_drewN (Below.refl _ _) n)
theorem Kc.take (h : Kc w0 w cp b i s u out) {u2 : Value} {l2 : List UInt8} (hr : OwnB w w0.heap.size 5 u2 l2) : Kc w0 w cp b i s u2 l2 := ⟨h.drp, h.cur, h.held, hr⟩
theorem Kc.bare (h : Kc w0 w cp b i s u out) : Kc w0 w cp b i s (.slice none 0 0) [] := h.take (OwnB.nil _ _ _)
/-- from here on anew -/
theorem Kc.fresh (h : Kc w0 w cp b i s u out) : Kc w w cp b i s (.slice Option.none 0 0) [] := by
  obtain ⟨ao, cap, h1, h2⟩ := h.cur
  exact ⟨h.drp, ⟨ao, cap, h1, ⟨h2.toLow.mono h.held.size, h1.c0⟩⟩, Held.refl _ _ _ _, OwnB.nil _ _ _⟩
theorem Kc.join (h : Kc w0 w cp b i s u out) {j : Nat} {s' : List UInt8} {u' : Value} {out' : List UInt8} (k : Kc w w' cp b j s' u' out') : Kc w0 w' cp b j s' u' out' := by
  obtain ⟨ao, cap, h1, h2⟩ := h.cur
  obtain ⟨ao', cap', k1, k2⟩ := k.cur
  have e := k2.c0
  rw [h1.c0] at e
  injection e with e
  injection e with e1 e2 e3
  subst e1; subst e3
  exact ⟨k.drp, ⟨_, _, k1, h2⟩, h.held.then' k.held, k.row.base h.held.size⟩
end
section
variable {w0 w w' : World} {cp : Nat} {b : List UInt8} {i : Nat} {s t : List UInt8} {u : Value} {out : List UInt8} {x : UInt8}

theorem kpeek0 (h : Kc w0 w cp b i s u out) :
    Calls Tryz.prog 77 #[.pointer (some ⟨cp, 0, none⟩), .int .i64 0] w fun e w' => e = .returned (.int .i64 (hd s)) ∧ Kc w0 w' cp b i s u out ∧ ∃ n, w' = w.drewN n := by
  obtain ⟨ao, cap, h1, h2⟩ := h.cur
  refine (peek_any cp ao cap b i 0 w h1 (by omega) (by omega)).mono ?_
  rintro e w' ⟨rfl, k, rfl⟩
  exact ⟨by rw [Int.add_zero, pk_drop, h.drp], h.drew k, k, rfl⟩
theorem knext_cons (h : Kc w0 w cp b i (x :: t) u out) :
    Calls Tryz.prog 79 #[.pointer (some ⟨cp, 0, none⟩)] w fun e w' => e = .returned (.int .i64 (c8 x)) ∧ Kc w0 w' cp b (i + 1) t u out := by
  obtain ⟨ao, cap, h1, h2⟩ := h.cur
  refine (next_any cp ao cap b i w h1).mono ?_
  rintro e w' ⟨rfl, hc, hh⟩
  have hz := lt_of_drop h.drp
  rw [nx_in hz] at hc
  exact ⟨by rw [pk_drop, h.drp]; rfl, h.next hc h2 (drop_succ_of h.drp) hh⟩
theorem kmatch_yes (p : ByteArray) (hp : p.size ≤ 4000000) (hy : pfx p.data.toList s = true) (h : Kc w0 w cp b i s u out) :
    Calls Tryz.prog 80 #[.pointer (some ⟨cp, 0, none⟩), .string p] w fun e w' => e = .returned (.bool true) ∧ Kc w0 w' cp b (i + p.size) (s.drop p.size) u out := by
  obtain ⟨ao, cap, h1, h2⟩ := h.cur
  refine (match_any cp ao cap b i p w h1 hp).mono ?_
  rw [h.drp, hy]
  rintro e w' ⟨rfl, hc, hh⟩
  exact ⟨rfl, h.next hc h2 (by rw [← h.drp, List.drop_drop]) hh⟩
theorem kmatch_no (p : ByteArray) (hp : p.size ≤ 4000000) (hy : pfx p.data.toList s = false) (h : Kc w0 w cp b i s u out) :
    Calls Tryz.prog 80 #[.pointer (some ⟨cp, 0, none⟩), .string p] w fun e w' => e = .returned (.bool false) ∧ Kc w0 w' cp b i s u out := by
  obtain ⟨ao, cap, h1, h2⟩ := h.cur
  refine (match_any cp ao cap b i p w h1 hp).mono ?_
  rw [h.drp, hy]
  rintro e w' ⟨rfl, hc, hh⟩
  exact ⟨rfl, h.next hc h2 h.drp hh⟩
theorem kleft (h : Kc w0 w cp b i s u out) :
    Calls Tryz.prog 89 #[.pointer (some ⟨cp, 0, none⟩)] w fun e w' => e = .returned (.int .i64 s.length) ∧ w = w' := by
  obtain ⟨ao, cap, h1, h2⟩ := h.cur
  have := h.at_
  refine (left_any cp ao cap b i w h1).mono ?_
  rintro e w' ⟨rfl, rfl⟩
  exact ⟨by congr 2; omega, rfl⟩
end
end Go.Proofs.YtjkoiknjffldjaaGreatDoor

/-
  Numbers: digits, what stands behind a point, Parse; the program's walks. Conditions: sizes.
-/
namespace Go.Proofs.YtjkoiknjffldjaaGreatDoor
open Go.RowKit
set_option linter.unusedVariables false

theorem vl_snoc (l : List UInt8) (x : UInt8) : ∀ n, vl (l ++ [x]) n = 10 * vl l n + (x.toNat - 48) := by
  induction l with
  | nil => intro n; rfl
  | cons y l ih => intro n; exact ih _
theorem take_of_drop {s t : List UInt8} {x : UInt8} {k : Nat} (h : s.drop k = x :: t) : s.take (k + 1) = s.take k ++ [x] := by
  have h2 : s[k]? = some x := by
    have h3 : (s.drop k)[0]? = some x := by rw [h]; rfl
    rwa [List.getElem?_drop, Nat.add_zero] at h3
  rw [List.take_add_one, h2]; rfl
theorem isd_iff (c : Int) : isd c = true ↔ 48 ≤ c ∧ c ≤ 57 := by simp [isd]
theorem dgs_step {s : List UInt8} (h : isd (hd s) = true) : dgs s = 1 + dgs s.tail := by
  cases s with
  | nil => exact absurd h (by decide)
  | cons x t => rw [hd_cons] at h; rw [dgs, if_pos h]; rfl
theorem dgs_stop {s : List UInt8} (h : ¬ isd (hd s) = true) : dgs s = 0 := by
  cases s with
  | nil => rfl
  | cons x t => rw [hd_cons] at h; rw [dgs, if_neg h]
theorem dgs_le : ∀ s : List UInt8, dgs s ≤ s.length
  | [] => Nat.le_refl _
  | x :: s => by have := dgs_le s; rw [dgs, List.length_cons]; split <;> omega

section
variable {w0 w w' : World} {cp : Nat} {b : List UInt8} {i : Nat} {s t : List UInt8} {u : Value} {out : List UInt8} {x : UInt8}

set_option maxHeartbeats 1600000 in
theorem digits_k (h : Kc w0 w cp b i s u out) :
    Calls Tryz.prog 118 #[.pointer (some ⟨cp, 0, none⟩)] w fun e w' => ∃ z : Int, ∃ q : Bool, (vl (s.take (dgs s)) 0 ≤ 2147483647 → z = (vl (s.take (dgs s)) 0 : Int)) ∧ q = decide (vl (s.take (dgs s)) 0 ≤ 2147483647) ∧ 0 ≤ z ∧ z ≤ 2147483647 ∧ e = .returned (.tuple #[.int .i64 z, .int .i64 (dgs s), .bool q]) ∧ Kc w0 w' cp b (i + dgs s) (s.drop (dgs s)) u out := by
  have hs0 := h.at_
  have hs1 := h.sm
  have hs2 : s.length ≤ 4000000 := by omega
  have hle := dgs_le s
  clear hs0 hs1
  go_enter Tryz.func118, Tryz.ntmps118
  go_wp2
  go_loopw [5, 6, 7] (fun v5 v6 v7 wr => ∃ k : Nat, ∃ z : Int, ∃ q : Bool, v6 = .int .i64 k ∧ v5 = .int .i64 z ∧ v7 = .bool q ∧ (vl (s.take k) 0 ≤ 2147483647 → z = (vl (s.take k) 0 : Int)) ∧ (2147483647 < vl (s.take k) 0 → z = 2147483647) ∧ q = decide (vl (s.take k) 0 ≤ 2147483647) ∧ 0 ≤ z ∧ z ≤ 2147483647 ∧ dgs s = k + dgs (s.drop k) ∧ Kc w0 wr cp b (i + k) (s.drop k) u out) (fun _ v6 _ _ => s.length - (intOf v6).toNat)
  case atStart => exact ⟨0, 0, true, rfl, rfl, rfl, fun _ => by simp [vl], fun q => by simp [vl] at q, by simp [vl], by omega, by omega, by simp, h⟩
  case round =>
    clear h
    obtain ⟨k, z, q, rfl, rfl, rfl, hz1, hz2, hq, z0, z1, hk, hC⟩ := hrel
    obtain ⟨wo, rfl⟩ : ∃ wo : World, wo = wr := ⟨_, rfl⟩
    have HK := hid hk
    have hk1 : k ≤ s.length := by omega
    generalize hs' : s.drop k = s' at hC
    have HS := hid hs'
    clear hk hs'
    have HZ1 := hid hz1
    have HZ2 := hid hz2
    have HQ := hid hq
    clear hz1 hz2 hq
    by_cases hr : isd (hd s') = true
    · obtain ⟨x, t, rfl⟩ : ∃ x t, s' = x :: t := by
        rcases s' with _ | ⟨x, t⟩
        · exact absurd hr (by decide)
        · exact ⟨x, t, rfl⟩
      have hlt := lt_of_drop HS.out
      have ht := hid (drop_succ_of HS.out)
      have hv : vl (s.take (k + 1)) 0 = 10 * vl (s.take k) 0 + (x.toNat - 48) := by rw [take_of_drop HS.out, vl_snoc]
      have HV := hid hv
      have hdg : dgs s = k + 1 + dgs t := by
        have h1 := HK.out
        rw [HS.out, dgs_step hr, List.tail_cons] at h1
        omega
      have HD := hid hdg
      rw [hd_cons, isd_iff] at hr
      have x0 := hr.1
      have x1 := hr.2
      have t1 : decide (48 ≤ c8 x) = true := decide_eq_true x0
      have t2 : decide (c8 x ≤ 57) = true := decide_eq_true x1
      have hx : c8 x - 48 = ((x.toNat - 48 : Nat) : Int) := by unfold c8 at *; omega
      have HX := hid hx
      have key : ∀ z' : Int, z' = z * 10 + (c8 x - 48) → (vl (s.take (k + 1)) 0 ≤ 2147483647 → z' = (vl (s.take (k + 1)) 0 : Int)) ∧ (z' ≤ 2147483647 → vl (s.take (k + 1)) 0 ≤ 2147483647) := by
        intro z' hz'
        have h1 := HZ1.out
        have h2 := HZ2.out
        rw [hx] at hz'
        rw [hv]
        constructor
        · intro hh; rw [hz', h1 (by omega)]; omega
        · intro hh
          rcases Nat.lt_or_ge 2147483647 (vl (s.take k) 0) with g | g
          · have := h2 g; omega
          · have := h1 g; omega
      have KEY := hid key
      clear hr hv hdg hx key
      by_cases hbig : 2147483647 < z * 10 + (c8 x - 48)
      · have t3 : decide (2147483647 < z * 10 + (c8 x - 48)) = true := decide_eq_true hbig
        go_wp2_with (first | (go_at_call 77; refine (kpeek0 hC).mono ?_; rintro e w1 ⟨rfl, hC, -⟩; first | rw [hd_cons] | rw [hd_nil] | skip) | (go_at_call 79; refine (knext_cons hC).mono ?_; rintro e w1 ⟨rfl, hC⟩))
        have hno : ¬ vl (s.take (k + 1)) 0 ≤ 2147483647 := fun hh => by have := (KEY.out _ rfl).1 hh; omega
        exact ⟨⟨k + 1, 2147483647, false, by go_num, rfl, rfl, fun hh => absurd hh hno, fun _ => rfl, (decide_eq_false hno).symm, by omega, by omega, by rw [HD.out, ht.out], by rw [ht.out]; exact hC⟩, by simp [intOf]; omega⟩
      · have t3 : decide (2147483647 < z * 10 + (c8 x - 48)) = false := decide_eq_false hbig
        go_wp2_with (first | (go_at_call 77; refine (kpeek0 hC).mono ?_; rintro e w1 ⟨rfl, hC, -⟩; first | rw [hd_cons] | rw [hd_nil] | skip) | (go_at_call 79; refine (knext_cons hC).mono ?_; rintro e w1 ⟨rfl, hC⟩))
        have hyes := (KEY.out _ rfl).2 (by omega)
        exact ⟨⟨k + 1, _, q, by go_num, rfl, rfl, fun hh => (KEY.out _ rfl).1 hh, fun hh => by omega, by
          rw [HQ.out, decide_eq_true hyes, decide_eq_true]; have := HV.out; omega, by omega, by omega, by rw [HD.out, ht.out], by rw [ht.out]; exact hC⟩, by simp [intOf]; omega⟩
    · have e1 : dgs s = k := by have h1 := HK.out; rw [HS.out, dgs_stop hr] at h1; exact h1
      have E := hid e1
      have hr2 : ¬ (48 ≤ hd s' ∧ hd s' ≤ 57) := fun g => hr ((isd_iff _).2 g)
      clear e1 hr
      by_cases h48 : 48 ≤ hd s'
      · have t1 : decide (48 ≤ hd s') = true := decide_eq_true h48
        have t2 : decide (hd s' ≤ 57) = false := decide_eq_false (by omega)
        clear hr2
        go_wp2_with (first | (go_at_call 77; refine (kpeek0 hC).mono ?_; rintro e w1 ⟨rfl, hC, -⟩; first | rw [hd_cons] | rw [hd_nil] | skip))
        go_ret3
        rw [E.out, HS.out]
        exact ⟨_, _, HZ1.out, HQ.out, z0, z1, rfl, hC⟩
      · have t1 : decide (48 ≤ hd s') = false := decide_eq_false h48
        clear hr2
        go_wp2_with (first | (go_at_call 77; refine (kpeek0 hC).mono ?_; rintro e w1 ⟨rfl, hC, -⟩; first | rw [hd_cons] | rw [hd_nil] | skip))
        go_ret3
        rw [E.out, HS.out]
        exact ⟨_, _, HZ1.out, HQ.out, z0, z1, rfl, hC⟩

theorem fr_eq : ∀ (k : Nat) (l : List UInt8) (n : Nat), fr k l n = vl (l.take k) n * 10 ^ (k - l.length)
  | 0, l, n => by simp [fr, vl]
  | k + 1, [], n => by
    rw [fr, fr_eq k [] (10 * n)]
    simp [vl, Nat.pow_succ]
    rw [Nat.mul_comm 10 n, Nat.mul_assoc, Nat.mul_comm 10]
  | k + 1, x :: l, n => by
    rw [fr, fr_eq k l _]
    simp [vl]

set_option maxHeartbeats 1600000 in
theorem behind_k (h : Kc w0 w cp b i s u out) :
    Calls Tryz.prog 119 #[.pointer (some ⟨cp, 0, none⟩)] w fun e w' => fr 5 (s.take (dgs s)) 0 ≤ 99999 ∧ e = .returned (.tuple #[.int .i64 (fr 5 (s.take (dgs s)) 0 : Nat), .int .i64 (dgs s)]) ∧ Kc w0 w' cp b (i + dgs s) (s.drop (dgs s)) u out := by
  have hs0 := h.at_
  have hs1 := h.sm
  have hs2 : s.length ≤ 4000000 := by omega
  have hle := dgs_le s
  clear hs0 hs1
  go_enter Tryz.func119, Tryz.ntmps119
  go_wp2
  go_loopw [4, 5, 6] (fun v4 v5 v6 wr => ∃ k z : Nat, v5 = .int .i64 k ∧ v4 = .int .i64 z ∧ z = vl ((s.take k).take 5) 0 ∧ z < 10 ^ (min k 5) ∧ dgs s = k + dgs (s.drop k) ∧ Kc w0 wr cp b (i + k) (s.drop k) u out) (fun _ v5 _ _ => s.length - (intOf v5).toNat)
  case atStart => exact ⟨0, 0, rfl, rfl, by simp [vl], by simp, by simp, h⟩
  case round =>
    clear h
    obtain ⟨k, z, rfl, rfl, hz, zb, hk, hC⟩ := hrel
    obtain ⟨wo, rfl⟩ : ∃ wo : World, wo = wr := ⟨_, rfl⟩
    have HK := hid hk
    have hk1 : k ≤ s.length := by omega
    generalize hs' : s.drop k = s' at hC
    have HS := hid hs'
    have HZ := hid hz
    have z5 : z < 100000 := Nat.lt_of_lt_of_le zb (by
      have : (10 : Nat) ^ min k 5 ≤ 10 ^ 5 := Nat.pow_le_pow_right (by decide) (Nat.min_le_right _ _)
      exact this)
    have ZB := hid zb
    clear hk hs' hz zb
    by_cases hr : isd (hd s') = true
    · obtain ⟨x, t, rfl⟩ : ∃ x t, s' = x :: t := by
        rcases s' with _ | ⟨x, t⟩
        · exact absurd hr (by decide)
        · exact ⟨x, t, rfl⟩
      have hlt := lt_of_drop HS.out
      have ht := hid (drop_succ_of HS.out)
      have hdg : dgs s = k + 1 + dgs t := by
        have h1 := HK.out
        rw [HS.out, dgs_step hr, List.tail_cons] at h1
        omega
      have HD := hid hdg
      rw [hd_cons, isd_iff] at hr
      have x0 := hr.1
      have x1 := hr.2
      have t1 : decide (48 ≤ c8 x) = true := decide_eq_true x0
      have t2 : decide (c8 x ≤ 57) = true := decide_eq_true x1
      have hx : c8 x - 48 = ((x.toNat - 48 : Nat) : Int) := by unfold c8 at *; omega
      have hx9 : x.toNat - 48 ≤ 9 := by unfold c8 at *; omega
      have HX := hid hx
      clear hr hdg hx
      by_cases h5 : k < 5
      · have t3 : decide (k < 5) = true := decide_eq_true h5
        have t4 : decide ((k : Int) < 5) = true := decide_eq_true (by omega)
        have hv : 10 * z + (x.toNat - 48) = vl ((s.take (k + 1)).take 5) 0 := by
          have hz := HZ.out
          rw [List.take_take, Nat.min_eq_right (by omega)] at hz
          rw [List.take_take, Nat.min_eq_right (by omega), take_of_drop HS.out, vl_snoc, ← hz]
        have HV := hid hv
        have zb : 10 * z + (x.toNat - 48) < 10 ^ (min (k + 1) 5) := by
          have := ZB.out
          rw [Nat.min_eq_left (by omega)] at this
          rw [Nat.min_eq_left (by omega), Nat.pow_succ]
          omega
        have ZB' := hid zb
        have hsum : (z : Int) * 10 + (c8 x - 48) = ((10 * z + (x.toNat - 48) : Nat) : Int) := by rw [HX.out]; omega
        have HSUM := hid hsum
        clear hv zb hsum
        go_wp2_with (first | (go_at_call 77; refine (kpeek0 hC).mono ?_; rintro e w1 ⟨rfl, hC, -⟩; first | rw [hd_cons] | rw [hd_nil] | skip) | (go_at_call 79; refine (knext_cons hC).mono ?_; rintro e w1 ⟨rfl, hC⟩))
        exact ⟨⟨k + 1, _, by go_num, by rw [HSUM.out], HV.out, ZB'.out, by rw [HD.out, ht.out], by rw [ht.out]; exact hC⟩, by simp [intOf]; omega⟩
      · have t3 : decide (k < 5) = false := decide_eq_false h5
        have t4 : decide ((k : Int) < 5) = false := decide_eq_false (by omega)
        have hv : z = vl ((s.take (k + 1)).take 5) 0 := by
          have hz := HZ.out
          rw [List.take_take, Nat.min_eq_left (by omega)] at hz
          rw [List.take_take, Nat.min_eq_left (by omega), ← hz]
        have HV := hid hv
        have zb : z < 10 ^ (min (k + 1) 5) := by
          have := ZB.out
          rw [Nat.min_eq_right (by omega)] at this
          rw [Nat.min_eq_right (by omega)]
          omega
        have ZB' := hid zb
        clear hv zb
        go_wp2_with (first | (go_at_call 77; refine (kpeek0 hC).mono ?_; rintro e w1 ⟨rfl, hC, -⟩; first | rw [hd_cons] | rw [hd_nil] | skip) | (go_at_call 79; refine (knext_cons hC).mono ?_; rintro e w1 ⟨rfl, hC⟩))
        exact ⟨⟨k + 1, z, by go_num, rfl, HV.out, ZB'.out, by rw [HD.out, ht.out], by rw [ht.out]; exact hC⟩, by simp [intOf]; omega⟩
    · have e1 : dgs s = k := by have h1 := HK.out; rw [HS.out, dgs_stop hr] at h1; exact h1
      have hr2 : ¬ (48 ≤ hd s' ∧ hd s' ≤ 57) := fun g => hr ((isd_iff _).2 g)
      subst e1
      have hfr : ∀ j y : Nat, y = z * 10 ^ (j - dgs s) → dgs s ≤ j → (j = 5 ∨ (5 ≤ j ∧ j = dgs s)) → fr 5 (s.take (dgs s)) 0 = y := by
        intro j y hy h1 h2
        rw [fr_eq, hy, HZ.out, List.length_take, Nat.min_eq_left hle]
        rcases h2 with rfl | ⟨h2, h3⟩
        · rfl
        · rw [show j - dgs s = 0 by omega, show 5 - dgs s = 0 by omega]
      have HFR := hid hfr
      have hzz : z < 10 ^ (dgs s) ∨ 5 ≤ dgs s := by
        rcases Nat.lt_or_ge (dgs s) 5 with g | g
        · left; have := ZB.out; rwa [Nat.min_eq_left (by omega)] at this
        · exact .inr g
      have HZZ := hid hzz
      clear hr hfr hzz
      have t1 : (decide (48 ≤ hd s') = false) ∨ (decide (48 ≤ hd s') = true ∧ decide (hd s' ≤ 57) = false) := by
        by_cases h48 : 48 ≤ hd s'
        · exact .inr ⟨decide_eq_true h48, decide_eq_false (by omega)⟩
        · exact .inl (decide_eq_false h48)
      clear hr2
      rcases t1 with t1 | ⟨t1, t2⟩
      all_goals
        go_wp2_with (first | (go_at_call 77; refine (kpeek0 hC).mono ?_; rintro e w1 ⟨rfl, hC, -⟩; first | rw [hd_cons] | rw [hd_nil] | skip))
        obtain ⟨wp, rfl⟩ : ∃ wp : World, wp = w1 := ⟨_, rfl⟩
        go_loopw [4, 7] (fun v4 v7 wr => ∃ j y : Nat, v7 = .int .i64 j ∧ v4 = .int .i64 y ∧ y = z * 10 ^ (j - dgs s) ∧ dgs s ≤ j ∧ (j ≤ 5 ∨ j = dgs s) ∧ y < 100000 ∧ Kc w0 wr cp b (i + dgs s) s' u out) (fun _ v7 _ => (5 - intOf v7).toNat)
        case atStart => exact ⟨dgs s, z, rfl, rfl, by simp, Nat.le_refl _, .inr rfl, z5, hC⟩
        case round =>
          obtain ⟨j, y, rfl, rfl, hy, hj, hj5, hyb, hC⟩ := hrel
          have HY := hid hy
          have HJ := hid hj5
          clear hy hj5
          by_cases h5 : j < 5
          · have t3 : decide (j < 5) = true := decide_eq_true h5
            have t4 : decide ((j : Int) < 5) = true := decide_eq_true (by omega)
            have hyb' : y * 10 < 100000 := by
              have hz1 : z < 10 ^ dgs s := by
                rcases HZZ.out with g | g
                · exact g
                · omega
              have h1 : y < 10 ^ j := by
                rw [HY.out]
                calc z * 10 ^ (j - dgs s) < 10 ^ dgs s * 10 ^ (j - dgs s) := Nat.mul_lt_mul_of_pos_right hz1 (Nat.pow_pos (by decide))
                  _ = 10 ^ j := by rw [← Nat.pow_add]; congr 1; omega
              have h2 : (10 : Nat) ^ j ≤ 10 ^ 4 := Nat.pow_le_pow_right (by decide) (by omega)
              omega
            have hy' : y * 10 = z * 10 ^ (j + 1 - dgs s) := by
              rw [HY.out, show j + 1 - dgs s = (j - dgs s) + 1 by omega, Nat.pow_succ, Nat.mul_assoc]
            have HY' := hid hy'
            clear hy'
            go_wp2
            exact ⟨⟨j + 1, y * 10, by go_num, by go_num, HY'.out, by omega, .inl (by omega), hyb', hC⟩, by simp [intOf]; omega⟩
          · have t3 : decide (j < 5) = false := decide_eq_false h5
            have t4 : decide ((j : Int) < 5) = false := decide_eq_false (by omega)
            go_wp2
            go_ret2
            have e5 := HFR.out j y HY.out hj (by rcases HJ.out with g | g <;> omega)
            rw [HS.out, e5]
            exact ⟨by omega, rfl, hC⟩
end
end Go.Proofs.YtjkoiknjffldjaaGreatDoor

/-
  fixed.Parse: the number that bytes say; the program's walk. Conditions: sizes.
-/
namespace Go.Proofs.YtjkoiknjffldjaaGreatDoor
open Go.RowKit
set_option linter.unusedVariables false

theorem Kc.eqs {w0 w : World} {cp : Nat} {b : List UInt8} {i : Nat} {s t : List UInt8} {u : Value} {out : List UInt8} (h : Kc w0 w cp b i s u out) (e : s = t) : Kc w0 w cp b i t u out := e ▸ h

theorem np_eq {b s a r : List UInt8} {g : Int} (h1 : sgn b = g) (h2 : uns b = s) (h3 : s.take (dgs s) = a) (h4 : s.drop (dgs s) = r) : np b = numb g a r := by
  subst h1 h2 h3 h4; rfl

set_option maxHeartbeats 3200000 in
theorem parse_k (v : Value) (b : List UInt8) (w : World) (h : Sl w v b) (hl : b.length ≤ 4000000) :
    Calls Tryz.prog 106 #[v] w fun e w' => e = .returned (.tuple #[.int .i64 (np b).1, .bool (np b).2.1, .int .i64 (np b).2.2]) ∧ Below w.heap.size w w' := by
  have hcs : ∃ s : List UInt8, ∃ g : Int, uns b = s ∧ s.length ≤ b.length ∧ sgn b = g ∧ (g = 1 ∨ g = -1) ∧ ((pfx [43] b = true ∧ b.drop 1 = s ∧ g = 1) ∨ (pfx [43] b = false ∧ pfx [45] b = true ∧ b.drop 1 = s ∧ g = -1) ∨ (pfx [43] b = false ∧ pfx [45] b = false ∧ b = s ∧ g = 1)) := by
    by_cases q1 : hd b = 43
    · exact ⟨b.tail, 1, by unfold uns; rw [if_pos (.inl q1)], by simp, by unfold sgn; rw [if_neg (by omega)], .inl rfl, .inl ⟨by rw [pfx1]; exact decide_eq_true q1, by simp, rfl⟩⟩
    by_cases q2 : hd b = 45
    · exact ⟨b.tail, -1, by unfold uns; rw [if_pos (.inr q2)], by simp, by unfold sgn; rw [if_pos q2], .inr rfl, .inr (.inl ⟨by rw [pfx1]; exact decide_eq_false q1, by rw [pfx1]; exact decide_eq_true q2, by simp, rfl⟩)⟩
    · exact ⟨b, 1, by unfold uns; rw [if_neg (by omega)], Nat.le_refl _, by unfold sgn; rw [if_neg q2], .inl rfl, .inr (.inr ⟨by rw [pfx1]; exact decide_eq_false q1, by rw [pfx1]; exact decide_eq_false q2, rfl, rfl⟩)⟩
  obtain ⟨s, g, hun, hsl, hsg, hg, hcase⟩ := hcs
  have hnp := np_eq hsg hun rfl rfl
  generalize hR : np b = R
  rw [hR] at hnp
  have hdl := dgs_le s
  generalize hr : s.drop (dgs s) = r at hnp
  generalize ha : s.take (dgs s) = a at hnp
  have hal : a.length = dgs s := by rw [← ha, List.length_take, Nat.min_eq_left hdl]
  have hrl : r.length ≤ 4000000 := by rw [← hr, List.length_drop]; omega
  have HA := hid ha
  have HRR := hid hr
  have HAL := hid hal
  have hk1 : dgs s ≤ 4000000 := by omega
  clear hun hsg ha hr hal hR
  have hv : vl a 0 ≤ 2147483647 ∨ 2147483647 < vl a 0 := by omega
  rcases r with _ | ⟨x, f⟩
  · have H3 : Hid (pfx [46] [] = false) := hid rfl
    by_cases h0 : a.length = 0
    · rw [show numb g a [] = (0, false, 4) from by rw [numb, if_pos h0]] at hnp
      subst hnp
      have b0 : ((dgs s : Int) == 0) = true := by have := HAL.out; simp; omega
      clear h0
      rcases hcase with ⟨q1, q3, rfl⟩ | ⟨q1, q2, q3, rfl⟩ | ⟨q1, q2, q3, rfl⟩
      all_goals
        have H1 := hid q1
        have E1 := hid q3
        first | have H2 := hid q2 | have H2 := trivial
        clear q1 q3 hg
        try clear q2
        go_enter Tryz.func106, Tryz.ntmps106
        go_wp2_with (first | (go_at_call 76; refine (cursor_new v b _ h hl).mono ?_; rintro e w1 ⟨rfl, ⟨ao, cap, hcur⟩, hb1, hsz⟩; have hC := Kc.start hcur; clear hcur; have hC := hC.eqs (show _ = b from rfl)) | (go_at_call 80; refine (kmatch_yes _ (by decide) H1.out hC).mono ?_; rintro e w1 ⟨rfl, hC⟩) | (go_at_call 80; refine (kmatch_no _ (by decide) H1.out hC).mono ?_; rintro e w1 ⟨rfl, hC⟩) | (go_at_call 80; refine (kmatch_yes _ (by decide) H2.out hC).mono ?_; rintro e w1 ⟨rfl, hC⟩) | (go_at_call 80; refine (kmatch_no _ (by decide) H2.out hC).mono ?_; rintro e w1 ⟨rfl, hC⟩) | (go_at_call 118; refine (digits_k (hC.eqs E1.out)).mono ?_; rintro e w2 ⟨z, q, hz, hq, z0, z1, rfl, hC⟩; rw [HA.out] at hz hq; have hC := hC.eqs HRR.out; have HZ := hid hz; clear hz; clear hq) | (go_at_call 80; refine (kmatch_no _ (by decide) H3.out hC).mono ?_; rintro e w1 ⟨rfl, hC⟩) | (go_at_call 89; refine (kleft hC).mono ?_; rintro e w1 ⟨rfl, rfl⟩))
        go_ret3
        refine ⟨rfl, ?_⟩
        exact hb1.trans (hC.held.below hb1.size (Nat.le_refl _) (Nat.le_refl _))
    · have b0 : ((dgs s : Int) == 0) = false := by have := HAL.out; simp; omega
      rcases hv with hv | hv
      · rw [show numb g a [] = (g * (vl a 0 : Int), true, 0) from by rw [numb, if_neg h0, if_neg (by omega)]] at hnp
        subst hnp
        have Hq := hid (decide_eq_true hv)
        have HV := hid hv
        clear h0 hv
        rcases hcase with ⟨q1, q3, rfl⟩ | ⟨q1, q2, q3, rfl⟩ | ⟨q1, q2, q3, rfl⟩
        all_goals
          have H1 := hid q1
          have E1 := hid q3
          first | have H2 := hid q2 | have H2 := trivial
          clear q1 q3 hg
          try clear q2
          go_enter Tryz.func106, Tryz.ntmps106
          go_wp2_with (first | (go_at_call 76; refine (cursor_new v b _ h hl).mono ?_; rintro e w1 ⟨rfl, ⟨ao, cap, hcur⟩, hb1, hsz⟩; have hC := Kc.start hcur; clear hcur; have hC := hC.eqs (show _ = b from rfl)) | (go_at_call 80; refine (kmatch_yes _ (by decide) H1.out hC).mono ?_; rintro e w1 ⟨rfl, hC⟩) | (go_at_call 80; refine (kmatch_no _ (by decide) H1.out hC).mono ?_; rintro e w1 ⟨rfl, hC⟩) | (go_at_call 80; refine (kmatch_yes _ (by decide) H2.out hC).mono ?_; rintro e w1 ⟨rfl, hC⟩) | (go_at_call 80; refine (kmatch_no _ (by decide) H2.out hC).mono ?_; rintro e w1 ⟨rfl, hC⟩) | (go_at_call 118; refine (digits_k (hC.eqs E1.out)).mono ?_; rintro e w2 ⟨z, q, hz, hq, z0, z1, rfl, hC⟩; rw [HA.out] at hz hq; have hC := hC.eqs HRR.out; have HZ := hid hz; clear hz; rw [Hq.out] at hq; subst hq) | (go_at_call 80; refine (kmatch_no _ (by decide) H3.out hC).mono ?_; rintro e w1 ⟨rfl, hC⟩) | (go_at_call 89; refine (kleft hC).mono ?_; rintro e w1 ⟨rfl, rfl⟩))
          go_ret3
          refine ⟨by rw [HZ.out HV.out]; first | rfl | simp, ?_⟩
          exact hb1.trans (hC.held.below hb1.size (Nat.le_refl _) (Nat.le_refl _))
      · rw [show numb g a [] = (0, false, 5) from by rw [numb, if_neg h0, if_pos hv]] at hnp
        subst hnp
        have Hq := hid (decide_eq_false (show ¬ vl a 0 ≤ 2147483647 by omega))
        clear h0 hv
        rcases hcase with ⟨q1, q3, rfl⟩ | ⟨q1, q2, q3, rfl⟩ | ⟨q1, q2, q3, rfl⟩
        all_goals
          have H1 := hid q1
          have E1 := hid q3
          first | have H2 := hid q2 | have H2 := trivial
          clear q1 q3 hg
          try clear q2
          go_enter Tryz.func106, Tryz.ntmps106
          go_wp2_with (first | (go_at_call 76; refine (cursor_new v b _ h hl).mono ?_; rintro e w1 ⟨rfl, ⟨ao, cap, hcur⟩, hb1, hsz⟩; have hC := Kc.start hcur; clear hcur; have hC := hC.eqs (show _ = b from rfl)) | (go_at_call 80; refine (kmatch_yes _ (by decide) H1.out hC).mono ?_; rintro e w1 ⟨rfl, hC⟩) | (go_at_call 80; refine (kmatch_no _ (by decide) H1.out hC).mono ?_; rintro e w1 ⟨rfl, hC⟩) | (go_at_call 80; refine (kmatch_yes _ (by decide) H2.out hC).mono ?_; rintro e w1 ⟨rfl, hC⟩) | (go_at_call 80; refine (kmatch_no _ (by decide) H2.out hC).mono ?_; rintro e w1 ⟨rfl, hC⟩) | (go_at_call 118; refine (digits_k (hC.eqs E1.out)).mono ?_; rintro e w2 ⟨z, q, hz, hq, z0, z1, rfl, hC⟩; rw [HA.out] at hz hq; have hC := hC.eqs HRR.out; have HZ := hid hz; clear hz; rw [Hq.out] at hq; subst hq) | (go_at_call 80; refine (kmatch_no _ (by decide) H3.out hC).mono ?_; rintro e w1 ⟨rfl, hC⟩) | (go_at_call 89; refine (kleft hC).mono ?_; rintro e w1 ⟨rfl, rfl⟩))
          go_ret3
          refine ⟨rfl, ?_⟩
          exact hb1.trans (hC.held.below hb1.size (Nat.le_refl _) (Nat.le_refl _))
  · by_cases hx : c8 x = 46
    · have H3 : Hid (pfx [46] (x :: f) = true) := hid (by rw [pfx1]; exact decide_eq_true hx)
      have hfl := dgs_le f
      rw [List.length_cons] at hrl
      by_cases hf : dgs f = f.length
      · have HF : Hid (f.drop (dgs f) = []) := hid (List.drop_eq_nil_of_le (by omega))
        have HT : Hid (f.take (dgs f) = f) := hid (List.take_of_length_le (by omega))
        by_cases h0 : a.length + f.length = 0
        · rw [show numb g a (x :: f) = (0, false, 4) from by rw [numb, if_neg (fun q => q.2.2 h0)]] at hnp
          subst hnp
          have b0 : ((dgs s : Int) + (dgs f : Int) == 0) = true := by have := HAL.out; simp; omega
          clear h0 hf hx
          rcases hcase with ⟨q1, q3, rfl⟩ | ⟨q1, q2, q3, rfl⟩ | ⟨q1, q2, q3, rfl⟩
          all_goals
            have H1 := hid q1
            have E1 := hid q3
            first | have H2 := hid q2 | have H2 := trivial
            clear q1 q3 hg
            try clear q2
            go_enter Tryz.func106, Tryz.ntmps106
            go_wp2_with (first | (go_at_call 76; refine (cursor_new v b _ h hl).mono ?_; rintro e w1 ⟨rfl, ⟨ao, cap, hcur⟩, hb1, hsz⟩; have hC := Kc.start hcur; clear hcur; have hC := hC.eqs (show _ = b from rfl)) | (go_at_call 80; refine (kmatch_yes _ (by decide) H1.out hC).mono ?_; rintro e w1 ⟨rfl, hC⟩) | (go_at_call 80; refine (kmatch_no _ (by decide) H1.out hC).mono ?_; rintro e w1 ⟨rfl, hC⟩) | (go_at_call 80; refine (kmatch_yes _ (by decide) H2.out hC).mono ?_; rintro e w1 ⟨rfl, hC⟩) | (go_at_call 80; refine (kmatch_no _ (by decide) H2.out hC).mono ?_; rintro e w1 ⟨rfl, hC⟩) | (go_at_call 118; refine (digits_k (hC.eqs E1.out)).mono ?_; rintro e w2 ⟨z, q, hz, hq, z0, z1, rfl, hC⟩; rw [HA.out] at hz hq; have hC := hC.eqs HRR.out; have HZ := hid hz; clear hz; clear hq) | (go_at_call 80; refine (kmatch_yes _ (by decide) H3.out hC).mono ?_; rintro e w1 ⟨rfl, hC⟩) | (go_at_call 119; refine (behind_k (hC.eqs (show _ = f from rfl))).mono ?_; rintro e w3 ⟨y1, rfl, hC⟩; have hC := hC.eqs HF.out) | (go_at_call 89; refine (kleft hC).mono ?_; rintro e w1 ⟨rfl, rfl⟩))
            go_ret3
            refine ⟨rfl, ?_⟩
            exact hb1.trans (hC.held.below hb1.size (Nat.le_refl _) (Nat.le_refl _))
        · have b0 : ((dgs s : Int) + (dgs f : Int) == 0) = false := by have := HAL.out; simp; omega
          rcases hv with hv | hv
          · rw [show numb g a (x :: f) = (g * ((vl a 0 : Int) * 100000 + (fr 5 f 0 : Int)), false, 0) from by rw [numb, if_pos ⟨hx, hf, h0⟩, if_neg (by omega)]] at hnp
            subst hnp
            have Hq := hid (decide_eq_true hv)
            have HV := hid hv
            clear h0 hv hf hx
            rcases hcase with ⟨q1, q3, rfl⟩ | ⟨q1, q2, q3, rfl⟩ | ⟨q1, q2, q3, rfl⟩
            all_goals
              have H1 := hid q1
              have E1 := hid q3
              first | have H2 := hid q2 | have H2 := trivial
              clear q1 q3 hg
              try clear q2
              go_enter Tryz.func106, Tryz.ntmps106
              go_wp2_with (first | (go_at_call 76; refine (cursor_new v b _ h hl).mono ?_; rintro e w1 ⟨rfl, ⟨ao, cap, hcur⟩, hb1, hsz⟩; have hC := Kc.start hcur; clear hcur; have hC := hC.eqs (show _ = b from rfl)) | (go_at_call 80; refine (kmatch_yes _ (by decide) H1.out hC).mono ?_; rintro e w1 ⟨rfl, hC⟩) | (go_at_call 80; refine (kmatch_no _ (by decide) H1.out hC).mono ?_; rintro e w1 ⟨rfl, hC⟩) | (go_at_call 80; refine (kmatch_yes _ (by decide) H2.out hC).mono ?_; rintro e w1 ⟨rfl, hC⟩) | (go_at_call 80; refine (kmatch_no _ (by decide) H2.out hC).mono ?_; rintro e w1 ⟨rfl, hC⟩) | (go_at_call 118; refine (digits_k (hC.eqs E1.out)).mono ?_; rintro e w2 ⟨z, q, hz, hq, z0, z1, rfl, hC⟩; rw [HA.out] at hz hq; have hC := hC.eqs HRR.out; have HZ := hid hz; clear hz; rw [Hq.out] at hq; subst hq) | (go_at_call 80; refine (kmatch_yes _ (by decide) H3.out hC).mono ?_; rintro e w1 ⟨rfl, hC⟩) | (go_at_call 119; refine (behind_k (hC.eqs (show _ = f from rfl))).mono ?_; rintro e w3 ⟨y1, rfl, hC⟩; have hC := hC.eqs HF.out) | (go_at_call 89; refine (kleft hC).mono ?_; rintro e w1 ⟨rfl, rfl⟩))
              go_ret3
              refine ⟨by rw [HZ.out HV.out, HT.out]; first | rfl | simp, ?_⟩
              exact hb1.trans (hC.held.below hb1.size (Nat.le_refl _) (Nat.le_refl _))
          · rw [show numb g a (x :: f) = (0, false, 5) from by rw [numb, if_pos ⟨hx, hf, h0⟩, if_pos hv]] at hnp
            subst hnp
            have Hq := hid (decide_eq_false (show ¬ vl a 0 ≤ 2147483647 by omega))
            clear h0 hv hf hx
            rcases hcase with ⟨q1, q3, rfl⟩ | ⟨q1, q2, q3, rfl⟩ | ⟨q1, q2, q3, rfl⟩
            all_goals
              have H1 := hid q1
              have E1 := hid q3
              first | have H2 := hid q2 | have H2 := trivial
              clear q1 q3 hg
              try clear q2
              go_enter Tryz.func106, Tryz.ntmps106
              go_wp2_with (first | (go_at_call 76; refine (cursor_new v b _ h hl).mono ?_; rintro e w1 ⟨rfl, ⟨ao, cap, hcur⟩, hb1, hsz⟩; have hC := Kc.start hcur; clear hcur; have hC := hC.eqs (show _ = b from rfl)) | (go_at_call 80; refine (kmatch_yes _ (by decide) H1.out hC).mono ?_; rintro e w1 ⟨rfl, hC⟩) | (go_at_call 80; refine (kmatch_no _ (by decide) H1.out hC).mono ?_; rintro e w1 ⟨rfl, hC⟩) | (go_at_call 80; refine (kmatch_yes _ (by decide) H2.out hC).mono ?_; rintro e w1 ⟨rfl, hC⟩) | (go_at_call 80; refine (kmatch_no _ (by decide) H2.out hC).mono ?_; rintro e w1 ⟨rfl, hC⟩) | (go_at_call 118; refine (digits_k (hC.eqs E1.out)).mono ?_; rintro e w2 ⟨z, q, hz, hq, z0, z1, rfl, hC⟩; rw [HA.out] at hz hq; have hC := hC.eqs HRR.out; have HZ := hid hz; clear hz; rw [Hq.out] at hq; subst hq) | (go_at_call 80; refine (kmatch_yes _ (by decide) H3.out hC).mono ?_; rintro e w1 ⟨rfl, hC⟩) | (go_at_call 119; refine (behind_k (hC.eqs (show _ = f from rfl))).mono ?_; rintro e w3 ⟨y1, rfl, hC⟩; have hC := hC.eqs HF.out) | (go_at_call 89; refine (kleft hC).mono ?_; rintro e w1 ⟨rfl, rfl⟩))
              go_ret3
              refine ⟨rfl, ?_⟩
              exact hb1.trans (hC.held.below hb1.size (Nat.le_refl _) (Nat.le_refl _))
      · rw [show numb g a (x :: f) = (0, false, 4) from by rw [numb, if_neg (fun q => hf q.2.1)]] at hnp
        subst hnp
        obtain ⟨y, f2, HF0⟩ : ∃ y f2, f.drop (dgs f) = y :: f2 := by
          cases hq : f.drop (dgs f) with
          | nil => have := congrArg List.length hq; simp at this; omega
          | cons y f2 => exact ⟨y, f2, rfl⟩
        have hf2 := congrArg List.length HF0
        rw [List.length_cons, List.length_drop] at hf2
        have hf2' : f2.length ≤ 4000000 := by omega
        have HF := hid HF0
        clear hf hx HF0 hf2
        rcases hcase with ⟨q1, q3, rfl⟩ | ⟨q1, q2, q3, rfl⟩ | ⟨q1, q2, q3, rfl⟩
        all_goals
          have H1 := hid q1
          have E1 := hid q3
          first | have H2 := hid q2 | have H2 := trivial
          clear q1 q3 hg
          try clear q2
          go_enter Tryz.func106, Tryz.ntmps106
          go_wp2_with (first | (go_at_call 76; refine (cursor_new v b _ h hl).mono ?_; rintro e w1 ⟨rfl, ⟨ao, cap, hcur⟩, hb1, hsz⟩; have hC := Kc.start hcur; clear hcur; have hC := hC.eqs (show _ = b from rfl)) | (go_at_call 80; refine (kmatch_yes _ (by decide) H1.out hC).mono ?_; rintro e w1 ⟨rfl, hC⟩) | (go_at_call 80; refine (kmatch_no _ (by decide) H1.out hC).mono ?_; rintro e w1 ⟨rfl, hC⟩) | (go_at_call 80; refine (kmatch_yes _ (by decide) H2.out hC).mono ?_; rintro e w1 ⟨rfl, hC⟩) | (go_at_call 80; refine (kmatch_no _ (by decide) H2.out hC).mono ?_; rintro e w1 ⟨rfl, hC⟩) | (go_at_call 118; refine (digits_k (hC.eqs E1.out)).mono ?_; rintro e w2 ⟨z, q, hz, hq, z0, z1, rfl, hC⟩; rw [HA.out] at hz hq; have hC := hC.eqs HRR.out; have HZ := hid hz; clear hz; clear hq) | (go_at_call 80; refine (kmatch_yes _ (by decide) H3.out hC).mono ?_; rintro e w1 ⟨rfl, hC⟩) | (go_at_call 119; refine (behind_k (hC.eqs (show _ = f from rfl))).mono ?_; rintro e w3 ⟨y1, rfl, hC⟩; have hC := hC.eqs HF.out) | (go_at_call 89; refine (kleft hC).mono ?_; rintro e w1 ⟨rfl, rfl⟩))
          go_ret3
          refine ⟨rfl, ?_⟩
          exact hb1.trans (hC.held.below hb1.size (Nat.le_refl _) (Nat.le_refl _))
    · have H3 : Hid (pfx [46] (x :: f) = false) := hid (by rw [pfx1]; exact decide_eq_false hx)
      rw [show numb g a (x :: f) = (0, false, 4) from by rw [numb, if_neg (fun q => hx q.1)]] at hnp
      subst hnp
      rw [List.length_cons] at hrl
      clear hx
      rcases hcase with ⟨q1, q3, rfl⟩ | ⟨q1, q2, q3, rfl⟩ | ⟨q1, q2, q3, rfl⟩
      all_goals
        have H1 := hid q1
        have E1 := hid q3
        first | have H2 := hid q2 | have H2 := trivial
        clear q1 q3 hg
        try clear q2
        go_enter Tryz.func106, Tryz.ntmps106
        go_wp2_with (first | (go_at_call 76; refine (cursor_new v b _ h hl).mono ?_; rintro e w1 ⟨rfl, ⟨ao, cap, hcur⟩, hb1, hsz⟩; have hC := Kc.start hcur; clear hcur; have hC := hC.eqs (show _ = b from rfl)) | (go_at_call 80; refine (kmatch_yes _ (by decide) H1.out hC).mono ?_; rintro e w1 ⟨rfl, hC⟩) | (go_at_call 80; refine (kmatch_no _ (by decide) H1.out hC).mono ?_; rintro e w1 ⟨rfl, hC⟩) | (go_at_call 80; refine (kmatch_yes _ (by decide) H2.out hC).mono ?_; rintro e w1 ⟨rfl, hC⟩) | (go_at_call 80; refine (kmatch_no _ (by decide) H2.out hC).mono ?_; rintro e w1 ⟨rfl, hC⟩) | (go_at_call 118; refine (digits_k (hC.eqs E1.out)).mono ?_; rintro e w2 ⟨z, q, hz, hq, z0, z1, rfl, hC⟩; rw [HA.out] at hz hq; have hC := hC.eqs HRR.out; have HZ := hid hz; clear hz; clear hq) | (go_at_call 80; refine (kmatch_no _ (by decide) H3.out hC).mono ?_; rintro e w1 ⟨rfl, hC⟩) | (go_at_call 89; refine (kleft hC).mono ?_; rintro e w1 ⟨rfl, rfl⟩))
        go_ret3
        refine ⟨rfl, ?_⟩
        exact hb1.trans (hC.held.below hb1.size (Nat.le_refl _) (Nat.le_refl _))
end Go.Proofs.YtjkoiknjffldjaaGreatDoor

/-
  Remainders, appends of a string's bytes, appends that leave what they were made from, LexTexts' parts. Conditions: sizes.
-/
namespace Go.Proofs.YtjkoiknjffldjaaGreatDoor
open Go.RowKit
set_option linter.unusedVariables false

theorem rem_any (k : IntKind) (a n : Nat) (hn : 0 < n) (t : TypeId) : binOp .rem t (.int k (a : Int)) (.int k (n : Int)) = pure (.int k ((a % n : Nat) : Int)) := by
  rw [binOp_rem]
  unfold Op.intDiv
  rw [if_neg (by omega)]
  rfl

theorem run_append_str_moved {P : Program} (w : World) (base : Nat) (t u ty e : TypeId) (i : TypeInfo) (ht : P.underlying t = some (.slice e)) (hu : P.underlying u = some .string) (hi : P.info? e = some i) (hz : i.zero = some (.int .u8 0))
    (hsize : i.size = 1) (hby : i.bytes = 1)
    (v : Value) (n : Nat) (xs : List Value) (hown : w.ownsRow base e 1 v n xs) (s : ByteArray)
    (h63 : n + s.size ≤ maxLen) (hbytes : n + s.size ≤ 140737488355328) (v' : Value) (w' : World)
    (hr : (Builtin.append_ #[t, u] ty #[v, .string s]).run P w = .ok v' w') : Moved w v v' := by
  have hsmall : n + s.size ≤ 9223372036854775807 := by simp only [maxLen] at h63; omega
  have hxl : xs.length = n := by simpa using hown.1
  rcases hown.2 with ⟨rfl, rfl⟩ | ⟨g, cap, cur, rfl, hbg, hg, hnc, hcm, hcs, htake⟩
  · by_cases hm : s.size = 0
    · have hf := Lib.run_firstCells_string (P := P) w 1 s
      rw [hm] at hf
      have h2 : (Builtin.append_ #[t, u] ty #[.slice none 0 0, .string s]).run P w = .ok (.slice none 0 0) w := by
        simp [Builtin.append_, run_underlying ht, run_underlying hu, sizeOf, typeInfo, hi, hsize, Builtin.lenOf, hm, hf]
      rw [h2] at hr
      injection hr with q _
      exact .inl (by rw [← q])
    · have h2 := run_append_nil_string (P := P) w t u ty e i (.int .u8 0) ht hu hi hz s (by omega) (by omega) (by rw [hby]; omega)
      rw [h2] at hr
      injection hr with q _
      exact .inr (by rw [← q]; rfl)
  · by_cases hroom : n + s.size ≤ cap
    · have hcs' : cur.size = cap := by simpa using hcs
      have h2 := Lib.run_append_room_string (P := P) w t u ty e i ht hu hi hsize g n cap cur hg s hroom (by omega)
      rw [h2] at hr
      injection hr with q _
      exact .inl (by rw [← q]; rfl)
    · have holds : ∀ j u, xs[j]? = some u → w.cell? ((⟨g, 0, none⟩ : Addr).add j) = some u := hown.cells (g := g) rfl
      have h2 := Lib.run_append_grow_string (P := P) w t u ty e i (.int .u8 0) ht hu hi hz ⟨g, 0, none⟩ n cap xs (by rw [hsize]; simpa using hxl) holds s (by omega) (by omega) (by rw [hby]; exact growslice_fits (by omega) (by omega))
      rw [h2] at hr
      injection hr with q _
      exact .inr (by rw [← q]; rfl)

section
variable {P : Program} {w : World} {ops : Array Oper} {rest : List Oper} {o : Oper} {a : Act} {Q : Exit → Act → World → Prop} {t e : TypeId}

/-- append of a string's bytes onto a row of the call's own -/
theorem wpList_append_st (T : BytesTy P t e) (hgd : o.guard = none) (sl x : Operand) (u : TypeId) (hu : P.underlying u = some .string)
    (ho : o.op = .call { callee := .builtin .append, args := #[sl, x], argTypes := #[t, u] })
    (base : Nat) (v : Value) (l m : List UInt8) (hs : a.eval sl = v) (hown : OwnB w base e v l) (hx : a.eval x = .string (st m))
    (hbytes : l.length + m.length ≤ 140737488355328) (hbase : base ≤ w.heap.size)
    (h : ∀ v' w', OwnB w' base e v' (l ++ m) → w.grownBy w' v.ownBlock → Moved w v v' → wpList P ops Q rest (a.put o.dst v') w') : wpList P ops Q (o :: rest) a w := by
  obtain ⟨i, hi, hz, hsize, hby⟩ := info_parts T.elem
  have hzm := st_size m
  refine wpList_plain hgd fun K hK => ?_
  obtain ⟨v', w', hr, h2, h3, h4⟩ := Lib.run_append_own_string (P := P) w base t u o.type e i T.under hu hi hz hsize hby v l.length (l.map bv) hown (st m) (by unfold maxLen; omega) (by omega) hbase
  have hmv := run_append_str_moved (P := P) w base t u o.type e i T.under hu hi hz hsize hby v l.length (l.map bv) hown (st m) (by unfold maxLen; omega) (by omega) v' w' hr
  unfold Oper.wp execOp
  simp only [ho, resolve, invoke, builtin, Sem.run_bind, Sem.run_pure, Result.andThen_ok, List.map_toArray, List.map_cons, List.map_nil, hs, hx, hr]
  refine hK _ _ (h v' w' ?_ h3 hmv)
  have e1 : Lib.strCells (st m) = m.map bv := by unfold Lib.strCells st bv; simp
  unfold OwnB
  rw [List.length_append, List.map_append, ← e1, ← hzm]
  exact h2

/-- .. of bytes; what was appended to is still there -/
theorem wpList_append_keep (T : BytesTy P t e) (hgd : o.guard = none) (s x : Operand)
    (ho : o.op = .call { callee := .builtin .append, args := #[s, x], argTypes := #[t, t] })
    (base : Nat) (v : Value) (l m : List UInt8) (hs : a.eval s = v) (hown : OwnB w base e v l)
    (ao : Option Addr) (n c : Nat) (hx : a.eval x = .slice ao n c) (hn : n = m.length) (hc : ao = none → c = 0) (hm : Rd w ao m)
    (hbytes : l.length + m.length ≤ 140737488355328) (hbase : base ≤ w.heap.size)
    (h : ∀ v' w', OwnB w' base e v' (l ++ m) → OwnB w' base e v l → w.grownBy w' v.ownBlock → Moved w v v' → wpList P ops Q rest (a.put o.dst v') w') : wpList P ops Q (o :: rest) a w := by
  subst hn
  cases ao with
  | none =>
    have hm0 : m = [] := by
      rcases hm with hm | ⟨b, off, h1, _⟩
      · exact hm
      · cases h1
    subst hm0
    have hc0 := hc rfl
    subst hc0
    obtain ⟨i, hi, _, _, _⟩ := info_parts T.elem
    refine wpList_append_own_none hgd s x t ho base e i 1 T.under hi v l.length (l.map bv) hs hown (by simpa using hx) ?_
    exact h v w (by simpa using hown) hown ⟨rfl, rfl, rfl, Nat.le_refl _, fun _ _ _ => rfl⟩ (.inl rfl)
  | some ad =>
    refine wpList_plain hgd fun K hK => ?_
    exact wp_append_bytes1 T s x ho base v l m hs hown ad m.length c hx rfl hm hbytes hbase fun v' w' q1 q2 q3 q4 => hK _ _ (h v' w' q1 q2 q3 q4)
end

theorem Apart.symm {w : World} {base : Nat} {e : TypeId} {v u : Value} {l : List UInt8} (h : Apart w v u) (hv : OwnB w base e v l) : Apart w u v := by
  intro g hg
  have h1 := (World.ownsRow.lt hv g hg).2
  refine ⟨fun q => (h g q).1 hg, h1⟩
end Go.Proofs.YtjkoiknjffldjaaGreatDoor
