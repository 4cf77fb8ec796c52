/-
  Where the bytes of a parser lie; other blocks are written. Condition: the parser stands in its bytes.
-/
import Derived.Test.YtjkoiknjffldjaaGreatDoorHh
/-
  Where the bytes of a parser lie; other blocks are written. Condition: the parser stands in its bytes.
-/
namespace Go.Proofs.YtjkoiknjffldjaaGreatDoor
open Go.RowKit
set_option linter.unusedVariables false

set_option maxRecDepth 100000 in
theorem cursor_new2 (g off cap : Nat) (b : List UInt8) (w : World) (h : Sl w (.slice (some ⟨g, off, none⟩) b.length cap) b) (hl : b.length ≤ 4000000) (h0 : 0 < b.length) :
    Calls Tryz.prog 76 #[.slice (some ⟨g, off, none⟩) b.length cap] w fun e w' => e = .returned (.pointer (some ⟨w.heap.size, 0, none⟩)) ∧ (∃ cap2, CurAt w' w.heap.size (some ⟨g, off, none⟩) cap2 b 0) ∧ Below w.heap.size w w' ∧ w'.heap.size = w.heap.size + 1 := by
  obtain ⟨ao, cap0, he, c1, c2, c3, c4⟩ := id h
  injection he with e1 e2 e3
  subst e1; subst e3
  have hz : ¬ (cap = 0) := by omega
  have bl : Below w.heap.size w (w.alloc (Obj.cells #[Value.slice (some ⟨g, off, none⟩) b.length b.length, Value.int IntKind.i64 0] 114)) := Below.alloc (Below.refl _ _) (Nat.le_refl _) _
  go_enter Tryz.func76, Tryz.ntmps76
  go_wp2
  go_ret
  refine ⟨rfl, ⟨b.length, ⟨?_, ?_, ?_, c4.up bl, Nat.le_refl _, by omega, (fun q => by cases q), Nat.zero_le _, hl, ?_⟩⟩, bl, by simp⟩
  · rw [World.cell?_alloc_at _ _ _ _ rfl]; rfl
  · rw [World.cell?_alloc_at _ _ _ _ rfl]; rfl
  · exact World.frozen?_alloc_at _ _ _ _ rfl
  · intro h0 a ha
    obtain ⟨bb, off, h1, h2, _⟩ := c4.some h0
    rw [h1] at ha; injection ha with ha; subst ha
    show bb ≠ w.heap.size
    omega
theorem lex_new2 (g off cap : Nat) (b : List UInt8) (w : World) (h : Sl w (.slice (some ⟨g, off, none⟩) b.length cap) b) (hl : b.length ≤ 4000000) (h0 : 0 < b.length) :
    Calls Tryz.prog 59 #[.slice (some ⟨g, off, none⟩) b.length cap] w fun e w' => e = .returned (.pointer (some ⟨w.heap.size + 1, 0, none⟩)) ∧ (∃ cap2, LexAt w' (w.heap.size + 1) w.heap.size (some ⟨g, off, none⟩) cap2 b 0 (.int .i64 0) (.slice none 0 0)) ∧ Below w.heap.size w w' := by
  go_enter Tryz.func59, Tryz.ntmps59
  go_wp2_with (go_at_call 76; refine (cursor_new2 g off cap b w h hl h0).mono ?_; rintro e w1 ⟨rfl, ⟨cap2, hc⟩, hb, hsz⟩)
  have al : Below w1.heap.size w1 (w1.alloc (Obj.cells #[Value.pointer (some ⟨w.heap.size, 0, none⟩), Value.int IntKind.i64 0, Value.slice none 0 0] 83)) := Below.alloc (Below.refl _ _) (Nat.le_refl _) _
  go_ret
  refine ⟨rfl, ⟨cap2, ⟨hc.same al, ?_, ?_, ?_, ?_, ?_, by omega, ?_⟩⟩, below_then hb al⟩
  · rw [World.cell?_alloc_at _ _ _ _ hsz.symm]; rfl
  · rw [World.cell?_alloc_at _ _ _ _ hsz.symm]; rfl
  · rw [World.cell?_alloc_at _ _ _ _ hsz.symm]; rfl
  · exact World.frozen?_alloc_at _ _ _ _ hsz.symm
  · exact World.frozen?_alloc_at _ _ _ _ hsz.symm
  · intro h0 a ha
    obtain ⟨bb, off, h1, h2, _⟩ := hc.rd.some h0
    rw [h1] at ha; injection ha with ha; subst ha
    show bb ≠ w.heap.size + 1
    omega
/-- where a parser's bytes lie -/
def RowAt (w : World) (cp : Nat) (b : List UInt8) (P : Nat → Prop) : Prop := ∃ ao cap, w.cell? ⟨cp, 0, none⟩ = some (.slice ao b.length cap) ∧ (0 < b.length → ∀ a, ao = some a → P a.block)
set_option maxRecDepth 100000 in
theorem parse_new2 (g off cap : Nat) (b : List UInt8) (n : Int) (w : World) (h : Sl w (.slice (some ⟨g, off, none⟩) b.length cap) b) (hl : b.length ≤ 4000000) (h0 : 0 < b.length) :
    Calls Tryz.prog 35 #[.slice (some ⟨g, off, none⟩) b.length cap, .int .i64 n] w fun e w' => ∃ pp lp cp, e = .returned (.pointer (some ⟨pp, 0, none⟩)) ∧ w.heap.size ≤ pp ∧ w.heap.size ≤ lp ∧ w.heap.size ≤ cp ∧ Ps false w' w' pp lp cp b 0 b ∧ w'.cell? ⟨pp, 1, none⟩ = some (.int .i64 (min (max n 0) 28)) ∧ Below w.heap.size w w' ∧ RowAt w' cp b (fun k => k = g) := by
  go_enter Tryz.func35, Tryz.ntmps35
  go_wp2_with (go_at_call 59; refine (lex_new2 g off cap b _ h hl h0).mono ?_; rintro e w2 ⟨rfl, ⟨cap2, hq⟩, hb2⟩)
  go_ret
  have hL := Lx.start hq
  have z1 := World.block_lt_of_cell? _ _ hL.p0
  have z2 := World.block_lt_of_cell? _ _ hq.cur.c0
  refine ⟨_, _, _, rfl, hb2.size, by omega, Nat.le_refl _, ⟨⟨_, _, (hL.below (alb w2 _)).fresh⟩, ?_, ?_, ?_, ?_⟩, ?_, hb2.trans ((alb w2 _).mono hb2.size), ⟨_, cap2, cell_up' (alb w2 _) hq.cur.c0, fun _ a ha => by injection ha with ha; subst ha; rfl⟩⟩
  · rw [World.cell?_alloc_at _ _ _ _ rfl]; rfl
  · rw [World.cell?_alloc_at _ _ _ _ rfl]; rfl
  · exact Ne.symm (Nat.ne_of_lt z1)
  · exact Ne.symm (Nat.ne_of_lt z2)
  · rw [World.cell?_alloc_at _ _ _ _ rfl]; rfl
theorem Ps.row {q : Bool} {w0 w : World} {pp lp cp : Nat} {b s : List UInt8} {i : Nat} (h : Ps q w0 w pp lp cp b i s) : RowAt w cp b (fun k => k < w0.heap.size) := by
  obtain ⟨m, v, hL⟩ := h.lx
  obtain ⟨ao, cap, h1, h2⟩ := hL.lex
  exact ⟨ao, cap, h1.cur.c0, fun h0 a ha => h2.ao h0 a ha⟩
theorem RowAt.imp {w : World} {cp : Nat} {b : List UInt8} {P Q : Nat → Prop} (h : RowAt w cp b P) (k : ∀ g, P g → Q g) : RowAt w cp b Q := by
  obtain ⟨ao, cap, h1, h2⟩ := h
  exact ⟨ao, cap, h1, fun h0 a ha => k _ (h2 h0 a ha)⟩
theorem parse_new_row (v : Value) (b : List UInt8) (n : Int) (w : World) (h : Sl w v b) (hl : b.length ≤ 4000000) :
    Calls Tryz.prog 35 #[v, .int .i64 n] w fun e w' => ∃ pp lp cp, e = .returned (.pointer (some ⟨pp, 0, none⟩)) ∧ w.heap.size ≤ pp ∧ w.heap.size ≤ lp ∧ w.heap.size ≤ cp ∧ Ps false w' w' pp lp cp b 0 b ∧ w'.cell? ⟨pp, 1, none⟩ = some (.int .i64 (min (max n 0) 28)) ∧ Below w.heap.size w w' ∧ RowAt w' cp b (fun k => v.ownBlock = some k) := by
  obtain ⟨ao, cap, rfl, -, -, -, hr⟩ := id h
  rcases Nat.eq_zero_or_pos b.length with h0 | h0
  · refine (parse_new _ b n w h hl).mono ?_
    rintro e w' ⟨pp, lp, cp, h1, h2, h3, h4, h5, h6, h7⟩
    obtain ⟨ao2, cap2, k1, -⟩ := h5.row
    exact ⟨pp, lp, cp, h1, h2, h3, h4, h5, h6, h7, ao2, cap2, k1, fun q => by omega⟩
  · obtain ⟨g, off, rfl, -, -⟩ := hr.some h0
    refine (parse_new2 g off cap b n w h hl h0).mono ?_
    rintro e w' ⟨pp, lp, cp, h1, h2, h3, h4, h5, h6, h7, h8⟩
    exact ⟨pp, lp, cp, h1, h2, h3, h4, h5, h6, h7, h8.imp fun k hk => by subst hk; rfl⟩

/-- the bytes of a parser stay where they lie -/
theorem RowAt.step {q : Bool} {w w' : World} {pp lp cp : Nat} {b s : List UInt8} {i : Nat} {P : Nat → Prop} (h : RowAt w cp b P) (k : Ps q w w' pp lp cp b i s) : RowAt w' cp b P := by
  obtain ⟨ao, cap, h1, h2⟩ := h
  obtain ⟨m, v, hL⟩ := k.lx
  obtain ⟨ao', cap', k1, k2⟩ := hL.lex
  have e := k2.c0
  rw [h1] at e
  injection e with e
  injection e with e1 e2 e3
  subst e1
  exact ⟨ao, cap', k1.cur.c0, h2⟩
/-- other blocks were written -/
theorem Ps.side {q : Bool} {w w' : World} {pp lp cp : Nat} {b s : List UInt8} {i x y : Nat} (h : Ps q w w pp lp cp b i s) (hr : RowAt w cp b (fun k => k ≠ x ∧ k ≠ y)) (hh : Held w.heap.size x y w w') (h1 : pp ≠ x ∧ pp ≠ y) (h2 : lp ≠ x ∧ lp ≠ y) (h3 : cp ≠ x ∧ cp ≠ y) : Ps q w' w' pp lp cp b i s := by
  obtain ⟨m, v, hL⟩ := h.lx
  obtain ⟨ao', cap', k1, k2⟩ := hL.lex
  obtain ⟨ao, cap, r1, r2⟩ := hr
  have e := k2.c0
  rw [r1] at e
  injection e with e
  injection e with e1 e2 e3
  subst e1
  have hl := Lx.start (k1.held hh h2 h3 r2)
  rw [hL.drp] at hl
  exact ⟨⟨m, v, hl⟩, hh.cell' h.c0 h1.1 h1.2, hh.cell' h.c2 h1.1 h1.2, h.nl, h.nc⟩

theorem RowAt.up {w w' : World} {cp : Nat} {b : List UInt8} {P : Nat → Prop} (h : RowAt w cp b P) (hb : Below w.heap.size w w') : RowAt w' cp b P := by
  obtain ⟨ao, cap, h1, h2⟩ := h
  exact ⟨ao, cap, cell_up' hb h1, h2⟩
end Go.Proofs.YtjkoiknjffldjaaGreatDoor
