/-
  What stays as it was but for two blocks; a cursor and a lexer in memory over that.
-/
import Derived.Test.YtlmgklebikcbjaaGreatCur
namespace Go.Proofs.YtlmgklebikcbjaaGreat
open Go.RowKit
set_option linter.unusedVariables false


/-- every block below B but p and q is as it was -/
structure Held (B p q : Nat) (w w' : World) : Prop where
  os : w'.os = w.os
  tape : w'.tape = w.tape
  output : w'.output = w.output
  size : w.heap.size ≤ w'.heap.size
  block : ∀ k, k < B → k ≠ p → k ≠ q → w'.heap[k]? = w.heap[k]?

theorem Held.refl (B p q : Nat) (w : World) : Held B p q w w := ⟨rfl, rfl, rfl, Nat.le_refl _, fun _ _ _ _ => rfl⟩
theorem Held.trans {B p q : Nat} {a b c : World} (h : Held B p q a b) (k : Held B p q b c) : Held B p q a c :=
  ⟨k.os.trans h.os, k.tape.trans h.tape, k.output.trans h.output, Nat.le_trans h.size k.size, fun i hi h1 h2 => (k.block i hi h1 h2).trans (h.block i hi h1 h2)⟩
theorem Held.mono {B B' p q : Nat} {w w' : World} (h : Held B p q w w') (hB : B' ≤ B) : Held B' p q w w' := ⟨h.os, h.tape, h.output, h.size, fun k hk => h.block k (Nat.lt_of_lt_of_le hk hB)⟩
/-- one world on: what was held of the later world's blocks is held of the earlier one's -/
theorem Held.then {p q : Nat} {a b c : World} (h : Held a.heap.size p q a b) (k : Held b.heap.size p q b c) : Held a.heap.size p q a c := h.trans (k.mono h.size)
/-- the same, over blocks below an earlier B -/
theorem Held.then' {B p q : Nat} {a b c : World} (h : Held B p q a b) (k : Held b.heap.size p q b c) (hB : B ≤ a.heap.size := by exact Nat.le_refl _) : Held B p q a c := h.trans (k.mono (Nat.le_trans hB h.size))
theorem Held.of_below {B p q : Nat} {w w' : World} (h : Below B w w') : Held B p q w w' := ⟨h.os, h.tape, h.output, h.size, fun k hk _ _ => h.block k hk⟩
theorem Held.below {B B' p q : Nat} {w w' : World} (h : Held B p q w w') (hB : B' ≤ B) (hp : B' ≤ p) (hq : B' ≤ q) : Below B' w w' := ⟨h.os, h.tape, h.output, h.size, fun k hk => h.block k (by omega) (by omega) (by omega)⟩
theorem Held.drewN {B p q : Nat} (w : World) (n : Nat) : Held B p q w (w.drewN n) := .of_below (below_drewN (Below.refl _ _) n)
theorem Held.widen {B p q r s : Nat} {w w' : World} (h : Held B p q w w') (hp : p = r ∨ p = s ∨ B ≤ p) (hq : q = r ∨ q = s ∨ B ≤ q) : Held B r s w w' :=
  ⟨h.os, h.tape, h.output, h.size, fun k hk h1 h2 => h.block k hk (by omega) (by omega)⟩
theorem Held.set {B p q : Nat} (w : World) (a : Addr) (u : Value) (h : a.block = p ∨ a.block = q ∨ B ≤ a.block) : Held B p q w (w.setCell a u) :=
  ⟨rfl, rfl, rfl, by simp, fun k hk h1 h2 => heap_setCell_other w a k u (by omega)⟩
theorem Held.grown {B p q : Nat} {w w' : World} {row : Option Nat} (hg : w.grownBy w' row) (hB : B ≤ w.heap.size) (hr : ∀ k, row = some k → B ≤ k) : Held B p q w w' :=
  .of_below ((Below.refl _ _).grown hg hB hr)
theorem Held.cell {B p q : Nat} {w w' : World} (h : Held B p q w w') {a : Addr} (ha : a.block < B) (hp : a.block ≠ p) (hq : a.block ≠ q) : w'.cell? a = w.cell? a := World.cell?_of_block (w := w) (h.block a.block ha hp hq)
theorem Held.frozen {B p q : Nat} {w w' : World} (h : Held B p q w w') {a : Addr} (ha : a.block < B) (hp : a.block ≠ p) (hq : a.block ≠ q) : w'.frozen? a = w.frozen? a := World.frozen?_of_block (w := w) (h.block a.block ha hp hq)
theorem Held.cell' {p q : Nat} {w w' : World} (h : Held w.heap.size p q w w') {a : Addr} {v : Value} (hc : w.cell? a = some v) (hp : a.block ≠ p) (hq : a.block ≠ q) : w'.cell? a = some v := by
  rw [h.cell (World.block_lt_of_cell? w _ hc) hp hq]; exact hc

theorem Rd.held {p q : Nat} {w w' : World} {ao : Option Addr} {l : List UInt8} (h : Rd w ao l) (hb : Held w.heap.size p q w w') (hn : 0 < l.length → ∀ a, ao = Option.some a → a.block ≠ p ∧ a.block ≠ q) : Rd w' ao l := by
  rcases h with h | ⟨b, off, h1, h2⟩
  · exact .inl h
  · rcases Nat.eq_zero_or_pos l.length with h0 | h0
    · exact .inl (List.length_eq_zero_iff.1 h0)
    · refine .inr ⟨b, off, h1, fun j hj => ?_⟩
      have h3 := hn h0 _ h1
      exact hb.cell' (h2 j hj) h3.1 h3.2

theorem OwnB.held {p q : Nat} {w w' : World} {base : Nat} {e : TypeId} {v : Value} {l : List UInt8} (h : OwnB w base e v l) (hb : Held w.heap.size p q w w') (hn : ∀ g, v.ownBlock = some g → g ≠ p ∧ g ≠ q) : OwnB w' base e v l := by
  obtain ⟨h1, h2⟩ := h
  refine ⟨h1, ?_⟩
  rcases h2 with h2 | ⟨g, cap, cur, hv, hg, hh, h3⟩
  · exact .inl h2
  · refine .inr ⟨g, cap, cur, hv, hg, ?_, h3⟩
    have h4 := hn g (by rw [hv]; rfl)
    have hlt : g < w.heap.size := by
      rcases Nat.lt_or_ge g w.heap.size with q | q
      · exact q
      · rw [Array.getElem?_eq_none q] at hh; cases hh
    rw [hb.block g hlt h4.1 h4.2]; exact hh

theorem OwnB.grow {w w' : World} {base : Nat} {e : TypeId} {v : Value} {l : List UInt8} {row : Option Nat} (h : OwnB w base e v l) (hg : w.grownBy w' row) (hr : v.ownBlock = none ∨ v.ownBlock ≠ row) : OwnB w' base e v l := World.ownsRow.kept h hg hr

theorem cset {w : World} {p : Addr} {u v : Value} (h : w.cell? p = some u) : (w.setCell p v).cell? p = some v := World.cell?_setCell_same' w p v (by rw [h]; rfl)
theorem cset_ne {w : World} {p q : Addr} {v : Value} (h : p ≠ q) : (w.setCell p v).cell? q = w.cell? q := by
  first | exact World.cell?_setCell_other w p q v h | exact World.cell?_setCell_other _ _ _ h | exact World.cell?_setCell_other (h := h) ..

/-- where a cursor stands behind one byte -/
def nx (b : List UInt8) (i : Nat) : Nat := if i < b.length then i + 1 else i
theorem nx_in {b : List UInt8} {i : Nat} (h : i < b.length) : nx b i = i + 1 := by simp [nx, h]
theorem nx_out {b : List UInt8} {i : Nat} (h : b.length ≤ i) : nx b i = i := by simp [nx]; omega
theorem nx_le {b : List UInt8} {i : Nat} (h : i ≤ b.length) : nx b i ≤ b.length := by unfold nx; split <;> omega

theorem CurAt.set {w : World} {cp : Nat} {ao : Option Addr} {cap : Nat} {b : List UInt8} {i j : Nat} (h : CurAt w cp ao cap b i) (hj : j ≤ b.length) : CurAt (w.setCell ⟨cp, 1, none⟩ (.int .i64 j)) cp ao cap b j := by
  refine ⟨?_, ?_, ?_, ?_, h.le, h.mx, h.ni, hj, h.sm, h.ne⟩
  · rw [cset_ne (by simp)]; exact h.c0
  · exact cset h.c1
  · rw [World.frozen?_setCell]; exact h.f1
  · exact h.rd.held (p := cp) (q := cp) (Held.set w ⟨cp, 1, none⟩ _ (.inl rfl)) (fun h0 a ha => ⟨h.ne h0 a ha, h.ne h0 a ha⟩)

theorem CurAt.held {p q : Nat} {w w' : World} {cp : Nat} {ao : Option Addr} {cap : Nat} {b : List UInt8} {i : Nat} (h : CurAt w cp ao cap b i) (hb : Held w.heap.size p q w w') (hp : cp ≠ p) (hq : cp ≠ q) (hn : 0 < b.length → ∀ a, ao = some a → a.block ≠ p ∧ a.block ≠ q) : CurAt w' cp ao cap b i := by
  have hc := World.block_lt_of_cell? _ _ h.c0
  exact ⟨hb.cell' h.c0 hp hq, hb.cell' h.c1 hp hq, by rw [hb.frozen (a := ⟨cp, 1, none⟩) hc hp hq]; exact h.f1, h.rd.held hb hn, h.le, h.mx, h.ni, h.at_, h.sm, h.ne⟩

/-- block lp is a lexer over the cursor cp; its bound m, what it has read v -/
structure LexAt (w : World) (lp cp : Nat) (ao : Option Addr) (cap : Nat) (b : List UInt8) (i : Nat) (m v : Value) : Prop where
  cur : CurAt w cp ao cap b i
  p0 : w.cell? ⟨lp, 0, none⟩ = some (.pointer (some ⟨cp, 0, none⟩))
  p1 : w.cell? ⟨lp, 1, none⟩ = some m
  p2 : w.cell? ⟨lp, 2, none⟩ = some v
  f1 : w.frozen? ⟨lp, 1, none⟩ = false
  f2 : w.frozen? ⟨lp, 2, none⟩ = false
  ne : lp ≠ cp
  na : 0 < b.length → ∀ a, ao = some a → a.block ≠ lp

theorem LexAt.cur' {w w' : World} {lp cp : Nat} {ao : Option Addr} {cap : Nat} {b : List UInt8} {i j : Nat} {m v : Value} (h : LexAt w lp cp ao cap b i m v) (hc : CurAt w' cp ao cap b j) (hb : Held w.heap.size cp cp w w') : LexAt w' lp cp ao cap b j m v := by
  have hl := World.block_lt_of_cell? _ _ h.p0
  exact ⟨hc, hb.cell' h.p0 h.ne h.ne, hb.cell' h.p1 h.ne h.ne, hb.cell' h.p2 h.ne h.ne, by rw [hb.frozen (a := ⟨lp, 1, none⟩) hl h.ne h.ne]; exact h.f1, by rw [hb.frozen (a := ⟨lp, 2, none⟩) hl h.ne h.ne]; exact h.f2, h.ne, h.na⟩

theorem LexAt.held {p q : Nat} {w w' : World} {lp cp : Nat} {ao : Option Addr} {cap : Nat} {b : List UInt8} {i : Nat} {m v : Value} (h : LexAt w lp cp ao cap b i m v) (hb : Held w.heap.size p q w w')
    (h1 : lp ≠ p ∧ lp ≠ q) (h2 : cp ≠ p ∧ cp ≠ q) (hn : 0 < b.length → ∀ a, ao = some a → a.block ≠ p ∧ a.block ≠ q) : LexAt w' lp cp ao cap b i m v := by
  have hl := World.block_lt_of_cell? _ _ h.p0
  exact ⟨h.cur.held hb h2.1 h2.2 hn, hb.cell' h.p0 h1.1 h1.2, hb.cell' h.p1 h1.1 h1.2, hb.cell' h.p2 h1.1 h1.2, by rw [hb.frozen (a := ⟨lp, 1, none⟩) hl h1.1 h1.2]; exact h.f1, by rw [hb.frozen (a := ⟨lp, 2, none⟩) hl h1.1 h1.2]; exact h.f2, h.ne, h.na⟩

theorem LexAt.same {w w' : World} {lp cp : Nat} {ao : Option Addr} {cap : Nat} {b : List UInt8} {i : Nat} {m v : Value} (h : LexAt w lp cp ao cap b i m v) (hb : Below w.heap.size w w') : LexAt w' lp cp ao cap b i m v := by
  have hl := World.block_lt_of_cell? _ _ h.p0
  exact ⟨h.cur.same hb, cell_up' hb h.p0, cell_up' hb h.p1, cell_up' hb h.p2, by rw [hb.frozen (p := ⟨lp, 1, none⟩) hl]; exact h.f1, by rw [hb.frozen (p := ⟨lp, 2, none⟩) hl]; exact h.f2, h.ne, h.na⟩

theorem LexAt.set1 {w : World} {lp cp : Nat} {ao : Option Addr} {cap : Nat} {b : List UInt8} {i : Nat} {m v m' : Value} (h : LexAt w lp cp ao cap b i m v) : LexAt (w.setCell ⟨lp, 1, none⟩ m') lp cp ao cap b i m' v := by
  refine ⟨h.cur.held (p := lp) (q := lp) (Held.set w ⟨lp, 1, none⟩ _ (.inl rfl)) h.ne.symm h.ne.symm (fun h0 a ha => ⟨h.na h0 a ha, h.na h0 a ha⟩), ?_, ?_, ?_, ?_, ?_, h.ne, h.na⟩
  · rw [cset_ne (by simp)]; exact h.p0
  · exact cset h.p1
  · rw [cset_ne (by simp)]; exact h.p2
  · rw [World.frozen?_setCell]; exact h.f1
  · rw [World.frozen?_setCell]; exact h.f2

theorem LexAt.set2 {w : World} {lp cp : Nat} {ao : Option Addr} {cap : Nat} {b : List UInt8} {i : Nat} {m v v' : Value} (h : LexAt w lp cp ao cap b i m v) : LexAt (w.setCell ⟨lp, 2, none⟩ v') lp cp ao cap b i m v' := by
  refine ⟨h.cur.held (p := lp) (q := lp) (Held.set w ⟨lp, 2, none⟩ _ (.inl rfl)) h.ne.symm h.ne.symm (fun h0 a ha => ⟨h.na h0 a ha, h.na h0 a ha⟩), ?_, ?_, ?_, ?_, ?_, h.ne, h.na⟩
  · rw [cset_ne (by simp)]; exact h.p0
  · rw [cset_ne (by simp)]; exact h.p1
  · exact cset h.p2
  · rw [World.frozen?_setCell]; exact h.f1
  · rw [World.frozen?_setCell]; exact h.f2
end Go.Proofs.YtlmgklebikcbjaaGreat
