/-
  A lexer that stands at place i, with the bytes s from there on, since a world w0; its methods in these words. Condition: the lexer stands in its bytes.
-/
import Derived.Test.YtlmgklebikcbjaaGreatPut
namespace Go.Proofs.YtlmgklebikcbjaaGreat
open Go.RowKit
set_option linter.unusedVariables false

/-- the first byte, -1 where there is none -/
def hd : List UInt8 → Int
  | [] => -1
  | x :: _ => c8 x
theorem hd_nil : hd [] = -1 := rfl
theorem hd_cons (x : UInt8) (s : List UInt8) : hd (x :: s) = c8 x := rfl
theorem c8_ge (x : UInt8) : 0 ≤ c8 x := by unfold c8; omega
theorem c8_le (x : UInt8) : c8 x ≤ 255 := by unfold c8; have := x.toNat_lt; omega
theorem hd_ge (s : List UInt8) : -1 ≤ hd s := by cases s with | nil => simp [hd] | cons x s => have := c8_ge x; rw [hd_cons]; omega
theorem hd_le (s : List UInt8) : hd s ≤ 255 := by cases s with | nil => simp [hd] | cons x s => exact c8_le x
theorem byteOf_c8 (x : UInt8) : byteOf (c8 x) = x := by
  unfold byteOf c8
  have := x.toNat_lt
  rw [show ((x.toNat : Int) % 256).toNat = x.toNat by omega]; simp

theorem pk_drop {b : List UInt8} {j : Nat} : pk b j = hd (b.drop j) := by
  by_cases h : j < b.length
  · obtain ⟨x, h1, h2⟩ := drop_at h
    rw [h1, pk_in h]; exact h2.symm
  · rw [drop_end h, pk_out (by omega)]; rfl
theorem pk_drop_add {b s : List UInt8} {i : Nat} (h : b.drop i = s) (k : Nat) : pk b ((i : Int) + (k : Int)) = hd (s.drop k) := by
  rw [← Int.natCast_add, pk_drop, ← h, List.drop_drop]
theorem drop_succ_of {b t : List UInt8} {i : Nat} {x : UInt8} (h : b.drop i = x :: t) : b.drop (i + 1) = t := by
  rw [← List.drop_drop, h]; rfl
theorem lt_of_drop {b t : List UInt8} {i : Nat} {x : UInt8} (h : b.drop i = x :: t) : i < b.length := by
  rcases Nat.lt_or_ge i b.length with q | q
  · exact q
  · rw [List.drop_eq_nil_of_le q] at h; cases h
theorem ge_of_drop {b : List UInt8} {i : Nat} (h : b.drop i = []) : b.length ≤ i := by
  have := congrArg List.length h; simp at this; omega

theorem OwnB.base {w : World} {base base' : Nat} {e : TypeId} {v : Value} {l : List UInt8} (h : OwnB w base e v l) (hb : base' ≤ base) : OwnB w base' e v l := by
  obtain ⟨h1, h2⟩ := h
  refine ⟨h1, ?_⟩
  rcases h2 with h2 | ⟨g, cap, cur, hv, hg, hh⟩
  · exact .inl h2
  · exact .inr ⟨g, cap, cur, hv, Nat.le_trans hb hg, hh⟩

/-- how many bytes a cursor has left -/
def remOf (w : World) (cp : Nat) : Nat := match w.cell? ⟨cp, 0, none⟩, w.cell? ⟨cp, 1, none⟩ with | some (.slice _ n _), some (.int _ i) => n - i.toNat | _, _ => 0

/-- a lexer's blocks and its bytes lay in w0 -/
structure LowS (w0 : World) (lpN cpN : Nat) (aoN : Option Addr) (cap : Nat) (b : List UInt8) : Prop extends Low w0.heap.size lpN cpN aoN b where
  c0 : w0.cell? ⟨cpN, 0, none⟩ = some (.slice aoN b.length cap)

/-- block lp is a lexer over the cursor cp, at place i of b, s stands from there on; since w0 all but lp, cp is as it was; u is a row made since w0 -/
structure Lx (w0 w : World) (lp cp : Nat) (b : List UInt8) (i : Nat) (s : List UInt8) (m v u : Value) (out : List UInt8) : Prop where
  drp : b.drop i = s
  lex : ∃ ao cap, LexAt w lp cp ao cap b i m v ∧ LowS w0 lp cp ao cap b
  held : Held w0.heap.size lp cp w0 w
  row : OwnB w w0.heap.size 5 u out

section
variable {w0 w w' : World} {lp cp : Nat} {b : List UInt8} {i : Nat} {s t : List UInt8} {m v u : Value} {out : List UInt8} {x : UInt8}

theorem Lx.start {ao : Option Addr} {cap : Nat} (h : LexAt w lp cp ao cap b i m v) : Lx w w lp cp b i (b.drop i) m v (.slice none 0 0) [] :=
  ⟨rfl, ⟨ao, cap, h, ⟨h.low, h.cur.c0⟩⟩, Held.refl _ _ _ _, OwnB.nil _ _ _⟩

theorem Lx.p0 (h : Lx w0 w lp cp b i s m v u out) : w.cell? ⟨lp, 0, none⟩ = some (.pointer (some ⟨cp, 0, none⟩)) := by
  obtain ⟨ao, cap, h1, h2⟩ := h.lex; exact h1.p0
theorem Lx.at_ (h : Lx w0 w lp cp b i s m v u out) : i + s.length = b.length := by
  obtain ⟨ao, cap, h1, h2⟩ := h.lex
  have := h1.cur.at_
  rw [← h.drp, List.length_drop]; omega
theorem Lx.sm (h : Lx w0 w lp cp b i s m v u out) : b.length ≤ 1000000 := by
  obtain ⟨ao, cap, h1, h2⟩ := h.lex; exact h1.cur.sm
theorem Lx.rem (h : Lx w0 w lp cp b i s m v u out) : remOf w cp = s.length := by
  obtain ⟨ao, cap, h1, h2⟩ := h.lex
  have := h1.cur.at_
  unfold remOf; rw [h1.cur.c0, h1.cur.c1, ← h.drp, List.length_drop]; simp
theorem Lx.size (h : Lx w0 w lp cp b i s m v u out) : w0.heap.size ≤ w.heap.size := h.held.size

/-- a row made since w0 is not touched where only lp, cp are -/
theorem Lx.keep (h : Lx w0 w lp cp b i s m v u out) (hh : Held w.heap.size lp cp w w') {v2 : Value} {l2 : List UInt8} (hr : OwnB w w0.heap.size 5 v2 l2) : OwnB w' w0.heap.size 5 v2 l2 := by
  obtain ⟨ao, cap, h1, h2⟩ := h.lex
  refine hr.held hh fun g hg => ?_
  have h3 := (World.ownsRow.lt hr g hg).1
  have := h2.lp
  have := h2.cp
  exact ⟨by omega, by omega⟩

theorem Lx.next (h : Lx w0 w lp cp b i s m v u out) {ao : Option Addr} {cap j : Nat} {m' v' : Value} {s' : List UInt8} (hl : LexAt w' lp cp ao cap b j m' v') (hlow : LowS w0 lp cp ao cap b) (hs : b.drop j = s') (hh : Held w.heap.size lp cp w w') : Lx w0 w' lp cp b j s' m' v' u out :=
  ⟨hs, ⟨ao, cap, hl, hlow⟩, h.held.then' hh, h.keep hh h.row⟩

theorem Lx.below (h : Lx w0 w lp cp b i s m v u out) (hb : Below w.heap.size w w') : Lx w0 w' lp cp b i s m v u out := by
  obtain ⟨ao, cap, h1, h2⟩ := h.lex
  exact h.next (h1.same hb) h2 h.drp (Held.of_below hb)
theorem Lx.drew (h : Lx w0 w lp cp b i s m v u out) (n : Nat) : Lx w0 (w.drewN n) lp cp b i s m v u out := h.below (below_drewN (Below.refl _ _) n)
/-- another row -/
theorem Lx.take (h : Lx w0 w lp cp b i s m v u out) {u2 : Value} {l2 : List UInt8} (hr : OwnB w w0.heap.size 5 u2 l2) : Lx w0 w lp cp b i s m v u2 l2 := ⟨h.drp, h.lex, h.held, hr⟩
theorem Lx.bare (h : Lx w0 w lp cp b i s m v u out) : Lx w0 w lp cp b i s m v (.slice none 0 0) [] := h.take (OwnB.nil _ _ _)

/-- from here on anew -/
theorem Lx.fresh (h : Lx w0 w lp cp b i s m v u out) : Lx w w lp cp b i s m v (.slice Option.none 0 0) [] := by
  obtain ⟨ao, cap, h1, h2⟩ := h.lex
  exact ⟨h.drp, ⟨ao, cap, h1, ⟨h2.toLow.mono h.held.size, h1.cur.c0⟩⟩, Held.refl _ _ _ _, OwnB.nil _ _ _⟩
theorem Lx.join (h : Lx w0 w lp cp b i s m v u out) {j : Nat} {s' : List UInt8} {m' v' u' : Value} {out' : List UInt8} (k : Lx w w' lp cp b j s' m' v' u' out') : Lx w0 w' lp cp b j s' m' v' u' out' := by
  obtain ⟨ao, cap, h1, h2⟩ := h.lex
  obtain ⟨ao', cap', k1, k2⟩ := k.lex
  have e := k2.c0
  rw [h1.cur.c0] at e
  injection e with e
  injection e with e1 e2 e3
  subst e1; subst e3
  exact ⟨k.drp, ⟨_, _, k1, h2⟩, h.held.then' k.held, k.row.base h.held.size⟩

theorem Lx.set1 (h : Lx w0 w lp cp b i s m v u out) {m' : Value} : Lx w0 (w.setCell ⟨lp, 1, none⟩ m') lp cp b i s m' v u out := by
  obtain ⟨ao, cap, h1, h2⟩ := h.lex
  exact h.next h1.set1 h2 h.drp (Held.set _ _ _ (.inl rfl))
theorem Lx.set2 (h : Lx w0 w lp cp b i s m v u out) {v' : Value} : Lx w0 (w.setCell ⟨lp, 2, none⟩ v') lp cp b i s m v' u out := by
  obtain ⟨ao, cap, h1, h2⟩ := h.lex
  exact h.next h1.set2 h2 h.drp (Held.set _ _ _ (.inl rfl))
theorem Lx.p1 (h : Lx w0 w lp cp b i s m v u out) : w.cell? ⟨lp, 1, none⟩ = some m := by
  obtain ⟨ao, cap, h1, h2⟩ := h.lex; exact h1.p1
theorem Lx.p2 (h : Lx w0 w lp cp b i s m v u out) : w.cell? ⟨lp, 2, none⟩ = some v := by
  obtain ⟨ao, cap, h1, h2⟩ := h.lex; exact h1.p2
theorem Lx.f1 (h : Lx w0 w lp cp b i s m v u out) : w.frozen? ⟨lp, 1, none⟩ = false := by
  obtain ⟨ao, cap, h1, h2⟩ := h.lex; exact h1.f1
theorem Lx.f2 (h : Lx w0 w lp cp b i s m v u out) : w.frozen? ⟨lp, 2, none⟩ = false := by
  obtain ⟨ao, cap, h1, h2⟩ := h.lex; exact h1.f2

theorem peekn (n : Nat) (hn : n ≤ 1000000) (h : Lx w0 w lp cp b i s m v u out) :
    Calls Tryz.prog 39 #[.pointer (some ⟨cp, 0, none⟩), .int .i64 n] w fun e w' => e = .returned (.int .i64 (hd (s.drop n))) ∧ Lx w0 w' lp cp b i s m v u out ∧ ∃ n, w' = w.drewN n := by
  obtain ⟨ao, cap, h1, h2⟩ := h.lex
  refine (peek_any cp ao cap b i n w h1.cur (by omega) (by omega)).mono ?_
  rintro e w' ⟨rfl, k, rfl⟩
  exact ⟨by rw [pk_drop_add h.drp n], h.drew k, k, rfl⟩
theorem peek0 (h : Lx w0 w lp cp b i s m v u out) :
    Calls Tryz.prog 39 #[.pointer (some ⟨cp, 0, none⟩), .int .i64 0] w fun e w' => e = .returned (.int .i64 (hd s)) ∧ Lx w0 w' lp cp b i s m v u out ∧ ∃ n, w' = w.drewN n := peekn 0 (by decide) h
theorem peek1 (h : Lx w0 w lp cp b i s m v u out) :
    Calls Tryz.prog 39 #[.pointer (some ⟨cp, 0, none⟩), .int .i64 1] w fun e w' => e = .returned (.int .i64 (hd s.tail)) ∧ Lx w0 w' lp cp b i s m v u out ∧ ∃ n, w' = w.drewN n := by
  have := peekn 1 (by decide) h
  rw [List.drop_one] at this; exact this
theorem qpeek0 (n : Nat) (h : Lx w0 w lp cp b i s m v u out) :
    Calls Tryz.prog 39 #[.pointer (some ⟨cp, 0, none⟩), .int .i64 0] (w.drewN n) fun e w' => e = .returned (.int .i64 (hd s)) ∧ ∃ n, w' = w.drewN n := by
  refine (peek0 (h.drew n)).mono ?_
  rintro e w' ⟨h1, -, m, h2⟩
  exact ⟨h1, n + m, by rw [h2, World.drewN_drewN]⟩
theorem qpeek1 (n : Nat) (h : Lx w0 w lp cp b i s m v u out) :
    Calls Tryz.prog 39 #[.pointer (some ⟨cp, 0, none⟩), .int .i64 1] (w.drewN n) fun e w' => e = .returned (.int .i64 (hd s.tail)) ∧ ∃ n, w' = w.drewN n := by
  refine (peek1 (h.drew n)).mono ?_
  rintro e w' ⟨h1, -, m, h2⟩
  exact ⟨h1, n + m, by rw [h2, World.drewN_drewN]⟩
theorem next_nil (h : Lx w0 w lp cp b i [] m v u out) :
    Calls Tryz.prog 55 #[.pointer (some ⟨cp, 0, none⟩)] w fun e w' => e = .returned (.int .i64 (-1)) ∧ Lx w0 w' lp cp b i [] m v u out := by
  obtain ⟨ao, cap, h1, h2⟩ := h.lex
  refine (next_any cp ao cap b i w h1.cur).mono ?_
  rintro e w' ⟨rfl, hc, hh⟩
  have hz := ge_of_drop h.drp
  rw [nx_out hz] at hc
  exact ⟨by rw [pk_out (by omega)], h.next (h1.cur' hc hh) h2 h.drp (hh.widen (.inr (.inl rfl)) (.inr (.inl rfl)))⟩
theorem next_cons (h : Lx w0 w lp cp b i (x :: t) m v u out) :
    Calls Tryz.prog 55 #[.pointer (some ⟨cp, 0, none⟩)] w fun e w' => e = .returned (.int .i64 (c8 x)) ∧ Lx w0 w' lp cp b (i + 1) t m v u out := by
  obtain ⟨ao, cap, h1, h2⟩ := h.lex
  refine (next_any cp ao cap b i w h1.cur).mono ?_
  rintro e w' ⟨rfl, hc, hh⟩
  have hz := lt_of_drop h.drp
  rw [nx_in hz] at hc
  exact ⟨by rw [pk_drop, h.drp]; rfl, h.next (h1.cur' hc hh) h2 (drop_succ_of h.drp) (hh.widen (.inr (.inl rfl)) (.inr (.inl rfl)))⟩
theorem pos_l (h : Lx w0 w lp cp b i s m v u out) :
    Calls Tryz.prog 27 #[.pointer (some ⟨cp, 0, none⟩)] w fun e w' => e = .returned (.int .i64 i) ∧ w = w' := by
  obtain ⟨ao, cap, h1, h2⟩ := h.lex
  exact pos_any cp ao cap b i w h1.cur
theorem seek_l (k : Nat) (n : Int) (hn : n = k) (hk : k ≤ b.length) (h : Lx w0 w lp cp b i s m v u out) :
    Calls Tryz.prog 40 #[.pointer (some ⟨cp, 0, none⟩), .int .i64 n] w fun e w' => e = .returned (.bool true) ∧ Lx w0 w' lp cp b k (b.drop k) m v u out := by
  subst hn
  obtain ⟨ao, cap, h1, h2⟩ := h.lex
  refine (seek_any cp ao cap b i k w h1.cur hk).mono ?_
  rintro e w' ⟨rfl, hc, hh⟩
  exact ⟨rfl, h.next (h1.cur' hc hh) h2 rfl (hh.widen (.inr (.inl rfl)) (.inr (.inl rfl)))⟩
theorem match_yes (p : ByteArray) (hp : p.size ≤ 1000000) (hy : pfx p.data.toList s = true) (h : Lx w0 w lp cp b i s m v u out) :
    Calls Tryz.prog 37 #[.pointer (some ⟨cp, 0, none⟩), .string p] w fun e w' => e = .returned (.bool true) ∧ Lx w0 w' lp cp b (i + p.size) (s.drop p.size) m v u out := by
  obtain ⟨ao, cap, h1, h2⟩ := h.lex
  refine (match_any cp ao cap b i p w h1.cur hp).mono ?_
  rw [h.drp, hy]
  rintro e w' ⟨rfl, hc, hh⟩
  exact ⟨rfl, h.next (h1.cur' hc hh) h2 (by rw [← h.drp, List.drop_drop]) (hh.widen (.inr (.inl rfl)) (.inr (.inl rfl)))⟩
theorem match_no (p : ByteArray) (hp : p.size ≤ 1000000) (hy : pfx p.data.toList s = false) (h : Lx w0 w lp cp b i s m v u out) :
    Calls Tryz.prog 37 #[.pointer (some ⟨cp, 0, none⟩), .string p] w fun e w' => e = .returned (.bool false) ∧ Lx w0 w' lp cp b i s m v u out := by
  obtain ⟨ao, cap, h1, h2⟩ := h.lex
  refine (match_any cp ao cap b i p w h1.cur hp).mono ?_
  rw [h.drp, hy]
  rintro e w' ⟨rfl, hc, hh⟩
  exact ⟨rfl, h.next (h1.cur' hc hh) h2 h.drp (hh.widen (.inr (.inl rfl)) (.inr (.inl rfl)))⟩
theorem take_l (n : Nat) (hn : n ≤ s.length) (h : Lx w0 w lp cp b i s m v u out) :
    Calls Tryz.prog 42 #[.pointer (some ⟨cp, 0, none⟩), .int .i64 n] w fun e w' => ∃ u', e = .returned (.tuple #[u', .bool true]) ∧ Lx w0 w' lp cp b (i + n) (s.drop n) m v u' (s.take n) := by
  obtain ⟨ao, cap, h1, h2⟩ := h.lex
  have ha := h.at_
  refine (take_any cp ao cap b i n w h1.cur (by omega)).mono ?_
  rintro e w' ⟨u', rfl, hr, hc, hh⟩
  rw [h.drp] at hr
  have hr2 : OwnB w' w0.heap.size 5 u' (s.take n) := hr.base h.held.size
  exact ⟨u', rfl, (h.next (h1.cur' hc hh) h2 (by rw [← h.drp, List.drop_drop]) (hh.widen (.inr (.inl rfl)) (.inr (.inl rfl)))).take hr2⟩
theorem blank_l (h : Lx w0 w lp cp b i s m v u out) :
    Calls Tryz.prog 29 #[.pointer (some ⟨lp, 0, none⟩)] w fun e w' => e = .returned (.tuple #[]) ∧ Lx w0 w' lp cp b (i + bl s false) (s.drop (bl s false)) m v u out := by
  obtain ⟨ao, cap, h1, h2⟩ := h.lex
  refine (blank_any lp cp ao cap b i m v w h1).mono ?_
  rintro e w' ⟨rfl, hl, hh⟩
  unfold bt at hl
  rw [h.drp] at hl
  exact ⟨rfl, h.next hl h2 (by rw [← h.drp, List.drop_drop]) (hh.widen (.inr (.inl rfl)) (.inr (.inl rfl)))⟩
theorem regular_l (c : Int) (h : Lx w0 w lp cp b i s m v u out) :
    Calls Tryz.prog 38 #[.int .i64 c] w fun e w' => e = .returned (.bool (rg c)) ∧ Lx w0 w' lp cp b i s m v u out := by
  refine (regular_any c w).mono ?_
  rintro e w' ⟨rfl, n, rfl⟩
  exact ⟨rfl, h.drew n⟩
theorem put_no (M : Nat) (c : Int) (hM : M ≤ 100000) (ho : M ≤ out.length) (h : Lx w0 w lp cp b i s (.int .i64 M) v v out) :
    Calls Tryz.prog 111 #[.pointer (some ⟨lp, 0, none⟩), .int .i64 c] w fun e w' => e = .returned (.int .i64 3) ∧ Lx w0 w' lp cp b i s (.int .i64 M) v v out := by
  obtain ⟨ao, cap, h1, h2⟩ := h.lex
  refine (put_full lp cp ao cap b i M w0.heap.size v out c w h1 h.row hM ho).mono ?_
  rintro e w' ⟨rfl, n, rfl⟩
  exact ⟨rfl, h.drew n⟩
theorem put_yes (M : Nat) (c : Int) (hM : M ≤ 100000) (ho : out.length < M) (h : Lx w0 w lp cp b i s (.int .i64 M) v v out) :
    Calls Tryz.prog 111 #[.pointer (some ⟨lp, 0, none⟩), .int .i64 c] w fun e w' => e = .returned (.int .i64 0) ∧ ∃ v', Lx w0 w' lp cp b i s (.int .i64 M) v' v' (out ++ [byteOf c]) := by
  obtain ⟨ao, cap, h1, h2⟩ := h.lex
  refine (put_room lp cp ao cap b i M w0.heap.size v out c w h1 h2.toLow h.held.size h.row hM ho).mono ?_
  rintro e w' ⟨rfl, v', hl, hr, hh⟩
  exact ⟨rfl, v', h.drp, ⟨ao, cap, hl, h2⟩, h.held.trans hh, hr⟩
end
end Go.Proofs.YtlmgklebikcbjaaGreat
