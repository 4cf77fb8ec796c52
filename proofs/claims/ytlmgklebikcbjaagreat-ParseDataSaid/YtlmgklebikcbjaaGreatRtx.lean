/-
  The document's lexer beside a token that is being filled; number; the walks. Condition: the lexer stands in its bytes.
-/
import Derived.Test.YtlmgklebikcbjaaGreatRrun
namespace Go.Proofs.YtlmgklebikcbjaaGreat
open Go.RowKit
set_option linter.unusedVariables false

/-- a lexer of the document, and block tp a token k, a, n, vb, made since w0 -/
structure Tx (w0 w : World) (cp tp : Nat) (b : List UInt8) (i : Nat) (s : List UInt8) (k a n : Int) (vb u : Value) (out : List UInt8) : Prop where
  cx : Cx w0 w cp b i s u out
  lo : w0.heap.size ≤ tp
  hi : tp < w.heap.size
  hu : u.ownBlock ≠ some tp
  t0 : w.cell? ⟨tp, 0, none⟩ = some (.int .i64 k)
  t1 : w.cell? ⟨tp, 1, none⟩ = some (.int .i64 a)
  t2 : w.cell? ⟨tp, 2, none⟩ = some (.int .i64 n)
  t3 : w.cell? ⟨tp, 3, none⟩ = some vb
  g0 : w.frozen? ⟨tp, 0, none⟩ = false
  g2 : w.frozen? ⟨tp, 2, none⟩ = false
  g3 : w.frozen? ⟨tp, 3, none⟩ = false

section
variable {w0 w w' : World} {cp tp : Nat} {b : List UInt8} {i j : Nat} {s t : List UInt8} {k a n : Int} {vb u : Value} {out : List UInt8} {x : UInt8}

theorem Cx.cpb (h : Cx w0 w cp b i s u out) : cp < w0.heap.size := by
  obtain ⟨ao, cap, h1, h2⟩ := h.cur; exact h2.cp
theorem Tx.ne (h : Tx w0 w cp tp b i s k a n vb u out) : cp ≠ tp := by have := h.cx.cpb; have := h.lo; omega
theorem Tx.ne' (h : Tx w0 w cp tp b i s k a n vb u out) : tp ≠ cp := h.ne.symm

theorem Tx.below (h : Tx w0 w cp tp b i s k a n vb u out) (hb : Below w.heap.size w w') : Tx w0 w' cp tp b i s k a n vb u out := by
  have hf : ∀ o, w'.frozen? ⟨tp, o, none⟩ = w.frozen? ⟨tp, o, none⟩ := fun o => hb.frozen (p := ⟨tp, o, none⟩) h.hi
  exact ⟨h.cx.below hb, h.lo, Nat.lt_of_lt_of_le h.hi hb.size, h.hu, cell_up' hb h.t0, cell_up' hb h.t1, cell_up' hb h.t2, cell_up' hb h.t3, by rw [hf]; exact h.g0, by rw [hf]; exact h.g2, by rw [hf]; exact h.g3⟩
theorem Tx.drew (h : Tx w0 w cp tp b i s k a n vb u out) (m : Nat) : Tx w0 (w.drewN m) cp tp b i s k a n vb u out := h.below (below_drewN (Below.refl _ _) m)

/-- a store to a block made since -/
theorem Cx.store (h : Cx w0 w cp b i s u out) (ht : w0.heap.size ≤ tp) (hu : u.ownBlock ≠ some tp) (o : Nat) (v : Value) : Cx w0 (w.setCell ⟨tp, o, none⟩ v) cp b i s u out := by
  obtain ⟨ao, cap, h1, h2⟩ := h.cur
  have hcp := h2.cp
  have g2 : cp ≠ tp := by omega
  refine ⟨h.drp, ⟨ao, cap, h1.held (p := tp) (q := tp) (Held.set w ⟨tp, o, none⟩ v (.inl rfl)) g2 g2 (fun hb aa ha => ?_), h2⟩, h.held.trans (Held.set w ⟨tp, o, none⟩ v (.inr (.inr ht))), OwnB.held (p := tp) (q := tp) h.row (Held.set w ⟨tp, o, none⟩ v (.inl rfl)) (fun g hg => ?_), fun k hk => (cset_ne (fun q => g2 (congrArg Addr.block q).symm)).trans (h.off k hk)⟩
  · have := h2.ao hb aa ha
    exact ⟨by omega, by omega⟩
  · have : g ≠ tp := fun q => hu (by rw [hg, q])
    exact ⟨this, this⟩

theorem Tx.kind (h : Tx w0 w cp tp b i s k a n vb u out) (k' : Int) : Tx w0 (w.setCell ⟨tp, 0, none⟩ (.int .i64 k')) cp tp b i s k' a n vb u out := by
  refine ⟨h.cx.store h.lo h.hu _ _, h.lo, by simp; exact h.hi, h.hu, cset h.t0, ?_, ?_, ?_, ?_, ?_, ?_⟩
  · rw [cset_ne (by simp)]; exact h.t1
  · rw [cset_ne (by simp)]; exact h.t2
  · rw [cset_ne (by simp)]; exact h.t3
  · rw [World.frozen?_setCell]; exact h.g0
  · rw [World.frozen?_setCell]; exact h.g2
  · rw [World.frozen?_setCell]; exact h.g3
theorem Tx.num (h : Tx w0 w cp tp b i s k a n vb u out) (n' : Int) : Tx w0 (w.setCell ⟨tp, 2, none⟩ (.int .i64 n')) cp tp b i s k a n' vb u out := by
  refine ⟨h.cx.store h.lo h.hu _ _, h.lo, by simp; exact h.hi, h.hu, ?_, ?_, cset h.t2, ?_, ?_, ?_, ?_⟩
  · rw [cset_ne (by simp)]; exact h.t0
  · rw [cset_ne (by simp)]; exact h.t1
  · rw [cset_ne (by simp)]; exact h.t3
  · rw [World.frozen?_setCell]; exact h.g0
  · rw [World.frozen?_setCell]; exact h.g2
  · rw [World.frozen?_setCell]; exact h.g3
theorem Tx.byt (h : Tx w0 w cp tp b i s k a n vb u out) (v : Value) : Tx w0 (w.setCell ⟨tp, 3, none⟩ v) cp tp b i s k a n v u out := by
  refine ⟨h.cx.store h.lo h.hu _ _, h.lo, by simp; exact h.hi, h.hu, ?_, ?_, ?_, cset h.t3, ?_, ?_, ?_⟩
  · rw [cset_ne (by simp)]; exact h.t0
  · rw [cset_ne (by simp)]; exact h.t1
  · rw [cset_ne (by simp)]; exact h.t2
  · rw [World.frozen?_setCell]; exact h.g0
  · rw [World.frozen?_setCell]; exact h.g2
  · rw [World.frozen?_setCell]; exact h.g3
theorem Tx.to (h : Tx w0 w cp tp b i s k a n vb u out) (j : Nat) (m : Int) (hm : m = j) (hj : j ≤ b.length) : Tx w0 (w.setCell ⟨cp, 1, none⟩ (.int .i64 m)) cp tp b j (b.drop j) k a n vb u out := by
  have hne := h.ne
  refine ⟨h.cx.to j m hm hj, h.lo, by simp; exact h.hi, h.hu, ?_, ?_, ?_, ?_, ?_, ?_, ?_⟩
  · rw [cset_ne (fun q => hne (congrArg Addr.block q))]; exact h.t0
  · rw [cset_ne (fun q => hne (congrArg Addr.block q))]; exact h.t1
  · rw [cset_ne (fun q => hne (congrArg Addr.block q))]; exact h.t2
  · rw [cset_ne (fun q => hne (congrArg Addr.block q))]; exact h.t3
  · rw [World.frozen?_setCell]; exact h.g0
  · rw [World.frozen?_setCell]; exact h.g2
  · rw [World.frozen?_setCell]; exact h.g3
theorem Tx.adv (h : Tx w0 w cp tp b i (x :: t) k a n vb u out) (m : Int) (hm : m = (i : Int) + 1) : Tx w0 (w.setCell ⟨cp, 1, none⟩ (.int .i64 m)) cp tp b (i + 1) t k a n vb u out := by
  have h1 := lt_of_drop h.cx.drp
  have := h.to (i + 1) m (by omega) (by omega)
  rwa [drop_succ_of h.cx.drp] at this

theorem Tx.bare (h : Tx w0 w cp tp b i s k a n vb u out) : Tx w0 w cp tp b i s k a n vb (.slice none 0 0) [] :=
  ⟨h.cx.bare, h.lo, h.hi, (fun q => by cases q), h.t0, h.t1, h.t2, h.t3, h.g0, h.g2, h.g3⟩

/-- behind a callee that moves the lexer alone -/
theorem Tx.after (h : Tx w0 w cp tp b i s k a n vb u out) {w2 : World} {u2 : Value} {out2 : List UInt8} (c : Cx w w2 cp b j t u2 out2) : Tx w0 w2 cp tp b j t k a n vb u2 out2 := by
  have hc : ∀ o, w2.cell? ⟨tp, o, none⟩ = w.cell? ⟨tp, o, none⟩ := fun o => c.held.cell (a := ⟨tp, o, none⟩) h.hi h.ne' h.ne'
  have hf : ∀ o, w2.frozen? ⟨tp, o, none⟩ = w.frozen? ⟨tp, o, none⟩ := fun o => c.held.frozen (a := ⟨tp, o, none⟩) h.hi h.ne' h.ne'
  refine ⟨h.cx.join c, h.lo, Nat.lt_of_lt_of_le h.hi c.held.size, fun q => ?_, by rw [hc]; exact h.t0, by rw [hc]; exact h.t1, by rw [hc]; exact h.t2, by rw [hc]; exact h.t3, by rw [hf]; exact h.g0, by rw [hf]; exact h.g2, by rw [hf]; exact h.g3⟩
  have := (World.ownsRow.lt c.row tp q).1
  have := h.hi
  omega
theorem Cx.joinY (h : Cx w0 w cp b i s u out) {w2 : World} (c : Cy w w2 cp b) : Cy w0 w2 cp b := by
  obtain ⟨ao, cap, h1, h2⟩ := h.cur
  obtain ⟨⟨ao', cap', m, q0, q1, q2, q3, q4, q5, q6, q7, q8, q9⟩, hh, ho⟩ := c
  have e := q9.c0
  rw [h1.c0] at e
  injection e with e
  injection e with e1 e2 e3
  subst e1; subst e3
  exact ⟨⟨_, _, m, q0, q1, q2, q3, q4, q5, q6, q7, q8, h2⟩, h.held.then' hh, fun k hk => (ho k hk).trans (h.off k hk)⟩
theorem Tx.bad (h : Tx w0 w cp tp b i s k a n vb u out) {w2 : World} (c : Cy w w2 cp b) : Cy w0 w2 cp b ∧ w2.cell? ⟨tp, 1, none⟩ = some (.int .i64 a) ∧ w2.cell? ⟨tp, 3, none⟩ = some vb ∧ w2.frozen? ⟨tp, 3, none⟩ = false ∧ tp < w2.heap.size := by
  refine ⟨h.cx.joinY c, ?_, ?_, ?_, Nat.lt_of_lt_of_le h.hi c.held.size⟩
  · rw [c.held.cell (a := ⟨tp, 1, none⟩) h.hi h.ne' h.ne']; exact h.t1
  · rw [c.held.cell (a := ⟨tp, 3, none⟩) h.hi h.ne' h.ne']; exact h.t3
  · rw [c.held.frozen (a := ⟨tp, 3, none⟩) h.hi h.ne' h.ne']; exact h.g3
theorem Cy.store (h : Cy w0 w cp b) (ht : w0.heap.size ≤ tp) (o : Nat) (v : Value) : Cy w0 (w.setCell ⟨tp, o, none⟩ v) cp b := by
  obtain ⟨⟨ao, cap, m, q0, q1, q2, q3, q4, q5, q6, q7, q8, q9⟩, hh, ho⟩ := h
  have hcp := q9.cp
  have hne : (⟨tp, o, none⟩ : Addr) ≠ ⟨cp, 0, none⟩ := fun q => by have h8 := congrArg Addr.block q; simp at h8; omega
  have hne1 : (⟨tp, o, none⟩ : Addr) ≠ ⟨cp, 1, none⟩ := fun q => by have h8 := congrArg Addr.block q; simp at h8; omega
  refine ⟨⟨ao, cap, m, by rw [cset_ne hne]; exact q0, by rw [cset_ne hne1]; exact q1, by rw [World.frozen?_setCell]; exact q2, q3.held (p := tp) (q := tp) (Held.set w ⟨tp, o, none⟩ v (.inl rfl)) (fun hb aa ha => ?_), q4, q5, q6, q7, q8, q9⟩, hh.trans (Held.set w ⟨tp, o, none⟩ v (.inr (.inr ht))), fun k hk => (cset_ne (fun q => by have h8 := congrArg Addr.block q; simp at h8; omega)).trans (ho k hk)⟩
  have := q9.ao hb aa ha
  exact ⟨by omega, by omega⟩

theorem tpeek0 (h : Tx w0 w cp tp b i s k a n vb u out) :
    Calls Tryz.prog 49 #[.pointer (some ⟨cp, 0, none⟩), .int .i64 0] w fun e w' => e = .returned (.int .i64 (hd s)) ∧ Tx w0 w' cp tp b i s k a n vb u out := by
  refine (rpeek0 h.cx).mono ?_
  rintro e w' ⟨rfl, -, m, rfl⟩
  exact ⟨rfl, h.drew m⟩
theorem tpeek1 (h : Tx w0 w cp tp b i s k a n vb u out) :
    Calls Tryz.prog 49 #[.pointer (some ⟨cp, 0, none⟩), .int .i64 1] w fun e w' => e = .returned (.int .i64 (hd s.tail)) ∧ Tx w0 w' cp tp b i s k a n vb u out := by
  refine (rpeek1 h.cx).mono ?_
  rintro e w' ⟨rfl, -, m, rfl⟩
  exact ⟨rfl, h.drew m⟩
theorem tregular (c : Int) (h : Tx w0 w cp tp b i s k a n vb u out) :
    Calls Tryz.prog 48 #[.int .i64 c] w fun e w' => e = .returned (.bool (rg c)) ∧ Tx w0 w' cp tp b i s k a n vb u out := by
  refine (rregular_any c w).mono ?_
  rintro e w' ⟨rfl, m, rfl⟩
  exact ⟨rfl, h.drew m⟩

/-- what the document's token leaves in its token -/
def TokR (T : TRes) (w0 : World) (cp tp : Nat) (b : List UInt8) (a : Int) (e : Ending) (w' : World) : Prop :=
  match T with
  | .bad x => e = .returned (.int .i64 x) ∧ Cy w0 w' cp b ∧ w'.cell? ⟨tp, 1, none⟩ = some (.int .i64 a) ∧ tp < w'.heap.size
  | .tok k n out rest => e = .returned (.int .i64 0) ∧ ∃ i u, Tx w0 w' cp tp b i rest k a n u u out

set_option maxHeartbeats 1600000 in
set_option maxRecDepth 100000 in
theorem rnumber (h : Tx w0 w cp tp b i s k a 0 (.slice none 0 0) u out) :
    Calls Tryz.prog 108 #[.pointer (some ⟨cp, 0, none⟩), .pointer (some ⟨tp, 0, none⟩)] w fun e w' => TokR (numT s) w0 cp tp b a e w' := by
  have hT := h
  have hat := hT.cx.at_
  have hsm := hT.cx.sm
  have hl : (s.take (rn s)).length ≤ 1000000 := by rw [List.length_take]; omega
  generalize hR : np (s.take (rn s)) = R
  generalize hTT : numT s = T
  unfold numT at hTT
  rw [hR] at hTT
  obtain ⟨n, whole, err⟩ := R
  have HR := hid hR
  have HTT := hid hTT
  clear hR hat hsm h hTT
  cases whole with
  | true =>
    go_enter Tryz.func108, Tryz.ntmps108
    go_wp2_with (first | (go_at_call 109; refine (rrun hT.cx.fresh).mono ?_; rintro e w1 ⟨u1, rfl, hC⟩; have hT := hT.after hC) | (go_at_call 118; refine (rparse _ _ _ (Sl.own hT.cx.row) hl).mono ?_; rintro e w2 ⟨rfl, rfl⟩; rw [HR.out]; have t0 := hT.t0; have t2 := hT.t2; have g0 := hT.g0; have g2 := hT.g2))
    go_ret
    have hN := fun y z n => ((hT.kind y).kind z).num n
    rw [← HTT.out]
    by_cases he : err = 0
    · subst he
      exact ⟨rfl, _, _, (hN _ _ _).bare⟩
    · rw [if_neg he]
      exact ⟨rfl, (hN _ _ _).cx.cy, (hN _ _ _).t1, (hN _ _ _).hi⟩
  | false =>
    go_enter Tryz.func108, Tryz.ntmps108
    go_wp2_with (first | (go_at_call 109; refine (rrun hT.cx.fresh).mono ?_; rintro e w1 ⟨u1, rfl, hC⟩; have hT := hT.after hC) | (go_at_call 118; refine (rparse _ _ _ (Sl.own hT.cx.row) hl).mono ?_; rintro e w2 ⟨rfl, rfl⟩; rw [HR.out]; have t0 := hT.t0; have t2 := hT.t2; have g0 := hT.g0; have g2 := hT.g2))
    go_ret
    have hN := fun y n => (hT.kind y).num n
    rw [← HTT.out]
    by_cases he : err = 0
    · subst he
      exact ⟨rfl, _, _, (hN _ _).bare⟩
    · rw [if_neg he]
      exact ⟨rfl, (hN _ _).cx.cy, (hN _ _).t1, (hN _ _).hi⟩
end
end Go.Proofs.YtlmgklebikcbjaaGreat
