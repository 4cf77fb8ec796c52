/-
  The document's lexer beside a token that is being filled; number; the walks. Condition: the lexer stands in its bytes.
-/
import Derived.Test.YtjkoiknjffldjaaGreatDoorJb
/-
  The document's Parse: the number that bytes say; the walk. Conditions: sizes.
-/
namespace Go.Proofs.YtjkoiknjffldjaaGreatDoor
open Go.RowKit
set_option linter.unusedVariables false

/-- points and digits are counted; none: another sign -/
def l1 : List UInt8 → Nat → Nat → Option (Nat × Nat)
  | [], p, d => some (p, d)
  | x :: s, p, d => if c8 x = 46 then l1 s (p + 1) d else if isd (c8 x) = true then l1 s p (d + 1) else none

theorem l1_dgs : ∀ (s : List UInt8) (p d : Nat), l1 s p d = l1 (s.drop (dgs s)) p (d + dgs s)
  | [], p, d => rfl
  | x :: s, p, d => by
    by_cases h : isd (c8 x) = true
    · have h2 := (isd_iff _).1 h
      rw [l1, if_neg (by omega), if_pos h, l1_dgs s p (d + 1), dgs, if_pos h, Nat.add_comm 1 (dgs s), List.drop_succ_cons]
      congr 1; omega
    · rw [dgs, if_neg h]; rfl
theorem l1_mono : ∀ (s : List UInt8) (p d p' d' : Nat), l1 s p d = some (p', d') → p ≤ p'
  | [], p, d, p', d', h => by rw [l1] at h; injection h with h; injection h with h1 h2; omega
  | x :: s, p, d, p', d', h => by
    rw [l1] at h
    split at h
    · have := l1_mono s _ _ _ _ h; omega
    · split at h
      · exact l1_mono s _ _ _ _ h
      · cases h
theorem dgs_end (s : List UInt8) : ¬ isd (hd (s.drop (dgs s))) = true := by
  induction s with
  | nil => decide
  | cons x s ih =>
    rw [dgs]
    by_cases h : isd (c8 x) = true
    · rw [if_pos h, Nat.add_comm, List.drop_succ_cons]; exact ih
    · rw [if_neg h]; exact h
theorem dgs_get : ∀ (s : List UInt8) (k : Nat), k < dgs s → isd (hd (s.drop k)) = true
  | [], k, h => by simp [dgs] at h
  | x :: s, k, h => by
    rw [dgs] at h
    by_cases hx : isd (c8 x) = true
    · rw [if_pos hx] at h
      cases k with
      | zero => exact hx
      | succ k => rw [List.drop_succ_cons]; exact dgs_get s k (by omega)
    · rw [if_neg hx] at h; omega
theorem vl_ge : ∀ (l : List UInt8) (n : Nat), n ≤ vl l n
  | [], n => Nat.le_refl _
  | x :: l, n => by have := vl_ge l (10 * n + (x.toNat - 48)); rw [vl]; omega
theorem vl_app : ∀ (l m : List UInt8) (n : Nat), vl (l ++ m) n = vl m (vl l n)
  | [], m, n => rfl
  | x :: l, m, n => vl_app l m _
theorem vl_take (s : List UInt8) (k m : Nat) (h : k ≤ m) : vl (s.take k) 0 ≤ vl (s.take m) 0 := by
  have : s.take m = s.take k ++ (s.take m).drop k := by
    rw [show s.take k = (s.take m).take k by rw [List.take_take, Nat.min_eq_left h]]
    exact (List.take_append_drop k _).symm
  rw [this, vl_app]; exact vl_ge _ _

theorem l1_cases (s : List UInt8) (g : Int) :
    (l1 s 0 0 = none ∧ numb g (s.take (dgs s)) (s.drop (dgs s)) = (0, false, 4)) ∨
    (∃ p d, l1 s 0 0 = some (p, d) ∧ (1 < p ∨ d = 0) ∧ numb g (s.take (dgs s)) (s.drop (dgs s)) = (0, false, 4)) ∨
    (∃ d, l1 s 0 0 = some (0, d) ∧ ¬ d = 0 ∧ s.drop (dgs s) = [] ∧ dgs s = d) ∨
    (∃ d x f, l1 s 0 0 = some (1, d) ∧ ¬ d = 0 ∧ s.drop (dgs s) = x :: f ∧ c8 x = 46 ∧ dgs f = f.length ∧ dgs s + f.length = d) := by
  have hl : (s.take (dgs s)).length = dgs s := by rw [List.length_take, Nat.min_eq_left (dgs_le s)]
  have hd1 := dgs_end s
  rw [l1_dgs]
  generalize hr : s.drop (dgs s) = r at hd1
  rcases r with _ | ⟨x, f⟩
  · by_cases h0 : dgs s = 0
    · exact .inr (.inl ⟨0, _, rfl, .inr (by omega), by rw [numb, if_pos (by omega)]⟩)
    · exact .inr (.inr (.inl ⟨_, rfl, by omega, rfl, by omega⟩))
  · rw [hd_cons] at hd1
    by_cases hx : c8 x = 46
    · rw [l1, if_pos hx, l1_dgs]
      have hd2 := dgs_end f
      have hfl := dgs_le f
      by_cases hf : dgs f = f.length
      · have e1 : f.drop (dgs f) = [] := List.drop_eq_nil_of_le (by omega)
        rw [e1, l1]
        by_cases h0 : dgs s + f.length = 0
        · exact .inr (.inl ⟨1, _, rfl, .inr (by omega), by rw [numb, if_neg (fun q => q.2.2 (by omega))]⟩)
        · exact .inr (.inr (.inr ⟨_, x, f, rfl, by omega, rfl, hx, hf, by omega⟩))
      · have hn : numb g (s.take (dgs s)) (x :: f) = (0, false, 4) := by rw [numb, if_neg (fun q => hf q.2.1)]
        generalize hr2 : f.drop (dgs f) = r2 at hd2
        rcases r2 with _ | ⟨y, f2⟩
        · have := congrArg List.length hr2; simp at this; omega
        · rw [hd_cons] at hd2
          by_cases hy : c8 y = 46
          · rw [l1, if_pos hy]
            cases hq : l1 f2 (0 + 1 + 1) (0 + dgs s + dgs f) with
            | none => exact .inl ⟨rfl, hn⟩
            | some pd =>
              obtain ⟨p, d⟩ := pd
              have := l1_mono _ _ _ _ _ hq
              exact .inr (.inl ⟨p, d, rfl, .inl (by omega), hn⟩)
          · rw [l1, if_neg hy, if_neg hd2]; exact .inl ⟨rfl, hn⟩
    · rw [l1, if_neg hx, if_neg hd1]
      exact .inl ⟨rfl, by rw [numb, if_neg (fun q => hx q.1)]⟩

end Go.Proofs.YtjkoiknjffldjaaGreatDoor

/-
  The document's run: the regular signs from here on; the walk. Condition: the lexer stands in its bytes.
-/
namespace Go.Proofs.YtjkoiknjffldjaaGreatDoor
open Go.RowKit
set_option linter.unusedVariables false

section
variable {w0 w w' : World} {cp : Nat} {b : List UInt8} {i : Nat} {s t : List UInt8} {u : Value} {out : List UInt8} {x : UInt8}

theorem Cx.below0 (h : Cx w0 w cp b i s u out) : w0.heap.size ≤ w.heap.size := h.held.size

end
end Go.Proofs.YtjkoiknjffldjaaGreatDoor

/-
  The document's lexer beside a token that is being filled; number; the walks. Condition: the lexer stands in its bytes.
-/
namespace Go.Proofs.YtjkoiknjffldjaaGreatDoor
open Go.RowKit
set_option linter.unusedVariables false

/-- a lexer of the document, and block tp a token k, a, n, vb, made since w0 -/
structure Tx (w0 w : World) (cp tp : Nat) (b : List UInt8) (i : Nat) (s : List UInt8) (k a n : Int) (vb u : Value) (out : List UInt8) : Prop where
  cx : Cx w0 w cp b i s u out
  lo : w0.heap.size ≤ tp
  hi : tp < w.heap.size
  hu : u.ownBlock ≠ some tp
  t0 : w.cell? ⟨tp, 0, none⟩ = some (.int .i64 k)
  t1 : w.cell? ⟨tp, 1, none⟩ = some (.int .i64 a)
  t2 : w.cell? ⟨tp, 2, none⟩ = some (.int .i64 n)
  t3 : w.cell? ⟨tp, 3, none⟩ = some vb
  g0 : w.frozen? ⟨tp, 0, none⟩ = false
  g2 : w.frozen? ⟨tp, 2, none⟩ = false
  g3 : w.frozen? ⟨tp, 3, none⟩ = false

section
variable {w0 w w' : World} {cp tp : Nat} {b : List UInt8} {i j : Nat} {s t : List UInt8} {k a n : Int} {vb u : Value} {out : List UInt8} {x : UInt8}

theorem Cx.cpb (h : Cx w0 w cp b i s u out) : cp < w0.heap.size := by
  obtain ⟨ao, cap, h1, h2⟩ := h.cur; exact h2.cp
theorem Tx.ne (h : Tx w0 w cp tp b i s k a n vb u out) : cp ≠ tp := by have := h.cx.cpb; have := h.lo; omega
theorem Tx.ne' (h : Tx w0 w cp tp b i s k a n vb u out) : tp ≠ cp := h.ne.symm

theorem Tx.below (h : Tx w0 w cp tp b i s k a n vb u out) (hb : Below w.heap.size w w') : Tx w0 w' cp tp b i s k a n vb u out := by
  have hf : ∀ o, w'.frozen? ⟨tp, o, none⟩ = w.frozen? ⟨tp, o, none⟩ := fun o => hb.frozen (p := ⟨tp, o, none⟩) h.hi
  exact ⟨h.cx.below hb, h.lo, Nat.lt_of_lt_of_le h.hi hb.size, h.hu, cell_up' hb h.t0, cell_up' hb h.t1, cell_up' hb h.t2, cell_up' hb h.t3, by rw [hf]; exact h.g0, by rw [hf]; exact h.g2, by rw [hf]; exact h.g3⟩
theorem Tx.drew (h : Tx w0 w cp tp b i s k a n vb u out) (m : Nat) : Tx w0 (w.drewN m) cp tp b i s k a n vb u out := h.below (below_drewN (Below.refl _ _) m)

/-- a store to a block made since -/
theorem Cx.store (h : Cx w0 w cp b i s u out) (ht : w0.heap.size ≤ tp) (hu : u.ownBlock ≠ some tp) (o : Nat) (v : Value) : Cx w0 (w.setCell ⟨tp, o, none⟩ v) cp b i s u out := by
  obtain ⟨ao, cap, h1, h2⟩ := h.cur
  have hcp := h2.cp
  have g2 : cp ≠ tp := by omega
  refine ⟨h.drp, ⟨ao, cap, h1.held (p := tp) (q := tp) (Held.set w ⟨tp, o, none⟩ v (.inl rfl)) g2 g2 (fun hb aa ha => ?_), h2⟩, h.held.trans (Held.set w ⟨tp, o, none⟩ v (.inr (.inr ht))), OwnB.held (p := tp) (q := tp) h.row (Held.set w ⟨tp, o, none⟩ v (.inl rfl)) (fun g hg => ?_), fun k hk => (cset_ne (fun q => g2 (congrArg Addr.block q).symm)).trans (h.off k hk)⟩
  · have := h2.ao hb aa ha
    exact ⟨by omega, by omega⟩
  · have : g ≠ tp := fun q => hu (by rw [hg, q])
    exact ⟨this, this⟩

theorem Tx.kind (h : Tx w0 w cp tp b i s k a n vb u out) (k' : Int) : Tx w0 (w.setCell ⟨tp, 0, none⟩ (.int .i64 k')) cp tp b i s k' a n vb u out := by
  refine ⟨h.cx.store h.lo h.hu _ _, h.lo, by simp; exact h.hi, h.hu, cset h.t0, ?_, ?_, ?_, ?_, ?_, ?_⟩
  · rw [cset_ne (by simp)]; exact h.t1
  · rw [cset_ne (by simp)]; exact h.t2
  · rw [cset_ne (by simp)]; exact h.t3
  · rw [World.frozen?_setCell]; exact h.g0
  · rw [World.frozen?_setCell]; exact h.g2
  · rw [World.frozen?_setCell]; exact h.g3
theorem Tx.num (h : Tx w0 w cp tp b i s k a n vb u out) (n' : Int) : Tx w0 (w.setCell ⟨tp, 2, none⟩ (.int .i64 n')) cp tp b i s k a n' vb u out := by
  refine ⟨h.cx.store h.lo h.hu _ _, h.lo, by simp; exact h.hi, h.hu, ?_, ?_, cset h.t2, ?_, ?_, ?_, ?_⟩
  · rw [cset_ne (by simp)]; exact h.t0
  · rw [cset_ne (by simp)]; exact h.t1
  · rw [cset_ne (by simp)]; exact h.t3
  · rw [World.frozen?_setCell]; exact h.g0
  · rw [World.frozen?_setCell]; exact h.g2
  · rw [World.frozen?_setCell]; exact h.g3
theorem Tx.byt (h : Tx w0 w cp tp b i s k a n vb u out) (v : Value) : Tx w0 (w.setCell ⟨tp, 3, none⟩ v) cp tp b i s k a n v u out := by
  refine ⟨h.cx.store h.lo h.hu _ _, h.lo, by simp; exact h.hi, h.hu, ?_, ?_, ?_, cset h.t3, ?_, ?_, ?_⟩
  · rw [cset_ne (by simp)]; exact h.t0
  · rw [cset_ne (by simp)]; exact h.t1
  · rw [cset_ne (by simp)]; exact h.t2
  · rw [World.frozen?_setCell]; exact h.g0
  · rw [World.frozen?_setCell]; exact h.g2
  · rw [World.frozen?_setCell]; exact h.g3
theorem Tx.to (h : Tx w0 w cp tp b i s k a n vb u out) (j : Nat) (m : Int) (hm : m = j) (hj : j ≤ b.length) : Tx w0 (w.setCell ⟨cp, 1, none⟩ (.int .i64 m)) cp tp b j (b.drop j) k a n vb u out := by
  have hne := h.ne
  refine ⟨h.cx.to j m hm hj, h.lo, by simp; exact h.hi, h.hu, ?_, ?_, ?_, ?_, ?_, ?_, ?_⟩
  · rw [cset_ne (fun q => hne (congrArg Addr.block q))]; exact h.t0
  · rw [cset_ne (fun q => hne (congrArg Addr.block q))]; exact h.t1
  · rw [cset_ne (fun q => hne (congrArg Addr.block q))]; exact h.t2
  · rw [cset_ne (fun q => hne (congrArg Addr.block q))]; exact h.t3
  · rw [World.frozen?_setCell]; exact h.g0
  · rw [World.frozen?_setCell]; exact h.g2
  · rw [World.frozen?_setCell]; exact h.g3
theorem Tx.adv (h : Tx w0 w cp tp b i (x :: t) k a n vb u out) (m : Int) (hm : m = (i : Int) + 1) : Tx w0 (w.setCell ⟨cp, 1, none⟩ (.int .i64 m)) cp tp b (i + 1) t k a n vb u out := by
  have h1 := lt_of_drop h.cx.drp
  have := h.to (i + 1) m (by omega) (by omega)
  rwa [drop_succ_of h.cx.drp] at this

theorem Tx.bare (h : Tx w0 w cp tp b i s k a n vb u out) : Tx w0 w cp tp b i s k a n vb (.slice none 0 0) [] :=
  ⟨h.cx.bare, h.lo, h.hi, (fun q => by cases q), h.t0, h.t1, h.t2, h.t3, h.g0, h.g2, h.g3⟩

/-- behind a callee that moves the lexer alone -/
theorem Tx.after (h : Tx w0 w cp tp b i s k a n vb u out) {w2 : World} {u2 : Value} {out2 : List UInt8} (c : Cx w w2 cp b j t u2 out2) : Tx w0 w2 cp tp b j t k a n vb u2 out2 := by
  have hc : ∀ o, w2.cell? ⟨tp, o, none⟩ = w.cell? ⟨tp, o, none⟩ := fun o => c.held.cell (a := ⟨tp, o, none⟩) h.hi h.ne' h.ne'
  have hf : ∀ o, w2.frozen? ⟨tp, o, none⟩ = w.frozen? ⟨tp, o, none⟩ := fun o => c.held.frozen (a := ⟨tp, o, none⟩) h.hi h.ne' h.ne'
  refine ⟨h.cx.join c, h.lo, Nat.lt_of_lt_of_le h.hi c.held.size, fun q => ?_, by rw [hc]; exact h.t0, by rw [hc]; exact h.t1, by rw [hc]; exact h.t2, by rw [hc]; exact h.t3, by rw [hf]; exact h.g0, by rw [hf]; exact h.g2, by rw [hf]; exact h.g3⟩
  have := (World.ownsRow.lt c.row tp q).1
  have := h.hi
  omega
theorem Cx.joinY (h : Cx w0 w cp b i s u out) {w2 : World} (c : Cy w w2 cp b) : Cy w0 w2 cp b := by
  obtain ⟨ao, cap, h1, h2⟩ := h.cur
  obtain ⟨⟨ao', cap', m, q0, q1, q2, q3, q4, q5, q6, q7, q8, q9⟩, hh, ho⟩ := c
  have e := q9.c0
  rw [h1.c0] at e
  injection e with e
  injection e with e1 e2 e3
  subst e1; subst e3
  exact ⟨⟨_, _, m, q0, q1, q2, q3, q4, q5, q6, q7, q8, h2⟩, h.held.then' hh, fun k hk => (ho k hk).trans (h.off k hk)⟩
theorem Tx.bad (h : Tx w0 w cp tp b i s k a n vb u out) {w2 : World} (c : Cy w w2 cp b) : Cy w0 w2 cp b ∧ w2.cell? ⟨tp, 1, none⟩ = some (.int .i64 a) ∧ w2.cell? ⟨tp, 3, none⟩ = some vb ∧ w2.frozen? ⟨tp, 3, none⟩ = false ∧ tp < w2.heap.size := by
  refine ⟨h.cx.joinY c, ?_, ?_, ?_, Nat.lt_of_lt_of_le h.hi c.held.size⟩
  · rw [c.held.cell (a := ⟨tp, 1, none⟩) h.hi h.ne' h.ne']; exact h.t1
  · rw [c.held.cell (a := ⟨tp, 3, none⟩) h.hi h.ne' h.ne']; exact h.t3
  · rw [c.held.frozen (a := ⟨tp, 3, none⟩) h.hi h.ne' h.ne']; exact h.g3
theorem Cy.store (h : Cy w0 w cp b) (ht : w0.heap.size ≤ tp) (o : Nat) (v : Value) : Cy w0 (w.setCell ⟨tp, o, none⟩ v) cp b := by
  obtain ⟨⟨ao, cap, m, q0, q1, q2, q3, q4, q5, q6, q7, q8, q9⟩, hh, ho⟩ := h
  have hcp := q9.cp
  have hne : (⟨tp, o, none⟩ : Addr) ≠ ⟨cp, 0, none⟩ := fun q => by have h8 := congrArg Addr.block q; simp at h8; omega
  have hne1 : (⟨tp, o, none⟩ : Addr) ≠ ⟨cp, 1, none⟩ := fun q => by have h8 := congrArg Addr.block q; simp at h8; omega
  refine ⟨⟨ao, cap, m, by rw [cset_ne hne]; exact q0, by rw [cset_ne hne1]; exact q1, by rw [World.frozen?_setCell]; exact q2, q3.held (p := tp) (q := tp) (Held.set w ⟨tp, o, none⟩ v (.inl rfl)) (fun hb aa ha => ?_), q4, q5, q6, q7, q8, q9⟩, hh.trans (Held.set w ⟨tp, o, none⟩ v (.inr (.inr ht))), fun k hk => (cset_ne (fun q => by have h8 := congrArg Addr.block q; simp at h8; omega)).trans (ho k hk)⟩
  have := q9.ao hb aa ha
  exact ⟨by omega, by omega⟩

theorem tregular (c : Int) (h : Tx w0 w cp tp b i s k a n vb u out) :
    Calls Tryz.prog 58 #[.int .i64 c] w fun e w' => e = .returned (.bool (rg c)) ∧ Tx w0 w' cp tp b i s k a n vb u out := by
  refine (rregular_any c w).mono ?_
  rintro e w' ⟨rfl, m, rfl⟩
  exact ⟨rfl, h.drew m⟩

/-- what the document's token leaves in its token -/
def TokR (T : TRes) (w0 : World) (cp tp : Nat) (b : List UInt8) (a : Int) (e : Ending) (w' : World) : Prop :=
  match T with
  | .bad x => e = .returned (.int .i64 x) ∧ Cy w0 w' cp b ∧ w'.cell? ⟨tp, 1, none⟩ = some (.int .i64 a) ∧ tp < w'.heap.size
  | .tok k n out rest => e = .returned (.int .i64 0) ∧ ∃ i u, Tx w0 w' cp tp b i rest k a n u u out

end
end Go.Proofs.YtjkoiknjffldjaaGreatDoor
