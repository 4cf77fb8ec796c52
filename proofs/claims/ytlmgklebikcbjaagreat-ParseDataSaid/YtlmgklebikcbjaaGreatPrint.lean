/-
  Names and strings as they are printed: the document's PrintName, PrintText. Conditions: sizes.
-/
import Derived.Test.YtlmgklebikcbjaaGreatPrn
namespace Go.Proofs.YtlmgklebikcbjaaGreat
open Go.RowKit
set_option linter.unusedVariables false

theorem pn1_len (c : UInt8) : (pn1 c).length ≤ 3 := by unfold pn1; split <;> simp
theorem pnm_len (l : List UInt8) : (l.flatMap pn1).length ≤ 3 * l.length := by
  induction l with
  | nil => simp
  | cons c l ih => have := pn1_len c; rw [List.flatMap_cons, List.length_append, List.length_cons]; omega
theorem pnm_snoc (l : List UInt8) (k : Nat) (h : k < l.length) : (l.take (k + 1)).flatMap pn1 = (l.take k).flatMap pn1 ++ pn1 (l.getD k 0) := by
  rw [List.take_succ_eq_append_getElem h, List.flatMap_append]
  simp [List.getD, h]
theorem st_at (l : List UInt8) (k : Nat) (h : k < l.length) (P : Program) (t : TypeId) (ht : P.underlying t = some .string) (w : World) : (Instr.index t (.string (st l)) (.int .i64 (k : Int))).run P w = .ok (.int .u8 (c8 (l.getD k 0))) w := by
  have hz := st_size l
  rw [run_index_string w t (st l) .i64 (k : Int) ht, dif_pos ⟨by omega, by rw [hz]; omega⟩]
  congr 2
  unfold c8
  congr 1
  have e : ((k : Int)).toNat = k := by omega
  simp only [e, List.getD, List.getElem?_eq_getElem h, Option.getD_some]
  unfold st
  rfl
theorem belowD (w : World) : Below w.heap.size w w.drew := ⟨rfl, rfl, rfl, Nat.le_refl _, fun _ _ => rfl⟩
theorem below_then' {B : Nat} {w W W' : World} (p : Below B w W) (q : Below W.heap.size W W') (hB : B ≤ W.heap.size := by omega) : Below B w W' := p.trans (q.mono hB)
theorem belowC (w : World) (o : Obj) : Below w.heap.size w (w.drew.alloc o) := below_then (belowD w) (alb1 w.drew o)
theorem Rd.oneC (w : World) (x : UInt8) (e : TypeId) (g : Nat) (hg : g = w.heap.size) : Rd (w.alloc (.cells #[.int .u8 (c8 x)] e)) (Option.some ⟨g, 0, none⟩) [x] := by
  subst hg
  have h := Rd.one w (c8 x) e (c8_ge x) (c8_le x)
  have e1 : UInt8.ofNat (c8 x).toNat = x := by unfold c8; simp
  rwa [e1] at h
theorem Sl.oneC (w : World) (x : UInt8) (e : TypeId) (g : Nat) (hg : g = w.heap.size) : Sl (w.alloc (.cells #[.int .u8 (c8 x)] e)) (.slice (Option.some ⟨g, 0, none⟩) 1 1) [x] :=
  ⟨_, _, rfl, Nat.le_refl _, by unfold maxLen; omega, (fun q => by cases q), Rd.oneC w x e g hg⟩
theorem OwnB.litg (w : World) (x : UInt8) (n : Int) (e : TypeId) (base g : Nat) (hn : n = c8 x) (hg : g = w.heap.size) (hb : base ≤ w.heap.size) : OwnB (w.alloc (.cells #[.int .u8 n] e)) base e (.slice (Option.some ⟨g, 0, none⟩) 1 1) [x] := by
  subst hn; subst hg; exact OwnB.lit1 w x e base hb
/-- the world, the capacity behind a conversion of a string to bytes -/
def convC (w : World) (e : TypeId) (s : List UInt8) : Nat := grownCap w (st s).size 0 e
def convW (w : World) (e : TypeId) (s : List UInt8) : World := w.drew.alloc (.cells (bytesRow (st s) (convC w e s)) e ((bytesRow (st s) (convC w e s)).size, (bytesRow (st s) (convC w e s)).size + 1))
theorem convW_below (w : World) (e : TypeId) (s : List UInt8) : Below w.heap.size w (convW w e s) := belowC _ _
theorem convW_size (w : World) (e : TypeId) (s : List UInt8) : (convW w e s).heap.size = w.heap.size + 1 := by simp [convW]
theorem convW_run {P : Program} (src dst e : TypeId) (hs : P.underlying src = Option.some .string) (hd : P.underlying dst = Option.some (.slice e)) (he : P.underlying e = Option.some (.int .u8)) (w : World) (s : List UInt8) :
    (convert src dst (.string (st s))).run P w = .ok (.slice (Option.some ⟨w.heap.size, 0, none⟩) s.length (convC w e s)) (convW w e s) := by
  rw [run_bytes_of_string w src dst e (st s) hs hd he]
  have hz := st_size s
  unfold convW convC
  rw [hz]
theorem Sl.convW (w : World) (e : TypeId) (s : List UInt8) (g : Nat) (hg : g = w.heap.size) (hs : s.length ≤ 100000000) :
    Sl (convW w e s) (.slice (Option.some ⟨g, 0, none⟩) s.length (convC w e s)) s := by
  subst hg
  have h := Sl.conv w s e hs
  have e1 : Value.slice (Option.some ⟨w.heap.size, 0, none⟩) s.length (convC w e s) = Value.slice (Option.some ⟨w.heap.size, 0, none⟩) (st s).size (grownCap w (st s).size 0 e) := by rw [st_size]; unfold convC; rw [st_size]
  rw [e1]
  exact h

theorem plain_facts (x : UInt8) : (plain1 x = true ∧ decide (32 ≤ c8 x) = true ∧ decide (c8 x ≤ 126) = true ∧ (c8 x != 40) = true ∧ (c8 x != 41) = true ∧ (c8 x != 92) = true) ∨ (plain1 x = false ∧ (decide (32 ≤ c8 x) = false ∨ (decide (32 ≤ c8 x) = true ∧ decide (c8 x ≤ 126) = false) ∨ (decide (32 ≤ c8 x) = true ∧ decide (c8 x ≤ 126) = true ∧ ((c8 x != 40) = false ∨ ((c8 x != 40) = true ∧ (c8 x != 41) = false) ∨ ((c8 x != 40) = true ∧ (c8 x != 41) = true ∧ (c8 x != 92) = false))))) := by
  unfold plain1
  cases h1 : decide (32 ≤ c8 x) <;> cases h2 : decide (c8 x ≤ 126) <;> cases h3 : (c8 x == 40) <;> cases h4 : (c8 x == 41) <;> cases h5 : (c8 x == 92) <;> simp [bne, h3, h4, h5]
theorem plain_snoc (l : List UInt8) (k : Nat) (h : k < l.length) : (l.take (k + 1)).all plain1 = ((l.take k).all plain1 && plain1 (l.getD k 0)) := by
  rw [List.take_succ_eq_append_getElem h, List.all_append]
  simp [List.getD, h]

end Go.Proofs.YtlmgklebikcbjaaGreat
