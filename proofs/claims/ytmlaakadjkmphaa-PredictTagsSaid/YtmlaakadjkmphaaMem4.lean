/-
  copy into a row of the call's own; a literal of one byte as such a row; Same with lengths of its own; what append leaves apart.
-/
import Derived.Test.YtmlaakadjkmphaaAwake
import Derived.Laws.CopyOwn
namespace Go.Proofs.Ytmlaakadjkmphaa
open Go.RowKit
set_option linter.unusedVariables false

theorem wpList_copy_bytes {P : Program} {w : World} {ops : Array Oper} {rest : List Oper} {o : Oper} {a : Act} {Q : Exit → Act → World → Prop} {t e : TypeId}
    (T : BytesTy P t e) (hgd : o.guard = none) (d s : Operand) (ho : o.op = .call { callee := .builtin .copy, args := #[d, s], argTypes := #[t, t] })
    (base g n : Nat) (hd : a.eval d = .slice (some ⟨g, 0, none⟩) n n) (l : List UInt8) (hl : l.length = n) (hown : OwnB w base e (.slice (some ⟨g, 0, none⟩) n n) l)
    (v : Value) (hs : a.eval s = v) (m : List UInt8) (hm : Sl w v m)
    (h : ∀ w' (l' : List UInt8) (k : Nat), l'.length = n → OwnB w' base e (.slice (some ⟨g, 0, none⟩) n n) l' → Below g w w' → wpList P ops Q rest (a.put o.dst (.int .i64 k)) w') : wpList P ops Q (o :: rest) a w := by
  subst hl
  obtain ⟨i, hi, hz, hsz, hby⟩ := info_parts T.elem
  obtain ⟨ao, cap, rfl, c1, c2, c3, c4⟩ := hm
  obtain ⟨h1, h2⟩ := hown
  rcases h2 with ⟨h2, _⟩ | ⟨g', cap', cur, h2, hbg, hgg, hnc, hcm, hcs, htake⟩
  · cases h2
  · injection h2 with q1 q2 q3
    injection q1 with q4
    injection q4 with q5
    subst q5
    subst q3
    have hcur : cur.toList = l.map bv := by rw [← htake, List.take_of_length_le (by simp [hcs])]
    have hcl : (l.map bv).length = l.length := by simp
    refine wpList_copy_splice hgd d s t t ho e T.under (by simp [hi, hsz]) _ ao l.length l.length m.length cap hd hs g 0 (l.map bv) e (by rw [hgg, ← hcur]) ((m.take l.length).map bv) (by simp [Nat.min_comm]) ?_ (by simp; omega) ?_ g w (Below.refl _ _) (Nat.le_refl _) ?_
    · intro hpos
      have hml : 0 < m.length := by simp at hpos; omega
      obtain ⟨b, off, rfl, _, hc⟩ := c4.some hml
      refine ⟨rfl, _, rfl, ?_⟩
      intro j u hj
      have hjl : j < ((m.take l.length).map bv).length := by
        rcases Nat.lt_or_ge j ((m.take l.length).map bv).length with q | q
        · exact q
        · rw [List.getElem?_eq_none q] at hj; cases hj
      simp at hjl
      have := hc j (by omega)
      have e1 : (⟨b, off, none⟩ : Addr).add j = ⟨b, off + j, none⟩ := by cases j <;> simp [Addr.add]
      rw [e1, this, ← hj]
      have hjm : j < m.length := by omega
      simp [bv, b8, List.getD, hjl, hjm]
    · intro u hu
      simp only [List.mem_map] at hu
      obtain ⟨y, _, rfl⟩ := hu
      rfl
    · intro w' hw' hb'
      have hsp : splice (l.map bv) 0 ((m.take l.length).map bv) = (m.take l.length ++ l.drop (m.take l.length).length).map bv := by
        simp [splice, List.map_drop]
      have hlen : (m.take l.length ++ l.drop (m.take l.length).length).length = l.length := by simp; omega
      have hown' : OwnB w' base e (.slice (some ⟨g, 0, none⟩) l.length l.length) (m.take l.length ++ l.drop (m.take l.length).length) := by
        refine ⟨by simp, .inr ⟨g, l.length, (splice (l.map bv) 0 ((m.take l.length).map bv)).toArray, by rw [hlen], hbg, hw'.out, by rw [hlen]; exact Nat.le_refl _, hcm, ?_, ?_⟩⟩
        · rw [hsp, List.size_toArray, List.length_map, hlen, Nat.mul_one]
        · rw [hsp, Nat.mul_one, List.take_of_length_le (by simp)]
      exact h w' _ _ hlen hown' hb'

theorem OwnB.lit1 (w : World) (x : UInt8) (e : TypeId) (base : Nat) (hb : base ≤ w.heap.size) : OwnB (w.alloc (.cells #[bv x] e)) base e (.slice (some ⟨w.heap.size, 0, none⟩) 1 1) [x] := by
  have := World.ownsRow_lit (base := base) (e := e) (size := 1) w #[bv x] 1 hb (by unfold maxLen; omega) (by simp)
  exact this

theorem same_n (aa ab : Option Addr) (na nb ca cb : Nat) (la lb : List UInt8) (w : World) (hna : na = la.length) (hnb : nb = lb.length) (ha : Rd w aa la) (hb : Rd w ab lb) (hla : la.length ≤ maxLen) (hlb : lb.length ≤ maxLen) :
    Calls Try.prog 11 #[.slice aa na ca, .slice ab nb cb] w fun e w' => e = .returned (.bool (decide (la = lb))) ∧ ∃ n, w' = w.drewN n := by
  subst hna; subst hnb; exact same_any aa ab ca cb la lb w ha hb hla hlb

/-- the second does not lie where the first does -/
def Apart (w : World) (v u : Value) : Prop := ∀ g, u.ownBlock = some g → v.ownBlock ≠ some g ∧ g < w.heap.size
theorem Apart.moved {w w' : World} {v v' u : Value} (h : Apart w v u) (hm : Moved w v v') (hw : w.heap.size ≤ w'.heap.size) : Apart w' v' u := by
  intro g hg
  obtain ⟨h1, h2⟩ := h g hg
  refine ⟨?_, by omega⟩
  rcases hm with hm | hm
  · rw [hm]; exact h1
  · rw [hm]; simp; omega
theorem Apart.ne {w : World} {v u : Value} (h : Apart w v u) : u.ownBlock = none ∨ u.ownBlock ≠ v.ownBlock := by
  cases hu : u.ownBlock with
  | none => exact .inl rfl
  | some g => right; rw [← hu, hu]; exact Ne.symm (h g hu).1
theorem Apart.up {w w' : World} {v u : Value} (h : Apart w v u) (hw : w.heap.size ≤ w'.heap.size) : Apart w' v u := fun g hg => ⟨(h g hg).1, by have := (h g hg).2; omega⟩
/-- a row made later lies apart -/
theorem Apart.later {w w' : World} {base e : Nat} {v u : Value} {l m : List UInt8} (hv : ∀ k, v.ownBlock = some k → k < w.heap.size) (hu : OwnB w' w.heap.size e u m) : Apart w' v u := by
  intro g hg
  obtain ⟨h1, h2⟩ := World.ownsRow.lt hu g hg
  refine ⟨?_, h2⟩
  intro q; have := hv g q; omega
end Go.Proofs.Ytmlaakadjkmphaa
