/-
  The document's dict, by value's contract. Condition: the parser stands in its bytes; at most 28 deep.
-/
import Derived.Test.YtjkoiknjffldjaaGreatDoorHf
import Derived.Test.YtjkoiknjffldjaaGreatDoorHe
import Derived.Test.YtjkoiknjffldjaaGreatDoorHc
import Derived.Deep.CutRange
/-
  The document's array, by value's contract. Condition: the parser stands in its bytes; at most 28 deep.
-/
namespace Go.Proofs.YtjkoiknjffldjaaGreatDoor
open Go.RowKit
set_option linter.unusedVariables false

theorem Pd.grow {q : Bool} {dp : Nat} {w0 w w' : World} {pp : Nat} {b : List UInt8} {i : Nat} {s : List UInt8} (h : Pd q dp w0 w pp b i s) {row : Option Nat} (hg : w.grownBy w' row) (hr : ∀ k, row = Option.some k → w0.heap.size ≤ k) : Pd q dp w0 w' pp b i s :=
  h.under ⟨hg.os, hg.tape, hg.output, hg.size, fun k hk => hg.block k (Nat.lt_of_lt_of_le hk h.cx.size) (fun z => by have := hr k z.symm; omega)⟩
theorem Pd.rem {q : Bool} {dp : Nat} {w0 w : World} {pp : Nat} {b : List UInt8} {i : Nat} {s : List UInt8} (h : Pd q dp w0 w pp b i s) : remOf w pp = s.length := h.cx.rem

end Go.Proofs.YtjkoiknjffldjaaGreatDoor

/-
  The document's dict on its way: its keys, its entries, in memory of the call's own. Conditions: none but what is said.
-/
namespace Go.Proofs.YtjkoiknjffldjaaGreatDoor
open Go.RowKit
set_option linter.unusedVariables false

/-- a key's cell -/
def kcl (k : List UInt8) : List Value := [.string (st k)]
theorem kcl_map_len (l : List (List UInt8)) : ∀ c ∈ l.map kcl, c.length = 1 := fun c hc => by
  obtain ⟨k, -, rfl⟩ := List.mem_map.1 hc; rfl
theorem kcl_one (k : List UInt8) : ∀ c ∈ [kcl k], ∀ u ∈ c, u.oneCell' = true := fun c hc u hu => by
  rw [List.mem_singleton] at hc; subst hc
  rw [kcl, List.mem_singleton] at hu; subst hu; rfl
theorem strsTy : Tryz.prog.underlying 93 = some (.slice 9) := by kernel_rfl
theorem strsIn : (Tryz.prog.info? 9).map (fun i => (i.zero, i.size, i.bytes)) = some (some (.string ⟨#[]⟩), 1, 16) := by kernel_rfl
theorem SlA.grown {A B : Nat → Prop} {w w' : World} {v : Value} {b : List UInt8} {row : Option Nat} (h : SlA A w v b) (hA : ∀ g, A g → B g) (hg : w.grownBy w' row) (hr : ∀ g, A g → row ≠ some g) : SlA B w' v b := h.keep hA (fun g hq hlt => hg.block g hlt (fun q => hr g hq q.symm))

/-- keys in a row vk, entries E in a row vd that read as x -/
structure RowK (B : Nat) (w : World) (vk vd : Value) (keys : List (List UInt8)) (E : List KV) (x : List (List UInt8 × PO)) : Prop where
  krow : OwX 1 9 w B vk (keys.map kcl)
  drow : OwX 6 41 w B vd (E.map ecl)
  rel : EVs (fun g => B ≤ g ∧ g < w.heap.size ∧ vk.ownBlock ≠ some g) w E x
  ne : ∀ g, vd.ownBlock = some g → vk.ownBlock ≠ some g
section
variable {B : Nat} {w w' : World} {vk vd : Value} {keys : List (List UInt8)} {E : List KV} {x : List (List UInt8 × PO)}
theorem RowK.nil (B : Nat) (w : World) : RowK B w (.slice Option.none 0 0) (.slice Option.none 0 0) [] [] [] := ⟨OwX.nil _ _ _ _, OwX.nil _ _ _ _, .nil, fun g hg => by cases hg⟩
theorem RowK.held (h : RowK B w vk vd keys E x) {p r : Nat} (hb : Held w.heap.size p r w w') (hp : p < B) (hr : r < B) : RowK B w' vk vd keys E x :=
  ⟨h.krow.held hb (fun g hg => by have := (h.krow.lt g hg).1; exact ⟨by omega, by omega⟩), h.drow.held hb (fun g hg => by have := (h.drow.lt g hg).1; exact ⟨by omega, by omega⟩), h.rel.keep (fun g hg => ⟨hg.1, Nat.lt_of_lt_of_le hg.2.1 hb.size, hg.2.2⟩) (fun g hg hlt => hb.block g hlt (by have := hg.1; omega) (by have := hg.1; omega)), h.ne⟩
theorem RowK.up (h : RowK B w vk vd keys E x) (hb : Below w.heap.size w w') : RowK B w' vk vd keys E x :=
  ⟨h.krow.up hb, h.drow.up hb, h.rel.keep (fun g hg => ⟨hg.1, Nat.lt_of_lt_of_le hg.2.1 hb.size, hg.2.2⟩) (fun g hg hlt => hb.block g hlt), h.ne⟩
theorem RowK.len (h : RowK B w vk vd keys E x) : E.length = x.length := All2.len h.rel
/-- one key more -/
theorem RowK.push (h : RowK B w vk vd keys E x) {vk' : Value} {k : List UInt8} (hrow : OwX 1 9 w' B vk' (keys.map kcl ++ [kcl k])) (hg : w.grownBy w' vk.ownBlock) (hm : Moved w vk vk') : RowK B w' vk' vd (keys ++ [k]) E x := by
  have hne' : ∀ g, vk'.ownBlock = some g → vk.ownBlock = some g ∨ g = w.heap.size := by
    intro g hq
    rcases hm with hm | hm
    · left; rw [← hm]; exact hq
    · right; rw [hm] at hq; injection hq with hq; exact hq.symm
  refine ⟨by rw [List.map_append]; exact hrow, ⟨h.drow.1.kept hg ?_, h.drow.2⟩, h.rel.keep (fun g hq => ⟨hq.1, Nat.lt_of_lt_of_le hq.2.1 hg.size, fun q => ?_⟩) (fun g hq hlt => hg.block g hlt (fun q => hq.2.2 q.symm)), fun g hq q => ?_⟩
  · cases hb : vd.ownBlock with
    | none => exact .inl rfl
    | some g => exact .inr (fun q => h.ne g hb q.symm)
  · rcases hne' g q with q1 | q1
    · exact hq.2.2 q1
    · have := hq.2.1; omega
  · rcases hne' g q with q1 | q1
    · exact h.ne g hq q1
    · have := (h.drow.lt g hq).2; omega
/-- new entries -/
theorem RowK.put (h : RowK B w vk vd keys E x) (hb : Below w.heap.size w w') {vd' : Value} {E' : List KV} {y : List (List UInt8 × PO)} (hrow : OwX 6 41 w' w.heap.size vd' (E'.map ecl)) (hB : B ≤ w.heap.size) (hE : EVs (fun g => (B ≤ g ∧ g < w.heap.size ∧ vk.ownBlock ≠ some g) ∨ (w.heap.size ≤ g ∧ g < w'.heap.size)) w' E' y) : RowK B w' vk vd' keys E' y :=
  ⟨h.krow.up hb, hrow.base hB, hE.keep (fun g hg => by
    rcases hg with hg | hg
    · exact ⟨hg.1, Nat.lt_of_lt_of_le hg.2.1 hb.size, hg.2.2⟩
    · exact ⟨Nat.le_trans hB hg.1, hg.2, fun q => by have := (h.krow.lt g q).2; have := hg.1; omega⟩) (fun _ _ _ => rfl), fun g hg q => by have := (h.krow.lt g q).2; have := (hrow.lt g hg).1; omega⟩
/-- the object at the end -/
theorem RowK.obj (h : RowK B w vk vd keys E x) {A : Nat → Prop} (hA : ∀ g, B ≤ g → g < w.heap.size → A g) (hz : x.length ≤ 4000000) : OV A w [.int .i64 7, .int .i64 0, .slice none 0 0, .slice none 0 0, vd] (poDict x) := by
  have hr := h.drow.row hA
  rw [List.length_map] at hr
  exact OV.make (C := []) (SlA.nil A w) (RowA.nil _ _ _ _) .nil hr (h.rel.keep (fun g hg => hA g hg.1 hg.2.1) (fun _ _ _ => rfl)) ⟨by simp, by simp, hz⟩
end
end Go.Proofs.YtjkoiknjffldjaaGreatDoor

/-
  The document's dict, by value's contract. Condition: the parser stands in its bytes; at most 28 deep.
-/
namespace Go.Proofs.YtjkoiknjffldjaaGreatDoor
open Go.RowKit
set_option linter.unusedVariables false

theorem key_at {keys : List (List UInt8)} {j : Nat} (h : j < keys.length) : (keys.map kcl)[j]'(by rw [List.length_map]; exact h) = kcl keys[j] := by rw [List.getElem_map]
theorem take_no {keys : List (List UInt8)} {out : List UInt8} {j : Nat} (h : ∀ k ∈ keys.take j, ¬ k = out) (hj : j < keys.length) (hk : ¬ keys[j] = out) : ∀ k ∈ keys.take (j + 1), ¬ k = out := fun k hq => by
  rw [List.take_succ_eq_append_getElem hj] at hq
  rcases List.mem_append.1 hq with q | q
  · exact h k q
  · rw [List.mem_singleton] at q; subst q; exact hk

end Go.Proofs.YtjkoiknjffldjaaGreatDoor
