/-
  How much an object holds; how long it is printed. No program here.
-/
import Derived.Test.YtjkoiknjffldjaaGreatDoorKBkL
import Derived.Test.YtjkoiknjffldjaaGreatDoorKDig
/-
  How much an object holds; how long it is printed. No program here.
-/
namespace Go.Proofs.YtjkoiknjffldjaaGreatDoor
set_option linter.unusedVariables false

/-- values and letters of an object, so many in one another -/
def szS (f : PO → Nat) : PO → Nat
  | .mk k n b l d => 1 + b.length + (l.map f).sum + (d.map fun e => e.1.length + 1 + f e.2).sum
def szF : Nat → PO → Nat
  | 0, o => szS (fun _ => 1) o
  | dp + 1, o => szS (szF dp) o
theorem szF_pos (dp : Nat) (o : PO) : 1 ≤ szF dp o := by
  obtain ⟨k, n, b, l, d⟩ := o
  cases dp <;> (rw [szF, szS]; omega)
theorem sum_le {α : Type} {f g : α → Nat} (c : Nat) : ∀ (l : List α), (∀ x ∈ l, f x ≤ c * g x) → (l.map f).sum ≤ c * (l.map g).sum
  | [], _ => by simp
  | x :: l, h => by
    have h1 := h x (List.mem_cons_self ..)
    have h2 := sum_le c l fun y hy => h y (List.mem_cons_of_mem _ hy)
    rw [List.map_cons, List.sum_cons, List.map_cons, List.sum_cons, Nat.mul_add]
    omega
theorem len_flat {α : Type} (f : α → List UInt8) : ∀ l : List α, (l.flatMap f).length = (l.map fun x => (f x).length).sum
  | [] => rfl
  | x :: l => by rw [List.flatMap_cons, List.length_append, List.map_cons, List.sum_cons, len_flat f l]
theorem pnum_len (q : Bool) (n : Int) : (pnum q n).length ≤ 27 := by
  have h1 := fun m => dec_len 19 m
  have ht : ∀ (k : Nat) (l : List UInt8), (trim k l).length ≤ l.length := fun k => by
    induction k with
    | zero => intro l; exact Nat.le_refl _
    | succ k ih =>
      intro l
      rw [trim]
      split
      · refine Nat.le_trans (ih _) ?_
        simp
      · exact Nat.le_refl _
  have hf := fun m => five_len m
  unfold pnum
  split
  · unfold pwh
    have := h1 n.natAbs
    split <;> simp <;> omega
  · unfold prl
    have a1 := h1 (n.natAbs / 100000)
    have a2 := ht 5 (five (n.natAbs % 100000))
    rw [hf] at a2
    split <;> simp <;> omega
theorem ptx_le (b : List UInt8) : (ptx b).length ≤ 2 * b.length + 2 := by
  unfold ptx
  split
  · simp; omega
  · simp [dgts_len]
theorem sum_up {α : Type} {f g : α → Nat} : ∀ (l : List α), (∀ x ∈ l, f x ≤ 50 * g x) → (l.map f).sum ≤ 50 * (l.map g).sum := fun l h => sum_le 50 l h
theorem shwS_len (f : PO → List UInt8) (g : PO → Nat) (h : ∀ x, (f x).length + 10 ≤ 50 * g x) (o : PO) : (shwS f o).length + 10 ≤ 50 * szS g o := by
  obtain ⟨k, n, b, l, d⟩ := o
  have hp := fun q => pnum_len q n
  have ht := ptx_le b
  have hn := pnm_len b
  have hl : (shwA f l).length ≤ 50 * (l.map g).sum := by
    cases l with
    | nil => simp [shwA]
    | cons x l =>
      rw [shwA, List.length_append, len_flat, List.map_cons, List.sum_cons]
      have h1 := h x
      have h2 := sum_up (f := fun y => (32 :: f y).length) (g := g) l fun y _ => by
        have := h y
        rw [List.length_cons]; omega
      omega
  have hd : (d.flatMap (shwE f)).length ≤ 50 * (d.map fun e => e.1.length + 1 + g e.2).sum := by
    rw [len_flat]
    refine sum_up d fun e _ => ?_
    have h1 := h e.2
    have h2 := pnm_len e.1
    unfold shwE
    simp only [List.length_cons, List.length_append]
    omega
  unfold shwS szS
  simp only []
  have p1 := hp true
  have p2 := hp false
  split
  · split <;> simp [bTrue, bFalse] <;> omega
  split
  · omega
  split
  · omega
  split
  · omega
  split
  · simp only [List.length_cons]; omega
  split
  · simp only [List.length_append, List.length_cons, List.length_nil]; omega
  split
  · simp only [List.length_append, List.length_cons, List.length_nil]; omega
  split
  · simp only [List.length_append, List.length_cons, List.length_nil]; omega
  · simp [bNull]; omega
/-- how long an object is printed -/
theorem shwF_len : ∀ (dp : Nat) (o : PO), (shwF dp o).length + 10 ≤ 50 * szF dp o
  | 0, o => shwS_len (fun _ => []) (fun _ => 1) (fun _ => by simp) o
  | dp + 1, o => shwS_len (shwF dp) (szF dp) (fun x => shwF_len dp x) o
theorem mem_sum {α : Type} {f : α → Nat} : ∀ {l : List α} {x : α}, x ∈ l → f x ≤ (l.map f).sum
  | y :: l, x, h => by
    rw [List.map_cons, List.sum_cons]
    rcases List.mem_cons.1 h with q | q
    · subst q; omega
    · have := mem_sum (f := f) q; omega
theorem len_sum {α : Type} {f : α → Nat} (h : ∀ x, 1 ≤ f x) : ∀ l : List α, l.length ≤ (l.map f).sum
  | [] => by simp
  | x :: l => by
    have := len_sum h l
    have := h x
    rw [List.map_cons, List.sum_cons, List.length_cons]; omega
/-- what an object holds is no more than it -/
theorem szF_parts {dp : Nat} {k n : Int} {b : List UInt8} {l : List PO} {d : List (List UInt8 × PO)} {Z : Nat} (h : szF (dp + 1) (.mk k n b l d) ≤ Z) :
    b.length ≤ Z ∧ l.length ≤ Z ∧ d.length ≤ Z ∧ (∀ x ∈ l, szF dp x ≤ Z) ∧ ∀ e ∈ d, e.1.length ≤ Z ∧ szF dp e.2 ≤ Z := by
  rw [szF, szS] at h
  have h1 := len_sum (f := szF dp) (szF_pos dp) l
  have h2 := len_sum (f := fun e : List UInt8 × PO => e.1.length + 1 + szF dp e.2) (fun e => by have := szF_pos dp e.2; omega) d
  refine ⟨by omega, by omega, by omega, fun x hx => ?_, fun e he => ?_⟩
  · have := mem_sum (f := szF dp) hx; omega
  · have := mem_sum (f := fun e : List UInt8 × PO => e.1.length + 1 + szF dp e.2) he
    exact ⟨by omega, by omega⟩
end Go.Proofs.YtjkoiknjffldjaaGreatDoor
