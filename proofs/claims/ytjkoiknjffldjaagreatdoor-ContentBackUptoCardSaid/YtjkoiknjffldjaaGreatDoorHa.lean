/-
  Rows of objects and of entries in memory, as lists of their values. Conditions: none but what is said.
-/
import Derived.Test.YtjkoiknjffldjaaGreatDoorJe
import Derived.Test.YtjkoiknjffldjaaGreatDoorJb
import Derived.Test.YtjkoiknjffldjaaGreatDoorJa
import Derived.Lib.Bytealg
/-
  A row of tokens, their bytes behind them; chapter 11's example. Condition: the rows lie apart from the lexer.
-/
namespace Go.Proofs.YtjkoiknjffldjaaGreatDoor
open Go.RowKit
set_option linter.unusedVariables false

/-- the tokens of chapter 11's example, what stands behind each -/
def exS : Nat → List UInt8
  | 0 => [47, 65, 35, 52, 50, 32, 40, 120, 40, 121, 41, 92, 49, 48, 49, 41, 60, 52, 32, 49, 62, 45, 46, 53, 32, 111, 98, 106]
  | 1 => [32, 40, 120, 40, 121, 41, 92, 49, 48, 49, 41, 60, 52, 32, 49, 62, 45, 46, 53, 32, 111, 98, 106]
  | 2 => [60, 52, 32, 49, 62, 45, 46, 53, 32, 111, 98, 106]
  | 3 => [45, 46, 53, 32, 111, 98, 106]
  | 4 => [32, 111, 98, 106]
  | _ => []
def exK : Nat → Int
  | 0 => 4
  | 1 => 3
  | 2 => 3
  | 3 => 2
  | 4 => 9
  | _ => 0
def exN : Nat → Int
  | 3 => -50000
  | _ => 0
def exO : Nat → List UInt8
  | 0 => [65, 66]
  | 1 => [120, 40, 121, 41, 65]
  | 2 => [65]
  | 4 => [111, 98, 106]
  | _ => []
theorem ex_tok (i : Nat) (h : i < 6) : TK (exS i) = .tok (exK i) (exN i) (exO i) (exS (i + 1)) ∧ (exO i).length ≤ 5 := by
  obtain rfl | rfl | rfl | rfl | rfl | rfl : i = 0 ∨ i = 1 ∨ i = 2 ∨ i = 3 ∨ i = 4 ∨ i = 5 := by omega
  all_goals exact ⟨by decide +kernel, by decide⟩
theorem row_held {p q : Nat} {w w' : World} {base : Nat} {e : TypeId} {size n : Nat} {v : Value} {xs : List Value} (h : w.ownsRow base e size v n xs) (hb : Held w.heap.size p q w w') (hn : ∀ g, v.ownBlock = Option.some g → g ≠ p ∧ g ≠ q) : w'.ownsRow base e size v n xs := by
  obtain ⟨h1, h2⟩ := h
  refine ⟨h1, ?_⟩
  rcases h2 with h2 | ⟨g, cap, cur, hv, hg, hh, h3⟩
  · exact .inl h2
  · refine .inr ⟨g, cap, cur, hv, hg, ?_, h3⟩
    have h4 := hn g (by rw [hv]; rfl)
    have hlt : g < w.heap.size := by
      rcases Nat.lt_or_ge g w.heap.size with q | q
      · exact q
      · rw [Array.getElem?_eq_none q] at hh; cases hh
    rw [hb.block g hlt h4.1 h4.2]; exact hh
theorem row_up {w w' : World} {base : Nat} {e : TypeId} {size n : Nat} {v : Value} {xs : List Value} (h : w.ownsRow base e size v n xs) (hb : Below w.heap.size w w') : w'.ownsRow base e size v n xs :=
  World.ownsRow.kept (row := Option.none) h ⟨hb.os, hb.tape, hb.output, hb.size, fun k hk _ => hb.block k hk⟩ (by cases hv : v.ownBlock <;> simp)
theorem Sl.held {p q : Nat} {w w' : World} {v : Value} {l : List UInt8} (h : Sl w v l) (hb : Held w.heap.size p q w w') (hn : ∀ g, v.ownBlock = Option.some g → g ≠ p ∧ g ≠ q) : Sl w' v l := by
  obtain ⟨ao, cap, rfl, h2, h3, h4, h5⟩ := h
  exact ⟨ao, cap, rfl, h2, h3, h4, h5.held hb (fun _ a ha => hn a.block (by subst ha; rfl))⟩
theorem Sl.grown {w w' : World} {v : Value} {l : List UInt8} {row : Option Nat} (h : Sl w v l) (hg : w.grownBy w' row) (hn : ∀ g, v.ownBlock = Option.some g → row ≠ Option.some g) : Sl w' v l := by
  obtain ⟨ao, cap, rfl, h2, h3, h4, h5⟩ := h
  refine ⟨ao, cap, rfl, h2, h3, h4, ?_⟩
  rcases h5 with h5 | ⟨b, off, rfl, h6⟩
  · exact .inl h5
  · refine .inr ⟨b, off, rfl, fun j hj => ?_⟩
    have h7 := h6 j hj
    rw [World.cell?_of_block (w := w) (hg.block b (World.block_lt_of_cell? w _ h7) (fun q => hn b rfl q.symm))]
    exact h7

/-- the values of tokens in a row, from number i on -/
def tcells : Nat → List (Int × Value) → List Value
  | _, [] => []
  | i, (a, u) :: L => .int .i64 (exK i) :: .int .i64 a :: .int .i64 (exN i) :: u :: tcells (i + 1) L
theorem tcells_app : ∀ (L : List (Int × Value)) (i : Nat) (a : Int) (u : Value), tcells i (L ++ [(a, u)]) = tcells i L ++ [.int .i64 (exK (i + L.length)), .int .i64 a, .int .i64 (exN (i + L.length)), u]
  | [], i, a, u => by simp [tcells]
  | (b, v) :: L, i, a, u => by
    rw [List.cons_append, tcells, tcells, tcells_app L (i + 1) a u, List.length_cons, show i + 1 + L.length = i + (L.length + 1) by omega]
    rfl

/-- the row of the tokens that were read, their bytes behind them -/
structure Got (w : World) (B lp cp : Nat) (vg : Value) (L : List (Int × Value)) : Prop where
  row : w.ownsRow B 85 4 vg L.length (tcells 0 L)
  sl : ∀ i p, L[i]? = Option.some p → Sl w p.2 (exO i) ∧ ∀ g, p.2.ownBlock = Option.some g → g ≠ lp ∧ g ≠ cp ∧ g < w.heap.size ∧ vg.ownBlock ≠ Option.some g
  ne : ∀ g, vg.ownBlock = Option.some g → g ≠ lp ∧ g ≠ cp
theorem Got.nil (w : World) (B lp cp : Nat) : Got w B lp cp (.slice Option.none 0 0) [] := ⟨World.ownsRow_nil _ _ _ _, fun i p h => by simp at h, fun g h => by cases h⟩
theorem Got.held {w w' : World} {B lp cp : Nat} {vg : Value} {L : List (Int × Value)} (h : Got w B lp cp vg L) (hb : Held w.heap.size lp cp w w') : Got w' B lp cp vg L :=
  ⟨row_held h.row hb h.ne, fun i p hp => ⟨(h.sl i p hp).1.held hb (fun g hg => by have := (h.sl i p hp).2 g hg; exact ⟨this.1, this.2.1⟩), fun g hg => by have := (h.sl i p hp).2 g hg; exact ⟨this.1, this.2.1, Nat.lt_of_lt_of_le this.2.2.1 hb.size, this.2.2.2⟩⟩, h.ne⟩
theorem Got.up {w w' : World} {B lp cp : Nat} {vg : Value} {L : List (Int × Value)} (h : Got w B lp cp vg L) (hb : Below w.heap.size w w') : Got w' B lp cp vg L := h.held (Held.of_below hb)
/-- one token more -/
theorem Got.push {w w' : World} {B lp cp : Nat} {vg v' : Value} {L : List (Int × Value)} {a : Int} {u : Value} (h : Got w B lp cp vg L)
    (hr : w'.ownsRow B 85 4 v' (L.length + 1) (tcells 0 L ++ [.int .i64 (exK L.length), .int .i64 a, .int .i64 (exN L.length), u]))
    (hg : w.grownBy w' vg.ownBlock) (hm : Moved w vg v') (hlp : lp < w.heap.size) (hcp : cp < w.heap.size)
    (hu : Sl w u (exO L.length)) (hn : ∀ g, u.ownBlock = Option.some g → g ≠ lp ∧ g ≠ cp ∧ g < w.heap.size ∧ vg.ownBlock ≠ Option.some g) : Got w' B lp cp v' (L ++ [(a, u)]) := by
  have hne' : ∀ g, v'.ownBlock = Option.some g → vg.ownBlock = Option.some g ∨ g = w.heap.size := by
    intro g hq
    rcases hm with hm | hm
    · left; rw [← hm]; exact hq
    · right; rw [hm] at hq; injection hq with hq; exact hq.symm
  have key : ∀ (x : Value) (l : List UInt8), Sl w x l → (∀ g, x.ownBlock = Option.some g → g ≠ lp ∧ g ≠ cp ∧ g < w.heap.size ∧ vg.ownBlock ≠ Option.some g) → Sl w' x l ∧ ∀ g, x.ownBlock = Option.some g → g ≠ lp ∧ g ≠ cp ∧ g < w'.heap.size ∧ v'.ownBlock ≠ Option.some g := by
    intro x l h1 h2
    refine ⟨h1.grown hg (fun g q => (h2 g q).2.2.2), fun g q => ?_⟩
    obtain ⟨q1, q2, q3, q4⟩ := h2 g q
    refine ⟨q1, q2, Nat.lt_of_lt_of_le q3 hg.size, fun q5 => ?_⟩
    rcases hne' g q5 with q6 | q6
    · exact q4 q6
    · omega
  refine ⟨?_, ?_, ?_⟩
  · rw [tcells_app, Nat.zero_add, List.length_append, List.length_singleton]; exact hr
  · intro i p hp
    rcases Nat.lt_trichotomy i L.length with q | q | q
    · rw [List.getElem?_append_left q] at hp
      exact key _ _ (h.sl i p hp).1 (h.sl i p hp).2
    · subst q
      simp at hp
      subst hp
      exact key _ _ hu hn
    · rw [List.getElem?_eq_none (by simp; omega)] at hp; cases hp
  · intro g q
    rcases hne' g q with q6 | q6
    · exact h.ne g q6
    · exact ⟨by omega, by omega⟩

theorem news_cells (w : World) (g : Nat) (hg : g = w.heap.size) (vs : List Value) (e : TypeId) : ∀ j u, vs[j]? = Option.some u → (w.alloc (.cells vs.toArray e)).cell? ((⟨g, 0, Option.none⟩ : Addr).add j) = Option.some u := by
  subst hg
  intro j u hj
  have e1 : (⟨w.heap.size, 0, Option.none⟩ : Addr).add j = ⟨w.heap.size, j, Option.none⟩ := by cases j <;> simp [Addr.add]
  rw [e1, World.cell?_alloc_at _ _ _ _ rfl]
  simpa using hj
end Go.Proofs.YtjkoiknjffldjaaGreatDoor

/-
  The plain model of the parser: objects, what is read of bytes. No program here.
-/
namespace Go.Proofs.YtjkoiknjffldjaaGreatDoor
set_option linter.unusedVariables false

/-- an object: its kind, its number, its bytes, its items, its entries -/
inductive PO where
  | mk (kind n : Int) (b : List UInt8) (l : List PO) (d : List (List UInt8 × PO))
def PO.kind : PO → Int
  | .mk k _ _ _ _ => k
def poNull : PO := .mk 0 0 [] [] []
def poBool (n : Int) : PO := .mk 1 n [] [] []
def poInt (n : Int) : PO := .mk 2 n [] [] []
def poReal (n : Int) : PO := .mk 3 n [] [] []
def poStr (b : List UInt8) : PO := .mk 4 0 b [] []
def poName (b : List UInt8) : PO := .mk 5 0 b [] []
def poArr (l : List PO) : PO := .mk 6 0 [] l []
def poDict (d : List (List UInt8 × PO)) : PO := .mk 7 0 [] [] d
def poRef (n : Int) : PO := .mk 9 n [] [] []

/-- the first is ahead of the second, or as it is -/
def kle : List UInt8 → List UInt8 → Bool
  | [], _ => true
  | _ :: _, [] => false
  | x :: a, y :: b => if x < y then true else if y < x then false else kle a b
/-- entries with one more, by its key; of a Null without -/
def wi (e : List UInt8 × PO) : List (List UInt8 × PO) → List (List UInt8 × PO)
  | [] => if e.2.kind = 0 then [] else [e]
  | x :: d => if ¬ e.2.kind = 0 ∧ kle e.1 x.1 = true then e :: (x :: d).filter (fun y => !(y.1 == e.1)) else if x.1 = e.1 then wi e d else x :: wi e d
def dictOf (l : List (List UInt8 × PO)) : PO := poDict (l.foldl (fun d e => wi e d) [])

/-- what is read: an error and what stands at its place; or an object and what stands behind it -/
inductive PRes where
  | bad (e : Int) (at_ : List UInt8)
  | ok (o : PO) (rest : List UInt8)
/-- what is to be read: a value; an array's rest, a dictionary's -/
inductive Md where
  | v (d : Nat)
  | a (d : Nat) (acc : List PO)
  | m (d : Nat) (keys : List (List UInt8)) (acc : List (List UInt8 × PO))

/-- a number, or the object that it names -/
def whole (q : Bool) (n : Int) (r : List UInt8) : PRes :=
  if 1 ≤ n ∧ n ≤ 8388607 ∧ q = false then
    match TK r with
    | .tok 1 0 _ r1 =>
      match TK r1 with
      | .tok 9 _ out r2 => if out = [82] then .ok (poRef n) r2 else .ok (poInt n) r
      | _ => .ok (poInt n) r
    | _ => .ok (poInt n) r
  else .ok (poInt n) r

/-- a word -/
def wordO (out : List UInt8) : Option PO :=
  if out = [116, 114, 117, 101] then some (poBool 1) else if out = [102, 97, 108, 115, 101] then some (poBool 0) else if out = [110, 117, 108, 108] then some poNull else none

def pF (q : Bool) : Nat → Md → List UInt8 → Option PRes
  | 0, _, _ => none
  | f + 1, .v d, s =>
    match TK s with
    | .bad e => some (.bad e (s.drop (bl s false)))
    | .tok k n out r =>
      if k = 0 then some (.bad 2 (s.drop (bl s false)))
      else if k = 1 then some (whole q n r)
      else if k = 2 then some (.ok (poReal n) r)
      else if k = 3 then some (.ok (poStr out) r)
      else if k = 4 then some (.ok (poName out) r)
      else if k = 9 then some (match wordO out with | some o => .ok o r | none => .bad 4 (s.drop (bl s false)))
      else if k = 5 ∨ k = 7 then
        match d with
        | 0 => some (.bad 6 (s.drop (bl s false)))
        | d + 1 => if k = 5 then pF q f (.a d []) r else pF q f (.m d [] []) r
      else some (.bad 4 (s.drop (bl s false)))
  | f + 1, .a d acc, s =>
    match TK s with
    | .bad e => some (.bad e (s.drop (bl s false)))
    | .tok k n out r =>
      if k = 6 then some (.ok (poArr acc) r)
      else match pF q f (.v d) s with
        | none => none
        | some (.bad e t) => some (.bad e t)
        | some (.ok x t) => pF q f (.a d (acc ++ [x])) t
  | f + 1, .m d keys acc, s =>
    match TK s with
    | .bad e => some (.bad e (s.drop (bl s false)))
    | .tok k n out r =>
      if k = 8 then some (.ok (dictOf acc) r)
      else if k = 0 then some (.bad 2 (s.drop (bl s false)))
      else if ¬ k = 4 then some (.bad 4 (s.drop (bl s false)))
      else if out ∈ keys then some (.bad 4 (s.drop (bl s false)))
      else match pF q f (.v d) r with
        | none => none
        | some (.bad e t) => some (.bad e t)
        | some (.ok x t) => pF q f (.m d (keys ++ [out]) (acc ++ [(out, x)])) t

theorem pF_succ (q : Bool) : ∀ (f : Nat) (m : Md) (s : List UInt8) (r : PRes), pF q f m s = some r → pF q (f + 1) m s = some r
  | 0, m, s, r, h => by simp [pF] at h
  | f + 1, .v d, s, r, h => by
    rw [pF] at h ⊢
    cases hT : TK s with
    | bad e => rw [hT] at h; exact h
    | tok k n out t =>
      rw [hT] at h
      simp only [] at h ⊢
      by_cases h5 : k = 5 ∨ k = 7
      · have q0 : ¬ k = 0 := by omega
        have q1 : ¬ k = 1 := by omega
        have q2 : ¬ k = 2 := by omega
        have q3 : ¬ k = 3 := by omega
        have q4 : ¬ k = 4 := by omega
        have q9 : ¬ k = 9 := by omega
        rw [if_neg q0, if_neg q1, if_neg q2, if_neg q3, if_neg q4, if_neg q9, if_pos h5] at h ⊢
        cases d with
        | zero => exact h
        | succ d =>
          simp only [] at h ⊢
          split at h <;> rename_i hk
          · rw [if_pos hk]; exact pF_succ q f _ _ _ h
          · rw [if_neg hk]; exact pF_succ q f _ _ _ h
      · rw [if_neg h5] at h ⊢
        exact h
  | f + 1, .a d acc, s, r, h => by
    rw [pF] at h ⊢
    cases hT : TK s with
    | bad e => rw [hT] at h; exact h
    | tok k n out t =>
      rw [hT] at h
      simp only [] at h ⊢
      split at h <;> rename_i hk
      · rw [if_pos hk]; exact h
      · rw [if_neg hk]
        cases hv : pF q f (.v d) s with
        | none => rw [hv] at h; simp at h
        | some x =>
          rw [hv] at h
          rw [pF_succ q f _ _ _ hv]
          cases x with
          | bad e t => exact h
          | ok x t => exact pF_succ q f _ _ _ h
  | f + 1, .m d keys acc, s, r, h => by
    rw [pF] at h ⊢
    cases hT : TK s with
    | bad e => rw [hT] at h; exact h
    | tok k n out t =>
      rw [hT] at h
      simp only [] at h ⊢
      by_cases h8 : k = 8
      · rw [if_pos h8] at h ⊢; exact h
      rw [if_neg h8] at h ⊢
      by_cases h0 : k = 0
      · rw [if_pos h0] at h ⊢; exact h
      rw [if_neg h0] at h ⊢
      by_cases h4 : ¬ k = 4
      · rw [if_pos h4] at h ⊢; exact h
      rw [if_neg h4] at h ⊢
      by_cases hm : out ∈ keys
      · rw [if_pos hm] at h ⊢; exact h
      rw [if_neg hm] at h ⊢
      cases hv : pF q f (.v d) t with
      | none => rw [hv] at h; simp at h
      | some x =>
        rw [hv] at h
        rw [pF_succ q f _ _ _ hv]
        cases x with
        | bad e t => exact h
        | ok x t => exact pF_succ q f _ _ _ h
theorem pF_add (q : Bool) (g : Nat) : ∀ (f : Nat) (m : Md) (s : List UInt8) (r : PRes), pF q f m s = some r → pF q (f + g) m s = some r := by
  induction g with
  | zero => intro f m s r h; exact h
  | succ g ih => intro f m s r h; exact pF_succ q _ _ _ _ (ih f m s r h)

/-- s is read as r -/
def PV (q : Bool) (m : Md) (s : List UInt8) (r : PRes) : Prop := ∃ f, pF q f m s = some r
theorem PV.one {q : Bool} {m : Md} {s : List UInt8} {r1 r2 : PRes} (h1 : PV q m s r1) (h2 : PV q m s r2) : r1 = r2 := by
  obtain ⟨f, h1⟩ := h1
  obtain ⟨g, h2⟩ := h2
  have a1 := pF_add q g f m s r1 h1
  have a2 := pF_add q f g m s r2 h2
  rw [Nat.add_comm g f] at a2
  rw [a1] at a2
  injection a2
theorem PV.of {q : Bool} {m : Md} {s : List UInt8} {r : PRes} (f : Nat) (h : pF q f m s = some r) : PV q m s r := ⟨f, h⟩

section
variable {q : Bool} {d : Nat} {s r t out : List UInt8} {k n e : Int} {acc : List PO} {x : PO} {res : PRes} {keys : List (List UInt8)} {ents : List (List UInt8 × PO)}

theorem PV.v_open (hT : TK s = .tok 5 n out r) (h : PV q (.a d []) r res) : PV q (.v (d + 1)) s res := by
  obtain ⟨f, h⟩ := h
  refine ⟨f + 1, ?_⟩
  rw [pF, hT]; simpa using h
theorem PV.v_left (hT : TK s = .tok 7 n out r) (h : PV q (.m d [] []) r res) : PV q (.v (d + 1)) s res := by
  obtain ⟨f, h⟩ := h
  refine ⟨f + 1, ?_⟩
  rw [pF, hT]; simpa using h
theorem PV.a_close (hT : TK s = .tok 6 n out r) : PV q (.a d acc) s (.ok (poArr acc) r) := ⟨1, by rw [pF, hT]; simp⟩
theorem PV.a_bad (hT : TK s = .bad e) : PV q (.a d acc) s (.bad e (s.drop (bl s false))) := ⟨1, by rw [pF, hT]⟩
theorem PV.a_stop (hT : TK s = .tok k n out r) (hk : ¬ k = 6) (h : PV q (.v d) s (.bad e t)) : PV q (.a d acc) s (.bad e t) := by
  obtain ⟨f, h⟩ := h
  refine ⟨f + 1, ?_⟩
  rw [pF, hT]; simp [hk, h]
theorem PV.a_step (hT : TK s = .tok k n out r) (hk : ¬ k = 6) (h : PV q (.v d) s (.ok x t)) (h2 : PV q (.a d (acc ++ [x])) t res) : PV q (.a d acc) s res := by
  obtain ⟨f, h⟩ := h
  obtain ⟨g, h2⟩ := h2
  refine ⟨f + g + 1, ?_⟩
  have a1 := pF_add q g f _ _ _ h
  have a2 := pF_add q f g _ _ _ h2
  rw [Nat.add_comm g f] at a2
  rw [pF, hT]; simp [hk, a1, a2]
theorem PV.m_close (hT : TK s = .tok 8 n out r) : PV q (.m d keys ents) s (.ok (dictOf ents) r) := ⟨1, by rw [pF, hT]; simp⟩
theorem PV.m_bad (hT : TK s = .bad e) : PV q (.m d keys ents) s (.bad e (s.drop (bl s false))) := ⟨1, by rw [pF, hT]⟩
theorem PV.m_end (hT : TK s = .tok 0 n out r) : PV q (.m d keys ents) s (.bad 2 (s.drop (bl s false))) := ⟨1, by rw [pF, hT]; simp⟩
theorem PV.m_form (hT : TK s = .tok k n out r) (h8 : ¬ k = 8) (h0 : ¬ k = 0) (h4 : ¬ k = 4) : PV q (.m d keys ents) s (.bad 4 (s.drop (bl s false))) := ⟨1, by rw [pF, hT]; simp [h8, h0, h4]⟩
theorem PV.m_twice (hT : TK s = .tok 4 n out r) (h : out ∈ keys) : PV q (.m d keys ents) s (.bad 4 (s.drop (bl s false))) := ⟨1, by rw [pF, hT]; simp [h]⟩
theorem PV.m_stop (hT : TK s = .tok 4 n out r) (hk : ¬ out ∈ keys) (h : PV q (.v d) r (.bad e t)) : PV q (.m d keys ents) s (.bad e t) := by
  obtain ⟨f, h⟩ := h
  refine ⟨f + 1, ?_⟩
  rw [pF, hT]; simp [hk, h]
theorem PV.m_step (hT : TK s = .tok 4 n out r) (hk : ¬ out ∈ keys) (h : PV q (.v d) r (.ok x t)) (h2 : PV q (.m d (keys ++ [out]) (ents ++ [(out, x)])) t res) : PV q (.m d keys ents) s res := by
  obtain ⟨f, h⟩ := h
  obtain ⟨g, h2⟩ := h2
  refine ⟨f + g + 1, ?_⟩
  have a1 := pF_add q g f _ _ _ h
  have a2 := pF_add q f g _ _ _ h2
  rw [Nat.add_comm g f] at a2
  rw [pF, hT]; simp [hk, a1, a2]
end
end Go.Proofs.YtjkoiknjffldjaaGreatDoor

/-
  Objects in memory: five cells, rows of items and of entries behind them; the program's constructors. Conditions: none but what is said.
-/
namespace Go.Proofs.YtjkoiknjffldjaaGreatDoor
open Go.RowKit
set_option linter.unusedVariables false

/-- a slice of bytes in blocks that are allowed -/
def SlA (A : Nat → Prop) (w : World) (v : Value) (b : List UInt8) : Prop := Sl w v b ∧ ∀ g, v.ownBlock = Option.some g → A g
/-- a slice of n elements of sz cells, in a block that is allowed -/
def RowA (A : Nat → Prop) (w : World) (sz : Nat) (v : Value) (n : Nat) (c : Nat → List Value) : Prop :=
  ∃ ao cap, v = .slice ao n cap ∧ n ≤ cap ∧ cap ≤ maxLen ∧ (ao = none → cap = 0) ∧ (∀ i, i < n → (c i).length = sz) ∧ (n = 0 ∨ ∃ g off, ao = some ⟨g, off, none⟩ ∧ A g ∧ ∀ i, i < n → ∀ j u, (c i)[j]? = some u → w.cell? ⟨g, off + (sz * i + j), none⟩ = some u)

/-- these five values are the object -/
inductive OV (A : Nat → Prop) (w : World) : List Value → PO → Prop
  | mk (k n : Int) (vb vl vd : Value) (b : List UInt8) (l : List PO) (d : List (List UInt8 × PO)) (cl cd : Nat → List Value)
      (hb : SlA A w vb b) (hl : RowA A w 5 vl l.length cl) (hl' : ∀ i (h : i < l.length), OV A w (cl i) l[i])
      (hd : RowA A w 6 vd d.length cd) (hk : ∀ i (h : i < d.length), (cd i).head? = some (.string (st d[i].1))) (hd' : ∀ i (h : i < d.length), OV A w (cd i).tail d[i].2)
      (hz : b.length ≤ 4000000 ∧ l.length ≤ 4000000 ∧ d.length ≤ 4000000) :
      OV A w [.int .i64 k, .int .i64 n, vb, vl, vd] (.mk k n b l d)

theorem SlA.keep {A B : Nat → Prop} {w w' : World} {v : Value} {b : List UInt8} (h : SlA A w v b) (hA : ∀ g, A g → B g) (hk : ∀ g, A g → g < w.heap.size → w'.heap[g]? = w.heap[g]?) : SlA B w' v b := by
  obtain ⟨⟨ao, cap, rfl, h2, h3, h4, h5⟩, h6⟩ := h
  refine ⟨⟨ao, cap, rfl, h2, h3, h4, ?_⟩, fun g hg => hA g (h6 g hg)⟩
  rcases h5 with h5 | ⟨g, off, rfl, h7⟩
  · exact .inl h5
  · refine .inr ⟨g, off, rfl, fun j hj => ?_⟩
    have h8 := h7 j hj
    rw [World.cell?_of_block (w := w) (hk g (h6 g rfl) (World.block_lt_of_cell? w _ h8))]
    exact h8
theorem RowA.keep {A B : Nat → Prop} {w w' : World} {sz n : Nat} {v : Value} {c : Nat → List Value} (h : RowA A w sz v n c) (hA : ∀ g, A g → B g) (hk : ∀ g, A g → g < w.heap.size → w'.heap[g]? = w.heap[g]?) : RowA B w' sz v n c := by
  obtain ⟨ao, cap, rfl, h2, h3, h4, h5, h6⟩ := h
  refine ⟨ao, cap, rfl, h2, h3, h4, h5, ?_⟩
  rcases h6 with h6 | ⟨g, off, rfl, h7, h8⟩
  · exact .inl h6
  · refine .inr ⟨g, off, rfl, hA g h7, fun i hi j u hu => ?_⟩
    have h9 := h8 i hi j u hu
    rw [World.cell?_of_block (w := w) (hk g h7 (World.block_lt_of_cell? w _ h9))]
    exact h9
theorem OV.keep {A B : Nat → Prop} {w w' : World} (hA : ∀ g, A g → B g) (hk : ∀ g, A g → g < w.heap.size → w'.heap[g]? = w.heap[g]?) {vs : List Value} {o : PO} (h : OV A w vs o) : OV B w' vs o := by
  induction h with
  | mk k n vb vl vd b l d cl cd hb hl hl' hd hkk hd' hz ih1 ih2 => exact .mk k n vb vl vd b l d cl cd (hb.keep hA hk) (hl.keep hA hk) ih1 (hd.keep hA hk) hkk ih2 hz
theorem OV.up {A : Nat → Prop} {w w' : World} {vs : List Value} {o : PO} (h : OV A w vs o) (hb : Below w.heap.size w w') : OV A w' vs o := h.keep (fun _ h => h) (fun g _ hg => hb.block g hg)
theorem OV.len {A : Nat → Prop} {w : World} {vs : List Value} {o : PO} (h : OV A w vs o) : vs.length = 5 := by cases h; rfl
theorem SlA.nil (A : Nat → Prop) (w : World) : SlA A w (.slice none 0 0) [] := ⟨Sl.nil w, fun g h => by cases h⟩
theorem RowA.nil (A : Nat → Prop) (w : World) (sz : Nat) (c : Nat → List Value) : RowA A w sz (.slice none 0 0) 0 c := ⟨none, 0, rfl, Nat.le_refl _, by simp [maxLen], fun _ => rfl, fun i h => absurd h (Nat.not_lt_zero _), .inl rfl⟩
/-- an object without items, without entries -/
theorem OV.flat {A : Nat → Prop} {w : World} (k n : Int) (vb : Value) (b : List UInt8) (hb : SlA A w vb b) (hz : b.length ≤ 4000000) : OV A w [.int .i64 k, .int .i64 n, vb, .slice none 0 0, .slice none 0 0] (.mk k n b [] []) :=
  .mk k n vb _ _ b [] [] (fun _ => []) (fun _ => []) hb (RowA.nil _ _ _ _) (fun i h => absurd h (Nat.not_lt_zero _)) (RowA.nil _ _ _ _) (fun i h => absurd h (Nat.not_lt_zero _)) (fun i h => absurd h (Nat.not_lt_zero _)) ⟨hz, by simp, by simp⟩
theorem OV.num {A : Nat → Prop} {w : World} (k n : Int) : OV A w [.int .i64 k, .int .i64 n, .slice none 0 0, .slice none 0 0, .slice none 0 0] (.mk k n [] [] []) := OV.flat k n _ [] (SlA.nil A w) (by simp)

/-- a block that was made ahead of a call is as it was made -/
theorem rc_below {w w1 : World} {o : Obj} (hb : Below (w.alloc o).heap.size (w.alloc o) w1) : (∀ k, w1.cell? ⟨w.heap.size, k, none⟩ = (w.alloc o).cell? ⟨w.heap.size, k, none⟩) ∧ (∀ k, w1.frozen? ⟨w.heap.size, k, none⟩ = (w.alloc o).frozen? ⟨w.heap.size, k, none⟩) ∧ w.heap.size < w1.heap.size := by
  have hz : w.heap.size < (w.alloc o).heap.size := by simp
  exact ⟨fun k => hb.cell (p := ⟨w.heap.size, k, none⟩) hz, fun k => World.frozen?_of_block (w := w.alloc o) (hb.block w.heap.size hz), Nat.lt_of_lt_of_le hz hb.size⟩

/-- five values as one -/
abbrev ob (k n : Int) (vb : Value) : Value := .agg #[.int .i64 k, .int .i64 n, vb, .slice none 0 0, .slice none 0 0]

set_option maxRecDepth 100000 in
theorem none_any (w : World) : Calls Tryz.prog 114 #[] w fun e w' => e = .returned (ob 0 0 (.slice none 0 0)) ∧ Below w.heap.size w w' := by
  go_enter Tryz.func114, Tryz.ntmps114
  go_wp2
  refine bodyPost_ret (v := ob 0 0 (.slice none 0 0)) (by simp [results, Tryz.results114, go_sem]) rfl ⟨rfl, by first | exact alb _ _ | exact below_then (alb _ _) (alb _ _)⟩

set_option maxRecDepth 100000 in
theorem real_any (n : Int) (w : World) : Calls Tryz.prog 93 #[.int .i64 n] w fun e w' => e = .returned (ob 3 n (.slice none 0 0)) ∧ Below w.heap.size w w' := by
  go_enter Tryz.func93, Tryz.ntmps93
  go_wp2
  refine bodyPost_ret (v := ob 3 n (.slice none 0 0)) (by simp [results, Tryz.results93, go_sem]) rfl ⟨rfl, by first | exact alb _ _ | exact below_then (alb _ _) (alb _ _)⟩

set_option maxRecDepth 100000 in
theorem int_any (n : Int) (w : World) : Calls Tryz.prog 112 #[.int .i64 n] w fun e w' => e = .returned (ob 2 n (.slice none 0 0)) ∧ Below w.heap.size w w' := by
  go_enter Tryz.func112, Tryz.ntmps112
  go_wp2
  refine bodyPost_ret (v := ob 2 n (.slice none 0 0)) (by simp [results, Tryz.results112, go_sem]) rfl ⟨rfl, by first | exact alb _ _ | exact below_then (alb _ _) (alb _ _)⟩

set_option maxRecDepth 100000 in
theorem ref_any (n : Int) (w : World) : Calls Tryz.prog 111 #[.int .i64 n] w fun e w' => e = .returned (ob 9 n (.slice none 0 0)) ∧ Below w.heap.size w w' := by
  go_enter Tryz.func111, Tryz.ntmps111
  go_wp2
  refine bodyPost_ret (v := ob 9 n (.slice none 0 0)) (by simp [results, Tryz.results111, go_sem]) rfl ⟨rfl, by first | exact alb _ _ | exact below_then (alb _ _) (alb _ _)⟩

set_option maxRecDepth 100000 in
theorem bool_t (w : World) : Calls Tryz.prog 113 #[.bool true] w fun e w' => e = .returned (ob 1 1 (.slice none 0 0)) ∧ Below w.heap.size w w' := by
  go_enter Tryz.func113, Tryz.ntmps113
  go_wp2
  refine bodyPost_ret (v := ob 1 1 (.slice none 0 0)) (by simp [results, Tryz.results113, go_sem]) rfl ⟨rfl, by first | exact alb _ _ | exact below_then (alb _ _) (alb _ _)⟩

set_option maxRecDepth 100000 in
theorem bool_f (w : World) : Calls Tryz.prog 113 #[.bool false] w fun e w' => e = .returned (ob 1 0 (.slice none 0 0)) ∧ Below w.heap.size w w' := by
  go_enter Tryz.func113, Tryz.ntmps113
  go_wp2
  refine bodyPost_ret (v := ob 1 0 (.slice none 0 0)) (by simp [results, Tryz.results113, go_sem]) rfl ⟨rfl, by first | exact alb _ _ | exact below_then (alb _ _) (alb _ _)⟩

/-- five cells of a block, set -/
abbrev set5 (w : World) (g : Nat) (a b c d e : Value) : World := ((((w.setCell ⟨g, 0, none⟩ a).setCell ⟨g, 1, none⟩ b).setCell ⟨g, 2, none⟩ c).setCell ⟨g, 3, none⟩ d).setCell ⟨g, 4, none⟩ e
theorem set5_held (w : World) (B g : Nat) (a b c d e : Value) : Held B g g w (set5 w g a b c d e) :=
  ((((Held.set w ⟨g, 0, none⟩ a (.inl rfl)).trans (Held.set _ ⟨g, 1, none⟩ b (.inl rfl))).trans (Held.set _ ⟨g, 2, none⟩ c (.inl rfl))).trans (Held.set _ ⟨g, 3, none⟩ d (.inl rfl))).trans (Held.set _ ⟨g, 4, none⟩ e (.inl rfl))
theorem set5_cells {w : World} {g : Nat} {a b c d e : Value} (h : ∀ k, k < 5 → ∃ u, w.cell? ⟨g, k, none⟩ = some u) :
    (set5 w g a b c d e).cell? ⟨g, 0, none⟩ = some a ∧ (set5 w g a b c d e).cell? ⟨g, 1, none⟩ = some b ∧ (set5 w g a b c d e).cell? ⟨g, 2, none⟩ = some c ∧ (set5 w g a b c d e).cell? ⟨g, 3, none⟩ = some d ∧ (set5 w g a b c d e).cell? ⟨g, 4, none⟩ = some e := by
  obtain ⟨u0, h0⟩ := h 0 (by decide)
  obtain ⟨u1, h1⟩ := h 1 (by decide)
  obtain ⟨u2, h2⟩ := h 2 (by decide)
  obtain ⟨u3, h3⟩ := h 3 (by decide)
  obtain ⟨u4, h4⟩ := h 4 (by decide)
  have ne : ∀ {i j : Nat}, i ≠ j → (⟨g, i, none⟩ : Addr) ≠ ⟨g, j, none⟩ := fun hij q => by injection q with _ q2; exact hij q2
  refine ⟨?_, ?_, ?_, ?_, ?_⟩
  · unfold set5; rw [cset_ne (ne (by decide)), cset_ne (ne (by decide)), cset_ne (ne (by decide)), cset_ne (ne (by decide))]; exact cset h0
  · unfold set5; rw [cset_ne (ne (by decide)), cset_ne (ne (by decide)), cset_ne (ne (by decide))]; exact cset (by rw [cset_ne (ne (by decide))]; exact h1)
  · unfold set5; rw [cset_ne (ne (by decide)), cset_ne (ne (by decide))]; exact cset (by rw [cset_ne (ne (by decide)), cset_ne (ne (by decide))]; exact h2)
  · unfold set5; rw [cset_ne (ne (by decide))]; exact cset (by rw [cset_ne (ne (by decide)), cset_ne (ne (by decide)), cset_ne (ne (by decide))]; exact h3)
  · unfold set5; exact cset (by rw [cset_ne (ne (by decide)), cset_ne (ne (by decide)), cset_ne (ne (by decide)), cset_ne (ne (by decide))]; exact h4)
/-- a block that was made ahead of a call, as five cells -/
theorem rc_five {w w1 : World} {e : TypeId} {a b c d f : Value} (rc : ∀ k, w1.cell? ⟨w.heap.size, k, none⟩ = (w.alloc (.cells #[a, b, c, d, f] e)).cell? ⟨w.heap.size, k, none⟩) : ∀ k, k < 5 → ∃ u, w1.cell? ⟨w.heap.size, k, none⟩ = some u := by
  intro k hk
  rw [rc k, World.cell?_alloc_at _ _ _ _ rfl]
  obtain rfl | rfl | rfl | rfl | rfl : k = 0 ∨ k = 1 ∨ k = 2 ∨ k = 3 ∨ k = 4 := by omega
  all_goals exact ⟨_, rfl⟩

set_option maxRecDepth 100000 in
theorem str_any (v : Value) (l : List UInt8) (w : World) (h : Sl w v l) (hl : l.length ≤ 4000000) :
    Calls Tryz.prog 94 #[v] w fun e w' => ∃ v', e = .returned (ob 4 0 v') ∧ SlA (fun g => w.heap.size ≤ g ∧ g < w'.heap.size) w' v' l ∧ Below w.heap.size w w' := by
  obtain ⟨ao, cap, rfl, c1, c2, c3, c4⟩ := id h
  go_enter Tryz.func94, Tryz.ntmps94
  go_wp2_with (go_at_call 110; refine (clone_any _ l _ (h.up (alb _ _)) hl).mono ?_; rintro e w1 ⟨v1, rfl, hv, hb⟩; obtain ⟨rc, rf, rs⟩ := rc_below hb; obtain ⟨ao1, cap1, rfl, -, -, -⟩ := Rd.own hv)
  obtain ⟨k0, k1, k2, k3, k4⟩ := set5_cells (a := .int .i64 4) (b := .int .i64 0) (c := .slice ao1 l.length cap1) (d := .slice none 0 0) (e := .slice none 0 0) (rc_five rc)
  have hh := set5_held w1 w1.heap.size w.heap.size (.int .i64 4) (.int .i64 0) (.slice ao1 l.length cap1) (.slice none 0 0) (.slice none 0 0)
  have hB : Below w.heap.size w w1 := below_then (alb w _) hb
  have hB5 := hB.trans (hh.below hB.size (Nat.le_refl _) (Nat.le_refl _))
  refine bodyPost_ret (v := ob 4 0 (.slice ao1 l.length cap1)) (by simp [results, Tryz.results94, go_sem, k0, k1, k2, k3, k4]) rfl ⟨_, rfl, ⟨(Sl.own hv).held hh (fun g hg => ?_), fun g hg => ?_⟩, hB5⟩
  · have := (World.ownsRow.lt hv g hg).1
    simp at this
    exact ⟨by omega, by omega⟩
  · have h1 := World.ownsRow.lt hv g hg
    simp at h1
    have h2 := hh.size
    refine ⟨by omega, Nat.lt_of_lt_of_le h1.2 h2⟩
end Go.Proofs.YtjkoiknjffldjaaGreatDoor

/-
  The program's constructors of names and of words; the parser's state. Conditions: none but what is said.
-/
namespace Go.Proofs.YtjkoiknjffldjaaGreatDoor
open Go.RowKit
set_option linter.unusedVariables false

set_option maxRecDepth 100000 in
theorem name_o (l : List UInt8) (w : World) (hl : l.length ≤ 4000000) :
    Calls Tryz.prog 95 #[.string (st l)] w fun e w' => ∃ v', e = .returned (ob 5 0 v') ∧ SlA (fun g => w.heap.size ≤ g ∧ g < w'.heap.size) w' v' l ∧ Below w.heap.size w w' := by
  have kb := fun (w : World) (s : List UInt8) => convW_run (P := Tryz.prog) 9 24 5 (by kernel_rfl) Tryz.underlying24 Tryz.underlying5 w s
  obtain ⟨o, ho⟩ : ∃ o, o = Obj.cells #[Value.int .i64 0, Value.int .i64 0, .slice none 0 0, .slice none 0 0, .slice none 0 0] 34 := ⟨_, rfl⟩
  have hb := convW_below (w.alloc o) 5 l
  have hcs := convW_size (w.alloc o) 5 l
  obtain ⟨rc, rf, rs⟩ := rc_below hb
  have hS := Sl.convW (w.alloc o) 5 l _ rfl (by omega)
  subst ho
  go_enter Tryz.func95, Tryz.ntmps95
  go_wp2
  have hz : (w.alloc (Obj.cells #[Value.int .i64 0, Value.int .i64 0, .slice none 0 0, .slice none 0 0, .slice none 0 0] 34)).heap.size = w.heap.size + 1 := by simp
  generalize convC (w.alloc (Obj.cells #[Value.int .i64 0, Value.int .i64 0, .slice none 0 0, .slice none 0 0, .slice none 0 0] 34)) 5 l = cc at *
  generalize convW (w.alloc (Obj.cells #[Value.int .i64 0, Value.int .i64 0, .slice none 0 0, .slice none 0 0, .slice none 0 0] 34)) 5 l = w1 at *
  obtain ⟨k0, k1, k2, k3, k4⟩ := set5_cells (a := .int .i64 5) (b := .int .i64 0) (c := .slice (some ⟨w.heap.size + 1, 0, none⟩) l.length cc) (d := .slice none 0 0) (e := .slice none 0 0) (rc_five rc)
  have hh := set5_held w1 w1.heap.size w.heap.size (.int .i64 5) (.int .i64 0) (.slice (some ⟨w.heap.size + 1, 0, none⟩) l.length cc) (.slice none 0 0) (.slice none 0 0)
  rw [hz] at hS
  have hB : Below w.heap.size w w1 := below_then (alb w _) hb
  have hB5 := hB.trans (hh.below hB.size (Nat.le_refl _) (Nat.le_refl _))
  have hw1 := hb.size
  rw [hz] at hw1
  refine bodyPost_ret (v := ob 5 0 (.slice (some ⟨w.heap.size + 1, 0, none⟩) l.length cc)) (by simp [results, Tryz.results95, go_sem, k0, k1, k2, k3, k4]) rfl ⟨_, rfl, ⟨hS.held hh (fun g hg => ?_), fun g hg => ?_⟩, hB5⟩
  · injection hg with hg
    simp at hg
    exact ⟨by omega, by omega⟩
  · injection hg with hg
    simp at hg
    rw [hz] at hcs
    have h2 := hh.size
    exact ⟨by omega, Nat.lt_of_lt_of_le (by omega) h2⟩

/-- what a word says: whether it is one, and the object -/
def wordV (out : List UInt8) : Value := match wordO out with
  | some (.mk k n _ _ _) => .tuple #[ob k n (.slice none 0 0), .bool true]
  | none => .tuple #[ob 0 0 (.slice none 0 0), .bool false]
theorem wordO_cases (out : List UInt8) : (out = [116, 114, 117, 101] ∧ wordO out = some (poBool 1)) ∨ (out = [102, 97, 108, 115, 101] ∧ wordO out = some (poBool 0)) ∨ (out = [110, 117, 108, 108] ∧ wordO out = some poNull) ∨ ((out == [116, 114, 117, 101]) = false ∧ (out == [102, 97, 108, 115, 101]) = false ∧ (out == [110, 117, 108, 108]) = false ∧ wordO out = none) := by
  by_cases h1 : out = [116, 114, 117, 101]
  · left; exact ⟨h1, by unfold wordO; rw [if_pos h1]⟩
  by_cases h2 : out = [102, 97, 108, 115, 101]
  · right; left; exact ⟨h2, by unfold wordO; rw [if_neg h1, if_pos h2]⟩
  by_cases h3 : out = [110, 117, 108, 108]
  · right; right; left; exact ⟨h3, by unfold wordO; rw [if_neg h1, if_neg h2, if_pos h3]⟩
  · right; right; right
    exact ⟨beq_eq_false_iff_ne.2 h1, beq_eq_false_iff_ne.2 h2, beq_eq_false_iff_ne.2 h3, by unfold wordO; rw [if_neg h1, if_neg h2, if_neg h3]⟩
theorem st_toList (l : List UInt8) : (st l).toList = l := ByteArray.toList_mk l

set_option maxHeartbeats 800000 in
set_option maxRecDepth 100000 in
theorem word_any (out : List UInt8) (w : World) :
    Calls Tryz.prog 96 #[.string (st out)] w fun e w' => e = .returned (wordV out) ∧ Below w.heap.size w w' := by
  have fin : ∀ (w1 : World) (a b : Int), Below (w.alloc (.cells #[.int .i64 0, .int .i64 0, .slice none 0 0, .slice none 0 0, .slice none 0 0] 34)).heap.size (w.alloc (.cells #[.int .i64 0, .int .i64 0, .slice none 0 0, .slice none 0 0, .slice none 0 0] 34)) w1 → Below w.heap.size w (set5 w1 w.heap.size (.int .i64 a) (.int .i64 b) (.slice none 0 0) (.slice none 0 0) (.slice none 0 0)) := fun w1 a b hb => by
    have hB : Below w.heap.size w w1 := below_then (alb w _) hb
    exact hB.trans ((set5_held w1 w1.heap.size w.heap.size _ _ _ _ _).below hB.size (Nat.le_refl _) (Nat.le_refl _))
  have hst := st_toList out
  rcases wordO_cases out with ⟨h1, h2⟩ | ⟨h1, h2⟩ | ⟨h1, h2⟩ | ⟨q1, q2, q3, h2⟩
  · have e1 : wordV out = .tuple #[ob 1 1 (.slice none 0 0), .bool true] := by unfold wordV; rw [h2]; rfl
    rw [e1]
    subst h1
    clear h2 e1
    go_enter Tryz.func96, Tryz.ntmps96
    go_wp2_with (first | (go_at_call 113; refine (bool_t _).mono ?_; rintro e w1 ⟨rfl, hb⟩; obtain ⟨rc, rf, rs⟩ := rc_below hb))
    obtain ⟨k0, k1, k2, k3, k4⟩ := set5_cells (a := .int .i64 1) (b := .int .i64 1) (c := .slice none 0 0) (d := .slice none 0 0) (e := .slice none 0 0) (rc_five rc)
    refine bodyPost_ret (v := .tuple #[ob 1 1 (.slice none 0 0), .bool true]) (by simp [results, Tryz.results96, go_sem, k0, k1, k2, k3, k4]) rfl ⟨rfl, fin _ _ _ hb⟩
  · have e1 : wordV out = .tuple #[ob 1 0 (.slice none 0 0), .bool true] := by unfold wordV; rw [h2]; rfl
    rw [e1]
    subst h1
    clear h2 e1
    go_enter Tryz.func96, Tryz.ntmps96
    go_wp2_with (first | (go_at_call 113; refine (bool_f _).mono ?_; rintro e w1 ⟨rfl, hb⟩; obtain ⟨rc, rf, rs⟩ := rc_below hb))
    obtain ⟨k0, k1, k2, k3, k4⟩ := set5_cells (a := .int .i64 1) (b := .int .i64 0) (c := .slice none 0 0) (d := .slice none 0 0) (e := .slice none 0 0) (rc_five rc)
    refine bodyPost_ret (v := .tuple #[ob 1 0 (.slice none 0 0), .bool true]) (by simp [results, Tryz.results96, go_sem, k0, k1, k2, k3, k4]) rfl ⟨rfl, fin _ _ _ hb⟩
  · have e1 : wordV out = .tuple #[ob 0 0 (.slice none 0 0), .bool true] := by unfold wordV; rw [h2]; rfl
    rw [e1]
    subst h1
    clear h2 e1
    go_enter Tryz.func96, Tryz.ntmps96
    go_wp2_with (first | (go_at_call 114; refine (none_any _).mono ?_; rintro e w1 ⟨rfl, hb⟩; obtain ⟨rc, rf, rs⟩ := rc_below hb))
    obtain ⟨k0, k1, k2, k3, k4⟩ := set5_cells (a := .int .i64 0) (b := .int .i64 0) (c := .slice none 0 0) (d := .slice none 0 0) (e := .slice none 0 0) (rc_five rc)
    refine bodyPost_ret (v := .tuple #[ob 0 0 (.slice none 0 0), .bool true]) (by simp [results, Tryz.results96, go_sem, k0, k1, k2, k3, k4]) rfl ⟨rfl, fin _ _ _ hb⟩
  · have e1 : wordV out = .tuple #[ob 0 0 (.slice none 0 0), .bool false] := by unfold wordV; rw [h2]
    rw [e1]
    skip
    clear h2 e1
    go_enter Tryz.func96, Tryz.ntmps96
    go_wp2_with (first | (go_at_call 114; refine (none_any _).mono ?_; rintro e w1 ⟨rfl, hb⟩; obtain ⟨rc, rf, rs⟩ := rc_below hb))
    obtain ⟨k0, k1, k2, k3, k4⟩ := set5_cells (a := .int .i64 0) (b := .int .i64 0) (c := .slice none 0 0) (d := .slice none 0 0) (e := .slice none 0 0) (rc_five rc)
    refine bodyPost_ret (v := .tuple #[ob 0 0 (.slice none 0 0), .bool false]) (by simp [results, Tryz.results96, go_sem, k0, k1, k2, k3, k4]) rfl ⟨rfl, fin _ _ _ hb⟩

/-- block pp is a parser over the lexer lp, cp (q: without Refs) -/
structure Ps (q : Bool) (w0 w : World) (pp lp cp : Nat) (b : List UInt8) (i : Nat) (s : List UInt8) : Prop where
  lx : ∃ m v, Lx w0 w lp cp b i s m v (.slice none 0 0) []
  c0 : w0.cell? ⟨pp, 0, none⟩ = some (.pointer (some ⟨lp, 0, none⟩))
  c2 : w0.cell? ⟨pp, 2, none⟩ = some (.bool q)
  nl : pp ≠ lp
  nc : pp ≠ cp

section
variable {q : Bool} {w0 w w' : World} {pp lp cp : Nat} {b s s' : List UInt8} {i j : Nat} {m v u : Value} {out : List UInt8}
theorem Ps.p0 (h : Ps q w0 w pp lp cp b i s) : w.cell? ⟨pp, 0, none⟩ = some (.pointer (some ⟨lp, 0, none⟩)) := by
  obtain ⟨m, v, hL⟩ := h.lx
  rw [hL.held.cell (a := ⟨pp, 0, none⟩) (World.block_lt_of_cell? _ _ h.c0) h.nl h.nc]; exact h.c0
theorem Ps.p2 (h : Ps q w0 w pp lp cp b i s) : w.cell? ⟨pp, 2, none⟩ = some (.bool q) := by
  obtain ⟨m, v, hL⟩ := h.lx
  rw [hL.held.cell (a := ⟨pp, 2, none⟩) (World.block_lt_of_cell? _ _ h.c2) h.nl h.nc]; exact h.c2
theorem Ps.l0 (h : Ps q w0 w pp lp cp b i s) : w.cell? ⟨lp, 0, none⟩ = some (.pointer (some ⟨cp, 0, none⟩)) := by
  obtain ⟨m, v, hL⟩ := h.lx; exact hL.p0
theorem Ps.size (h : Ps q w0 w pp lp cp b i s) : w0.heap.size ≤ w.heap.size := by
  obtain ⟨m, v, hL⟩ := h.lx; exact hL.size
theorem Ps.held (h : Ps q w0 w pp lp cp b i s) : Held w0.heap.size lp cp w0 w := by
  obtain ⟨m, v, hL⟩ := h.lx; exact hL.held
theorem Ps.at_ (h : Ps q w0 w pp lp cp b i s) : i + s.length = b.length := by
  obtain ⟨m, v, hL⟩ := h.lx; exact hL.at_
theorem Ps.sm (h : Ps q w0 w pp lp cp b i s) : b.length ≤ 4000000 := by
  obtain ⟨m, v, hL⟩ := h.lx; exact hL.sm
/-- from here on anew -/
theorem Ps.fresh (h : Ps q w0 w pp lp cp b i s) : Ps q w w pp lp cp b i s := by
  obtain ⟨m, v, hL⟩ := h.lx
  exact ⟨⟨m, v, hL.fresh⟩, h.p0, h.p2, h.nl, h.nc⟩
theorem Ps.step (h : Ps q w0 w pp lp cp b i s) (hL : Lx w w' lp cp b j s' m v u out) : Ps q w0 w' pp lp cp b j s' := by
  obtain ⟨m0, v0, hL0⟩ := h.lx
  exact ⟨⟨m, v, (hL0.join hL).bare⟩, h.c0, h.c2, h.nl, h.nc⟩
theorem Ps.join (h : Ps q w0 w pp lp cp b i s) (k : Ps q w w' pp lp cp b j s') : Ps q w0 w' pp lp cp b j s' := by
  obtain ⟨m0, v0, hL0⟩ := k.lx
  exact h.step hL0
theorem Ps.below (h : Ps q w0 w pp lp cp b i s) (hb : Below w.heap.size w w') : Ps q w0 w' pp lp cp b i s := by
  obtain ⟨m0, v0, hL0⟩ := h.lx
  exact ⟨⟨m0, v0, hL0.below hb⟩, h.c0, h.c2, h.nl, h.nc⟩
/-- a block that was made since w0 was written -/
theorem Ps.off (h : Ps q w0 w pp lp cp b i s) {g : Nat} (hb : Held w.heap.size g g w w') (hg : w0.heap.size ≤ g) : Ps q w0 w' pp lp cp b i s := by
  obtain ⟨m0, v0, hL0⟩ := h.lx
  obtain ⟨ao, cap, h1, h2⟩ := hL0.lex
  have q1 := h2.lp
  have q2 := h2.cp
  have q3 := h2.ao
  refine ⟨⟨m0, v0, hL0.drp, ⟨ao, cap, h1.held hb ⟨by omega, by omega⟩ ⟨by omega, by omega⟩ (fun h0 a ha => by have := q3 h0 a ha; exact ⟨by omega, by omega⟩), h2⟩, ?_, OwnB.nil _ _ _⟩, h.c0, h.c2, h.nl, h.nc⟩
  exact hL0.held.trans ⟨hb.os, hb.tape, hb.output, hb.size, fun k hk _ _ => hb.block k (Nat.lt_of_lt_of_le hk hL0.held.size) (by omega) (by omega)⟩
end

set_option maxHeartbeats 800000 in
set_option maxRecDepth 100000 in
theorem stop_any {q : Bool} {w : World} {pp lp cp : Nat} {b s : List UInt8} {i : Nat} (h : Ps q w w pp lp cp b i s) (k : Nat) (n : Int) (hn : n = k) (hk : k ≤ b.length) (x : Int) :
    Calls Tryz.prog 91 #[.pointer (some ⟨pp, 0, none⟩), .int .i64 n, .int .i64 x] w fun e w' => e = .returned (.int .i64 x) ∧ Ps q w w' pp lp cp b k (b.drop k) := by
  subst hn
  have p0 := h.p0
  have l0 := h.l0
  go_enter Tryz.func91, Tryz.ntmps91
  go_wp2_with (go_at_call 42; obtain ⟨m0, v0, hL⟩ := h.lx; refine (seek_l k _ rfl hk hL).mono ?_; rintro e w1 ⟨rfl, hL1⟩)
  go_ret
  exact ⟨rfl, h.step hL1⟩
end Go.Proofs.YtjkoiknjffldjaaGreatDoor

/-
  Plain: entries by rising keys, one more put among them; the values of entries. No program here.
-/
namespace Go.Proofs.YtjkoiknjffldjaaGreatDoor
set_option linter.unusedVariables false

theorem kle_refl : ∀ a : List UInt8, kle a a = true
  | [] => rfl
  | x :: a => by rw [kle]; simp [kle_refl a]
theorem u8_lt_irrefl (x : UInt8) : ¬ x < x := by rw [UInt8.lt_iff_toNat_lt]; omega
theorem u8_tri {x y : UInt8} (h1 : ¬ x < y) (h2 : ¬ y < x) : x = y := by
  rw [UInt8.lt_iff_toNat_lt] at h1 h2; exact UInt8.toNat_inj.1 (by omega)
theorem cmp_ge : ∀ a b : List UInt8, decide (0 ≤ Lib.compareBytes a b) = kle b a
  | [], [] => rfl
  | [], y :: b => rfl
  | x :: a, [] => rfl
  | x :: a, y :: b => by
    rw [Lib.compareBytes, kle]
    by_cases h : x < y
    · have h2 : ¬ y < x := by rw [UInt8.lt_iff_toNat_lt] at h ⊢; omega
      rw [if_pos h, if_neg h2, if_pos h]; rfl
    · rw [if_neg h]
      by_cases h2 : y < x
      · rw [if_pos h2, if_pos h2]; rfl
      · rw [if_neg h2, if_neg h2, if_neg h]; exact cmp_ge a b
theorem cmp_eq : ∀ a b : List UInt8, (Lib.compareBytes a b == 0) = (a == b)
  | [], [] => rfl
  | [], y :: b => rfl
  | x :: a, [] => rfl
  | x :: a, y :: b => by
    rw [Lib.compareBytes]
    by_cases h : x < y
    · rw [if_pos h]
      have : x ≠ y := fun e => u8_lt_irrefl y (e ▸ h)
      simp [this]
    · rw [if_neg h]
      by_cases h2 : y < x
      · rw [if_pos h2]
        have : x ≠ y := fun e => u8_lt_irrefl y (e ▸ h2)
        simp [this]
      · rw [if_neg h2]
        obtain rfl := u8_tri h h2
        rw [cmp_eq a b]; simp
theorem less_kle : ∀ a b : List UInt8, (Op.bytesLess a b || a == b) = kle a b
  | [], [] => rfl
  | [], y :: b => rfl
  | x :: a, [] => rfl
  | x :: a, y :: b => by
    rw [Op.bytesLess, kle]
    by_cases h : x < y
    · rw [if_pos h]; simp [h]
    · rw [if_neg h]
      by_cases h2 : y < x
      · rw [if_pos h2]
        have h3 : x ≠ y := fun e => u8_lt_irrefl y (e ▸ h2)
        simp [h, h3]
      · rw [if_neg h2]
        obtain rfl := u8_tri h h2
        rw [← less_kle a b]; simp [h]

section
variable {α : Type}
/-- what stands at a key gives way to ins, among entries by rising keys -/
def srt (k : List UInt8) (ins : List (List UInt8 × α)) : List (List UInt8 × α) → List (List UInt8 × α)
  | [] => ins
  | x :: d => if kle k x.1 = true then ins ++ (x :: d).filter (fun y => !(y.1 == k)) else x :: srt k ins d
/-- the first place where p holds, or the end -/
def ix (p : α → Bool) : List α → Nat
  | [] => 0
  | x :: d => if p x = true then 0 else ix p d + 1
theorem ix_le (p : α → Bool) : ∀ d : List α, ix p d ≤ d.length
  | [] => Nat.le_refl _
  | x :: d => by rw [ix]; split; exact Nat.zero_le _; have := ix_le p d; rw [List.length_cons]; omega
theorem ix_hit (p : α → Bool) : ∀ (d : List α) (h : ix p d < d.length), p (d[ix p d]'h) = true
  | [], h => absurd h (Nat.not_lt_zero _)
  | x :: d, h => by
    by_cases q : p x = true
    · have e : ix p (x :: d) = 0 := by rw [ix, if_pos q]
      simp only [e]; exact q
    · have e : ix p (x :: d) = ix p d + 1 := by rw [ix, if_neg q]
      have h2 : ix p d < d.length := by rw [e, List.length_cons] at h; omega
      simp only [e, List.getElem_cons_succ]; exact ix_hit p d h2
theorem ix_miss (p : α → Bool) : ∀ (d : List α) (j : Nat) (h : j < ix p d) (hj : j < d.length), p (d[j]'hj) = false
  | [], j, h, hj => absurd hj (Nat.not_lt_zero _)
  | x :: d, j, h, hj => by
    by_cases q : p x = true
    · rw [ix, if_pos q] at h; omega
    · rw [ix, if_neg q] at h
      cases j with
      | zero => simpa using q
      | succ j => exact ix_miss p d j (by omega) (by rw [List.length_cons] at hj; omega)
/-- a place is the first where p holds -/
theorem ix_is (p : α → Bool) : ∀ (d : List α) (n : Nat), n ≤ d.length → (∀ j (hj : j < d.length), j < n → p (d[j]'hj) = false) → (∀ h : n < d.length, p (d[n]'h) = true) → ix p d = n
  | [], n, h, h1, h2 => by simp at h; subst h; rfl
  | x :: d, n, h, h1, h2 => by
    cases n with
    | zero =>
      have h3 : p x = true := h2 (by simp)
      rw [ix, if_pos h3]
    | succ n =>
      have h3 : p x = false := h1 0 (by simp) (by omega)
      rw [ix, if_neg (by rw [h3]; decide), ix_is p d n (by simpa using h) (fun j hj hjn => h1 (j + 1) (by simpa using hj) (by omega)) (fun h4 => h2 (by simpa using h4))]
theorem filter_ne_take (k : List UInt8) : ∀ (d : List (List UInt8 × α)), (d.take (ix (fun y => kle k y.1) d)).filter (fun y => !(y.1 == k)) = d.take (ix (fun y => kle k y.1) d)
  | [] => rfl
  | x :: d => by
    rw [ix]
    by_cases q : kle k x.1 = true
    · rw [if_pos q]; rfl
    · rw [if_neg q, List.take_succ_cons, List.filter_cons, filter_ne_take k d]
      have : x.1 ≠ k := fun e => q (by rw [e]; exact kle_refl _)
      simp [this]
/-- as the program does it -/
theorem srt_eq (k : List UInt8) (ins : List (List UInt8 × α)) : ∀ (d : List (List UInt8 × α)), (d.take (ix (fun y => kle k y.1) d)).filter (fun y => !(y.1 == k)) ++ ins ++ (d.drop (ix (fun y => kle k y.1) d)).filter (fun y => !(y.1 == k)) = srt k ins d
  | [] => by simp [ix, srt]
  | x :: d => by
    rw [filter_ne_take, ix, srt]
    by_cases q : kle k x.1 = true
    · rw [if_pos q, if_pos q]; rfl
    · rw [if_neg q, if_neg q, ← srt_eq k ins d, filter_ne_take]
      simp
theorem srt_nil (k : List UInt8) : ∀ (d : List (List UInt8 × α)), srt k [] d = d.filter (fun y => !(y.1 == k))
  | [] => rfl
  | x :: d => by
    rw [srt]
    by_cases q : kle k x.1 = true
    · rw [if_pos q]; rfl
    · rw [if_neg q, srt_nil k d, List.filter_cons]
      have : x.1 ≠ k := fun e => q (by rw [e]; exact kle_refl _)
      simp [this]
end

theorem wi_nil {e : List UInt8 × PO} (h : e.2.kind = 0) : ∀ d, wi e d = d.filter (fun y => !(y.1 == e.1))
  | [] => by simp [wi, h]
  | x :: d => by
    rw [wi, if_neg (by simp [h]), wi_nil h d, List.filter_cons]
    by_cases q : x.1 = e.1
    · simp [q]
    · simp [q]
theorem wi_srt (e : List UInt8 × PO) : ∀ d, wi e d = srt e.1 (if e.2.kind = 0 then [] else [e]) d := by
  intro d
  by_cases h : e.2.kind = 0
  · rw [if_pos h, srt_nil, wi_nil h]
  · rw [if_neg h]
    induction d with
    | nil => simp [wi, srt, h]
    | cons x d ih =>
      rw [wi, srt]
      by_cases q : kle e.1 x.1 = true
      · rw [if_pos ⟨h, q⟩, if_pos q]; rfl
      · have : x.1 ≠ e.1 := fun z => q (by rw [z]; exact kle_refl _)
        rw [if_neg (fun z => q z.2), if_neg q, if_neg this, ih]
end Go.Proofs.YtjkoiknjffldjaaGreatDoor

/-
  Rows of objects and of entries in memory, as lists of their values. Conditions: none but what is said.
-/
namespace Go.Proofs.YtjkoiknjffldjaaGreatDoor
open Go.RowKit
set_option linter.unusedVariables false

theorem getD_at {α : Type} {l : List α} {i : Nat} {d : α} (h : i < l.length) : l.getD i d = l[i] := by simp [List.getD, h]
inductive All2 {α β : Type} (R : α → β → Prop) : List α → List β → Prop
  | nil : All2 R [] []
  | cons {a : α} {b : β} {l : List α} {m : List β} (h : R a b) (t : All2 R l m) : All2 R (a :: l) (b :: m)
section
variable {α β : Type} {R S : α → β → Prop}
theorem All2.len {l : List α} {m : List β} (h : All2 R l m) : l.length = m.length := by
  induction h with
  | nil => rfl
  | cons _ _ ih => rw [List.length_cons, List.length_cons, ih]
theorem All2.mono {l : List α} {m : List β} (h : All2 R l m) (k : ∀ a b, R a b → S a b) : All2 S l m := by
  induction h with
  | nil => exact .nil
  | cons h _ ih => exact .cons (k _ _ h) ih
theorem All2.app {l l2 : List α} {m m2 : List β} (h : All2 R l m) (k : All2 R l2 m2) : All2 R (l ++ l2) (m ++ m2) := by
  induction h with
  | nil => exact k
  | cons h _ ih => exact .cons h ih
theorem All2.one {a : α} {b : β} (h : R a b) : All2 R [a] [b] := .cons h .nil
theorem All2.at {l : List α} {m : List β} (h : All2 R l m) : ∀ (i : Nat) (h1 : i < l.length) (h2 : i < m.length), R l[i] m[i] := by
  induction h with
  | nil => intro i h1; exact absurd h1 (Nat.not_lt_zero _)
  | cons h _ ih =>
    intro i h1 h2
    cases i with
    | zero => exact h
    | succ i => exact ih i (by simpa using h1) (by simpa using h2)
theorem All2.of {l : List α} : ∀ {m : List β}, l.length = m.length → (∀ (i : Nat) (h1 : i < l.length) (h2 : i < m.length), R l[i] m[i]) → All2 R l m := by
  induction l with
  | nil => intro m h1 _; cases m with
    | nil => exact .nil
    | cons b m => simp at h1
  | cons a l ih => intro m h1 h2; cases m with
    | nil => simp at h1
    | cons b m => exact .cons (h2 0 (by simp) (by simp)) (ih (by simpa using h1) (fun i q1 q2 => h2 (i + 1) (by simpa using q1) (by simpa using q2)))
theorem All2.take {l : List α} {m : List β} (h : All2 R l m) : ∀ n, All2 R (l.take n) (m.take n) := by
  induction h with
  | nil => intro n; simp; exact .nil
  | cons h _ ih =>
    intro n
    cases n with
    | zero => exact .nil
    | succ n => exact .cons h (ih n)
end

/-- the five values of an object -/
def V5 (vs : List Value) : Prop := ∃ (k n : Int) (b l d : Option Addr) (nb cb nl cl nd cd : Nat), vs = [.int .i64 k, .int .i64 n, .slice b nb cb, .slice l nl cl, .slice d nd cd]
theorem V5.len {vs : List Value} (h : V5 vs) : vs.length = 5 := by obtain ⟨_, _, _, _, _, _, _, _, _, _, _, rfl⟩ := h; rfl
theorem V5.one {vs : List Value} (h : V5 vs) : ∀ u ∈ vs, u.oneCell' = true := by
  obtain ⟨_, _, _, _, _, _, _, _, _, _, _, rfl⟩ := h
  intro u hu; simp at hu; rcases hu with rfl | rfl | rfl | rfl | rfl <;> rfl
theorem OV.v5 {A : Nat → Prop} {w : World} {vs : List Value} {o : PO} (h : OV A w vs o) : V5 vs := by
  obtain ⟨k9, n9, vb, vx, vd, b9, l9, d9, cl, cd, hb, hl, hl9, hd9, hk9, hd9', hz9⟩ := h
  obtain ⟨⟨aob, capb, rfl, -, -, -, -⟩, -⟩ := id hb
  obtain ⟨aox, capx, rfl, -⟩ := id hl
  obtain ⟨aod, capd, rfl, -⟩ := id hd9
  exact ⟨_, _, _, _, _, _, _, _, _, _, _, rfl⟩

/-- entries as values: key, the five values of what stands there -/
abbrev KV := List UInt8 × List Value
/-- an entry's six values -/
def ecl (e : KV) : List Value := .string (st e.1) :: e.2
def AllV (D : List KV) : Prop := ∀ e ∈ D, V5 e.2
theorem AllV.sub {D E : List KV} (h : AllV D) (hs : ∀ e ∈ E, e ∈ D) : AllV E := fun e he => h e (hs e he)
theorem AllV.app {D E : List KV} (h : AllV D) (k : AllV E) : AllV (D ++ E) := fun e he => by
  rcases List.mem_append.1 he with q | q
  · exact h e q
  · exact k e q
theorem ecl_len {e : KV} (h : V5 e.2) : (ecl e).length = 6 := by rw [ecl, List.length_cons, h.len]
theorem ecl_one {e : KV} (h : V5 e.2) : ∀ u ∈ ecl e, u.oneCell' = true := by
  intro u hu
  rw [ecl, List.mem_cons] at hu
  rcases hu with rfl | hu
  · rfl
  · exact h.one u hu

/-- cells of elements of sz cells, one behind the other -/
def flatX (C : List (List Value)) : List Value := C.flatten
theorem flatX_len {sz : Nat} : ∀ {C : List (List Value)}, (∀ c ∈ C, c.length = sz) → (flatX C).length = C.length * sz
  | [], _ => by simp [flatX]
  | c :: C, h => by
    have h1 := flatX_len (C := C) (fun c hc => h c (List.mem_cons_of_mem _ hc))
    unfold flatX at h1 ⊢
    rw [List.flatten_cons, List.length_append, h1, h c List.mem_cons_self, List.length_cons, Nat.succ_mul]; omega
theorem flatX_at {sz : Nat} : ∀ {C : List (List Value)}, (∀ c ∈ C, c.length = sz) → ∀ (i : Nat) (h : i < C.length) (j : Nat), j < sz → (flatX C)[i * sz + j]? = (C[i])[j]?
  | [], _, i, h, _, _ => absurd h (Nat.not_lt_zero _)
  | c :: C, h, i, hi, j, hj => by
    have hc := h c List.mem_cons_self
    cases i with
    | zero =>
      unfold flatX
      rw [List.flatten_cons, Nat.zero_mul, Nat.zero_add, List.getElem?_append_left (by omega)]; rfl
    | succ i =>
      have h1 := flatX_at (C := C) (fun c hc => h c (List.mem_cons_of_mem _ hc)) i (by simpa using hi) j hj
      unfold flatX at h1 ⊢
      rw [List.flatten_cons, List.getElem?_append_right (by rw [hc, Nat.succ_mul]; omega), hc]
      rw [show (i + 1) * sz + j - sz = i * sz + j by rw [Nat.succ_mul]; omega, h1]; rfl
theorem flatX_app (C E : List (List Value)) : flatX (C ++ E) = flatX C ++ flatX E := by unfold flatX; simp
theorem flatX_one {C : List (List Value)} (h : ∀ c ∈ C, ∀ u ∈ c, u.oneCell' = true) : ∀ u ∈ flatX C, u.oneCell' = true := by
  intro u hu
  unfold flatX at hu
  obtain ⟨c, hc, hu⟩ := List.mem_flatten.1 hu
  exact h c hc u hu
theorem flatX_lt {sz : Nat} {C : List (List Value)} (h : ∀ c ∈ C, c.length = sz) {j : Nat} {u : Value} (hj : (flatX C)[j]? = some u) : ∃ i k, ∃ h : i < C.length, k < sz ∧ j = i * sz + k ∧ (C[i])[k]? = some u := by
  have hl := (List.getElem?_eq_some_iff.1 hj).1
  rw [flatX_len h] at hl
  have hs : 0 < sz := by
    rcases Nat.eq_zero_or_pos sz with q | q
    · subst q; simp at hl
    · exact q
  have hi : j / sz < C.length := Nat.div_lt_of_lt_mul (by rw [Nat.mul_comm]; exact hl)
  have hk : j % sz < sz := Nat.mod_lt _ hs
  have hjj : j = j / sz * sz + j % sz := by rw [Nat.mul_comm]; exact (Nat.div_add_mod _ _).symm
  refine ⟨j / sz, j % sz, hi, hk, hjj, ?_⟩
  rw [← flatX_at h _ hi _ hk, ← hjj]; exact hj

/-- a slice of elements of sz cells -/
def SlX (sz : Nat) (w : World) (v : Value) (C : List (List Value)) : Prop :=
  ∃ ao cap, v = .slice ao C.length cap ∧ C.length ≤ cap ∧ cap ≤ maxLen ∧ (ao = none → cap = 0) ∧ (∀ c ∈ C, c.length = sz) ∧ (C = [] ∨ ∃ g off, ao = some ⟨g, off, none⟩ ∧ ∀ (i : Nat) (h : i < C.length) (j : Nat) (u : Value), (C[i])[j]? = some u → w.cell? ⟨g, off + i * sz + j, none⟩ = some u)
theorem SlX.up {sz : Nat} {w w' : World} {v : Value} {C : List (List Value)} (h : SlX sz w v C) (hb : Below w.heap.size w w') : SlX sz w' v C := by
  obtain ⟨ao, cap, rfl, h1, h2, h3, h4, h5⟩ := h
  refine ⟨ao, cap, rfl, h1, h2, h3, h4, ?_⟩
  rcases h5 with h5 | ⟨g, off, rfl, h6⟩
  · exact .inl h5
  · exact .inr ⟨g, off, rfl, fun i hi j u hu => cell_up' hb (h6 i hi j u hu)⟩
theorem SlX.keep {sz : Nat} {w w' : World} {v : Value} {C : List (List Value)} (h : SlX sz w v C) (hk : ∀ g, v.ownBlock = some g → g < w.heap.size → w'.heap[g]? = w.heap[g]?) : SlX sz w' v C := by
  obtain ⟨ao, cap, rfl, h1, h2, h3, h4, h5⟩ := h
  refine ⟨ao, cap, rfl, h1, h2, h3, h4, ?_⟩
  rcases h5 with h5 | ⟨g, off, rfl, h6⟩
  · exact .inl h5
  · refine .inr ⟨g, off, rfl, fun i hi j u hu => ?_⟩
    have h7 := h6 i hi j u hu
    rw [World.cell?_of_block (w := w) (hk g rfl (World.block_lt_of_cell? w _ h7))]; exact h7
theorem SlX.nil (sz : Nat) (w : World) : SlX sz w (.slice none 0 0) [] := ⟨none, 0, rfl, Nat.le_refl _, by simp [maxLen], fun _ => rfl, fun c h => (by cases h), .inl rfl⟩
theorem SlX.some {sz : Nat} {w : World} {ao : Option Addr} {cap n : Nat} {C : List (List Value)} (h : SlX sz w (.slice ao n cap) C) (h0 : 0 < n) : ∃ g off, ao = Option.some ⟨g, off, none⟩ ∧ ∀ (i : Nat) (h : i < C.length) (j : Nat) (u : Value), (C[i])[j]? = Option.some u → w.cell? ⟨g, off + i * sz + j, none⟩ = Option.some u := by
  obtain ⟨ao2, cap2, e, h1, h2, h3, h4, h5⟩ := h
  injection e with e1 e2 e3
  subst e1
  rcases h5 with rfl | h5
  · simp at e2; omega
  · exact h5

/-- a row of the call's own -/
def OwX (sz : Nat) (T : TypeId) (w : World) (B : Nat) (v : Value) (C : List (List Value)) : Prop := w.ownsRow B T sz v C.length (flatX C) ∧ ∀ c ∈ C, c.length = sz
theorem OwX.nil (sz : Nat) (T : TypeId) (w : World) (B : Nat) : OwX sz T w B (.slice none 0 0) [] := ⟨World.ownsRow_nil _ _ _ _, fun c h => by cases h⟩
theorem OwX.lt {sz : Nat} {T : TypeId} {w : World} {B : Nat} {v : Value} {C : List (List Value)} (h : OwX sz T w B v C) : ∀ g, v.ownBlock = Option.some g → B ≤ g ∧ g < w.heap.size := World.ownsRow.lt h.1
theorem OwX.held {sz : Nat} {T : TypeId} {w w' : World} {B p r : Nat} {v : Value} {C : List (List Value)} (h : OwX sz T w B v C) (hb : Held w.heap.size p r w w') (hn : ∀ g, v.ownBlock = Option.some g → g ≠ p ∧ g ≠ r) : OwX sz T w' B v C := ⟨row_held h.1 hb hn, h.2⟩
theorem OwX.up {sz : Nat} {T : TypeId} {w w' : World} {B : Nat} {v : Value} {C : List (List Value)} (h : OwX sz T w B v C) (hb : Below w.heap.size w w') : OwX sz T w' B v C := ⟨row_up h.1 hb, h.2⟩
theorem OwX.base {sz : Nat} {T : TypeId} {w : World} {B B' : Nat} {v : Value} {C : List (List Value)} (h : OwX sz T w B v C) (hB : B' ≤ B) : OwX sz T w B' v C := ⟨⟨h.1.1, by
  rcases h.1.2 with h2 | ⟨g, cap, cur, hv, hg, hh⟩
  · exact .inl h2
  · exact .inr ⟨g, cap, cur, hv, Nat.le_trans hB hg, hh⟩⟩, h.2⟩
theorem OwX.form {sz : Nat} {T : TypeId} {w : World} {B : Nat} {v : Value} {C : List (List Value)} (h : OwX sz T w B v C) : (v = .slice none 0 0 ∧ C = []) ∨ ∃ g cap, v = .slice (Option.some ⟨g, 0, none⟩) C.length cap ∧ C.length ≤ cap ∧ cap ≤ maxLen ∧ B ≤ g ∧ g < w.heap.size ∧
    (∀ (i : Nat) (h : i < C.length) (j : Nat) (u : Value), (C[i])[j]? = Option.some u → w.cell? ⟨g, i * sz + j, none⟩ = Option.some u) ∧ (∀ k, w.frozen? ⟨g, k, none⟩ = false) := by
  rcases h.1.2 with ⟨h1, h2⟩ | ⟨g, cap, cur, h1, h2, h3, h4, h5, h6, h7⟩
  · exact .inl ⟨h1, List.length_eq_zero_iff.1 h2⟩
  · refine .inr ⟨g, cap, h1, h4, h5, h2, (World.ownsRow.lt h.1 g (by rw [h1]; rfl)).2, fun i hi j u hu => ?_, fun k => ?_⟩
    · have hj : j < sz := by
        have := (List.getElem?_eq_some_iff.1 hu).1
        rw [h.2 _ (List.getElem_mem hi)] at this; exact this
      have h8 := World.ownsRow.cells h.1 (g := g) (by rw [h1]; rfl) (i * sz + j) u (by rw [flatX_at h.2 i hi j hj]; exact hu)
      have e1 : (⟨g, 0, none⟩ : Addr).add (i * sz + j) = ⟨g, i * sz + j, none⟩ := by
        generalize i * sz + j = z
        cases z <;> simp [Addr.add]
      rw [e1] at h8; exact h8
    · have hr := h.1
      rw [h1] at hr
      exact World.ownsRow.frozenAt hr k
theorem OwX.sl {sz : Nat} {T : TypeId} {w : World} {B : Nat} {v : Value} {C : List (List Value)} (h : OwX sz T w B v C) : SlX sz w v C := by
  rcases h.form with ⟨rfl, rfl⟩ | ⟨g, cap, rfl, h1, h2, -, -, h3, -⟩
  · exact SlX.nil _ _
  · exact ⟨_, cap, rfl, h1, h2, fun q => (by cases q), h.2, .inr ⟨g, 0, rfl, fun i hi j u hu => by rw [Nat.zero_add]; exact h3 i hi j u hu⟩⟩
/-- a row's cells for an object's field -/
theorem OwX.row {sz : Nat} {T : TypeId} {w : World} {B : Nat} {v : Value} {C : List (List Value)} (h : OwX sz T w B v C) {A : Nat → Prop} (hA : ∀ g, B ≤ g → g < w.heap.size → A g) : RowA A w sz v C.length (fun i => C.getD i []) := by
  rcases h.form with ⟨rfl, rfl⟩ | ⟨g, cap, rfl, h1, h2, q1, q2, h3, -⟩
  · exact RowA.nil _ _ _ _
  · refine ⟨_, cap, rfl, h1, h2, fun q => (by cases q), fun i hi => ?_, ?_⟩
    · simp only [getD_at hi]; exact h.2 _ (List.getElem_mem hi)
    · refine .inr ⟨g, 0, rfl, hA g q1 q2, fun i hi j u hu => ?_⟩
      simp only [getD_at hi] at hu
      rw [Nat.zero_add, Nat.mul_comm]; exact h3 i hi j u hu

/-- an entry's values -/
def EV (A : Nat → Prop) (w : World) (e : KV) (x : List UInt8 × PO) : Prop := e.1 = x.1 ∧ OV A w e.2 x.2
def OVs (A : Nat → Prop) (w : World) : List (List Value) → List PO → Prop := All2 (OV A w)
def EVs (A : Nat → Prop) (w : World) : List KV → List (List UInt8 × PO) → Prop := All2 (EV A w)
theorem OVs.keep {A B : Nat → Prop} {w w' : World} {C : List (List Value)} {l : List PO} (h : OVs A w C l) (hA : ∀ g, A g → B g) (hk : ∀ g, A g → g < w.heap.size → w'.heap[g]? = w.heap[g]?) : OVs B w' C l := All2.mono h fun _ _ q => q.keep hA hk
theorem EVs.keep {A B : Nat → Prop} {w w' : World} {D : List KV} {d : List (List UInt8 × PO)} (h : EVs A w D d) (hA : ∀ g, A g → B g) (hk : ∀ g, A g → g < w.heap.size → w'.heap[g]? = w.heap[g]?) : EVs B w' D d := All2.mono h fun _ _ q => ⟨q.1, q.2.keep hA hk⟩
theorem OVs.len5 {A : Nat → Prop} {w : World} {C : List (List Value)} {l : List PO} (h : OVs A w C l) : ∀ c ∈ C, V5 c := by
  unfold OVs at h
  induction h with
  | nil => intro c hc; cases hc
  | cons h _ ih =>
    intro c hc
    rcases List.mem_cons.1 hc with rfl | hc
    · exact h.v5
    · exact ih c hc
theorem EVs.allV {A : Nat → Prop} {w : World} {D : List KV} {d : List (List UInt8 × PO)} (h : EVs A w D d) : AllV D := by
  unfold EVs at h
  induction h with
  | nil => intro c hc; cases hc
  | cons h _ ih =>
    intro c hc
    rcases List.mem_cons.1 hc with rfl | hc
    · exact h.2.v5
    · exact ih c hc
theorem EVs.filt {A : Nat → Prop} {w : World} {D : List KV} {d : List (List UInt8 × PO)} (h : EVs A w D d) (p : List UInt8 → Bool) : EVs A w (D.filter fun e => p e.1) (d.filter fun e => p e.1) := by
  unfold EVs at h ⊢
  induction h with
  | nil => exact .nil
  | cons h t ih =>
    rw [List.filter_cons, List.filter_cons, h.1]
    split
    · exact .cons h ih
    · exact ih
theorem EVs.srt {A : Nat → Prop} {w : World} {D I : List KV} {d i : List (List UInt8 × PO)} (h : EVs A w D d) (k : List UInt8) (hi : EVs A w I i) : EVs A w (srt k I D) (srt k i d) := by
  unfold EVs at h
  induction h with
  | nil => exact hi
  | cons h t ih =>
    unfold Go.Proofs.YtjkoiknjffldjaaGreatDoor.srt
    rw [h.1]
    split
    · exact All2.app hi (EVs.filt (.cons h t) (fun y => !(y == k)))
    · exact .cons h ih
/-- an object's entries out of its cells -/
theorem ev_of {A : Nat → Prop} {w : World} : ∀ (d : List (List UInt8 × PO)) (cd : Nat → List Value), (∀ i (h : i < d.length), (cd i).head? = some (.string (st d[i].1))) → (∀ i (h : i < d.length), OV A w (cd i).tail d[i].2) → ∃ D : List KV, EVs A w D d ∧ ∀ i (h : i < D.length), ecl D[i] = cd i
  | [], cd, _, _ => ⟨[], .nil, fun i h => absurd h (Nat.not_lt_zero _)⟩
  | e :: d, cd, h1, h2 => by
    obtain ⟨D, h3, h4⟩ := ev_of d (fun i => cd (i + 1)) (fun i h => h1 (i + 1) (by simpa using h)) (fun i h => h2 (i + 1) (by simpa using h))
    refine ⟨(e.1, (cd 0).tail) :: D, .cons ⟨rfl, h2 0 (by simp)⟩ h3, fun i hi => ?_⟩
    cases i with
    | zero =>
      have := h1 0 (by simp)
      show Value.string (st e.1) :: (cd 0).tail = cd 0
      cases hc : cd 0 with
      | nil => rw [hc] at this; cases this
      | cons a b => rw [hc] at this; injection this with this; rw [this]; rfl
    | succ i => exact h4 i (by simpa using hi)
theorem ov_of {A : Nat → Prop} {w : World} (l : List PO) (cl : Nat → List Value) (h : ∀ i (h : i < l.length), OV A w (cl i) l[i]) : ∃ C, OVs A w C l ∧ ∀ i (h : i < C.length), C[i] = cl i := by
  refine ⟨(List.range l.length).map cl, All2.of (by simp) (fun i h1 h2 => by simp; exact h i h2), fun i hi => by simp⟩
/-- a row as a slice of elements -/
theorem RowA.slx {A : Nat → Prop} {w : World} {sz n : Nat} {v : Value} {c : Nat → List Value} (h : RowA A w sz v n c) (C : List (List Value)) (hl : C.length = n) (hc : ∀ i (h : i < C.length), C[i] = c i) : SlX sz w v C ∧ (C = [] ∨ ∀ g, v.ownBlock = some g → A g) := by
  obtain ⟨ao, cap, rfl, h2, h3, h4, h5, h6⟩ := h
  subst hl
  have hs : ∀ e ∈ C, e.length = sz := fun e he => by
    obtain ⟨i, hi, rfl⟩ := List.getElem_of_mem he
    rw [hc i hi]; exact h5 i hi
  rcases h6 with h6 | ⟨g, off, rfl, h7, h8⟩
  · have := List.length_eq_zero_iff.1 h6
    exact ⟨⟨ao, cap, rfl, h2, h3, h4, hs, .inl this⟩, .inl this⟩
  · exact ⟨⟨_, cap, rfl, h2, h3, h4, hs, .inr ⟨g, off, rfl, fun i hi j u hu => by rw [hc i hi] at hu; have := h8 i hi j u hu; rw [Nat.mul_comm, ← Nat.add_assoc] at this; exact this⟩⟩, .inr fun k hk => by injection hk with hk; exact hk ▸ h7⟩
/-- an object of its parts -/
theorem OV.make {A : Nat → Prop} {w : World} {k n : Int} {vb vl vd : Value} {b : List UInt8} {l : List PO} {d : List (List UInt8 × PO)} {C : List (List Value)} {D : List KV}
    (hb : SlA A w vb b) (hl : RowA A w 5 vl C.length (fun i => C.getD i [])) (hC : OVs A w C l) (hd : RowA A w 6 vd D.length (fun i => (D.map ecl).getD i [])) (hD : EVs A w D d) (hz : b.length ≤ 4000000 ∧ l.length ≤ 4000000 ∧ d.length ≤ 4000000) :
    OV A w [.int .i64 k, .int .i64 n, vb, vl, vd] (.mk k n b l d) := by
  have e1 := All2.len hC
  have e2 := All2.len hD
  refine .mk k n vb vl vd b l d (fun i => C.getD i []) (fun i => (D.map ecl).getD i []) hb (by rw [← e1]; exact hl) (fun i hi => ?_) (by rw [← e2]; exact hd) (fun i hi => ?_) (fun i hi => ?_) hz
  · have h1 : i < C.length := by omega
    simp only [getD_at h1]
    exact hC.at i h1 hi
  · have h1 : i < D.length := by omega
    have h2 := (hD.at i h1 hi).1
    simp only [getD_at (show i < (D.map ecl).length by simpa using h1), List.getElem_map]
    rw [← h2]; rfl
  · have h1 : i < D.length := by omega
    have h2 := (hD.at i h1 hi).2
    simp only [getD_at (show i < (D.map ecl).length by simpa using h1), List.getElem_map]
    exact h2
end Go.Proofs.YtjkoiknjffldjaaGreatDoor
