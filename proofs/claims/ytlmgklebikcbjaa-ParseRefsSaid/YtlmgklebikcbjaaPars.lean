/-
  The plain model of the parser: objects, what is read of bytes. No program here.
-/
import Derived.Test.YtlmgklebikcbjaaTok
namespace Go.Proofs.Ytlmgklebikcbjaa
set_option linter.unusedVariables false

/-- an object: its kind, its number, its bytes, its items, its entries -/
inductive PO where
  | mk (kind n : Int) (b : List UInt8) (l : List PO) (d : List (List UInt8 × PO))
def PO.kind : PO → Int
  | .mk k _ _ _ _ => k
def poNull : PO := .mk 0 0 [] [] []
def poBool (n : Int) : PO := .mk 1 n [] [] []
def poInt (n : Int) : PO := .mk 2 n [] [] []
def poReal (n : Int) : PO := .mk 3 n [] [] []
def poStr (b : List UInt8) : PO := .mk 4 0 b [] []
def poName (b : List UInt8) : PO := .mk 5 0 b [] []
def poArr (l : List PO) : PO := .mk 6 0 [] l []
def poDict (d : List (List UInt8 × PO)) : PO := .mk 7 0 [] [] d
def poRef (n : Int) : PO := .mk 9 n [] [] []

/-- the first is ahead of the second, or as it is -/
def kle : List UInt8 → List UInt8 → Bool
  | [], _ => true
  | _ :: _, [] => false
  | x :: a, y :: b => if x < y then true else if y < x then false else kle a b
/-- entries with one more, by its key; of a Null without -/
def wi (e : List UInt8 × PO) : List (List UInt8 × PO) → List (List UInt8 × PO)
  | [] => if e.2.kind = 0 then [] else [e]
  | x :: d => if ¬ e.2.kind = 0 ∧ kle e.1 x.1 = true then e :: (x :: d).filter (fun y => !(y.1 == e.1)) else if x.1 = e.1 then wi e d else x :: wi e d
def dictOf (l : List (List UInt8 × PO)) : PO := poDict (l.foldl (fun d e => wi e d) [])

/-- what is read: an error and what stands at its place; or an object and what stands behind it -/
inductive PRes where
  | bad (e : Int) (at_ : List UInt8)
  | ok (o : PO) (rest : List UInt8)
/-- what is to be read: a value; an array's rest, a dictionary's -/
inductive Md where
  | v (d : Nat)
  | a (d : Nat) (acc : List PO)
  | m (d : Nat) (keys : List (List UInt8)) (acc : List (List UInt8 × PO))

/-- a number, or the object that it names -/
def whole (q : Bool) (n : Int) (r : List UInt8) : PRes :=
  if 1 ≤ n ∧ n ≤ 8388607 ∧ q = false then
    match TK r with
    | .tok 1 0 _ r1 =>
      match TK r1 with
      | .tok 9 _ out r2 => if out = [82] then .ok (poRef n) r2 else .ok (poInt n) r
      | _ => .ok (poInt n) r
    | _ => .ok (poInt n) r
  else .ok (poInt n) r

/-- a word -/
def wordO (out : List UInt8) : Option PO :=
  if out = [116, 114, 117, 101] then some (poBool 1) else if out = [102, 97, 108, 115, 101] then some (poBool 0) else if out = [110, 117, 108, 108] then some poNull else none

def pF (q : Bool) : Nat → Md → List UInt8 → Option PRes
  | 0, _, _ => none
  | f + 1, .v d, s =>
    match TK s with
    | .bad e => some (.bad e (s.drop (bl s false)))
    | .tok k n out r =>
      if k = 0 then some (.bad 2 (s.drop (bl s false)))
      else if k = 1 then some (whole q n r)
      else if k = 2 then some (.ok (poReal n) r)
      else if k = 3 then some (.ok (poStr out) r)
      else if k = 4 then some (.ok (poName out) r)
      else if k = 9 then some (match wordO out with | some o => .ok o r | none => .bad 4 (s.drop (bl s false)))
      else if k = 5 ∨ k = 7 then
        match d with
        | 0 => some (.bad 6 (s.drop (bl s false)))
        | d + 1 => if k = 5 then pF q f (.a d []) r else pF q f (.m d [] []) r
      else some (.bad 4 (s.drop (bl s false)))
  | f + 1, .a d acc, s =>
    match TK s with
    | .bad e => some (.bad e (s.drop (bl s false)))
    | .tok k n out r =>
      if k = 6 then some (.ok (poArr acc) r)
      else match pF q f (.v d) s with
        | none => none
        | some (.bad e t) => some (.bad e t)
        | some (.ok x t) => pF q f (.a d (acc ++ [x])) t
  | f + 1, .m d keys acc, s =>
    match TK s with
    | .bad e => some (.bad e (s.drop (bl s false)))
    | .tok k n out r =>
      if k = 8 then some (.ok (dictOf acc) r)
      else if k = 0 then some (.bad 2 (s.drop (bl s false)))
      else if ¬ k = 4 then some (.bad 4 (s.drop (bl s false)))
      else if out ∈ keys then some (.bad 4 (s.drop (bl s false)))
      else match pF q f (.v d) r with
        | none => none
        | some (.bad e t) => some (.bad e t)
        | some (.ok x t) => pF q f (.m d (keys ++ [out]) (acc ++ [(out, x)])) t

theorem pF_succ (q : Bool) : ∀ (f : Nat) (m : Md) (s : List UInt8) (r : PRes), pF q f m s = some r → pF q (f + 1) m s = some r
  | 0, m, s, r, h => by simp [pF] at h
  | f + 1, .v d, s, r, h => by
    rw [pF] at h ⊢
    cases hT : TK s with
    | bad e => rw [hT] at h; exact h
    | tok k n out t =>
      rw [hT] at h
      simp only [] at h ⊢
      by_cases h5 : k = 5 ∨ k = 7
      · have q0 : ¬ k = 0 := by omega
        have q1 : ¬ k = 1 := by omega
        have q2 : ¬ k = 2 := by omega
        have q3 : ¬ k = 3 := by omega
        have q4 : ¬ k = 4 := by omega
        have q9 : ¬ k = 9 := by omega
        rw [if_neg q0, if_neg q1, if_neg q2, if_neg q3, if_neg q4, if_neg q9, if_pos h5] at h ⊢
        cases d with
        | zero => exact h
        | succ d =>
          simp only [] at h ⊢
          split at h <;> rename_i hk
          · rw [if_pos hk]; exact pF_succ q f _ _ _ h
          · rw [if_neg hk]; exact pF_succ q f _ _ _ h
      · rw [if_neg h5] at h ⊢
        exact h
  | f + 1, .a d acc, s, r, h => by
    rw [pF] at h ⊢
    cases hT : TK s with
    | bad e => rw [hT] at h; exact h
    | tok k n out t =>
      rw [hT] at h
      simp only [] at h ⊢
      split at h <;> rename_i hk
      · rw [if_pos hk]; exact h
      · rw [if_neg hk]
        cases hv : pF q f (.v d) s with
        | none => rw [hv] at h; simp at h
        | some x =>
          rw [hv] at h
          rw [pF_succ q f _ _ _ hv]
          cases x with
          | bad e t => exact h
          | ok x t => exact pF_succ q f _ _ _ h
  | f + 1, .m d keys acc, s, r, h => by
    rw [pF] at h ⊢
    cases hT : TK s with
    | bad e => rw [hT] at h; exact h
    | tok k n out t =>
      rw [hT] at h
      simp only [] at h ⊢
      by_cases h8 : k = 8
      · rw [if_pos h8] at h ⊢; exact h
      rw [if_neg h8] at h ⊢
      by_cases h0 : k = 0
      · rw [if_pos h0] at h ⊢; exact h
      rw [if_neg h0] at h ⊢
      by_cases h4 : ¬ k = 4
      · rw [if_pos h4] at h ⊢; exact h
      rw [if_neg h4] at h ⊢
      by_cases hm : out ∈ keys
      · rw [if_pos hm] at h ⊢; exact h
      rw [if_neg hm] at h ⊢
      cases hv : pF q f (.v d) t with
      | none => rw [hv] at h; simp at h
      | some x =>
        rw [hv] at h
        rw [pF_succ q f _ _ _ hv]
        cases x with
        | bad e t => exact h
        | ok x t => exact pF_succ q f _ _ _ h
theorem pF_add (q : Bool) (g : Nat) : ∀ (f : Nat) (m : Md) (s : List UInt8) (r : PRes), pF q f m s = some r → pF q (f + g) m s = some r := by
  induction g with
  | zero => intro f m s r h; exact h
  | succ g ih => intro f m s r h; exact pF_succ q _ _ _ _ (ih f m s r h)

/-- s is read as r -/
def PV (q : Bool) (m : Md) (s : List UInt8) (r : PRes) : Prop := ∃ f, pF q f m s = some r
theorem PV.one {q : Bool} {m : Md} {s : List UInt8} {r1 r2 : PRes} (h1 : PV q m s r1) (h2 : PV q m s r2) : r1 = r2 := by
  obtain ⟨f, h1⟩ := h1
  obtain ⟨g, h2⟩ := h2
  have a1 := pF_add q g f m s r1 h1
  have a2 := pF_add q f g m s r2 h2
  rw [Nat.add_comm g f] at a2
  rw [a1] at a2
  injection a2
theorem PV.of {q : Bool} {m : Md} {s : List UInt8} {r : PRes} (f : Nat) (h : pF q f m s = some r) : PV q m s r := ⟨f, h⟩

section
variable {q : Bool} {d : Nat} {s r t out : List UInt8} {k n e : Int} {acc : List PO} {x : PO} {res : PRes} {keys : List (List UInt8)} {ents : List (List UInt8 × PO)}

theorem PV.v_open (hT : TK s = .tok 5 n out r) (h : PV q (.a d []) r res) : PV q (.v (d + 1)) s res := by
  obtain ⟨f, h⟩ := h
  refine ⟨f + 1, ?_⟩
  rw [pF, hT]; simpa using h
theorem PV.v_left (hT : TK s = .tok 7 n out r) (h : PV q (.m d [] []) r res) : PV q (.v (d + 1)) s res := by
  obtain ⟨f, h⟩ := h
  refine ⟨f + 1, ?_⟩
  rw [pF, hT]; simpa using h
theorem PV.a_close (hT : TK s = .tok 6 n out r) : PV q (.a d acc) s (.ok (poArr acc) r) := ⟨1, by rw [pF, hT]; simp⟩
theorem PV.a_bad (hT : TK s = .bad e) : PV q (.a d acc) s (.bad e (s.drop (bl s false))) := ⟨1, by rw [pF, hT]⟩
theorem PV.a_stop (hT : TK s = .tok k n out r) (hk : ¬ k = 6) (h : PV q (.v d) s (.bad e t)) : PV q (.a d acc) s (.bad e t) := by
  obtain ⟨f, h⟩ := h
  refine ⟨f + 1, ?_⟩
  rw [pF, hT]; simp [hk, h]
theorem PV.a_step (hT : TK s = .tok k n out r) (hk : ¬ k = 6) (h : PV q (.v d) s (.ok x t)) (h2 : PV q (.a d (acc ++ [x])) t res) : PV q (.a d acc) s res := by
  obtain ⟨f, h⟩ := h
  obtain ⟨g, h2⟩ := h2
  refine ⟨f + g + 1, ?_⟩
  have a1 := pF_add q g f _ _ _ h
  have a2 := pF_add q f g _ _ _ h2
  rw [Nat.add_comm g f] at a2
  rw [pF, hT]; simp [hk, a1, a2]
theorem PV.m_close (hT : TK s = .tok 8 n out r) : PV q (.m d keys ents) s (.ok (dictOf ents) r) := ⟨1, by rw [pF, hT]; simp⟩
theorem PV.m_bad (hT : TK s = .bad e) : PV q (.m d keys ents) s (.bad e (s.drop (bl s false))) := ⟨1, by rw [pF, hT]⟩
theorem PV.m_end (hT : TK s = .tok 0 n out r) : PV q (.m d keys ents) s (.bad 2 (s.drop (bl s false))) := ⟨1, by rw [pF, hT]; simp⟩
theorem PV.m_form (hT : TK s = .tok k n out r) (h8 : ¬ k = 8) (h0 : ¬ k = 0) (h4 : ¬ k = 4) : PV q (.m d keys ents) s (.bad 4 (s.drop (bl s false))) := ⟨1, by rw [pF, hT]; simp [h8, h0, h4]⟩
theorem PV.m_twice (hT : TK s = .tok 4 n out r) (h : out ∈ keys) : PV q (.m d keys ents) s (.bad 4 (s.drop (bl s false))) := ⟨1, by rw [pF, hT]; simp [h]⟩
theorem PV.m_stop (hT : TK s = .tok 4 n out r) (hk : ¬ out ∈ keys) (h : PV q (.v d) r (.bad e t)) : PV q (.m d keys ents) s (.bad e t) := by
  obtain ⟨f, h⟩ := h
  refine ⟨f + 1, ?_⟩
  rw [pF, hT]; simp [hk, h]
theorem PV.m_step (hT : TK s = .tok 4 n out r) (hk : ¬ out ∈ keys) (h : PV q (.v d) r (.ok x t)) (h2 : PV q (.m d (keys ++ [out]) (ents ++ [(out, x)])) t res) : PV q (.m d keys ents) s res := by
  obtain ⟨f, h⟩ := h
  obtain ⟨g, h2⟩ := h2
  refine ⟨f + g + 1, ?_⟩
  have a1 := pF_add q g f _ _ _ h
  have a2 := pF_add q f g _ _ _ h2
  rw [Nat.add_comm g f] at a2
  rw [pF, hT]; simp [hk, a1, a2]
end
end Go.Proofs.Ytlmgklebikcbjaa
