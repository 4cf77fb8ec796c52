/-
  The plain model of content: operators with their operands, images within the line. No program here.
-/
import Derived.Test.YtjkoiknjffldjaaGreatDoorHa
import Derived.Test.YtjkoiknjffldjaaGreatDoorJc
/-
  The plain model of content: operators with their operands, images within the line. No program here.
-/
namespace Go.Proofs.YtjkoiknjffldjaaGreatDoor
set_option linter.unusedVariables false

/-- an operator -/
structure CO where
  name : List UInt8
  args : List PO
  data : List UInt8
  at_ : Int
inductive ORes where
  | bad (e : Int)
  | fin
  | op (o : CO) (rest : List UInt8)
def bID : List UInt8 := [73, 68]
def bBI : List UInt8 := [66, 73]
def bEI : List UInt8 := [69, 73]
/-- an image's entries -/
inductive DI : List (List UInt8) → List (List UInt8 × PO) → List UInt8 → PRes → Prop
  | err {keys ents s e} (hT : TK s = .bad e) : DI keys ents s (.bad e [])
  | close {keys ents s n r} (hT : TK s = .tok 9 n bID r) : DI keys ents s (.ok (dictOf ents) r)
  | eof {keys ents s n out r} (hT : TK s = .tok 0 n out r) : DI keys ents s (.bad 2 [])
  | form {keys ents s k n out r} (hT : TK s = .tok k n out r) (h1 : ¬ (k = 9 ∧ out = bID)) (h0 : ¬ k = 0) (h4 : ¬ k = 4) : DI keys ents s (.bad 4 [])
  | twice {keys ents s n out r} (hT : TK s = .tok 4 n out r) (h : out ∈ keys) : DI keys ents s (.bad 4 [])
  | stop {keys ents s n out r e t} (hT : TK s = .tok 4 n out r) (h : ¬ out ∈ keys) (hv : PV true (.v 28) r (.bad e t)) : DI keys ents s (.bad e [])
  | step {keys ents s n out r x t res} (hT : TK s = .tok 4 n out r) (h : ¬ out ∈ keys) (hv : PV true (.v 28) r (.ok x t)) (h2 : DI (keys ++ [out]) (ents ++ [(out, x)]) t res) : DI keys ents s res
theorem DI.one {keys : List (List UInt8)} {ents : List (List UInt8 × PO)} {s : List UInt8} {r1 r2 : PRes} (h1 : DI keys ents s r1) (h2 : DI keys ents s r2) : r1 = r2 := by
  induction h1 generalizing r2 with
  | err hT =>
    cases h2 with
    | err hT2 => rw [hT] at hT2; injection hT2 with q; subst q; rfl
    | close hT2 => rw [hT] at hT2; cases hT2
    | eof hT2 => rw [hT] at hT2; cases hT2
    | form hT2 _ _ _ => rw [hT] at hT2; cases hT2
    | twice hT2 _ => rw [hT] at hT2; cases hT2
    | stop hT2 _ _ => rw [hT] at hT2; cases hT2
    | step hT2 _ _ _ => rw [hT] at hT2; cases hT2
  | close hT =>
    cases h2 with
    | close hT2 => rw [hT] at hT2; injection hT2 with _ _ _ q; subst q; rfl
    | err hT2 => rw [hT] at hT2; cases hT2
    | eof hT2 => rw [hT] at hT2; injection hT2 with q; exact absurd q (by decide)
    | form hT2 a b c => rw [hT] at hT2; injection hT2 with q1 q2 q3; exact absurd ⟨q1.symm, q3.symm⟩ a
    | twice hT2 _ => rw [hT] at hT2; injection hT2 with q; exact absurd q (by decide)
    | stop hT2 _ _ => rw [hT] at hT2; injection hT2 with q; exact absurd q (by decide)
    | step hT2 _ _ _ => rw [hT] at hT2; injection hT2 with q; exact absurd q (by decide)
  | eof hT =>
    cases h2 with
    | eof hT2 => rfl
    | err hT2 => rw [hT] at hT2; cases hT2
    | close hT2 => rw [hT] at hT2; injection hT2 with q; exact absurd q (by decide)
    | form hT2 a b c => rw [hT] at hT2; injection hT2 with q1 q2 q3; exact absurd q1.symm b
    | twice hT2 _ => rw [hT] at hT2; injection hT2 with q; exact absurd q (by decide)
    | stop hT2 _ _ => rw [hT] at hT2; injection hT2 with q; exact absurd q (by decide)
    | step hT2 _ _ _ => rw [hT] at hT2; injection hT2 with q; exact absurd q (by decide)
  | form hT a b c =>
    cases h2 with
    | form hT2 _ _ _ => rfl
    | err hT2 => rw [hT] at hT2; cases hT2
    | close hT2 => rw [hT] at hT2; injection hT2 with q1 q2 q3; exact absurd ⟨q1, q3⟩ a
    | eof hT2 => rw [hT] at hT2; injection hT2 with q; exact absurd q b
    | twice hT2 _ => rfl
    | stop hT2 _ _ => rw [hT] at hT2; injection hT2 with q; exact absurd q c
    | step hT2 _ _ _ => rw [hT] at hT2; injection hT2 with q; exact absurd q c
  | twice hT h =>
    cases h2 with
    | twice hT2 _ => rfl
    | form hT2 _ _ _ => rfl
    | err hT2 => rw [hT] at hT2; cases hT2
    | close hT2 => rw [hT] at hT2; injection hT2 with q; exact absurd q (by decide)
    | eof hT2 => rw [hT] at hT2; injection hT2 with q; exact absurd q (by decide)
    | stop hT2 h2 _ => rw [hT] at hT2; injection hT2 with _ _ q _; subst q; exact absurd h h2
    | step hT2 h2 _ _ => rw [hT] at hT2; injection hT2 with _ _ q _; subst q; exact absurd h h2
  | stop hT h hv =>
    cases h2 with
    | stop hT2 _ hv2 =>
      rw [hT] at hT2; injection hT2 with _ _ _ q; subst q
      have := PV.one hv hv2
      injection this with q _; subst q; rfl
    | step hT2 _ hv2 _ =>
      rw [hT] at hT2; injection hT2 with _ _ _ q; subst q
      have := PV.one hv hv2
      cases this
    | twice hT2 h2 => rw [hT] at hT2; injection hT2 with _ _ q _; subst q; exact absurd h2 h
    | form hT2 _ _ c => rw [hT] at hT2; injection hT2 with q; exact absurd q.symm c
    | err hT2 => rw [hT] at hT2; cases hT2
    | close hT2 => rw [hT] at hT2; injection hT2 with q; exact absurd q (by decide)
    | eof hT2 => rw [hT] at hT2; injection hT2 with q; exact absurd q (by decide)
  | step hT h hv _ ih =>
    cases h2 with
    | step hT2 _ hv2 h3 =>
      rw [hT] at hT2; injection hT2 with _ _ q1 q; subst q; subst q1
      have := PV.one hv hv2
      injection this with q q2; subst q; subst q2
      exact ih h3
    | stop hT2 _ hv2 =>
      rw [hT] at hT2; injection hT2 with _ _ _ q; subst q
      have := PV.one hv hv2
      cases this
    | twice hT2 h2 => rw [hT] at hT2; injection hT2 with _ _ q _; subst q; exact absurd h2 h
    | form hT2 _ _ c => rw [hT] at hT2; injection hT2 with q; exact absurd q.symm c
    | err hT2 => rw [hT] at hT2; cases hT2
    | close hT2 => rw [hT] at hT2; injection hT2 with q; exact absurd q (by decide)
    | eof hT2 => rw [hT] at hT2; injection hT2 with q; exact absurd q (by decide)

/-- does a white sign and the word that ends an image stand there? -/
def endI (t : List UInt8) : Bool := wh (hd t) && (hd (t.drop 1) == 69 && (hd (t.drop 2) == 73 && !rg (hd (t.drop 3))))
/-- how many bytes stand ahead of it -/
def imgN : List UInt8 → Option Nat
  | [] => none
  | x :: t => if endI (x :: t) = true then some 0 else (imgN t).map (· + 1)
/-- an image's bytes and what stands behind them -/
def imgF : List UInt8 → Int ⊕ (List UInt8 × List UInt8)
  | [] => .inl 2
  | c :: t => if wh (c8 c) = true then match imgN t with
      | some n => .inr (t.take n, t.drop (n + 3))
      | none => .inl 2
    else .inl 4
/-- behind the word BI: operands stand ahead or not -/
def bik (m : Nat) (at_ : Int) : PRes → ORes
  | .bad e _ => .bad e
  | .ok d r => match imgF r with
    | .inl e => .bad e
    | .inr (x, r2) => if m = 0 then .op ⟨bBI, [d], x, at_⟩ r2 else .bad 4
/-- the place of the token that stands there, of N bytes -/
def plc (N : Nat) (s : List UInt8) : Int := (N : Int) - ((s.drop (bl s false)).length : Int)
/-- the next operator, with these operands ahead -/
inductive OP (N : Nat) : List PO → List UInt8 → ORes → Prop
  | err {args s e} (hT : TK s = .bad e) : OP N args s (.bad e)
  | fin {s n out r} (hT : TK s = .tok 0 n out r) : OP N [] s .fin
  | eof {args s n out r} (hT : TK s = .tok 0 n out r) (h : ¬ args = []) : OP N args s (.bad 4)
  | word {args s n out r} (hT : TK s = .tok 9 n out r) (h : wordO out = none) (hb : ¬ out = bBI) : OP N args s (.op ⟨out, args, [], plc N s⟩ r)
  | img {args s n r res} (hT : TK s = .tok 9 n bBI r) (h : DI [] [] r res) : OP N args s (bik args.length (plc N s) res)
  | stop {args s k n out r e t} (hT : TK s = .tok k n out r) (h0 : ¬ k = 0) (h9 : ¬ (k = 9 ∧ wordO out = none)) (hv : PV true (.v 28) s (.bad e t)) : OP N args s (.bad e)
  | much {args s k n out r x t} (hT : TK s = .tok k n out r) (h0 : ¬ k = 0) (h9 : ¬ (k = 9 ∧ wordO out = none)) (hv : PV true (.v 28) s (.ok x t)) (hm : 33 ≤ args.length) : OP N args s (.bad 4)
  | step {args s k n out r x t res} (hT : TK s = .tok k n out r) (h0 : ¬ k = 0) (h9 : ¬ (k = 9 ∧ wordO out = none)) (hv : PV true (.v 28) s (.ok x t)) (hm : args.length < 33) (h2 : OP N (args ++ [x]) t res) : OP N args s res
theorem wordBI : wordO bBI = none := by decide
theorem OP.one {N : Nat} {args : List PO} {s : List UInt8} {r1 r2 : ORes} (h1 : OP N args s r1) (h2 : OP N args s r2) : r1 = r2 := by
  induction h1 generalizing r2 with
  | err hT =>
    cases h2 with
    | err hT2 => rw [hT] at hT2; injection hT2 with q; subst q; rfl
    | fin hT2 => rw [hT] at hT2; cases hT2
    | eof hT2 _ => rw [hT] at hT2; cases hT2
    | word hT2 _ _ => rw [hT] at hT2; cases hT2
    | img hT2 _ => rw [hT] at hT2; cases hT2
    | stop hT2 _ _ _ => rw [hT] at hT2; cases hT2
    | much hT2 _ _ _ _ => rw [hT] at hT2; cases hT2
    | step hT2 _ _ _ _ _ => rw [hT] at hT2; cases hT2
  | fin hT =>
    cases h2 with
    | err hT2 => rw [hT] at hT2; cases hT2
    | fin hT2 => rfl
    | eof hT2 h => exact absurd rfl h
    | word hT2 _ _ => rw [hT] at hT2; injection hT2 with q; exact absurd q (by decide)
    | img hT2 _ => rw [hT] at hT2; injection hT2 with q; exact absurd q (by decide)
    | stop hT2 a _ _ => rw [hT] at hT2; injection hT2 with q; exact absurd q.symm a
    | much hT2 a _ _ _ => rw [hT] at hT2; injection hT2 with q; exact absurd q.symm a
    | step hT2 a _ _ _ _ => rw [hT] at hT2; injection hT2 with q; exact absurd q.symm a
  | eof hT h =>
    cases h2 with
    | err hT2 => rw [hT] at hT2; cases hT2
    | fin hT2 => exact absurd rfl h
    | eof hT2 h => rfl
    | word hT2 _ _ => rw [hT] at hT2; injection hT2 with q; exact absurd q (by decide)
    | img hT2 _ => rw [hT] at hT2; injection hT2 with q; exact absurd q (by decide)
    | stop hT2 a _ _ => rw [hT] at hT2; injection hT2 with q; exact absurd q.symm a
    | much hT2 a _ _ _ => rfl
    | step hT2 a _ _ _ _ => rw [hT] at hT2; injection hT2 with q; exact absurd q.symm a
  | word hT h hb =>
    cases h2 with
    | err hT2 => rw [hT] at hT2; cases hT2
    | fin hT2 => rw [hT] at hT2; injection hT2 with q; exact absurd q (by decide)
    | eof hT2 _ => rw [hT] at hT2; injection hT2 with q; exact absurd q (by decide)
    | word hT2 _ _ => rw [hT] at hT2; injection hT2 with _ _ q1 q2; subst q1; subst q2; rfl
    | img hT2 _ => rw [hT] at hT2; injection hT2 with _ _ q1 q2; exact absurd q1 hb
    | stop hT2 _ a _ => rw [hT] at hT2; injection hT2 with q1 _ q2 _; subst q2; exact absurd ⟨q1.symm, h⟩ a
    | much hT2 _ a _ _ => rw [hT] at hT2; injection hT2 with q1 _ q2 _; subst q2; exact absurd ⟨q1.symm, h⟩ a
    | step hT2 _ a _ _ _ => rw [hT] at hT2; injection hT2 with q1 _ q2 _; subst q2; exact absurd ⟨q1.symm, h⟩ a
  | img hT h =>
    cases h2 with
    | err hT2 => rw [hT] at hT2; cases hT2
    | fin hT2 => rw [hT] at hT2; injection hT2 with q; exact absurd q (by decide)
    | eof hT2 _ => rw [hT] at hT2; injection hT2 with q; exact absurd q (by decide)
    | word hT2 _ hb => rw [hT] at hT2; injection hT2 with _ _ q1 q2; exact absurd q1.symm hb
    | img hT2 h2 => rw [hT] at hT2; injection hT2 with _ _ _ q2; subst q2; rw [DI.one h h2]
    | stop hT2 _ a _ => rw [hT] at hT2; injection hT2 with q1 _ q2 _; subst q2; exact absurd ⟨q1.symm, wordBI⟩ a
    | much hT2 _ a _ _ => rw [hT] at hT2; injection hT2 with q1 _ q2 _; subst q2; exact absurd ⟨q1.symm, wordBI⟩ a
    | step hT2 _ a _ _ _ => rw [hT] at hT2; injection hT2 with q1 _ q2 _; subst q2; exact absurd ⟨q1.symm, wordBI⟩ a
  | stop hT h0 h9 hv =>
    cases h2 with
    | err hT2 => rw [hT] at hT2; cases hT2
    | fin hT2 => rw [hT] at hT2; injection hT2 with q; exact absurd q h0
    | eof hT2 _ => rw [hT] at hT2; injection hT2 with q; exact absurd q h0
    | word hT2 h _ => rw [hT] at hT2; injection hT2 with q1 _ q2 _; subst q2; exact absurd ⟨q1, h⟩ h9
    | img hT2 _ => rw [hT] at hT2; injection hT2 with q1 _ q2 _; subst q2; exact absurd ⟨q1, wordBI⟩ h9
    | stop _ _ _ hv2 => have := PV.one hv hv2; injection this with q _; subst q; rfl
    | much _ _ _ hv2 _ => have := PV.one hv hv2; cases this
    | step _ _ _ hv2 _ _ => have := PV.one hv hv2; cases this
  | much hT h0 h9 hv hm =>
    cases h2 with
    | err hT2 => rw [hT] at hT2; cases hT2
    | fin hT2 => rw [hT] at hT2; injection hT2 with q; exact absurd q h0
    | eof hT2 _ => rfl
    | word hT2 h _ => rw [hT] at hT2; injection hT2 with q1 _ q2 _; subst q2; exact absurd ⟨q1, h⟩ h9
    | img hT2 _ => rw [hT] at hT2; injection hT2 with q1 _ q2 _; subst q2; exact absurd ⟨q1, wordBI⟩ h9
    | stop _ _ _ hv2 => have := PV.one hv hv2; cases this
    | much _ _ _ hv2 _ => rfl
    | step _ _ _ _ hm2 _ => omega
  | step hT h0 h9 hv hm _ ih =>
    cases h2 with
    | err hT2 => rw [hT] at hT2; cases hT2
    | fin hT2 => rw [hT] at hT2; injection hT2 with q; exact absurd q h0
    | eof hT2 _ => rw [hT] at hT2; injection hT2 with q; exact absurd q h0
    | word hT2 h _ => rw [hT] at hT2; injection hT2 with q1 _ q2 _; subst q2; exact absurd ⟨q1, h⟩ h9
    | img hT2 _ => rw [hT] at hT2; injection hT2 with q1 _ q2 _; subst q2; exact absurd ⟨q1, wordBI⟩ h9
    | stop _ _ _ hv2 => have := PV.one hv hv2; cases this
    | much _ _ _ _ hm2 => omega
    | step _ _ _ hv2 _ h3 => have := PV.one hv hv2; injection this with q q2; subst q; subst q2; exact ih h3
/-- all operators -/
inductive LRes where
  | bad (e : Int)
  | ok (l : List CO)
inductive AL (N : Nat) : List CO → List UInt8 → LRes → Prop
  | bad {l s e} (h : OP N [] s (.bad e)) : AL N l s (.bad e)
  | fin {l s} (h : OP N [] s .fin) : AL N l s (.ok l)
  | lim {l s o r} (h : OP N [] s (.op o r)) (hl : 100000 ≤ l.length) : AL N l s (.bad 7)
  | step {l s o r res} (h : OP N [] s (.op o r)) (hl : l.length < 100000) (h2 : AL N (l ++ [o]) r res) : AL N l s res
theorem AL.one {N : Nat} {l : List CO} {s : List UInt8} {r1 r2 : LRes} (h1 : AL N l s r1) (h2 : AL N l s r2) : r1 = r2 := by
  induction h1 generalizing r2 with
  | bad h =>
    cases h2 with
    | bad h2 => have := OP.one h h2; injection this with q; subst q; rfl
    | fin h2 => have := OP.one h h2; cases this
    | lim h2 _ => have := OP.one h h2; cases this
    | step h2 _ _ => have := OP.one h h2; cases this
  | fin h =>
    cases h2 with
    | bad h2 => have := OP.one h h2; cases this
    | fin h2 => rfl
    | lim h2 _ => have := OP.one h h2; cases this
    | step h2 _ _ => have := OP.one h h2; cases this
  | lim h hl =>
    cases h2 with
    | bad h2 => have := OP.one h h2; cases this
    | fin h2 => have := OP.one h h2; cases this
    | lim h2 _ => rfl
    | step h2 hl2 _ => omega
  | step h hl _ ih =>
    cases h2 with
    | bad h2 => have := OP.one h h2; cases this
    | fin h2 => have := OP.one h h2; cases this
    | lim h2 hl2 => omega
    | step h2 hl2 h3 => have := OP.one h h2; injection this with q1 q2; subst q1; subst q2; exact ih h3
end Go.Proofs.YtjkoiknjffldjaaGreatDoor
