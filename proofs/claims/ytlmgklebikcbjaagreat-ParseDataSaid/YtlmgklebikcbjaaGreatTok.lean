/-
  The plain model of a number and of a token. No program here.
-/
import Derived.Test.YtlmgklebikcbjaaGreatTx
namespace Go.Proofs.YtlmgklebikcbjaaGreat
set_option linter.unusedVariables false

/-- is it a digit? -/
def isd (c : Int) : Bool := decide (48 ≤ c) && decide (c ≤ 57)
/-- how many digits stand there -/
def dgs : List UInt8 → Nat
  | [] => 0
  | x :: s => if isd (c8 x) = true then 1 + dgs s else 0
/-- the number that digits say -/
def vl : List UInt8 → Nat → Nat
  | [], n => n
  | x :: s, n => vl s (10 * n + (x.toNat - 48))
/-- so many places behind a point -/
def fr : Nat → List UInt8 → Nat → Nat
  | 0, _, n => n
  | k + 1, [], n => fr k [] (10 * n)
  | k + 1, x :: s, n => fr k s (10 * n + (x.toNat - 48))
/-- a sign -/
def sgn (s : List UInt8) : Int := if hd s = 45 then -1 else 1
def uns (s : List UInt8) : List UInt8 := if hd s = 43 ∨ hd s = 45 then s.tail else s
/-- behind the sign: the digits that stand there, and what stands behind them -/
def numb (g : Int) (a r : List UInt8) : Int × Bool × Int :=
  match r with
  | [] => if a.length = 0 then (0, false, 4) else if 2147483647 < vl a 0 then (0, false, 5) else (g * (vl a 0 : Int), true, 0)
  | x :: f => if c8 x = 46 ∧ dgs f = f.length ∧ ¬ (a.length + f.length = 0) then (if 2147483647 < vl a 0 then (0, false, 5) else (g * ((vl a 0 : Int) * 100000 + (fr 5 f 0 : Int)), false, 0)) else (0, false, 4)
/-- the number that bytes say; whether it is a whole one; the error -/
def np (s : List UInt8) : Int × Bool × Int := numb (sgn s) ((uns s).take (dgs (uns s))) ((uns s).drop (dgs (uns s)))

/-- a token -/
inductive TRes where
  | bad (e : Int)
  | tok (kind n : Int) (out rest : List UInt8)
deriving DecidableEq

def wrp (kind : Int) : Res → TRes
  | .bad e => .bad e
  | .ok out rest => .tok kind 0 out rest
def numT (s : List UInt8) : TRes := if (np (s.take (rn s))).2.2 = 0 then .tok (if (np (s.take (rn s))).2.1 = true then 1 else 2) (np (s.take (rn s))).1 [] (s.drop (rn s)) else .bad (np (s.take (rn s))).2.2

/-- the token that stands there -/
def tk : List UInt8 → TRes
  | [] => .tok 0 0 [] []
  | x :: t =>
    if c8 x = 91 then .tok 5 0 [] t
    else if c8 x = 93 then .tok 6 0 [] t
    else if c8 x = 60 ∧ hd t = 60 then .tok 7 0 [] t.tail
    else if c8 x = 62 ∧ hd t = 62 then .tok 8 0 [] t.tail
    else if c8 x = 47 then wrp 4 (nm t [])
    else if c8 x = 40 then wrp 3 (TX t 1 [])
    else if c8 x = 60 then wrp 3 (hx t (-1) [])
    else if c8 x = 43 ∨ c8 x = 45 ∨ c8 x = 46 ∨ 48 ≤ c8 x ∧ c8 x ≤ 57 then numT (x :: t)
    else if rg (c8 x) = true then (if 127 < rn (x :: t) then .bad 3 else .tok 9 0 ((x :: t).take (rn (x :: t))) ((x :: t).drop (rn (x :: t))))
    else .bad 4
/-- blanks, and the token behind them -/
def TK (s : List UInt8) : TRes := tk (s.drop (bl s false))
end Go.Proofs.YtlmgklebikcbjaaGreat
