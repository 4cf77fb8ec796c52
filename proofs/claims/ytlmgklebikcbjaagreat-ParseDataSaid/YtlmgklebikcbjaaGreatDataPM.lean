/-
  ParseData: ParseData: a stream is just so many bytes as its Length says, whatever they are; one that lies is none. No condition.
-/
import Derived.Test.YtlmgklebikcbjaaGreatLawPr
import Derived.Test.YtlmgklebikcbjaaGreatNum
import Derived.Test.YtlmgklebikcbjaaGreatPiece
import Derived.Test.YtlmgklebikcbjaaGreatHe
import Derived.Test.YtlmgklebikcbjaaGreatHa
import Derived.Test.YtlmgklebikcbjaaGreatLawNm
import Derived.Test.YtlmgklebikcbjaaGreatRx
import Derived.Test.YtlmgklebikcbjaaGreatHex
import Derived.Test.YtlmgklebikcbjaaGreatHk
import Derived.Test.YtlmgklebikcbjaaGreatMem
import Derived.Test.YtlmgklebikcbjaaGreatRows
import Derived.ProofKit
import Derived.OpenShut
import Derived.ShutString
import Derived.Lib.SmallJoins
import Derived.Test.YtlmgklebikcbjaaGreatHo
import Derived.WalkKit
/-
  Plain laws of blanks between tokens: gaps are passed, the words of LexBlanks are read whatever stands behind them. No program here.
-/
namespace Go.Proofs.YtlmgklebikcbjaaGreat
set_option linter.unusedVariables false

/-- the gaps of LexBlanks -/
def gps : Nat → List UInt8
  | 0 => [32]
  | 1 => [10]
  | 2 => [0]
  | 3 => [37, 99, 13]
  | 4 => [32, 37, 37, 10, 32]
  | 5 => [9, 12]
  | 6 => [13, 10]
  | _ => [32, 32]
/-- its words -/
def wds : Nat → List UInt8
  | 0 => [47, 65]
  | 1 => [40, 120, 41]
  | 2 => [60, 52, 49, 62]
  | 3 => [91]
  | 4 => [93]
  | 5 => [60, 60]
  | 6 => [62, 62]
  | 7 => [49, 50]
  | 8 => [45, 46, 53]
  | 9 => [111, 98, 106]
  | _ => [116, 114, 117, 101]

theorem bl_gps (k : Nat) (s : List UInt8) : bl (gps k ++ s) false = (gps k).length + bl s false := by
  rcases k with _ | _ | _ | _ | _ | _ | _ | k <;> simp [gps, bl, wh, c8] <;> omega

/-- a token, and what stands behind it -/
def TRes.with : TRes → List UInt8 → TRes
  | .bad e, _ => .bad e
  | .tok k n out _, r => .tok k n out r

theorem rn_stop' {r : List UInt8} (hr : rg (hd r) = false) : rn r = 0 := by
  cases r with
  | nil => rfl
  | cons x t => rw [rn, if_neg (by rw [hd_cons] at hr; simp [hr])]

theorem rn_app : ∀ (a r : List UInt8), (∀ x ∈ a, rg (c8 x) = true) → rg (hd r) = false → rn (a ++ r) = a.length
  | [], r, _, hr => rn_stop' hr
  | x :: a, r, h, hr => by
    rw [List.cons_append, rn, if_pos (h x (by simp)), rn_app a r (fun y hy => h y (by simp [hy])) hr, List.length_cons]; omega

theorem tk_run (x : UInt8) (a r : List UInt8) (h : ∀ y ∈ x :: a, rg (c8 y) = true) (hr : rg (hd r) = false) (hn : c8 x = 43 ∨ c8 x = 45 ∨ c8 x = 46 ∨ 48 ≤ c8 x ∧ c8 x ≤ 57) : numT (x :: a ++ r) = if (np (x :: a)).2.2 = 0 then .tok (if (np (x :: a)).2.1 = true then 1 else 2) (np (x :: a)).1 [] r else .bad (np (x :: a)).2.2 := by
  unfold numT
  rw [rn_app (x :: a) r h hr, List.take_left, List.drop_left]

theorem tk_wds (k : Nat) (r : List UInt8) (hr : rg (hd r) = false) : tk (wds k ++ r) = (tk (wds k)).with r := by
  have hw : ∀ a : List UInt8, (∀ x ∈ a, rg (c8 x) = true) → rn (a ++ r) = a.length := fun a h => rn_app a r h hr
  have b1 : ∀ x ∈ ([49, 50] : List UInt8), rg (c8 x) = true := by decide
  have b2 : ∀ x ∈ ([45, 46, 53] : List UInt8), rg (c8 x) = true := by decide
  have b3 : ∀ x ∈ ([111, 98, 106] : List UInt8), rg (c8 x) = true := by decide
  have b4 : ∀ x ∈ ([116, 114, 117, 101] : List UInt8), rg (c8 x) = true := by decide
  rcases k with _ | _ | _ | _ | _ | _ | _ | _ | _ | _ | k
  · have := tk_pnm [65] r (by decide) (by decide) hr
    exact this
  · have := tk_ptx [120] r (by decide)
    exact this
  · have h1 := hx_print [65] r [] (by decide)
    have e : tk (60 :: (dgts [65] ++ 62 :: r)) = wrp 3 (hx (dgts [65] ++ 62 :: r) (-1) []) := by
      have hh := dgts_hd [65] (62 :: r) (show ¬ c8 62 = 60 by decide)
      simp [tk, c8, hh]
    rw [h1] at e
    exact e
  · rfl
  · rfl
  · rfl
  · rfl
  · have h1 := tk_run 49 [50] r b1 hr (by decide)
    have e : tk (49 :: 50 :: r) = numT (49 :: 50 :: r) := by simp [tk, c8]
    exact e.trans h1
  · have h1 := tk_run 45 [46, 53] r b2 hr (by decide)
    have e : tk (45 :: 46 :: 53 :: r) = numT (45 :: 46 :: 53 :: r) := by simp [tk, c8]
    exact e.trans h1
  · have h1 := hw _ b3
    have e : tk ([111, 98, 106] ++ r) = .tok 9 0 (([111, 98, 106] ++ r).take (rn ([111, 98, 106] ++ r))) (([111, 98, 106] ++ r).drop (rn ([111, 98, 106] ++ r))) := by
      have hq : ¬ 127 < rn ([111, 98, 106] ++ r) := by rw [h1]; decide
      have hrg : rg (c8 111) = true := by decide
      rw [List.cons_append] at hq ⊢
      simp only [tk]
      rw [if_neg (by decide), if_neg (by decide), if_neg (fun q => absurd q.1 (by decide)), if_neg (fun q => absurd q.1 (by decide)), if_neg (by decide), if_neg (by decide), if_neg (by decide), if_neg (by decide), if_pos hrg, if_neg hq]
    rw [h1, List.take_left, List.drop_left] at e
    exact e
  · have h1 := hw _ b4
    have e : tk ([116, 114, 117, 101] ++ r) = .tok 9 0 (([116, 114, 117, 101] ++ r).take (rn ([116, 114, 117, 101] ++ r))) (([116, 114, 117, 101] ++ r).drop (rn ([116, 114, 117, 101] ++ r))) := by
      have hq : ¬ 127 < rn ([116, 114, 117, 101] ++ r) := by rw [h1]; decide
      have hrg : rg (c8 116) = true := by decide
      rw [List.cons_append] at hq ⊢
      simp only [tk]
      rw [if_neg (by decide), if_neg (by decide), if_neg (fun q => absurd q.1 (by decide)), if_neg (fun q => absurd q.1 (by decide)), if_neg (by decide), if_neg (by decide), if_neg (by decide), if_neg (by decide), if_pos hrg, if_neg hq]
    rw [h1, List.take_left, List.drop_left] at e
    exact e
end Go.Proofs.YtlmgklebikcbjaaGreat

/-
  Plain laws of printed numbers: the digits of a number say it. No program here.
-/
namespace Go.Proofs.YtlmgklebikcbjaaGreat
set_option linter.unusedVariables false

/-- a digit -/
def dg1 (n : Nat) : UInt8 := UInt8.ofNat (48 + n % 10)
/-- a number's digits; at most k behind the first -/
def dec : Nat → Nat → List UInt8
  | 0, n => [dg1 n]
  | k + 1, n => if n < 10 then [dg1 n] else dec k (n / 10) ++ [dg1 n]

theorem dg1_nat (n : Nat) : (dg1 n).toNat = 48 + n % 10 := by
  unfold dg1; rw [UInt8.toNat_ofNat', Nat.mod_eq_of_lt (by omega)]
theorem dg1_isd (n : Nat) : isd (c8 (dg1 n)) = true := by
  rw [isd_iff]; unfold c8; rw [dg1_nat]; omega
theorem dec_isd : ∀ (k n : Nat), ∀ x ∈ dec k n, isd (c8 x) = true
  | 0, n, x, h => by simp [dec] at h; rw [h]; exact dg1_isd n
  | k + 1, n, x, h => by
    rw [dec] at h
    split at h
    · simp at h; rw [h]; exact dg1_isd n
    · rw [List.mem_append] at h
      rcases h with h | h
      · exact dec_isd k _ x h
      · simp at h; rw [h]; exact dg1_isd n
theorem vl_dec : ∀ (k n : Nat), n < 10 ^ (k + 1) → vl (dec k n) 0 = n
  | 0, n, h => by
    have : n < 10 := by simpa using h
    simp [dec, vl, dg1_nat]; omega
  | k + 1, n, h => by
    rw [dec]
    by_cases hn : n < 10
    · rw [if_pos hn]; simp [vl, dg1_nat]; omega
    · have h2 : n / 10 < 10 ^ (k + 1) := by
        rw [Nat.pow_succ] at h
        omega
      rw [if_neg hn, vl_snoc, vl_dec k _ h2, dg1_nat]
      omega
theorem dec_ne (k n : Nat) : dec k n ≠ [] := by
  cases k with
  | zero => simp [dec]
  | succ k => rw [dec]; split <;> simp

theorem dgs_all : ∀ (l r : List UInt8), (∀ x ∈ l, isd (c8 x) = true) → ¬ isd (hd r) = true → dgs (l ++ r) = l.length
  | [], r, _, hr => by
    cases r with
    | nil => rfl
    | cons x t => rw [List.nil_append, dgs, if_neg (by rw [hd_cons] at hr; exact hr)]; rfl
  | x :: l, r, h, hr => by
    rw [List.cons_append, dgs, if_pos (h x (by simp)), dgs_all l r (fun y hy => h y (by simp [hy])) hr, List.length_cons]; omega

/-- a whole number as it is printed -/
def pwh (n : Int) : List UInt8 := (if n < 0 then [45] else []) ++ dec 19 n.natAbs

theorem hd_dec (k n : Nat) (r : List UInt8) : isd (hd (dec k n ++ r)) = true := by
  cases hq : dec k n with
  | nil => exact absurd hq (dec_ne k n)
  | cons x t => exact dec_isd k n x (by rw [hq]; simp)

theorem np_pwh (n : Int) (h : -2147483647 ≤ n) (h' : n ≤ 2147483647) : np (pwh n) = (n, true, 0) := by
  have hv := vl_dec 19 n.natAbs (by omega)
  have hd1 := hd_dec 19 n.natAbs []
  rw [List.append_nil, isd_iff] at hd1
  have hds : dgs (dec 19 n.natAbs) = (dec 19 n.natAbs).length := by
    have := dgs_all (dec 19 n.natAbs) [] (dec_isd 19 _) (by decide)
    rwa [List.append_nil] at this
  have hlen : 0 < (dec 19 n.natAbs).length := List.length_pos_iff.2 (dec_ne _ _)
  have key : ∀ g : Int, numb g ((dec 19 n.natAbs).take (dgs (dec 19 n.natAbs))) ((dec 19 n.natAbs).drop (dgs (dec 19 n.natAbs))) = (g * (n.natAbs : Int), true, 0) := fun g => by
    rw [hds, List.take_length, List.drop_length, numb, if_neg (by omega), hv, if_neg (by omega)]
  unfold pwh np
  by_cases hn : n < 0
  · have s1 : sgn (45 :: dec 19 n.natAbs) = -1 := by unfold sgn; rw [hd_cons, if_pos (show c8 45 = 45 by decide)]
    have s2 : uns (45 :: dec 19 n.natAbs) = dec 19 n.natAbs := by unfold uns; rw [if_pos (.inr (show c8 45 = 45 by decide))]; rfl
    rw [if_pos hn, List.singleton_append, s1, s2, key]
    congr 1; omega
  · have s1 : sgn (dec 19 n.natAbs) = 1 := by unfold sgn; rw [if_neg (by omega)]
    have s2 : uns (dec 19 n.natAbs) = dec 19 n.natAbs := by unfold uns; rw [if_neg (by omega)]
    rw [if_neg hn, List.nil_append, s1, s2, key]
    congr 1; omega
end Go.Proofs.YtlmgklebikcbjaaGreat

/-
  Plain laws of printed numbers: places behind a point, without their last noughts. No program here.
-/
namespace Go.Proofs.YtlmgklebikcbjaaGreat
set_option linter.unusedVariables false

/-- a nought more behind the point changes nothing -/
theorem fr_zero (k : Nat) (l : List UInt8) (n : Nat) (h : l.length < k) : fr k (l ++ [48]) n = fr k l n := by
  rw [fr_eq, fr_eq, List.take_of_length_le (by simp; omega), List.take_of_length_le (by omega), vl_snoc, List.length_append, List.length_singleton]
  have e : (48 : UInt8).toNat - 48 = 0 := by decide
  rw [e, Nat.add_zero, show k - l.length = (k - (l.length + 1)) + 1 by omega, Nat.pow_succ, Nat.mul_comm 10 (vl l n), Nat.mul_assoc, Nat.mul_comm 10]

/-- the last noughts of digits, but for the first digit, are struck (fuel: the length) -/
def trim : Nat → List UInt8 → List UInt8
  | 0, l => l
  | k + 1, l => if 1 < l.length ∧ l.getLast? = some 48 then trim k l.dropLast else l

theorem fr_trim : ∀ (k : Nat) (l : List UInt8) (n : Nat), l.length ≤ 5 → fr 5 (trim k l) n = fr 5 l n
  | 0, l, n, h => rfl
  | k + 1, l, n, h => by
    rw [trim]
    by_cases hc : 1 < l.length ∧ l.getLast? = some 48
    · rw [if_pos hc, fr_trim k l.dropLast n (by rw [List.length_dropLast]; omega)]
      have e : l = l.dropLast ++ [48] := by
        obtain ⟨h1, h2⟩ := hc
        have hne : l ≠ [] := by intro q; subst q; simp at h1
        have h3 := List.dropLast_concat_getLast hne
        rw [List.getLast?_eq_some_getLast hne] at h2
        injection h2 with h2
        rw [h2] at h3
        exact h3.symm
      conv => rhs; rw [e]
      rw [fr_zero 5 l.dropLast n (by rw [List.length_dropLast]; omega)]
    · rw [if_neg hc]
end Go.Proofs.YtlmgklebikcbjaaGreat

/-
  Plain laws of printed numbers: a number as it is printed is one token. No program here.
-/
namespace Go.Proofs.YtlmgklebikcbjaaGreat
set_option linter.unusedVariables false

/-- five digits -/
def five (m : Nat) : List UInt8 := [dg1 (m / 10000), dg1 (m / 1000), dg1 (m / 100), dg1 (m / 10), dg1 m]

theorem dec_five (m : Nat) (h : m < 100000) : dec 19 (100000 + m) = 49 :: five m := by
  have e0 : (100000 + m) / 10 / 10 / 10 / 10 / 10 = 1 := by omega
  have e1 : ∀ k n : Nat, ¬ n < 10 → dec (k + 1) n = dec k (n / 10) ++ [dg1 n] := fun k n q => by rw [dec, if_neg q]
  rw [e1 18 _ (by omega), e1 17 _ (by omega), e1 16 _ (by omega), e1 15 _ (by omega), e1 14 _ (by omega), e0]
  have e2 : dec 14 1 = [49] := by decide
  rw [e2]
  have d : ∀ a b : Nat, a % 10 = b % 10 → dg1 a = dg1 b := fun a b q => by unfold dg1; rw [q]
  rw [d ((100000 + m) / 10 / 10 / 10 / 10) (m / 10000) (by omega), d ((100000 + m) / 10 / 10 / 10) (m / 1000) (by omega), d ((100000 + m) / 10 / 10) (m / 100) (by omega), d ((100000 + m) / 10) (m / 10) (by omega), d (100000 + m) m (by omega)]
  rfl

theorem five_isd (m : Nat) : ∀ x ∈ five m, isd (c8 x) = true := by
  intro x hx
  simp only [five, List.mem_cons, List.not_mem_nil, or_false] at hx
  rcases hx with rfl | rfl | rfl | rfl | rfl <;> exact dg1_isd _

theorem vl_five (m : Nat) (h : m < 100000) : vl (five m) 0 = m := by
  simp only [five, vl, dg1_nat]
  omega

theorem trim_sub : ∀ (k : Nat) (l : List UInt8), ∀ x ∈ trim k l, x ∈ l
  | 0, l, x, h => h
  | k + 1, l, x, h => by
    rw [trim] at h
    split at h
    · exact List.dropLast_subset _ (trim_sub k _ x h)
    · exact h

/-- a number with a point, as it is printed -/
def prl (n : Int) : List UInt8 := (if n < 0 then [45] else []) ++ (dec 19 (n.natAbs / 100000) ++ 46 :: trim 5 (five (n.natAbs % 100000)))

theorem np_sgn (n : Int) (d : List UInt8) (hd0 : isd (hd d) = true) : sgn ((if n < 0 then [45] else []) ++ d) = (if n < 0 then -1 else 1) ∧ uns ((if n < 0 then [45] else []) ++ d) = d := by
  rw [isd_iff] at hd0
  by_cases hn : n < 0
  · simp only [if_pos hn]
    rw [List.singleton_append]
    refine ⟨by unfold sgn; rw [hd_cons, if_pos (show c8 45 = 45 by decide)], by unfold uns; rw [if_pos (.inr (show c8 45 = 45 by decide))]; rfl⟩
  · simp only [if_neg hn]
    rw [List.nil_append]
    exact ⟨by unfold sgn; rw [if_neg (by omega)], by unfold uns; rw [if_neg (by omega)]⟩

theorem np_prl (n : Int) (h : -214748364799999 ≤ n) (h' : n ≤ 214748364799999) : np (prl n) = (n, false, 0) := by
  have hq : n.natAbs / 100000 ≤ 2147483647 := by omega
  have hv := vl_dec 19 (n.natAbs / 100000) (by omega)
  have hlen : 0 < (dec 19 (n.natAbs / 100000)).length := List.length_pos_iff.2 (dec_ne _ _)
  have hf : fr 5 (trim 5 (five (n.natAbs % 100000))) 0 = n.natAbs % 100000 := by
    rw [fr_trim 5 _ 0 (by simp [five]), fr_eq]
    have : (five (n.natAbs % 100000)).length = 5 := rfl
    rw [List.take_of_length_le (by omega), vl_five _ (Nat.mod_lt _ (by decide)), this]
    simp
  have hdf : dgs (trim 5 (five (n.natAbs % 100000))) = (trim 5 (five (n.natAbs % 100000))).length := by
    have := dgs_all (trim 5 (five (n.natAbs % 100000))) [] (fun x hx => five_isd _ x (trim_sub _ _ x hx)) (by decide)
    rwa [List.append_nil] at this
  obtain ⟨s1, s2⟩ := np_sgn n (dec 19 (n.natAbs / 100000) ++ 46 :: trim 5 (five (n.natAbs % 100000))) (hd_dec 19 _ _)
  have e : prl n = (if n < 0 then [45] else []) ++ (dec 19 (n.natAbs / 100000) ++ 46 :: trim 5 (five (n.natAbs % 100000))) := rfl
  rw [e]
  generalize trim 5 (five (n.natAbs % 100000)) = F at hf hdf s1 s2 ⊢
  have hds := dgs_all (dec 19 (n.natAbs / 100000)) (46 :: F) (dec_isd 19 _) (by show ¬ isd (c8 46) = true; decide)
  unfold np
  rw [s1, s2, hds, List.take_left, List.drop_left, numb, if_pos ⟨by decide, hdf, by omega⟩, hv, if_neg (by omega), hf]
  by_cases hn : n < 0
  · rw [if_pos hn]; congr 1; omega
  · rw [if_neg hn]; congr 1; omega

theorem isd_rg {c : Int} (h : isd c = true) : rg c = true := by
  rw [isd_iff] at h
  have : c = 48 ∨ c = 49 ∨ c = 50 ∨ c = 51 ∨ c = 52 ∨ c = 53 ∨ c = 54 ∨ c = 55 ∨ c = 56 ∨ c = 57 := by omega
  rcases this with rfl | rfl | rfl | rfl | rfl | rfl | rfl | rfl | rfl | rfl <;> decide

/-- a number as it is printed -/
def pnum (q : Bool) (n : Int) : List UInt8 := if q = true then pwh n else prl n

theorem pnum_rg (q : Bool) (n : Int) : ∀ y ∈ pnum q n, rg (c8 y) = true := by
  have h45 : rg (c8 45) = true := by decide
  have h46 : rg (c8 46) = true := by decide
  have hs : ∀ y ∈ (if n < 0 then ([45] : List UInt8) else []), rg (c8 y) = true := by
    intro y hy
    split at hy
    · simp at hy; rw [hy]; exact h45
    · simp at hy
  intro y hy
  unfold pnum at hy
  split at hy
  · unfold pwh at hy
    rw [List.mem_append] at hy
    rcases hy with hy | hy
    · exact hs y hy
    · exact isd_rg (dec_isd _ _ y hy)
  · unfold prl at hy
    rw [List.mem_append, List.mem_append, List.mem_cons] at hy
    rcases hy with hy | hy | rfl | hy
    · exact hs y hy
    · exact isd_rg (dec_isd _ _ y hy)
    · exact h46
    · exact isd_rg (five_isd _ y (trim_sub _ _ y hy))

theorem pnum_hd (q : Bool) (n : Int) : ∃ x t, pnum q n = x :: t ∧ (c8 x = 43 ∨ c8 x = 45 ∨ c8 x = 46 ∨ 48 ≤ c8 x ∧ c8 x ≤ 57) := by
  have key : ∀ (k m : Nat) (r : List UInt8), ∃ x t, (if n < 0 then ([45] : List UInt8) else []) ++ (dec k m ++ r) = x :: t ∧ (c8 x = 43 ∨ c8 x = 45 ∨ c8 x = 46 ∨ 48 ≤ c8 x ∧ c8 x ≤ 57) := fun k m r => by
    by_cases hn : n < 0
    · rw [if_pos hn]; exact ⟨45, dec k m ++ r, rfl, .inr (.inl (by decide))⟩
    · rw [if_neg hn, List.nil_append]
      have hd1 := hd_dec k m r
      cases hq : dec k m ++ r with
      | nil => rw [hq] at hd1; exact absurd hd1 (by decide)
      | cons x t => rw [hq, hd_cons, isd_iff] at hd1; exact ⟨x, t, rfl, .inr (.inr (.inr hd1))⟩
  unfold pnum
  split
  · have := key 19 n.natAbs []
    rw [List.append_nil] at this
    exact this
  · exact key _ _ _

theorem TK_pnum (q : Bool) (n : Int) (r : List UInt8) (h : -214748364799999 ≤ n) (h' : n ≤ 214748364799999) (hq : q = true → -2147483647 ≤ n ∧ n ≤ 2147483647) (hr : rg (hd r) = false) : TK (pnum q n ++ r) = .tok (if q = true then 1 else 2) n [] r ∧ bl (pnum q n ++ r) false = 0 := by
  have hp : np (pnum q n) = (n, q, 0) := by
    unfold pnum
    cases q with
    | true => exact np_pwh n (hq rfl).1 (hq rfl).2
    | false => exact np_prl n h h'
  have ha := pnum_rg q n
  obtain ⟨x, t, he, hx⟩ := pnum_hd q n
  rw [he] at hp ha ⊢
  have hb : bl (x :: t ++ r) false = 0 := by
    have hw : ¬ wh (c8 x) = true := by unfold wh; simp only [Bool.or_eq_true, beq_iff_eq]; omega
    rw [List.cons_append, bl, if_neg hw, if_neg (by omega)]
  have h1 := tk_run x t r ha hr hx
  rw [hp] at h1
  have e : tk (x :: t ++ r) = numT (x :: t ++ r) := by
    rw [List.cons_append, tk, if_neg (by omega), if_neg (by omega), if_neg (by omega), if_neg (by omega), if_neg (by omega), if_neg (by omega), if_neg (by omega), if_pos hx]
  refine ⟨?_, hb⟩
  unfold TK
  rw [hb, List.drop_zero, e, h1]
  rfl
end Go.Proofs.YtlmgklebikcbjaaGreat

/-
  Numbers as they are printed: the document's digits, Text. Conditions: sizes.
-/
namespace Go.Proofs.YtlmgklebikcbjaaGreat
open Go.RowKit
set_option linter.unusedVariables false

theorem wrap64u (n : Int) : IntKind.u64.wrap n = n % 18446744073709551616 := by
  simp [IntKind.wrap, IntKind.signed, IntKind.bits]
theorem quo_u64 (a n : Nat) (hn : 0 < n) (ha : a < 18446744073709551616) (t : TypeId) : binOp .quo t (.int .u64 (a : Int)) (.int .u64 (n : Int)) = pure (.int .u64 ((a / n : Nat) : Int)) := by
  have e0 : binOp .quo t (.int .u64 (a : Int)) (.int .u64 (n : Int)) = Op.intDiv .quo .u64 (a : Int) (n : Int) := by simp [binOp]
  rw [e0]
  unfold Op.intDiv
  rw [if_neg (by omega)]
  have h1 : a / n ≤ a := Nat.div_le_self a n
  have e1 : ((a : Int)).tdiv (n : Int) = ((a / n : Nat) : Int) := rfl
  show pure (Value.int .u64 (IntKind.u64.wrap (((a : Int)).tdiv (n : Int)))) = _
  rw [e1]
  generalize a / n = z at h1
  congr 2
  rw [wrap64u]
  omega
theorem dec_len : ∀ k m : Nat, (dec k m).length ≤ k + 1
  | 0, m => by simp [dec]
  | k + 1, m => by
    rw [dec]; split
    · simp
    · have := dec_len k (m / 10); rw [List.length_append, List.length_singleton]; omega
theorem dec_small (k m : Nat) (h : m < 10) : dec k m = [dg1 m] := by
  cases k with
  | zero => rfl
  | succ k => rw [dec, if_pos h]

set_option maxHeartbeats 1600000 in
set_option maxRecDepth 100000 in
theorem digits_u (N : Nat) (hN : N < 18446744073709551616) (w : World) :
    Calls Tryz.prog 28 #[.int .u64 (N : Int)] w fun e w' => e = .returned (.string (st (dec 19 N))) ∧ Below w.heap.size w w' := by
  go_enter Tryz.func28, Tryz.ntmps28
  go_wp2
  go_loopw [0, 3] (fun v s wr => ∃ m k : Nat, ∃ l : List UInt8, v = .int .u64 (m : Int) ∧ s = .string (st l) ∧ m < 10 ^ (k + 1) ∧ m < 18446744073709551616 ∧ k + l.length ≤ 19 ∧ dec 19 N = dec k m ++ l ∧ Below w.heap.size w wr) (fun v _ _ => (intOf v).toNat)
  case atStart => exact ⟨N, 19, [], rfl, rfl, by omega, hN, by simp, by simp, Below.refl _ _⟩
  case round =>
    obtain ⟨m, k, l, rfl, rfl, hm, hm2, hk, hd, hbel⟩ := hrel
    have hrem : ∀ t, binOp .rem t (.int .u64 (m : Int)) (.int .u64 10) = pure (.int .u64 ((m % 10 : Nat) : Int)) := rem_any .u64 m 10 (by decide)
    have hquo : ∀ t, binOp .quo t (.int .u64 (m : Int)) (.int .u64 10) = pure (.int .u64 ((m / 10 : Nat) : Int)) := quo_u64 m 10 (by decide) hm2
    have hadd : ∀ w : World, (Op.stringOp .add (st [dg1 m]) (st l)).run Tryz.prog w = .ok (.string (st (dg1 m :: l))) w := fun w => st_add [dg1 m] l (by simp; omega) w
    have hr10 : m % 10 < 10 := Nat.mod_lt _ (by decide)
    have hcv : (convert 22 9 (.slice (some ⟨wr.heap.size, 0, none⟩) 1 1)).run Tryz.prog (wr.alloc (.cells #[.int .u8 (48 + ((m % 10 : Nat) : Int))] 5)) = .ok (.string (st [dg1 m])) (wr.alloc (.cells #[.int .u8 (48 + ((m % 10 : Nat) : Int))] 5)) := by
      have e1 : 48 + ((m % 10 : Nat) : Int) = c8 (dg1 m) := by unfold c8; rw [dg1_nat]; omega
      rw [e1]
      exact sl_string (P := Tryz.prog) _ 22 9 5 Tryz.underlying22 (by kernel_rfl) (by kernel_rfl) _ _ (Sl.oneC wr (dg1 m) 5 _ rfl)
    generalize hR : m % 10 = r at hrem hr10 hcv
    have HD := hid hd
    have HM := hid hm
    have HR := hid hR
    clear hd hm hR
    have hdiv : m / 10 ≤ m := Nat.div_le_self _ _
    by_cases hz : m / 10 = 0
    · rw [hz] at hquo
      clear hdiv
      go_wp2
      go_ret
      exact ⟨by rw [HD.out, dec_small k m (by omega)]; rfl, hbel.alloc hbel.size _⟩
    · have hz2 : (((m / 10 : Nat) : Int) == 0) = false := by simp; omega
      have hlt : m / 10 < m := by omega
      have hq64 : m / 10 < 18446744073709551616 := by omega
      go_wp2
      go_roundw
      case rel =>
        obtain ⟨k, rfl⟩ : ∃ k', k = k' + 1 := by
          cases k with
          | zero => have := HM.out; simp at this; omega
          | succ k => exact ⟨k, rfl⟩
        have hm10 : m / 10 < 10 ^ (k + 1) := by
          have := HM.out
          rw [Nat.pow_succ] at this
          exact Nat.div_lt_of_lt_mul (by omega)
        have hdd := HD.out
        have hde : dec (k + 1) m = dec k (m / 10) ++ [dg1 m] := by rw [dec, if_neg (by omega)]
        rw [hde, List.append_assoc] at hdd
        exact ⟨m / 10, k, dg1 m :: l, by rw [Int.natCast_ediv]; rfl, rfl, hm10, hq64, by simp; omega, hdd, hbel.alloc hbel.size _⟩
      case measure => simp [intOf]; omega

theorem digits_uv (z : Int) (N : Nat) (hz : z = N) (hN : N < 18446744073709551616) (w : World) :
    Calls Tryz.prog 28 #[.int .u64 z] w fun e w' => e = .returned (.string (st (dec 19 N))) ∧ Below w.heap.size w w' := by
  subst hz; exact digits_u N hN w
theorem st_extract (l : List UInt8) (a b : Nat) : (st l).extract a b = st ((l.drop a).take (b - a)) := ByteArray.extract_mk l a b
theorem st_from (P : Program) (t : TypeId) (ht : P.underlying t = some .string) (l : List UInt8) (z : Int) (n : Nat) (hz : z = n) (h : n ≤ l.length) (w : World) : (Instr.slice t (.string (st l)) (some (.int .i64 z)) none none).run P w = .ok (.string (st (l.drop n))) w := by
  subst hz
  rw [run_slice_string_l w t (st l) ht .i64 n (by omega) (by rw [st_size]; omega), st_extract, st_size]
  congr 3
  rw [List.take_of_length_le (by simp)]
  simp
theorem st_to (P : Program) (t : TypeId) (ht : P.underlying t = some .string) (l : List UInt8) (z : Int) (n : Nat) (hz : z = n) (h : n ≤ l.length) (w : World) : (Instr.slice t (.string (st l)) none (some (.int .i64 z)) none).run P w = .ok (.string (st (l.take n))) w := by
  subst hz
  rw [run_slice_string_h w t (st l) ht .i64 n (by omega) (by rw [st_size]; omega), st_extract]
  congr 3
theorem trim_step (j : Nat) (l : List UInt8) (h1 : 1 < l.length) (h2 : l.length ≤ j) (x : UInt8) (hx : x = l.getD (l.length - 1) 0) (h48 : (c8 x == 48) = true) : ∃ j', trim j l = trim j' (l.take (l.length - 1)) ∧ l.length - 1 ≤ j' := by
  obtain ⟨j, rfl⟩ : ∃ k, j = k + 1 := ⟨j - 1, by omega⟩
  have hx48 : x = 48 := by
    have : c8 x = 48 := by simpa using h48
    unfold c8 at this
    exact UInt8.toNat_inj.1 (by show x.toNat = 48; omega)
  have hl : l.getLast? = some 48 := by
    rw [List.getLast?_eq_getElem?, List.getElem?_eq_getElem (by omega)]
    rw [hx48] at hx
    simp [List.getD, List.getElem?_eq_getElem (show l.length - 1 < l.length by omega)] at hx
    rw [← hx]
  refine ⟨j, ?_, by omega⟩
  rw [trim, if_pos ⟨h1, hl⟩, List.dropLast_eq_take]
theorem trim_stop (j : Nat) (l : List UInt8) (h : ¬ 1 < l.length ∨ (c8 (l.getD (l.length - 1) 0) == 48) = false) : trim j l = l := by
  cases j with
  | zero => rfl
  | succ j =>
    rw [trim, if_neg]
    rintro ⟨h1, h2⟩
    rcases h with h | h
    · exact h h1
    · rw [List.getLast?_eq_getElem?, List.getElem?_eq_getElem (by omega)] at h2
      injection h2 with h2
      simp [List.getD, List.getElem?_eq_getElem (show l.length - 1 < l.length by omega), h2, c8] at h
def szOf : Value → Nat
  | .string b => b.size
  | _ => 0
theorem five_len (m : Nat) : (five m).length = 5 := rfl

set_option maxHeartbeats 1600000 in
set_option maxRecDepth 100000 in
theorem text_pos_whole (n : Int) (w : World) (h0 : 0 ≤ n) (h1 : n ≤ 214748364799999) :
    Calls Tryz.prog 12 #[.int .i64 n, .bool true] w fun e w' => e = .returned (.string (st (pnum true n))) ∧ Below w.heap.size w w' := by
  obtain ⟨N, hN⟩ : ∃ N : Nat, N = n.natAbs := ⟨_, rfl⟩
  have e0 : pnum true n = [] ++ dec 19 N := by unfold pnum pwh; rw [if_pos rfl, if_neg (by omega), hN]
  have hadd : ∀ w : World, (Op.stringOp .add ⟨#[]⟩ (st (dec 19 N))).run Tryz.prog w = .ok (.string (st ([] ++ dec 19 N))) w := fun w => st_add [] _ (by have := dec_len 19 N; simp; omega) w
  rw [e0]
  have t1 : decide (n < 0) = false := decide_eq_false (by omega)
  have HZ := hid (show n = (N : Int) by omega)
  have HN : N < 18446744073709551616 := by omega
  clear e0 hN
  go_enter Tryz.func12, Tryz.ntmps12
  go_wp2_with (go_at_call 28; refine (digits_uv _ N HZ.out HN _).mono ?_; rintro e w1 ⟨rfl, hb1⟩)
  go_ret
  exact ⟨rfl, hb1⟩

set_option maxHeartbeats 1600000 in
set_option maxRecDepth 100000 in
theorem text_neg_whole (n : Int) (w : World) (h0 : n < 0) (h1 : -214748364799999 ≤ n) :
    Calls Tryz.prog 12 #[.int .i64 n, .bool true] w fun e w' => e = .returned (.string (st (pnum true n))) ∧ Below w.heap.size w w' := by
  obtain ⟨N, hN⟩ : ∃ N : Nat, N = n.natAbs := ⟨_, rfl⟩
  have e0 : pnum true n = [45] ++ dec 19 N := by unfold pnum pwh; rw [if_pos rfl, if_pos h0, hN]
  have hadd : ∀ w : World, (Op.stringOp .add ⟨#[45]⟩ (st (dec 19 N))).run Tryz.prog w = .ok (.string (st ([45] ++ dec 19 N))) w := fun w => st_add [45] _ (by have := dec_len 19 N; simp; omega) w
  rw [e0]
  have t1 : decide (n < 0) = true := decide_eq_true h0
  have HZ := hid (show -(n + 1) + 1 = (N : Int) by omega)
  have HN : N < 18446744073709551616 := by omega
  clear e0 hN
  go_enter Tryz.func12, Tryz.ntmps12
  go_wp2_with (go_at_call 28; refine (digits_uv _ N HZ.out HN _).mono ?_; rintro e w1 ⟨rfl, hb1⟩)
  go_ret
  exact ⟨rfl, hb1⟩

set_option maxHeartbeats 3200000 in
set_option maxRecDepth 100000 in
theorem text_pos_real (n : Int) (w : World) (h0 : 0 ≤ n) (h1 : n ≤ 214748364799999) :
    Calls Tryz.prog 12 #[.int .i64 n, .bool false] w fun e w' => e = .returned (.string (st (pnum false n))) ∧ Below w.heap.size w w' := by
  obtain ⟨N, hN⟩ : ∃ N : Nat, N = n.natAbs := ⟨_, rfl⟩
  have e0 : pnum false n = ([] ++ dec 19 (N / 100000)) ++ [46] ++ trim 5 (five (N % 100000)) := by unfold pnum prl; rw [if_neg (by decide), if_neg (by omega), hN]; simp
  have hz : n = (N : Int) := by omega
  have hrem : ∀ t, binOp .rem t (.int .u64 (n)) (.int .u64 100000) = pure (.int .u64 ((N % 100000 : Nat) : Int)) := fun t => by rw [hz]; exact rem_any .u64 N 100000 (by decide) t
  have hquo : ∀ t, binOp .quo t (.int .u64 (n)) (.int .u64 100000) = pure (.int .u64 ((N / 100000 : Nat) : Int)) := fun t => by rw [hz]; exact quo_u64 N 100000 (by decide) (by omega) t
  have hr : N % 100000 < 100000 := Nat.mod_lt _ (by decide)
  have hq : N / 100000 ≤ 2147483647 := by omega
  rw [e0]
  generalize N % 100000 = r at hrem hr
  generalize N / 100000 = q at hquo hq
  have t1 : decide (n < 0) = false := decide_eq_false (by omega)
  have hsl := fun w => st_from Tryz.prog 9 (by kernel_rfl) (49 :: five r) 1 1 rfl (by simp) w
  rw [show (49 :: five r).drop 1 = five r from rfl] at hsl
  have hd5 := five_len r
  have ha1 : ∀ w : World, (Op.stringOp .add ⟨#[]⟩ (st (dec 19 q))).run Tryz.prog w = .ok (.string (st ([] ++ dec 19 q))) w := fun w => st_add [] _ (by have := dec_len 19 q; simp; omega) w
  have ha2 : ∀ w : World, (Op.stringOp .add (st ([] ++ dec 19 q)) ⟨#[46]⟩).run Tryz.prog w = .ok (.string (st ([] ++ dec 19 q ++ [46]))) w := fun w => st_add _ [46] (by have := dec_len 19 q; simp; omega) w
  have hal : ([] ++ dec 19 q ++ [46]).length ≤ 30 := by have := dec_len 19 q; simp; omega
  generalize hA : [] ++ dec 19 q = A at ha1 ha2
  have HA := hid hA
  generalize hB : A ++ [46] = B at ha2
  have HB := hid hB
  rw [hA, hB] at hal
  have HZ := hid hz
  clear e0 hA hB hN hz
  go_enter Tryz.func12, Tryz.ntmps12
  go_wp2_with (go_at_call 28; refine (digits_uv _ (100000 + r) (by simp) (by omega) _).mono ?_; rw [dec_five r hr]; rintro e w1 ⟨rfl, hb1⟩)
  go_loopw [7] (fun f wr => ∃ j : Nat, ∃ l : List UInt8, f = .string (st l) ∧ trim 5 (five r) = trim j l ∧ l.length ≤ j ∧ 1 ≤ l.length ∧ l.length ≤ 5 ∧ Below w.heap.size w wr) (fun f _ => szOf f)
  case atStart => exact ⟨5, five r, rfl, rfl, by omega, by omega, by omega, hb1⟩
  case round =>
    clear hb1 hsl hd5 hrem
    obtain ⟨j, l, rfl, htr, hj, hl1, hl5, hbel⟩ := hrel
    have hzl := st_size l
    by_cases hlt : 1 < l.length
    · have hz1 : ((l.length : Int) - 1) = ((l.length - 1 : Nat) : Int) := by omega
      have hix : ∀ w, (Instr.index 9 (.string (st l)) (.int .i64 ((l.length : Int) - 1))).run Tryz.prog w = .ok (.int .u8 (c8 (l.getD (l.length - 1) 0))) w := fun w => by rw [hz1]; exact st_at l (l.length - 1) (by omega) Tryz.prog 9 (by kernel_rfl) w
      have hsl := fun w => st_to Tryz.prog 9 (by kernel_rfl) l ((l.length : Int) - 1) (l.length - 1) hz1 (by omega) w
      obtain ⟨x, hx⟩ : ∃ x, x = l.getD (l.length - 1) 0 := ⟨_, rfl⟩
      rw [← hx] at hix
      cases h48 : (c8 x == 48) with
      | true =>
        obtain ⟨j', hj1, hj2⟩ := trim_step j l hlt hj x hx h48
        have HJ := hid (htr.trans hj1)
        have HX := hid hx
        clear hx htr hj1 hz1
        have htl : (l.take (l.length - 1)).length = l.length - 1 := by rw [List.length_take]; omega
        generalize hl' : l.take (l.length - 1) = l' at hsl htl HJ
        clear hl'
        go_wp2
        go_roundw
        case rel => exact ⟨j', l', rfl, HJ.out, by omega, by omega, by omega, hbel⟩
        case measure => show (st l').size < (st l).size; rw [st_size, st_size]; omega
      | false =>
        have hst := trim_stop j l (.inr (by rw [← hx]; exact h48))
        have HT := hid (htr.trans hst)
        have ha3 : ∀ w : World, (Op.stringOp .add (st B) (st l)).run Tryz.prog w = .ok (.string (st (B ++ l))) w := fun w => st_add B l (by omega) w
        have HX := hid hx
        clear hx htr hst hz1 hsl
        go_wp2_with (go_at_call 28; refine (digits_uv _ q (by omega) (by omega) _).mono ?_; rintro e w1 ⟨rfl, hb1⟩)
        go_ret
        exact ⟨by rw [HT.out]; rfl, below_then' hbel hb1 hbel.size⟩
    · have hst := trim_stop j l (.inl hlt)
      have HT := hid (htr.trans hst)
      have ha3 : ∀ w : World, (Op.stringOp .add (st B) (st l)).run Tryz.prog w = .ok (.string (st (B ++ l))) w := fun w => st_add B l (by omega) w
      have hne : ¬ (1 : Int) < (l.length : Int) := by omega
      clear htr hst
      go_wp2_with (go_at_call 28; refine (digits_uv _ q (by omega) (by omega) _).mono ?_; rintro e w1 ⟨rfl, hb1⟩)
      go_ret
      exact ⟨by rw [HT.out]; rfl, below_then' hbel hb1 hbel.size⟩

set_option maxHeartbeats 3200000 in
set_option maxRecDepth 100000 in
theorem text_neg_real (n : Int) (w : World) (h0 : n < 0) (h1 : -214748364799999 ≤ n) :
    Calls Tryz.prog 12 #[.int .i64 n, .bool false] w fun e w' => e = .returned (.string (st (pnum false n))) ∧ Below w.heap.size w w' := by
  obtain ⟨N, hN⟩ : ∃ N : Nat, N = n.natAbs := ⟨_, rfl⟩
  have e0 : pnum false n = ([45] ++ dec 19 (N / 100000)) ++ [46] ++ trim 5 (five (N % 100000)) := by unfold pnum prl; rw [if_neg (by decide), if_pos h0, hN]; simp
  have hz : -(n + 1) + 1 = (N : Int) := by omega
  have hrem : ∀ t, binOp .rem t (.int .u64 (-(n + 1) + 1)) (.int .u64 100000) = pure (.int .u64 ((N % 100000 : Nat) : Int)) := fun t => by rw [hz]; exact rem_any .u64 N 100000 (by decide) t
  have hquo : ∀ t, binOp .quo t (.int .u64 (-(n + 1) + 1)) (.int .u64 100000) = pure (.int .u64 ((N / 100000 : Nat) : Int)) := fun t => by rw [hz]; exact quo_u64 N 100000 (by decide) (by omega) t
  have hr : N % 100000 < 100000 := Nat.mod_lt _ (by decide)
  have hq : N / 100000 ≤ 2147483647 := by omega
  rw [e0]
  generalize N % 100000 = r at hrem hr
  generalize N / 100000 = q at hquo hq
  have t1 : decide (n < 0) = true := decide_eq_true h0
  have hsl := fun w => st_from Tryz.prog 9 (by kernel_rfl) (49 :: five r) 1 1 rfl (by simp) w
  rw [show (49 :: five r).drop 1 = five r from rfl] at hsl
  have hd5 := five_len r
  have ha1 : ∀ w : World, (Op.stringOp .add ⟨#[45]⟩ (st (dec 19 q))).run Tryz.prog w = .ok (.string (st ([45] ++ dec 19 q))) w := fun w => st_add [45] _ (by have := dec_len 19 q; simp; omega) w
  have ha2 : ∀ w : World, (Op.stringOp .add (st ([45] ++ dec 19 q)) ⟨#[46]⟩).run Tryz.prog w = .ok (.string (st ([45] ++ dec 19 q ++ [46]))) w := fun w => st_add _ [46] (by have := dec_len 19 q; simp; omega) w
  have hal : ([45] ++ dec 19 q ++ [46]).length ≤ 30 := by have := dec_len 19 q; simp; omega
  generalize hA : [45] ++ dec 19 q = A at ha1 ha2
  have HA := hid hA
  generalize hB : A ++ [46] = B at ha2
  have HB := hid hB
  rw [hA, hB] at hal
  have HZ := hid hz
  clear e0 hA hB hN hz
  go_enter Tryz.func12, Tryz.ntmps12
  go_wp2_with (go_at_call 28; refine (digits_uv _ (100000 + r) (by simp) (by omega) _).mono ?_; rw [dec_five r hr]; rintro e w1 ⟨rfl, hb1⟩)
  go_loopw [7] (fun f wr => ∃ j : Nat, ∃ l : List UInt8, f = .string (st l) ∧ trim 5 (five r) = trim j l ∧ l.length ≤ j ∧ 1 ≤ l.length ∧ l.length ≤ 5 ∧ Below w.heap.size w wr) (fun f _ => szOf f)
  case atStart => exact ⟨5, five r, rfl, rfl, by omega, by omega, by omega, hb1⟩
  case round =>
    clear hb1 hsl hd5 hrem
    obtain ⟨j, l, rfl, htr, hj, hl1, hl5, hbel⟩ := hrel
    have hzl := st_size l
    by_cases hlt : 1 < l.length
    · have hz1 : ((l.length : Int) - 1) = ((l.length - 1 : Nat) : Int) := by omega
      have hix : ∀ w, (Instr.index 9 (.string (st l)) (.int .i64 ((l.length : Int) - 1))).run Tryz.prog w = .ok (.int .u8 (c8 (l.getD (l.length - 1) 0))) w := fun w => by rw [hz1]; exact st_at l (l.length - 1) (by omega) Tryz.prog 9 (by kernel_rfl) w
      have hsl := fun w => st_to Tryz.prog 9 (by kernel_rfl) l ((l.length : Int) - 1) (l.length - 1) hz1 (by omega) w
      obtain ⟨x, hx⟩ : ∃ x, x = l.getD (l.length - 1) 0 := ⟨_, rfl⟩
      rw [← hx] at hix
      cases h48 : (c8 x == 48) with
      | true =>
        obtain ⟨j', hj1, hj2⟩ := trim_step j l hlt hj x hx h48
        have HJ := hid (htr.trans hj1)
        have HX := hid hx
        clear hx htr hj1 hz1
        have htl : (l.take (l.length - 1)).length = l.length - 1 := by rw [List.length_take]; omega
        generalize hl' : l.take (l.length - 1) = l' at hsl htl HJ
        clear hl'
        go_wp2
        go_roundw
        case rel => exact ⟨j', l', rfl, HJ.out, by omega, by omega, by omega, hbel⟩
        case measure => show (st l').size < (st l).size; rw [st_size, st_size]; omega
      | false =>
        have hst := trim_stop j l (.inr (by rw [← hx]; exact h48))
        have HT := hid (htr.trans hst)
        have ha3 : ∀ w : World, (Op.stringOp .add (st B) (st l)).run Tryz.prog w = .ok (.string (st (B ++ l))) w := fun w => st_add B l (by omega) w
        have HX := hid hx
        clear hx htr hst hz1 hsl
        go_wp2_with (go_at_call 28; refine (digits_uv _ q (by omega) (by omega) _).mono ?_; rintro e w1 ⟨rfl, hb1⟩)
        go_ret
        exact ⟨by rw [HT.out]; rfl, below_then' hbel hb1 hbel.size⟩
    · have hst := trim_stop j l (.inl hlt)
      have HT := hid (htr.trans hst)
      have ha3 : ∀ w : World, (Op.stringOp .add (st B) (st l)).run Tryz.prog w = .ok (.string (st (B ++ l))) w := fun w => st_add B l (by omega) w
      have hne : ¬ (1 : Int) < (l.length : Int) := by omega
      clear htr hst
      go_wp2_with (go_at_call 28; refine (digits_uv _ q (by omega) (by omega) _).mono ?_; rintro e w1 ⟨rfl, hb1⟩)
      go_ret
      exact ⟨by rw [HT.out]; rfl, below_then' hbel hb1 hbel.size⟩

theorem text_any (n : Int) (q : Bool) (w : World) (h0 : -214748364799999 ≤ n) (h1 : n ≤ 214748364799999) :
    Calls Tryz.prog 12 #[.int .i64 n, .bool q] w fun e w' => e = .returned (.string (st (pnum q n))) ∧ Below w.heap.size w w' := by
  by_cases hn : n < 0
  · cases q
    · exact text_neg_real n w hn h0
    · exact text_neg_whole n w hn h0
  · cases q
    · exact text_pos_real n w (by omega) h1
    · exact text_pos_whole n w (by omega) h1
end Go.Proofs.YtlmgklebikcbjaaGreat

/-
  Plain: brackets in one another, as ParseDeep writes them, are read; one more is too deep. No program here.
-/
namespace Go.Proofs.YtlmgklebikcbjaaGreat
set_option linter.unusedVariables false

def dpo : List Bool → List UInt8
  | [] => []
  | true :: k => 91 :: dpo k
  | false :: k => 60 :: 60 :: 47 :: 75 :: 32 :: dpo k
def dpc : List Bool → List UInt8
  | [] => []
  | true :: k => dpc k ++ [93]
  | false :: k => dpc k ++ [62, 62]
def dob : List Bool → PO
  | [] => poInt 7
  | true :: k => poArr [dob k]
  | false :: k => poDict [([75], dob k)]
theorem dob_kind : ∀ k, ¬ (dob k).kind = 0
  | [] => by decide
  | true :: k => by show ¬ (6 : Int) = 0; decide
  | false :: k => by show ¬ (7 : Int) = 0; decide
theorem dob_dict (k : List Bool) : dictOf [([75], dob k)] = dob (false :: k) := by
  show poDict (wi ([75], dob k) []) = _
  rw [wi, if_neg (dob_kind k)]; rfl

theorem bl0 {x : UInt8} (s : List UInt8) (h : wh (c8 x) = false) (h2 : ¬ c8 x = 37) : bl (x :: s) false = 0 := by rw [bl_cons, if_neg (by rw [h]; decide), if_neg h2]
theorem TK_91 (r : List UInt8) : TK (91 :: r) = .tok 5 0 [] r := by
  unfold TK; rw [bl0 r (by decide) (by decide)]; rfl
theorem TK_93 (r : List UInt8) : TK (93 :: r) = .tok 6 0 [] r := by
  unfold TK; rw [bl0 r (by decide) (by decide)]; rfl
theorem TK_60 (r : List UInt8) : TK (60 :: 60 :: r) = .tok 7 0 [] r := by
  unfold TK; rw [bl0 _ (by decide) (by decide)]; rfl
theorem TK_62 (r : List UInt8) : TK (62 :: 62 :: r) = .tok 8 0 [] r := by
  unfold TK; rw [bl0 _ (by decide) (by decide)]; rfl
theorem TK_sp (s : List UInt8) : TK (32 :: s) = TK s ∧ (32 :: s).drop (bl (32 :: s) false) = s.drop (bl s false) := by
  have e : bl (32 :: s) false = 1 + bl s false := by rw [bl_cons, if_pos (by decide)]
  have e2 : (32 :: s).drop (bl (32 :: s) false) = s.drop (bl s false) := by rw [e, Nat.add_comm]; rfl
  exact ⟨by unfold TK; rw [e2], e2⟩
theorem TK_K (s : List UInt8) : TK (47 :: 75 :: 32 :: s) = .tok 4 0 [75] (32 :: s) := by
  unfold TK; rw [bl0 _ (by decide) (by decide)]
  show wrp 4 (nm (75 :: 32 :: s) []) = _
  rw [nm_cons, if_pos (by decide), if_neg (by decide), if_neg (by simp), nm_cons, if_neg (by decide)]
  rfl
theorem PV.sp {q : Bool} {d : Nat} {s : List UInt8} {res : PRes} (h : PV q (.v d) s res) : PV q (.v d) (32 :: s) res := by
  obtain ⟨f, h⟩ := h
  obtain ⟨e1, e2⟩ := TK_sp s
  cases f with
  | zero => simp [pF] at h
  | succ f =>
    refine ⟨f + 1, ?_⟩
    rw [pF] at h ⊢
    rw [e1, e2]; exact h

/-- what closes -/
def Cl (r : List UInt8) : Prop := r = [] ∨ (∃ t, r = 93 :: t) ∨ ∃ t, r = 62 :: 62 :: t
theorem Cl.rg {r : List UInt8} (h : Cl r) : rg (hd r) = false := by
  rcases h with rfl | ⟨t, rfl⟩ | ⟨t, rfl⟩
  · decide
  · show Go.Proofs.YtlmgklebikcbjaaGreat.rg (c8 93) = false; decide
  · show Go.Proofs.YtlmgklebikcbjaaGreat.rg (c8 62) = false; decide
theorem Cl.tk {r : List UInt8} (h : Cl r) : ∃ k out t, TK r = .tok k 0 out t ∧ ¬ k = 1 := by
  rcases h with rfl | ⟨t, rfl⟩ | ⟨t, rfl⟩
  · exact ⟨0, [], [], rfl, by decide⟩
  · exact ⟨6, [], t, TK_93 t, by decide⟩
  · exact ⟨8, [], t, TK_62 t, by decide⟩
theorem Cl.app (k : List Bool) {r : List UInt8} (h : Cl r) : Cl (dpc k ++ r) := by
  induction k generalizing r with
  | nil => exact h
  | cons x k ih =>
    cases x with
    | true => rw [dpc, List.append_assoc]; exact ih (.inr (.inl ⟨r, rfl⟩))
    | false => rw [dpc, List.append_assoc]; exact ih (.inr (.inr ⟨r, rfl⟩))
theorem TK_7 {r : List UInt8} (h : Cl r) : TK (55 :: r) = .tok 1 7 [] r := by
  have hn : rn (55 :: r) = 1 := by
    have h1 := h.rg
    have h2 : rn (55 :: r) = 1 + rn r := rn_step (s := 55 :: r) (by show rg (c8 55) = true; decide)
    rw [h2, rn_stop h1]
  unfold TK; rw [bl0 _ (by decide) (by decide)]
  show numT (55 :: r) = _
  unfold numT
  rw [hn]
  rfl

theorem deep_first (k : List Bool) {r : List UInt8} (h : Cl r) : ∃ kk n out t, TK (dpo k ++ 55 :: r) = .tok kk n out t ∧ ¬ kk = 6 := by
  match k with
  | [] => exact ⟨_, _, _, _, TK_7 h, by decide⟩
  | true :: k => exact ⟨_, _, _, _, TK_91 _, by decide⟩
  | false :: k => exact ⟨_, _, _, _, TK_60 _, by decide⟩
theorem deep_ok : ∀ (k : List Bool) (d : Nat) (r : List UInt8), k.length ≤ d → Cl r → PV false (.v d) (dpo k ++ 55 :: (dpc k ++ r)) (.ok (dob k) r)
  | [], d, r, _, h => by
    refine ⟨1, ?_⟩
    show pF false 1 (.v d) (55 :: r) = _
    rw [pF, TK_7 h]
    obtain ⟨k, out, t, h1, h2⟩ := h.tk
    show some (whole false 7 r) = _
    unfold whole
    rw [if_pos ⟨by decide, by decide, rfl⟩, h1]
    split
    · rename_i heq; injection heq with e1; exact absurd e1 h2
    · rfl
  | true :: k, d + 1, r, hd, h => by
    have ih := deep_ok k d (93 :: r) (by simpa using hd) (.inr (.inl ⟨r, rfl⟩))
    obtain ⟨kk, n, out, t, h1, h2⟩ := deep_first k (Cl.app k (r := 93 :: r) (.inr (.inl ⟨r, rfl⟩)))
    have e : dpo (true :: k) ++ 55 :: (dpc (true :: k) ++ r) = 91 :: (dpo k ++ 55 :: (dpc k ++ 93 :: r)) := by rw [dpo, dpc]; simp
    rw [e]
    exact PV.v_open (TK_91 _) (PV.a_step h1 h2 ih (PV.a_close (TK_93 r)))
  | false :: k, d + 1, r, hd, h => by
    have ih := deep_ok k d (62 :: 62 :: r) (by simpa using hd) (.inr (.inr ⟨r, rfl⟩))
    have e : dpo (false :: k) ++ 55 :: (dpc (false :: k) ++ r) = 60 :: 60 :: 47 :: 75 :: 32 :: (dpo k ++ 55 :: (dpc k ++ 62 :: 62 :: r)) := by rw [dpo, dpc]; simp
    rw [e, ← dob_dict]
    exact PV.v_left (TK_60 _) (PV.m_step (TK_K _) (by simp) ih.sp (PV.m_close (TK_62 r)))
  | x :: k, 0, r, hd, h => by simp at hd
theorem deep_bad : ∀ (k : List Bool) (d : Nat) (T : List UInt8), d < k.length → PV false (.v d) (dpo k ++ T) (.bad 6 (dpo (k.drop d) ++ T))
  | [], d, T, h => by simp at h
  | true :: k, 0, T, h => ⟨1, by
    show pF false 1 (.v 0) (91 :: (dpo k ++ T)) = _
    rw [pF, TK_91, bl0 _ (by decide) (by decide)]; rfl⟩
  | false :: k, 0, T, h => ⟨1, by
    show pF false 1 (.v 0) (60 :: 60 :: 47 :: 75 :: 32 :: (dpo k ++ T)) = _
    rw [pF, TK_60, bl0 _ (by decide) (by decide)]; rfl⟩
  | true :: k, d + 1, T, h => by
    have ih := deep_bad k d T (by simpa using h)
    have hk : ∃ kk n out t, TK (dpo k ++ T) = .tok kk n out t ∧ ¬ kk = 6 := by
      match k, h with
      | [], h => simp at h
      | true :: k, _ => exact ⟨_, _, _, _, TK_91 _, by decide⟩
      | false :: k, _ => exact ⟨_, _, _, _, TK_60 _, by decide⟩
    obtain ⟨kk, n, out, t, h1, h2⟩ := hk
    exact PV.v_open (TK_91 _) (PV.a_stop h1 h2 ih)
  | false :: k, d + 1, T, h => by
    have ih := deep_bad k d T (by simpa using h)
    exact PV.v_left (TK_60 _) (PV.m_stop (TK_K _) (by simp) ih.sp)
end Go.Proofs.YtlmgklebikcbjaaGreat

/-
  Plain: the text that ParseData writes is an object with a stream; so many bytes as its Length says. No program here.
-/
namespace Go.Proofs.YtlmgklebikcbjaaGreat
set_option linter.unusedVariables false

/-- a word is one token -/
theorem TK_word {x : UInt8} {l r : List UInt8} (h : ∀ y ∈ x :: l, rg (c8 y) = true) (hr : rg (hd r) = false) (hn : ¬ (c8 x = 43 ∨ c8 x = 45 ∨ c8 x = 46 ∨ 48 ≤ c8 x ∧ c8 x ≤ 57)) (hz : l.length < 127) (hw : wh (c8 x) = false) (hx : ¬ c8 x = 91 ∧ ¬ c8 x = 93 ∧ ¬ c8 x = 60 ∧ ¬ c8 x = 62 ∧ ¬ c8 x = 47 ∧ ¬ c8 x = 40 ∧ ¬ c8 x = 37) : TK (x :: l ++ r) = .tok 9 0 (x :: l) r := by
  have hx' := hx
  obtain ⟨x1, x2, x3, x4, x5, x6, x7⟩ := hx
  have e : rn (x :: l ++ r) = l.length + 1 := rn_app (x :: l) r h hr
  unfold TK
  rw [List.cons_append] at e ⊢
  rw [bl0 _ hw x7, List.drop_zero, tk, if_neg x1, if_neg x2, if_neg (fun q => x3 q.1), if_neg (fun q => x4 q.1), if_neg x5, if_neg x6, if_neg x3, if_neg hn, if_pos (h x (by simp)), e, if_neg (by omega)]
  simp
theorem want_word_ok {p r : List UInt8} (h : TK (p ++ r) = .tok 9 0 p r) : wantS p (p ++ r) = .ok 0 r := by
  unfold wantS want
  rw [h]
  simp only []
  rw [if_neg (by decide), if_pos (by unfold isS; simp)]
theorem want_num_ok {lo hi n : Int} {s r out : List UInt8} (h : TK s = .tok 1 n out r) (h1 : lo ≤ n) (h2 : n ≤ hi) : wantN lo hi s = .ok n r := by
  unfold wantN want
  rw [h]
  simp only []
  rw [if_neg (by decide), if_pos (by unfold isN; simp [h1, h2])]
theorem white32 (x : UInt8) (h : x ∈ ([32] : List UInt8)) : wh (c8 x) = true := by simp at h; subst h; decide
theorem TK_Length (r : List UInt8) : TK (47 :: (bLength ++ 32 :: r)) = .tok 4 0 bLength (32 :: r) := by
  unfold TK; rw [bl0 _ (by decide) (by decide)]
  show wrp 4 (nm (76 :: 101 :: 110 :: 103 :: 116 :: 104 :: 32 :: r) []) = _
  rw [nm_cons, if_pos (by decide), if_neg (by decide), if_neg (by simp)]
  rw [nm_cons, if_pos (by decide), if_neg (by decide), if_neg (by simp)]
  rw [nm_cons, if_pos (by decide), if_neg (by decide), if_neg (by simp)]
  rw [nm_cons, if_pos (by decide), if_neg (by decide), if_neg (by simp)]
  rw [nm_cons, if_pos (by decide), if_neg (by decide), if_neg (by simp)]
  rw [nm_cons, if_pos (by decide), if_neg (by decide), if_neg (by simp)]
  rw [nm_cons, if_neg (by decide)]
  rfl
/-- what stands behind the number -/
def tl1 (n : Int) (X : List UInt8) : List UInt8 := 62 :: 62 :: (bStream ++ X)
def tl2 (n : Int) (X : List UInt8) : List UInt8 := 60 :: 60 :: 47 :: (bLength ++ 32 :: (pnum true n ++ tl1 n X))
def datT (n : Int) (X : List UInt8) : List UInt8 := [52] ++ ([32] ++ ([48] ++ ([32] ++ (bObj ++ tl2 n X))))
def datO (n : Int) : PO := poDict [(bLength, poInt n)]
theorem dict_pv (n : Int) (X : List UInt8) (h : -2147483647 ≤ n ∧ n ≤ 2147483647) : PV false (.v 9) (tl2 n X) (.ok (datO n) (bStream ++ X)) := by
  have hT := (TK_pnum true n (tl1 n X) (by omega) (by omega) (fun _ => h) (by show rg (c8 62) = false; decide)).1
  have hw : whole false n (tl1 n X) = .ok (poInt n) (tl1 n X) := by
    unfold whole
    split
    · rw [show TK (tl1 n X) = .tok 8 0 [] (bStream ++ X) from TK_62 _]
      split
      · rename_i heq; injection heq with e1; exact absurd e1 (by decide)
      · rfl
    · rfl
  have hv : PV false (.v 8) (pnum true n ++ tl1 n X) (.ok (poInt n) (tl1 n X)) := ⟨1, by rw [pF, hT]; simp [hw]⟩
  exact PV.v_left (TK_60 _) (PV.m_step (TK_Length _) (by simp) hv.sp (PV.m_close (TK_62 _)))
theorem stream_kw {X : List UInt8} (h : rg (hd X) = false) : KW bStream (bStream ++ X) = true ∧ ((bStream ++ X).drop (bl (bStream ++ X) false)).drop 6 = X := by
  have hb : bl (bStream ++ X) false = 0 := bl0 _ (by decide) (by decide)
  unfold KW
  rw [hb]
  refine ⟨?_, rfl⟩
  show (pfx bStream (bStream ++ X) && !rg (hd X)) = true
  rw [h]
  simp [pfx]
/-- the object as the plain model reads it, but for its stream -/
theorem dat_it {n : Int} {X : List UInt8} (h : -2147483647 ≤ n ∧ n ≤ 2147483647) (hX : rg (hd X) = false) {r : PRes} (hr : strm (datO n) X = r) : IT false 9 (datT n X) (aft 4 (.ok (datO n) (bStream ++ X))) := by
  have t1 := (TK_pnum true 4 ([32] ++ ([48] ++ ([32] ++ (bObj ++ tl2 n X)))) (by decide) (by decide) (fun _ => by decide) (by show rg (c8 32) = false; decide)).1
  have t2 := (TK_pnum true 0 ([32] ++ (bObj ++ tl2 n X)) (by decide) (by decide) (fun _ => by decide) (by show rg (c8 32) = false; decide)).1
  have t3 : TK (bObj ++ tl2 n X) = .tok 9 0 bObj (tl2 n X) := TK_word (x := 111) (l := [98, 106]) (by decide) (by show rg (c8 60) = false; decide) (by decide) (by decide) (by decide) (by decide)
  have w1 : wantN 1 8388607 (datT n X) = .ok 4 ([32] ++ ([48] ++ ([32] ++ (bObj ++ tl2 n X)))) := want_num_ok t1 (by decide) (by decide)
  have w2 : wantN 0 0 ([32] ++ ([48] ++ ([32] ++ (bObj ++ tl2 n X)))) = .ok 0 ([32] ++ (bObj ++ tl2 n X)) := by
    unfold wantN; rw [want_whites white32]; exact want_num_ok t2 (by decide) (by decide)
  have w3 : wantS bObj ([32] ++ (bObj ++ tl2 n X)) = .ok 0 (tl2 n X) := by
    unfold wantS; rw [want_whites white32]; exact want_word_ok t3
  unfold IT
  rw [w1]
  simp only []
  rw [w2]
  simp only []
  rw [w3]
  exact ⟨_, dict_pv n X h, rfl⟩
theorem aft_dat {n : Int} {X : List UInt8} (hX : rg (hd X) = false) : aft 4 (.ok (datO n) (bStream ++ X)) = match strm (datO n) X with
    | .bad e t => .bad e t
    | .ok o2 r2 => match wantS bEndobj r2 with
      | .bad e t => .bad e t
      | .ok _ r3 => .ok 4 o2 r3 := by
  obtain ⟨k1, k2⟩ := stream_kw hX
  have e : aftS (datO n) (bStream ++ X) = strm (datO n) X := by unfold aftS; rw [k1, k2, if_pos ⟨rfl, rfl⟩]
  unfold aft
  simp only []
  rw [e]
  cases strm (datO n) X with
  | bad e t => rfl
  | ok o2 r2 =>
    simp only []
    cases wantS bEndobj r2 <;> rfl
def btw : Nat → List UInt8
  | 0 => [10]
  | _ => [13, 10]
def bhd : Nat → List UInt8
  | 0 => [10]
  | 1 => [13, 10]
  | 2 => [13]
  | _ => []
def fin : List UInt8 := bEndstream ++ 10 :: bEndobj
theorem btw_eol (k : Nat) (Y : List UInt8) : eolS (btw k ++ Y) = some Y ∧ rg (hd (btw k ++ Y)) = false := by
  rcases k with _ | k
  · refine ⟨?_, by show rg (c8 10) = false; decide⟩
    show eolS (10 :: Y) = some Y
    have h1 : pfx [13, 10] (10 :: Y) = false := by unfold pfx; simp
    have h2 : pfx [10] (10 :: Y) = true := by simp [pfx]
    unfold eolS
    rw [h1, h2]
    rfl
  · refine ⟨?_, by show rg (c8 13) = false; decide⟩
    show eolS (13 :: 10 :: Y) = some Y
    have h1 : pfx [13, 10] (13 :: 10 :: Y) = true := by simp [pfx]
    unfold eolS
    rw [h1]
    rfl
theorem bhd_eol (k : Nat) : eolA (bhd k ++ fin) = fin := by
  rcases k with _ | _ | _ | k
  · decide
  · decide
  · decide
  · show eolA fin = fin; decide
theorem get_dat (n : Int) : getE bLength (datO n).ents = poInt n := by
  show getE bLength [(bLength, poInt n)] = _
  rw [getE, if_pos rfl]
/-- the whole text -/
def datS (n : Int) (k1 k2 : Nat) (data : List UInt8) : List UInt8 := datT n (btw k1 ++ (data ++ (bhd k2 ++ fin)))
theorem dat_neg {n : Int} (k1 k2 : Nat) (data : List UInt8) {r : IRes} (h : -2147483647 ≤ n) (hn : n < 0) (hr : IT false 9 (datS n k1 k2 data) r) : ∃ t, r = .bad 4 t := by
  obtain ⟨e1, e2⟩ := btw_eol k1 (data ++ (bhd k2 ++ fin))
  have hi := dat_it (n := n) ⟨h, by omega⟩ e2 rfl
  rw [aft_dat e2] at hi
  have hs : strm (datO n) (btw k1 ++ (data ++ (bhd k2 ++ fin))) = .bad 4 (data ++ (bhd k2 ++ fin)) := by
    unfold strm
    rw [e1]
    simp only []
    rw [get_dat, if_pos (fun q => by have : 0 ≤ n := q.2; omega)]
  rw [hs] at hi
  exact ⟨_, IT.one hr hi⟩
theorem dat_fit (k1 k2 : Nat) (data : List UInt8) {r : IRes} (h : data.length ≤ 2147483647) (hr : IT false 9 (datS (data.length : Nat) k1 k2 data) r) : r = .ok 4 (.mk 8 0 data [] (wi (bLength, poNull) [(bLength, poInt (data.length : Nat))])) [] := by
  obtain ⟨e1, e2⟩ := btw_eol k1 (data ++ (bhd k2 ++ fin))
  have hi := dat_it (n := (data.length : Nat)) ⟨by omega, by omega⟩ e2 rfl
  rw [aft_dat e2] at hi
  have hs : strm (datO (data.length : Nat)) (btw k1 ++ (data ++ (bhd k2 ++ fin))) = .ok (.mk 8 0 data [] (wi (bLength, poNull) [(bLength, poInt (data.length : Nat))])) (10 :: bEndobj) := by
    unfold strm
    rw [e1]
    simp only []
    rw [get_dat]
    rw [if_neg (fun q => q ⟨rfl, Int.natCast_nonneg _⟩)]
    rw [show (poInt ((data.length : Nat) : Int)).num = ((data.length : Nat) : Int) from rfl, if_neg (by rw [List.length_append]; omega)]
    rw [Int.toNat_natCast, List.drop_left, bhd_eol, List.take_left]
    have hw : wantS bEndstream fin = .ok 0 (10 :: bEndobj) := want_word_ok (TK_word (x := 101) (l := [110, 100, 115, 116, 114, 101, 97, 109]) (by decide) (by decide) (by decide) (by decide) (by decide) (by decide))
    rw [hw]
    rfl
  rw [hs] at hi
  have hw : wantS bEndobj (10 :: bEndobj) = .ok 0 [] := by
    have e : (10 :: bEndobj) = [10] ++ bEndobj := rfl
    unfold wantS
    rw [e, want_whites (fun x hx => by simp at hx; subst hx; decide)]
    have := want_word_ok (p := bEndobj) (r := []) (TK_word (x := 101) (l := [110, 100, 111, 98, 106]) (by decide) (by decide) (by decide) (by decide) (by decide) (by decide))
    rwa [List.append_nil] at this
  simp only [] at hi
  rw [hw] at hi
  exact IT.one hr hi
end Go.Proofs.YtlmgklebikcbjaaGreat

/-
  From the row's reading of an argument to the words of the walks: a slice of bytes that came in.
-/
namespace Go.Proofs.YtlmgklebikcbjaaGreat
open Go.ChangeShapes Go.WideShapes Go.ChangeAt Go.RowKit
set_option linter.unusedVariables false

set_option maxRecDepth 100000 in
theorem own9 : ownKnob Tryz.prog.godebug = none := by kernel_rfl
set_option maxRecDepth 100000 in
theorem laidOut9 : laidOutB Tryz.prog = true := by kernel_rfl

theorem u8_wf {n : Int} (h : (Lit.int .u8 n).wf = true) : 0 ≤ n ∧ n ≤ 255 := by
  have := bounds_u8 h; omega

theorem sl_of_ints {W : World} {a : Addr} {len cap : Nat} {zs : List Int} (hl : len ≤ cap) (hm : cap ≤ maxLen) (hz : len ≤ zs.length) (hcell : ∀ i, i < zs.length → W.cell? (a.add i) = some (.int .u8 (zs.getD i 0))) (hw : ∀ n ∈ zs, (Lit.int .u8 n).wf = true) :
    ∃ l : List UInt8, l.length = len ∧ Sl W (.slice (some a) len cap) l := by
  refine ⟨(zs.take len).map (fun n => UInt8.ofNat n.toNat), by simp; omega, some a, cap, by simp; omega, by simp; omega, hm, (fun h => by cases h), ?_⟩
  by_cases h0 : len = 0
  · left; subst h0; simp
  · right
    obtain ⟨b, off, spot⟩ := a
    have hspot : spot = none := by
      have := hcell 0 (by omega)
      simpa [Addr.add] using World.cell?_spot this
    subst hspot
    refine ⟨b, off, rfl, fun j hj => ?_⟩
    have hj' : j < len := by simp at hj; omega
    have h1 := hcell j (by omega)
    have e1 : (⟨b, off, none⟩ : Addr).add j = ⟨b, off + j, none⟩ := by cases j <;> simp [Addr.add]
    rw [e1] at h1
    rw [h1]
    have hmem : zs[j]'(by omega) ∈ zs := List.getElem_mem _
    have hb := u8_wf (hw _ hmem)
    have e2 : zs.getD j 0 = zs[j]'(by omega) := by simp [List.getD, List.getElem?_eq_getElem (show j < zs.length by omega)]
    rw [e2]
    congr 2
    have hj2 : j < (List.map (fun n : Int => UInt8.ofNat n.toNat) (List.take len zs)).length := hj
    simp only [b8, List.getD, List.getElem?_eq_getElem hj2, Option.getD_some, List.getElem_map, List.getElem_take]
    rw [UInt8.toNat_ofNat', Nat.mod_eq_of_lt (by omega)]
    omega

variable {H : Type} {enc : TypeId × Value → H}

set_option maxRecDepth 100000 in
/-- a slice of bytes that came in -/
theorem sl_open {W : World} {v : Value} {d : DataW H} {p : List MemPlace} {base : Nat} (hk : Value.okWide Tryz.prog W .any base 22 v) (h : DataW.Trod enc Tryz.prog W 0 (fun _ => true) true 22 v d p) : ∃ l, Sl W v l := by
  obtain ⟨a0, len, cap, rfl⟩ := okWide_slice Tryz.underlying22 hk
  obtain ⟨fuel, hf⟩ := h
  rcases open_ints Tryz.underlying22 Tryz.underlying5 (by kernel_rfl) hf with ⟨hcs, _⟩ | ⟨x, l, c, zs, hcs, _, hl, hm, hz, _, hcell, hwz⟩
  · simp [Value.cells] at hcs
    obtain ⟨rfl, rfl, rfl⟩ := hcs
    exact ⟨[], Sl.nil W⟩
  · simp [Value.cells] at hcs
    obtain ⟨rfl, rfl, rfl⟩ := hcs
    simp only [if_true] at hz
    obtain ⟨l, _, h2⟩ := sl_of_ints hl hm (by omega) hcell hwz
    exact ⟨l, h2⟩

theorem trod_lt {W : World} {t : TypeId} {v : Value} {d : DataW H} {p : List MemPlace} {P : Program} (h : DataW.Trod enc P W 0 (fun _ => true) true t v d p) : ∀ x ∈ p, x.block < W.heap.size := by
  obtain ⟨m, hm⟩ := h; exact DataW.trod_lt m _ _ _ hm
end Go.Proofs.YtlmgklebikcbjaaGreat

/-
  ParseData: a stream is just so many bytes as its Length says, whatever they are; one that lies is none; the walk. Condition: none but what its arguments read as.
-/
namespace Go.Proofs.YtlmgklebikcbjaaGreat
open Go.RowKit
set_option linter.unusedVariables false

theorem pnum_len (n : Int) : (pnum true n).length ≤ 21 := by
  unfold pnum pwh
  rw [if_pos rfl, List.length_append]
  have := dec_len 19 n.natAbs
  split <;> simp <;> omega
theorem OV.bsl {A : Nat → Prop} {w : World} {a b c d e : Value} {o : PO} {k n : Int} {l : List PO} {dd : List (List UInt8 × PO)} {bb : List UInt8} (h : OV A w [a, b, c, d, e] o) (ho : o = .mk k n bb l dd) : Sl w c bb := by
  subst ho
  cases h with
  | mk k n vb vl vd b l d cl cd hb hl hl' hd hk hd' hz => exact hb.1
theorem and_u8 (n m k : Nat) (hn : n < 256) (hk : m = 2 ^ k - 1) (hm : m < 256) (t : TypeId) : binOp .and t (.int .u8 (n : Int)) (.int .u8 (m : Int)) = pure (.int .u8 ((n % 2 ^ k : Nat) : Int)) := by
  have e1 := u8_and_nat n m hn hm
  have e2 : n &&& m = n % 2 ^ k := by rw [hk]; exact Nat.and_two_pow_sub_one_eq_mod n k
  rw [e2] at e1
  show pure (Value.int .u8 (bits .and .u8 (n : Int) (m : Int))) = _
  rw [e1]
theorem shr_u8 (n : Nat) (t : TypeId) : binOp .shr t (.int .u8 (n : Int)) (.int .u64 1) = pure (.int .u8 ((n / 2 : Nat) : Int)) := by
  rw [binOp_shr, shift_shr_any _ _ _ _ (by decide)]
  congr 2

set_option maxHeartbeats 6400000 in
set_option maxRecDepth 100000 in
theorem data_any (v : Value) (dat : List UInt8) (m n : Int) (w : World) (h : Sl w v dat) (hm : (Lit.int .i8 m).wf = true) (hn : (Lit.int .u8 n).wf = true) :
    Calls Tryz.prog 4 #[v, .int .i8 m, .int .u8 n] w fun e w' => e = .returned (.bool true) ∧ Below w.heap.size w w' := by
  have hm := bounds_i8 hm
  have hn := bounds_u8 hn
  obtain ⟨e, rfl⟩ : ∃ e : Nat, n = e := ⟨n.toNat, by omega⟩
  have hen : e < 256 := by omega
  clear hn
  obtain ⟨ao, cap, rfl, -, -, -, -⟩ := id h
  by_cases hl : (dat.length : Int) > 500
  · go_enter Tryz.func4, Tryz.ntmps4
    go_wp2_with (go_at_call 5; refine (awake12_any _).mono ?_; rintro e w1 ⟨rfl, hb1⟩)
    go_ret
    exact ⟨rfl, hb1⟩
  · have hl2 : dat.length ≤ 500 := by omega
    have hand1 : ∀ t, binOp .and t (.int .u8 (e : Int)) (.int .u8 1) = pure (.int .u8 ((e % 2 : Nat) : Int)) := and_u8 e 1 1 hen (by decide) (by decide)
    have hshr := shr_u8 e
    have hand3 : ∀ t, binOp .and t (.int .u8 ((e / 2 : Nat) : Int)) (.int .u8 3) = pure (.int .u8 ((e / 2 % 4 : Nat) : Int)) := and_u8 (e / 2) 3 2 (by omega) (by decide) (by decide)
    have hk1 : e % 2 < 2 := by omega
    have hk2 : e / 2 % 4 < 4 := by omega
    generalize e % 2 = k1 at hand1 hk1
    generalize e / 2 % 4 = k2 at hand3 hk2
    generalize e / 2 = eh at hshr hand3
    have hw1 : IntKind.i64.wrap m = m := IntWalk.i64_in _ (by omega)
    obtain ⟨N, hN⟩ : ∃ N : Int, N = (dat.length : Int) + m := ⟨_, rfl⟩
    have hw2 : IntKind.i64.wrap ((dat.length : Int) + m) = N := by rw [hN]; exact IntWalk.i64_in _ (by omega)
    have hNb : -200 ≤ N ∧ N ≤ 700 := by omega
    have HN := hid hN
    clear hN
    go_enter Tryz.func4, Tryz.ntmps4
    go_upto_region 6 with (go_at_call 5; refine (awake12_any _).mono ?_; rintro e w1 ⟨rfl, hb1⟩)
    go_cut [8] (fun s8 wx => s8 = .string (st (btw k1)) ∧ Below w1.heap.size w1 wx)
    case first =>
      obtain rfl | rfl : k1 = 0 ∨ k1 = 1 := by omega
      all_goals
        go_wp2_with fail
        go_meet
        exact ⟨rfl, alb _ _⟩
    case rest =>
      obtain ⟨rfl, hb2⟩ := hcut
      obtain ⟨w2, rfl⟩ : ∃ x : World, x = wc := ⟨_, rfl⟩
      go_upto_region 7 with fail
      go_cut [9] (fun s9 wx => s9 = .string (st (bhd k2)) ∧ Below w2.heap.size w2 wx)
      case first =>
        obtain rfl | rfl | rfl | rfl : k2 = 0 ∨ k2 = 1 ∨ k2 = 2 ∨ k2 = 3 := by omega
        all_goals
          go_wp2_with fail
          go_meet
          exact ⟨rfl, alb _ _⟩
      case rest =>
        obtain ⟨rfl, hb3⟩ := hcut
        obtain ⟨w3, rfl⟩ : ∃ x : World, x = wc := ⟨_, rfl⟩
        have hB3 := hb1.trans ((hb2.trans (hb3.mono hb2.size)).mono hb1.size)
        clear hb1 hb2 hb3 hand1 hand3 hshr hk1 hk2
        have hpl := pnum_len N
        have hbl : (btw k1).length ≤ 2 := by rcases k1 with _ | _ <;> simp [btw]
        have hhl : (bhd k2).length ≤ 2 := by rcases k2 with _ | _ | _ | _ <;> simp [bhd]
        obtain ⟨P1, hP1⟩ : ∃ P1, P1 = [52, 32, 48, 32, 111, 98, 106, 60, 60, 47, 76, 101, 110, 103, 116, 104, 32] ++ pnum true N := ⟨_, rfl⟩
        have hl1 : P1.length ≤ 40 := by rw [hP1]; simp; omega
        have a1 : ∀ w, (Op.stringOp .add ⟨#[52, 32, 48, 32, 111, 98, 106, 60, 60, 47, 76, 101, 110, 103, 116, 104, 32]⟩ (st (pnum true N))).run Tryz.prog w = .ok (.string (st P1)) w := fun w => by rw [hP1]; exact st_add [52, 32, 48, 32, 111, 98, 106, 60, 60, 47, 76, 101, 110, 103, 116, 104, 32] _ (by simp; omega) w
        obtain ⟨P2, hP2⟩ : ∃ P2, P2 = P1 ++ [62, 62, 115, 116, 114, 101, 97, 109] := ⟨_, rfl⟩
        have hl2' : P2.length ≤ 50 := by rw [hP2]; simp; omega
        have a2 : ∀ w, (Op.stringOp .add (st P1) ⟨#[62, 62, 115, 116, 114, 101, 97, 109]⟩).run Tryz.prog w = .ok (.string (st P2)) w := fun w => by rw [hP2]; exact st_add P1 [62, 62, 115, 116, 114, 101, 97, 109] (by simp; omega) w
        obtain ⟨P3, hP3⟩ : ∃ P3, P3 = P2 ++ btw k1 := ⟨_, rfl⟩
        have hl3 : P3.length ≤ 52 := by rw [hP3, List.length_append]; omega
        have a3 : ∀ w, (Op.stringOp .add (st P2) (st (btw k1))).run Tryz.prog w = .ok (.string (st P3)) w := fun w => by rw [hP3]; exact st_add P2 _ (by omega) w
        obtain ⟨P4, hP4⟩ : ∃ P4, P4 = P3 ++ dat := ⟨_, rfl⟩
        have hl4 : P4.length ≤ 552 := by rw [hP4, List.length_append]; omega
        have a4 : ∀ w, (Op.stringOp .add (st P3) (st dat)).run Tryz.prog w = .ok (.string (st P4)) w := fun w => by rw [hP4]; exact st_add P3 _ (by omega) w
        obtain ⟨P5, hP5⟩ : ∃ P5, P5 = P4 ++ bhd k2 := ⟨_, rfl⟩
        have hl5 : P5.length ≤ 554 := by rw [hP5, List.length_append]; omega
        have a5 : ∀ w, (Op.stringOp .add (st P4) (st (bhd k2))).run Tryz.prog w = .ok (.string (st P5)) w := fun w => by rw [hP5]; exact st_add P4 _ (by omega) w
        obtain ⟨Z, hZ⟩ : ∃ Z, Z = P5 ++ [101, 110, 100, 115, 116, 114, 101, 97, 109, 10, 101, 110, 100, 111, 98, 106] := ⟨_, rfl⟩
        have hlZ : Z.length ≤ 570 := by rw [hZ]; simp; omega
        have a6 : ∀ w, (Op.stringOp .add (st P5) ⟨#[101, 110, 100, 115, 116, 114, 101, 97, 109, 10, 101, 110, 100, 111, 98, 106]⟩).run Tryz.prog w = .ok (.string (st Z)) w := fun w => by rw [hZ]; exact st_add P5 [101, 110, 100, 115, 116, 114, 101, 97, 109, 10, 101, 110, 100, 111, 98, 106] (by simp; omega) w
        have HZ := hid (show Z = datS N k1 k2 dat from by
          rw [hZ, hP5, hP4, hP3, hP2, hP1]
          unfold datS datT tl2 tl1 fin
          simp [bObj, bLength, bStream, bEndstream, bEndobj])
        clear hP1 hP2 hP3 hP4 hP5 hZ hl1 hl2' hl3 hl4 hl5
        have HCV := hid (show ∀ X, Below w3.heap.size w3 X → (convert 22 9 (.slice ao dat.length cap)).run Tryz.prog X = .ok (.string (st dat)) X from fun X hX => sl_string (P := Tryz.prog) X 22 9 5 Tryz.underlying22 (by kernel_rfl) (by kernel_rfl) _ _ ((h.up hB3).up hX))
        go_upto_region 8 with fail
        go_cut [10] (fun s10 wx => s10 = .string (st Z) ∧ Below w3.heap.size w3 wx)
        case first =>
          have hcv0 := HCV.out w3 (Below.refl _ _)
          have hcv1 := HCV.out w3.drew (below_drewN (Below.refl _ _) 1)
          go_region_held3 (fun w' => (convert 22 9 (.slice ao dat.length cap)).run Tryz.prog w' = .ok (.string (st dat)) w') (first | with_reducible exact hcv0 | with_reducible exact hcv1 | with_reducible exact hcv2 | go_keep | skip) (first | (go_at_call 12; refine (text_any N true _ (by omega) (by omega)).mono ?_; rintro e w4 ⟨rfl, hb4⟩; have hb4 : Below w3.heap.size w3 w4 := ((below_drewN (Below.refl _ _) 1).trans hb4); have hcv2 := HCV.out w4 hb4))
          all_goals
            go_wp2_with fail
            go_meet
            exact ⟨rfl, hb4⟩
        case rest =>
          obtain ⟨rfl, hb4⟩ := hcut
          obtain ⟨w4, rfl⟩ : ∃ x : World, x = wc := ⟨_, rfl⟩
          have hB4 := hB3.trans (hb4.mono hB3.size)
          clear hb4 a1 a2 a3 a4 a5 a6 hpl hbl hhl HCV
          have h4 := h.up hB4
          clear h hB3
          have kb := fun (w : World) (s : List UInt8) => convW_run (P := Tryz.prog) 9 22 5 (by kernel_rfl) Tryz.underlying22 Tryz.underlying5 w s
          have hnew := hid (parse_new (.slice (some ⟨w4.heap.size, 0, none⟩) Z.length (convC w4 5 Z)) Z 9 (convW w4 5 Z) (Sl.convW w4 5 Z _ rfl (by omega)) (by omega))
          go_upto_region 10 with (go_at_call 6; refine hnew.out.mono ?_; rintro e w5 ⟨pp, lp, cp, rfl, hpp, hlp, hcp, hP, hdc, hb5⟩; rw [← dep_cast] at hdc)
          have hB5 := below_then (convW_below w4 5 Z) hb5
          have hz4 := convW_size w4 5 Z
          have hlo5 := hP.lo
          clear hnew hb5
          go_upto_region 11 with (go_at_call 8; refine (item_any hP hdc (value_all (by omega) _ (dep_le 9)) (by omega)).mono ?_; rintro e w6 ⟨res, hpv, hvq⟩; obtain ⟨vs1, rfl, hov1, j1, hPs⟩ := hvq; have hV1 := hov1.v5; have HOV1 := hid hov1; clear hov1; obtain ⟨y1, y2, y3, y4, y5, y6, y7, y8, y9, y10, y11, rfl⟩ := hV1)
          have HPV := hid hpv
          clear hpv hdc hP
          have hB6 := hB5.trans (hPs.bel hB5.size (by omega) (by omega))
          have hQ := hPs.below (alb w6 (.cells #[.int .i64 res.n, .int .i64 y1, .int .i64 y2, .slice y3 y6 y7, .slice y4 y8 y9, .slice y5 y10 y11] 33))
          have hX7 := C5.new w6 _ rfl [.int .i64 res.n, .int .i64 y1, .int .i64 y2, .slice y3 y6 y7, .slice y4 y8 y9, .slice y5 y10 y11] 33
          have HOV7 := hid (HOV1.out.up (alb w6 (.cells #[.int .i64 res.n, .int .i64 y1, .int .i64 y2, .slice y3 y6 y7, .slice y4 y8 y9, .slice y5 y10 y11] 33)))
          have hB7 := below_then hB6 (alb w6 (.cells #[.int .i64 res.n, .int .i64 y1, .int .i64 y2, .slice y3 y6 y7, .slice y4 y8 y9, .slice y5 y10 y11] 33))
          have hz6 : w6.heap.size < (w6.alloc (.cells #[.int .i64 res.n, .int .i64 y1, .int .i64 y2, .slice y3 y6 y7, .slice y4 y8 y9, .slice y5 y10 y11] 33)).heap.size := by simp
          have hz56 := hPs.size
          have hj1 := hQ.at_
          clear HOV1 hB6 hPs
          obtain ⟨yn, hyn⟩ : ∃ yn, yn = res.n := ⟨_, rfl⟩
          rw [← hyn] at hQ hX7 HOV7 hB7 hz6 ⊢
          generalize w6.alloc (.cells #[.int .i64 yn, .int .i64 y1, .int .i64 y2, .slice y3 y6 y7, .slice y4 y8 y9, .slice y5 y10 y11] 33) = w7 at *
          generalize w6.heap.size = g8 at *
          have HD := hid (Pd.new (Sl.convW w7 5 Z _ rfl (by omega)) (by omega) 9 44)
          have hrnew := hid (rnew_any (.slice (some ⟨w7.heap.size, 0, none⟩) Z.length (convC w7 5 Z)) Z 9 (convW w7 5 Z) (Sl.convW w7 5 Z _ rfl (by omega)) (by omega))
          go_upto_region 12 with (go_at_call 7; refine hrnew.out.mono ?_; rintro e w8 ⟨rfl, rfl⟩)
          clear hrnew kb
          have hHYN := hid hyn
          clear hyn
          have hbx := below_then (convW_below w7 5 Z) (alb (convW w7 5 Z) (.cells #[.slice (some ⟨w7.heap.size, 0, none⟩) Z.length (convC w7 5 Z), .int .i64 0, .int .i64 (min (max 9 0) 28), .bool false] 44))
          have hmz : w7.heap.size < (convW w7 5 Z).heap.size := by rw [convW_size]; omega
          have hQ := hQ.below hbx
          have hX8 := hX7.up hbx
          have HOV8 := hid (HOV7.out.up hbx)
          have hB8 := hB7.trans (hbx.mono hB7.size)
          clear hX7 HOV7 hB7 hbx
          generalize (convW w7 5 Z).heap.size = mp at *
          generalize (convW w7 5 Z).alloc (.cells #[.slice (some ⟨w7.heap.size, 0, none⟩) Z.length (convC w7 5 Z), .int .i64 0, .int .i64 (min (max 9 0) 28), .bool false] 44) = w8 at *
          go_upto_region 13 with (go_at_call 9; refine (ritem_any HD.out (rvalue_all (by omega) _ (dep_le 9)) (by omega)).mono ?_; rintro e w9 ⟨res2, hpv2, hvq2⟩; obtain rfl := IT.one hpv2 HPV.out; obtain ⟨vs2, rfl, hov2, j2, hPd⟩ := hvq2; have hV2 := hov2.v5; have HOV2 := hid hov2; clear hov2; obtain ⟨z1, z2, z3, z4, z5, z6, z7, z8, z9, z10, z11, rfl⟩ := hV2)
          have hlm := (HD.out).low
          have hm9 : ∀ g, g < g8 → g ≠ mp := fun g hg => by omega
          have hQ9 := hQ.off hPd.cx.held (by omega)
          have hX9 := hX8.held hPd.cx.held (by omega) (by omega)
          have HOV9 := hid (HOV8.out.keep (B := fun g => w5.heap.size ≤ g ∧ g < g8) (w' := w9) (fun _ h => h) (fun g hg hlt => hPd.cx.held.block g hlt (hm9 g hg.2) (hm9 g hg.2)))
          have hB9 := hB8.trans (hPd.bel hB8.size (by have := hB5.size; omega))
          have hj2 := hPd.cx.at_
          have hc1p := hPd.cx.c1
          obtain rfl : j1 = j2 := by omega
          clear hQ hX8 HOV8 hB8 hj2 HD hPd
          obtain ⟨c0, hc0⟩ : ∃ c0, c0 = res2.code := ⟨_, rfl⟩
          rw [← hHYN.out, ← hc0]
          have hcc : (c0 != c0) = false := by simp
          have hcj : ((j1 : Int) != (j1 : Int)) = false := by simp
          have HC0 := hid hc0
          clear hc0
          have hb10 := alb w9 (.cells #[.int .i64 yn, .int .i64 z1, .int .i64 z2, .slice z3 z6 z7, .slice z4 z8 z9, .slice z5 z10 z11] 33)
          have hQ10 := hQ9.below hb10
          have hX10 := hX9.up hb10
          have hY10 := C5.new w9 _ rfl [.int .i64 yn, .int .i64 z1, .int .i64 z2, .slice z3 z6 z7, .slice z4 z8 z9, .slice z5 z10 z11] 33
          have HOV1 := hid (HOV9.out.up hb10)
          have HOV3 := hid (HOV2.out.up hb10)
          have hB10 := hB9.trans (hb10.mono hB9.size)
          have hcp := cell_up' hb10 hc1p
          clear hQ9 hX9 HOV9 HOV2 hB9 hb10 hc1p
          generalize w9.alloc (.cells #[.int .i64 yn, .int .i64 z1, .int .i64 z2, .slice z3 z6 z7, .slice z4 z8 z9, .slice z5 z10 z11] 33) = w10 at *
          generalize w9.heap.size = g10 at *
          have HS := hid (show ∀ X, Below w10.heap.size w10 X → (X.cell? ⟨g8, 0, none⟩ = some (.int .i64 yn) ∧ X.cell? ⟨g8, 1, none⟩ = some (.int .i64 y1) ∧ X.cell? ⟨g8, 2, none⟩ = some (.int .i64 y2) ∧ X.cell? ⟨g8, 3, none⟩ = some (.slice y3 y6 y7) ∧ X.cell? ⟨g8, 4, none⟩ = some (.slice y4 y8 y9) ∧ X.cell? ⟨g8, 5, none⟩ = some (.slice y5 y10 y11) ∧ X.cell? ⟨g10, 0, none⟩ = some (.int .i64 yn) ∧ X.cell? ⟨g10, 1, none⟩ = some (.int .i64 z1) ∧ X.cell? ⟨g10, 2, none⟩ = some (.int .i64 z2) ∧ X.cell? ⟨g10, 3, none⟩ = some (.slice z3 z6 z7) ∧ X.cell? ⟨g10, 4, none⟩ = some (.slice z4 z8 z9) ∧ X.cell? ⟨g10, 5, none⟩ = some (.slice z5 z10 z11) ∧ X.cell? ⟨mp, 1, none⟩ = some (.int .i64 (j1 : Int))) from fun X hX => ⟨cell_up' hX (hX10.1 0), cell_up' hX (hX10.1 1), cell_up' hX (hX10.1 2), cell_up' hX (hX10.1 3), cell_up' hX (hX10.1 4), cell_up' hX (hX10.1 5), cell_up' hX (hY10.1 0), cell_up' hX (hY10.1 1), cell_up' hX (hY10.1 2), cell_up' hX (hY10.1 3), cell_up' hX (hY10.1 4), cell_up' hX (hY10.1 5), cell_up' hX hcp⟩)
          have HSA := hid (same_of HOV1.out _ _ HOV3.out)
          have HQX := hid hQ10
          have h10 := h4.up hB10
          have hB := hB4.trans (hB10.mono hB4.size)
          clear hX10 hY10 HOV3 hcp hQ10 h4 hB4 hB10
          go_cut [86] (fun s86 wx => s86 = .bool false ∧ Below w10.heap.size w10 wx)
          case first =>
            obtain ⟨s0, s1, s2, s3, s4, s5, s6, s7, s8, s9, s10, s11, s12⟩ := HS.out w10 (Below.refl _ _)
            go_region_held3 (fun X => (X.cell? ⟨g8, 0, none⟩ = some (.int .i64 yn) ∧ X.cell? ⟨g8, 1, none⟩ = some (.int .i64 y1) ∧ X.cell? ⟨g8, 2, none⟩ = some (.int .i64 y2) ∧ X.cell? ⟨g8, 3, none⟩ = some (.slice y3 y6 y7) ∧ X.cell? ⟨g8, 4, none⟩ = some (.slice y4 y8 y9) ∧ X.cell? ⟨g8, 5, none⟩ = some (.slice y5 y10 y11) ∧ X.cell? ⟨g10, 0, none⟩ = some (.int .i64 yn) ∧ X.cell? ⟨g10, 1, none⟩ = some (.int .i64 z1) ∧ X.cell? ⟨g10, 2, none⟩ = some (.int .i64 z2) ∧ X.cell? ⟨g10, 3, none⟩ = some (.slice z3 z6 z7) ∧ X.cell? ⟨g10, 4, none⟩ = some (.slice z4 z8 z9) ∧ X.cell? ⟨g10, 5, none⟩ = some (.slice z5 z10 z11) ∧ X.cell? ⟨mp, 1, none⟩ = some (.int .i64 (j1 : Int)))) (first | go_keep | exact HS.out _ (below_drewN (Below.refl _ _) 1) | exact HS.out _ (by assumption) | skip) (first | (go_at_call 10; refine (HSA.out _ (below_drewN (Below.refl _ _) _)).mono ?_; rintro e w11 ⟨rfl, hb11⟩; have hb11 : Below w10.heap.size w10 w11 := ((below_drewN (Below.refl _ _) _).trans hb11)) | (go_at_call 11; refine (at_p (HQX.out.below hb11).fresh).mono ?_; rintro e w12 ⟨rfl, rfl⟩))
            all_goals
              go_wp2_with fail
              go_meet
              exact ⟨rfl, hb11⟩
          case rest =>
            obtain ⟨rfl, hb12⟩ := hcut
            obtain ⟨w12, rfl⟩ : ∃ x : World, x = wc := ⟨_, rfl⟩
            have hov := HOV1.out.up hb12
            have s3 := (HS.out w12 hb12).2.2.2.1
            have h12 := h10.up hb12
            have hB12 := hB.trans (hb12.mono hB.size)
            clear HS HSA HQX
            by_cases hm0 : m = 0
            · subst hm0
              have hN : N = ((dat.length : Nat) : Int) := by have := HN.out; omega
              have hr := dat_fit k1 k2 dat (by omega) (by rw [← hN, ← HZ.out]; exact HPV.out)
              have hc0 : c0 = 0 := by rw [HC0.out, hr]; rfl
              subst hc0
              have hsl : Sl w12 (.slice y3 y6 y7) dat := hov.bsl (by rw [hr]; rfl)
              have HSM := hid (same_sl _ _ dat dat w12 hsl h12)
              clear hr hov hsl HOV1 h10
              go_wp2_with (go_at_call 13; refine HSM.out.mono ?_; rw [decide_eq_true (rfl : dat = dat)]; rintro e w13 ⟨rfl, n13, rfl⟩)
              go_ret
              exact ⟨rfl, hB12.trans ((below_drewN (Below.refl _ _) n13).mono hB12.size)⟩
            · have hmb : (m == 0) = false := by simp [hm0]
              by_cases hN : N < 0
              · obtain ⟨t, hr⟩ := dat_neg k1 k2 dat (by omega) hN (by rw [← HZ.out]; exact HPV.out)
                have hc0 : c0 = 4 := by rw [HC0.out, hr]; rfl
                subst hc0
                have hge : decide (0 ≤ N) = false := decide_eq_false (by omega)
                clear hr hov HOV1 h10
                go_wp2
                go_ret
                exact ⟨rfl, hB12⟩
              · have hge : decide (0 ≤ N) = true := decide_eq_true (by omega)
                clear hov HOV1 h10
                go_wp2
                go_ret
                exact ⟨rfl, hB12⟩
end Go.Proofs.YtlmgklebikcbjaaGreat

/-
  ParseData: ParseData: a stream is just so many bytes as its Length says, whatever they are; one that lies is none. No condition.
-/
namespace Go.Proofs.YtlmgklebikcbjaaGreat
open Go.ChangeShapes Go.WideShapes Go.ChangeAt Go.RowKit
open Go.ChangeMaps (open_string shut_string)
set_option linter.unusedVariables false

set_option maxRecDepth 100000 in
theorem data_lifted (os : Os) (started : os.Started) (H : Type) (enc : TypeId × Value → H) :
    ReturnsInHanded {} Tryz.checked os 4 .any (Rows.parseDataSpec.pre6 enc Tryz.prog Tryz.f4 Rows.parseDataRow.domain false) (Rows.parseDataSpec.post enc Tryz.prog Tryz.f4 false true false false) := by
  refine returnsInHanded_of_change (C := Tryz.checked) own9 started (by kernel_rfl) Tryz.func4
    (ChangeSpec.witness6 (enc := enc) (C := Tryz.checked) false ⟨#[], #[.slice none 0 0, .int .i8 0, .int .u8 0], []⟩ 8 (by kernel_rfl) (by kernel_rfl) (by kernel_rfl) (by kernel_rfl)) ?_
  intro W base args ds gs before hval0 hW hcnd _
  have hval : ∀ (j : Nat) t v, Tryz.f4.params[j]? = some t → args[j]? = some v → Value.okWide Tryz.prog W .any base t v := hval0
  have hW' := hW
  obtain ⟨p, q, hA0, hV, rfl, hfz, hnd⟩ := hW
  have hA : DataW.TrodAll enc Tryz.prog W 0 (fun _ => true) true Tryz.f4.params.toList args.toList ds p := hA0
  rw [Tryz.params4] at hA hval
  obtain ⟨v0, v1, v2, d0, d1, d2, p0, p1, p2, rfl, rfl, rfl, h0, h1, h2⟩ := trodAll_three hA
  obtain ⟨rfl, rfl⟩ := trodVars_none hV
  obtain ⟨l0, hl0⟩ := sl_open (hval 0 22 v0 rfl rfl) h0
  obtain ⟨n1, rfl, rfl, rfl, hn1⟩ := open_int Tryz.underlying46 (hval 1 46 v1 rfl rfl) h1
  obtain ⟨n2, rfl, rfl, rfl, hn2⟩ := open_int Tryz.underlying5 (hval 2 5 v2 rfl rfl) h2
  clear hA0 hval0
  refine (data_any v0 l0 n1 n2 W hl0 hn1 hn2).mono fun e W' ⟨he, bel⟩ => ?_
  subst he
  exact ⟨_, rfl, _, _, _, [], _, [], hW', trodAll_mk1 (shut_bool Tryz.underlying4 _), trodAll_mk3 (Below.trod laidOut9 (by kernel_rfl) (of_decide_eq_true (by kernel_rfl)) h0 bel (trod_lt h0)) (shut_int Tryz.underlying46 hn1) (shut_int Tryz.underlying5 hn2), rfl, bel.frame _, fun h => by cases h⟩

set_option maxRecDepth 100000 in
theorem data_holds : Rows.ParseDataSaid :=
  OpenClaim.holds_of_wide 4 Tryz.f4 rfl rfl rfl rfl rfl rfl rfl ⟨rfl, rfl, rfl, rfl, rfl⟩ rfl rfl rfl rfl rfl (by kernel_rfl) Tryz.func4 (by kernel_rfl)
    (of_decide_eq_true (by kernel_rfl)) (by unfold Func.isWrapper; first | (rw [if_pos (by decide +kernel)]; kernel_rfl) | (rw [if_neg (by decide +kernel)]; exact ⟨rfl, rfl⟩))
    (fun os started H enc _ => data_lifted os started H enc)
#print axioms data_holds
end Go.Proofs.YtlmgklebikcbjaaGreat
