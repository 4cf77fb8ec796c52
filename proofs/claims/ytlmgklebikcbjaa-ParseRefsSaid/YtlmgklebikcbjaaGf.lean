/-
  Numbers as they are printed: the document's digits, Text. Conditions: sizes.
-/
import Derived.Test.YtlmgklebikcbjaaLawPr
import Derived.Test.YtlmgklebikcbjaaNum
import Derived.Test.YtlmgklebikcbjaaPiece
/-
  Plain laws of blanks between tokens: gaps are passed, the words of LexBlanks are read whatever stands behind them. No program here.
-/
namespace Go.Proofs.Ytlmgklebikcbjaa
set_option linter.unusedVariables false

/-- the gaps of LexBlanks -/
def gps : Nat → List UInt8
  | 0 => [32]
  | 1 => [10]
  | 2 => [0]
  | 3 => [37, 99, 13]
  | 4 => [32, 37, 37, 10, 32]
  | 5 => [9, 12]
  | 6 => [13, 10]
  | _ => [32, 32]
/-- its words -/
def wds : Nat → List UInt8
  | 0 => [47, 65]
  | 1 => [40, 120, 41]
  | 2 => [60, 52, 49, 62]
  | 3 => [91]
  | 4 => [93]
  | 5 => [60, 60]
  | 6 => [62, 62]
  | 7 => [49, 50]
  | 8 => [45, 46, 53]
  | 9 => [111, 98, 106]
  | _ => [116, 114, 117, 101]

theorem bl_gps (k : Nat) (s : List UInt8) : bl (gps k ++ s) false = (gps k).length + bl s false := by
  rcases k with _ | _ | _ | _ | _ | _ | _ | k <;> simp [gps, bl, wh, c8] <;> omega

/-- a token, and what stands behind it -/
def TRes.with : TRes → List UInt8 → TRes
  | .bad e, _ => .bad e
  | .tok k n out _, r => .tok k n out r

theorem rn_stop' {r : List UInt8} (hr : rg (hd r) = false) : rn r = 0 := by
  cases r with
  | nil => rfl
  | cons x t => rw [rn, if_neg (by rw [hd_cons] at hr; simp [hr])]

theorem rn_app : ∀ (a r : List UInt8), (∀ x ∈ a, rg (c8 x) = true) → rg (hd r) = false → rn (a ++ r) = a.length
  | [], r, _, hr => rn_stop' hr
  | x :: a, r, h, hr => by
    rw [List.cons_append, rn, if_pos (h x (by simp)), rn_app a r (fun y hy => h y (by simp [hy])) hr, List.length_cons]; omega

theorem tk_run (x : UInt8) (a r : List UInt8) (h : ∀ y ∈ x :: a, rg (c8 y) = true) (hr : rg (hd r) = false) (hn : c8 x = 43 ∨ c8 x = 45 ∨ c8 x = 46 ∨ 48 ≤ c8 x ∧ c8 x ≤ 57) : numT (x :: a ++ r) = if (np (x :: a)).2.2 = 0 then .tok (if (np (x :: a)).2.1 = true then 1 else 2) (np (x :: a)).1 [] r else .bad (np (x :: a)).2.2 := by
  unfold numT
  rw [rn_app (x :: a) r h hr, List.take_left, List.drop_left]

theorem tk_wds (k : Nat) (r : List UInt8) (hr : rg (hd r) = false) : tk (wds k ++ r) = (tk (wds k)).with r := by
  have hw : ∀ a : List UInt8, (∀ x ∈ a, rg (c8 x) = true) → rn (a ++ r) = a.length := fun a h => rn_app a r h hr
  have b1 : ∀ x ∈ ([49, 50] : List UInt8), rg (c8 x) = true := by decide
  have b2 : ∀ x ∈ ([45, 46, 53] : List UInt8), rg (c8 x) = true := by decide
  have b3 : ∀ x ∈ ([111, 98, 106] : List UInt8), rg (c8 x) = true := by decide
  have b4 : ∀ x ∈ ([116, 114, 117, 101] : List UInt8), rg (c8 x) = true := by decide
  rcases k with _ | _ | _ | _ | _ | _ | _ | _ | _ | _ | k
  · have := tk_pnm [65] r (by decide) (by decide) hr
    exact this
  · have := tk_ptx [120] r (by decide)
    exact this
  · have h1 := hx_print [65] r [] (by decide)
    have e : tk (60 :: (dgts [65] ++ 62 :: r)) = wrp 3 (hx (dgts [65] ++ 62 :: r) (-1) []) := by
      have hh := dgts_hd [65] (62 :: r) (show ¬ c8 62 = 60 by decide)
      simp [tk, c8, hh]
    rw [h1] at e
    exact e
  · rfl
  · rfl
  · rfl
  · rfl
  · have h1 := tk_run 49 [50] r b1 hr (by decide)
    have e : tk (49 :: 50 :: r) = numT (49 :: 50 :: r) := by simp [tk, c8]
    exact e.trans h1
  · have h1 := tk_run 45 [46, 53] r b2 hr (by decide)
    have e : tk (45 :: 46 :: 53 :: r) = numT (45 :: 46 :: 53 :: r) := by simp [tk, c8]
    exact e.trans h1
  · have h1 := hw _ b3
    have e : tk ([111, 98, 106] ++ r) = .tok 9 0 (([111, 98, 106] ++ r).take (rn ([111, 98, 106] ++ r))) (([111, 98, 106] ++ r).drop (rn ([111, 98, 106] ++ r))) := by
      have hq : ¬ 127 < rn ([111, 98, 106] ++ r) := by rw [h1]; decide
      have hrg : rg (c8 111) = true := by decide
      rw [List.cons_append] at hq ⊢
      simp only [tk]
      rw [if_neg (by decide), if_neg (by decide), if_neg (fun q => absurd q.1 (by decide)), if_neg (fun q => absurd q.1 (by decide)), if_neg (by decide), if_neg (by decide), if_neg (by decide), if_neg (by decide), if_pos hrg, if_neg hq]
    rw [h1, List.take_left, List.drop_left] at e
    exact e
  · have h1 := hw _ b4
    have e : tk ([116, 114, 117, 101] ++ r) = .tok 9 0 (([116, 114, 117, 101] ++ r).take (rn ([116, 114, 117, 101] ++ r))) (([116, 114, 117, 101] ++ r).drop (rn ([116, 114, 117, 101] ++ r))) := by
      have hq : ¬ 127 < rn ([116, 114, 117, 101] ++ r) := by rw [h1]; decide
      have hrg : rg (c8 116) = true := by decide
      rw [List.cons_append] at hq ⊢
      simp only [tk]
      rw [if_neg (by decide), if_neg (by decide), if_neg (fun q => absurd q.1 (by decide)), if_neg (fun q => absurd q.1 (by decide)), if_neg (by decide), if_neg (by decide), if_neg (by decide), if_neg (by decide), if_pos hrg, if_neg hq]
    rw [h1, List.take_left, List.drop_left] at e
    exact e
end Go.Proofs.Ytlmgklebikcbjaa

/-
  Plain laws of printed numbers: the digits of a number say it. No program here.
-/
namespace Go.Proofs.Ytlmgklebikcbjaa
set_option linter.unusedVariables false

/-- a digit -/
def dg1 (n : Nat) : UInt8 := UInt8.ofNat (48 + n % 10)
/-- a number's digits; at most k behind the first -/
def dec : Nat → Nat → List UInt8
  | 0, n => [dg1 n]
  | k + 1, n => if n < 10 then [dg1 n] else dec k (n / 10) ++ [dg1 n]

theorem dg1_nat (n : Nat) : (dg1 n).toNat = 48 + n % 10 := by
  unfold dg1; rw [UInt8.toNat_ofNat', Nat.mod_eq_of_lt (by omega)]
theorem dg1_isd (n : Nat) : isd (c8 (dg1 n)) = true := by
  rw [isd_iff]; unfold c8; rw [dg1_nat]; omega
theorem dec_isd : ∀ (k n : Nat), ∀ x ∈ dec k n, isd (c8 x) = true
  | 0, n, x, h => by simp [dec] at h; rw [h]; exact dg1_isd n
  | k + 1, n, x, h => by
    rw [dec] at h
    split at h
    · simp at h; rw [h]; exact dg1_isd n
    · rw [List.mem_append] at h
      rcases h with h | h
      · exact dec_isd k _ x h
      · simp at h; rw [h]; exact dg1_isd n
theorem vl_dec : ∀ (k n : Nat), n < 10 ^ (k + 1) → vl (dec k n) 0 = n
  | 0, n, h => by
    have : n < 10 := by simpa using h
    simp [dec, vl, dg1_nat]; omega
  | k + 1, n, h => by
    rw [dec]
    by_cases hn : n < 10
    · rw [if_pos hn]; simp [vl, dg1_nat]; omega
    · have h2 : n / 10 < 10 ^ (k + 1) := by
        rw [Nat.pow_succ] at h
        omega
      rw [if_neg hn, vl_snoc, vl_dec k _ h2, dg1_nat]
      omega
theorem dec_ne (k n : Nat) : dec k n ≠ [] := by
  cases k with
  | zero => simp [dec]
  | succ k => rw [dec]; split <;> simp

theorem dgs_all : ∀ (l r : List UInt8), (∀ x ∈ l, isd (c8 x) = true) → ¬ isd (hd r) = true → dgs (l ++ r) = l.length
  | [], r, _, hr => by
    cases r with
    | nil => rfl
    | cons x t => rw [List.nil_append, dgs, if_neg (by rw [hd_cons] at hr; exact hr)]; rfl
  | x :: l, r, h, hr => by
    rw [List.cons_append, dgs, if_pos (h x (by simp)), dgs_all l r (fun y hy => h y (by simp [hy])) hr, List.length_cons]; omega

/-- a whole number as it is printed -/
def pwh (n : Int) : List UInt8 := (if n < 0 then [45] else []) ++ dec 19 n.natAbs

theorem hd_dec (k n : Nat) (r : List UInt8) : isd (hd (dec k n ++ r)) = true := by
  cases hq : dec k n with
  | nil => exact absurd hq (dec_ne k n)
  | cons x t => exact dec_isd k n x (by rw [hq]; simp)

theorem np_pwh (n : Int) (h : -2147483647 ≤ n) (h' : n ≤ 2147483647) : np (pwh n) = (n, true, 0) := by
  have hv := vl_dec 19 n.natAbs (by omega)
  have hd1 := hd_dec 19 n.natAbs []
  rw [List.append_nil, isd_iff] at hd1
  have hds : dgs (dec 19 n.natAbs) = (dec 19 n.natAbs).length := by
    have := dgs_all (dec 19 n.natAbs) [] (dec_isd 19 _) (by decide)
    rwa [List.append_nil] at this
  have hlen : 0 < (dec 19 n.natAbs).length := List.length_pos_iff.2 (dec_ne _ _)
  have key : ∀ g : Int, numb g ((dec 19 n.natAbs).take (dgs (dec 19 n.natAbs))) ((dec 19 n.natAbs).drop (dgs (dec 19 n.natAbs))) = (g * (n.natAbs : Int), true, 0) := fun g => by
    rw [hds, List.take_length, List.drop_length, numb, if_neg (by omega), hv, if_neg (by omega)]
  unfold pwh np
  by_cases hn : n < 0
  · have s1 : sgn (45 :: dec 19 n.natAbs) = -1 := by unfold sgn; rw [hd_cons, if_pos (show c8 45 = 45 by decide)]
    have s2 : uns (45 :: dec 19 n.natAbs) = dec 19 n.natAbs := by unfold uns; rw [if_pos (.inr (show c8 45 = 45 by decide))]; rfl
    rw [if_pos hn, List.singleton_append, s1, s2, key]
    congr 1; omega
  · have s1 : sgn (dec 19 n.natAbs) = 1 := by unfold sgn; rw [if_neg (by omega)]
    have s2 : uns (dec 19 n.natAbs) = dec 19 n.natAbs := by unfold uns; rw [if_neg (by omega)]
    rw [if_neg hn, List.nil_append, s1, s2, key]
    congr 1; omega
end Go.Proofs.Ytlmgklebikcbjaa

/-
  Plain laws of printed numbers: places behind a point, without their last noughts. No program here.
-/
namespace Go.Proofs.Ytlmgklebikcbjaa
set_option linter.unusedVariables false

/-- a nought more behind the point changes nothing -/
theorem fr_zero (k : Nat) (l : List UInt8) (n : Nat) (h : l.length < k) : fr k (l ++ [48]) n = fr k l n := by
  rw [fr_eq, fr_eq, List.take_of_length_le (by simp; omega), List.take_of_length_le (by omega), vl_snoc, List.length_append, List.length_singleton]
  have e : (48 : UInt8).toNat - 48 = 0 := by decide
  rw [e, Nat.add_zero, show k - l.length = (k - (l.length + 1)) + 1 by omega, Nat.pow_succ, Nat.mul_comm 10 (vl l n), Nat.mul_assoc, Nat.mul_comm 10]

/-- the last noughts of digits, but for the first digit, are struck (fuel: the length) -/
def trim : Nat → List UInt8 → List UInt8
  | 0, l => l
  | k + 1, l => if 1 < l.length ∧ l.getLast? = some 48 then trim k l.dropLast else l

theorem fr_trim : ∀ (k : Nat) (l : List UInt8) (n : Nat), l.length ≤ 5 → fr 5 (trim k l) n = fr 5 l n
  | 0, l, n, h => rfl
  | k + 1, l, n, h => by
    rw [trim]
    by_cases hc : 1 < l.length ∧ l.getLast? = some 48
    · rw [if_pos hc, fr_trim k l.dropLast n (by rw [List.length_dropLast]; omega)]
      have e : l = l.dropLast ++ [48] := by
        obtain ⟨h1, h2⟩ := hc
        have hne : l ≠ [] := by intro q; subst q; simp at h1
        have h3 := List.dropLast_concat_getLast hne
        rw [List.getLast?_eq_some_getLast hne] at h2
        injection h2 with h2
        rw [h2] at h3
        exact h3.symm
      conv => rhs; rw [e]
      rw [fr_zero 5 l.dropLast n (by rw [List.length_dropLast]; omega)]
    · rw [if_neg hc]
end Go.Proofs.Ytlmgklebikcbjaa

/-
  Plain laws of printed numbers: a number as it is printed is one token. No program here.
-/
namespace Go.Proofs.Ytlmgklebikcbjaa
set_option linter.unusedVariables false

/-- five digits -/
def five (m : Nat) : List UInt8 := [dg1 (m / 10000), dg1 (m / 1000), dg1 (m / 100), dg1 (m / 10), dg1 m]

theorem dec_five (m : Nat) (h : m < 100000) : dec 19 (100000 + m) = 49 :: five m := by
  have e0 : (100000 + m) / 10 / 10 / 10 / 10 / 10 = 1 := by omega
  have e1 : ∀ k n : Nat, ¬ n < 10 → dec (k + 1) n = dec k (n / 10) ++ [dg1 n] := fun k n q => by rw [dec, if_neg q]
  rw [e1 18 _ (by omega), e1 17 _ (by omega), e1 16 _ (by omega), e1 15 _ (by omega), e1 14 _ (by omega), e0]
  have e2 : dec 14 1 = [49] := by decide
  rw [e2]
  have d : ∀ a b : Nat, a % 10 = b % 10 → dg1 a = dg1 b := fun a b q => by unfold dg1; rw [q]
  rw [d ((100000 + m) / 10 / 10 / 10 / 10) (m / 10000) (by omega), d ((100000 + m) / 10 / 10 / 10) (m / 1000) (by omega), d ((100000 + m) / 10 / 10) (m / 100) (by omega), d ((100000 + m) / 10) (m / 10) (by omega), d (100000 + m) m (by omega)]
  rfl

theorem five_isd (m : Nat) : ∀ x ∈ five m, isd (c8 x) = true := by
  intro x hx
  simp only [five, List.mem_cons, List.not_mem_nil, or_false] at hx
  rcases hx with rfl | rfl | rfl | rfl | rfl <;> exact dg1_isd _

theorem vl_five (m : Nat) (h : m < 100000) : vl (five m) 0 = m := by
  simp only [five, vl, dg1_nat]
  omega

theorem trim_sub : ∀ (k : Nat) (l : List UInt8), ∀ x ∈ trim k l, x ∈ l
  | 0, l, x, h => h
  | k + 1, l, x, h => by
    rw [trim] at h
    split at h
    · exact List.dropLast_subset _ (trim_sub k _ x h)
    · exact h

/-- a number with a point, as it is printed -/
def prl (n : Int) : List UInt8 := (if n < 0 then [45] else []) ++ (dec 19 (n.natAbs / 100000) ++ 46 :: trim 5 (five (n.natAbs % 100000)))

theorem np_sgn (n : Int) (d : List UInt8) (hd0 : isd (hd d) = true) : sgn ((if n < 0 then [45] else []) ++ d) = (if n < 0 then -1 else 1) ∧ uns ((if n < 0 then [45] else []) ++ d) = d := by
  rw [isd_iff] at hd0
  by_cases hn : n < 0
  · simp only [if_pos hn]
    rw [List.singleton_append]
    refine ⟨by unfold sgn; rw [hd_cons, if_pos (show c8 45 = 45 by decide)], by unfold uns; rw [if_pos (.inr (show c8 45 = 45 by decide))]; rfl⟩
  · simp only [if_neg hn]
    rw [List.nil_append]
    exact ⟨by unfold sgn; rw [if_neg (by omega)], by unfold uns; rw [if_neg (by omega)]⟩

theorem np_prl (n : Int) (h : -214748364799999 ≤ n) (h' : n ≤ 214748364799999) : np (prl n) = (n, false, 0) := by
  have hq : n.natAbs / 100000 ≤ 2147483647 := by omega
  have hv := vl_dec 19 (n.natAbs / 100000) (by omega)
  have hlen : 0 < (dec 19 (n.natAbs / 100000)).length := List.length_pos_iff.2 (dec_ne _ _)
  have hf : fr 5 (trim 5 (five (n.natAbs % 100000))) 0 = n.natAbs % 100000 := by
    rw [fr_trim 5 _ 0 (by simp [five]), fr_eq]
    have : (five (n.natAbs % 100000)).length = 5 := rfl
    rw [List.take_of_length_le (by omega), vl_five _ (Nat.mod_lt _ (by decide)), this]
    simp
  have hdf : dgs (trim 5 (five (n.natAbs % 100000))) = (trim 5 (five (n.natAbs % 100000))).length := by
    have := dgs_all (trim 5 (five (n.natAbs % 100000))) [] (fun x hx => five_isd _ x (trim_sub _ _ x hx)) (by decide)
    rwa [List.append_nil] at this
  obtain ⟨s1, s2⟩ := np_sgn n (dec 19 (n.natAbs / 100000) ++ 46 :: trim 5 (five (n.natAbs % 100000))) (hd_dec 19 _ _)
  have e : prl n = (if n < 0 then [45] else []) ++ (dec 19 (n.natAbs / 100000) ++ 46 :: trim 5 (five (n.natAbs % 100000))) := rfl
  rw [e]
  generalize trim 5 (five (n.natAbs % 100000)) = F at hf hdf s1 s2 ⊢
  have hds := dgs_all (dec 19 (n.natAbs / 100000)) (46 :: F) (dec_isd 19 _) (by show ¬ isd (c8 46) = true; decide)
  unfold np
  rw [s1, s2, hds, List.take_left, List.drop_left, numb, if_pos ⟨by decide, hdf, by omega⟩, hv, if_neg (by omega), hf]
  by_cases hn : n < 0
  · rw [if_pos hn]; congr 1; omega
  · rw [if_neg hn]; congr 1; omega

theorem isd_rg {c : Int} (h : isd c = true) : rg c = true := by
  rw [isd_iff] at h
  have : c = 48 ∨ c = 49 ∨ c = 50 ∨ c = 51 ∨ c = 52 ∨ c = 53 ∨ c = 54 ∨ c = 55 ∨ c = 56 ∨ c = 57 := by omega
  rcases this with rfl | rfl | rfl | rfl | rfl | rfl | rfl | rfl | rfl | rfl <;> decide

/-- a number as it is printed -/
def pnum (q : Bool) (n : Int) : List UInt8 := if q = true then pwh n else prl n

theorem pnum_rg (q : Bool) (n : Int) : ∀ y ∈ pnum q n, rg (c8 y) = true := by
  have h45 : rg (c8 45) = true := by decide
  have h46 : rg (c8 46) = true := by decide
  have hs : ∀ y ∈ (if n < 0 then ([45] : List UInt8) else []), rg (c8 y) = true := by
    intro y hy
    split at hy
    · simp at hy; rw [hy]; exact h45
    · simp at hy
  intro y hy
  unfold pnum at hy
  split at hy
  · unfold pwh at hy
    rw [List.mem_append] at hy
    rcases hy with hy | hy
    · exact hs y hy
    · exact isd_rg (dec_isd _ _ y hy)
  · unfold prl at hy
    rw [List.mem_append, List.mem_append, List.mem_cons] at hy
    rcases hy with hy | hy | rfl | hy
    · exact hs y hy
    · exact isd_rg (dec_isd _ _ y hy)
    · exact h46
    · exact isd_rg (five_isd _ y (trim_sub _ _ y hy))

theorem pnum_hd (q : Bool) (n : Int) : ∃ x t, pnum q n = x :: t ∧ (c8 x = 43 ∨ c8 x = 45 ∨ c8 x = 46 ∨ 48 ≤ c8 x ∧ c8 x ≤ 57) := by
  have key : ∀ (k m : Nat) (r : List UInt8), ∃ x t, (if n < 0 then ([45] : List UInt8) else []) ++ (dec k m ++ r) = x :: t ∧ (c8 x = 43 ∨ c8 x = 45 ∨ c8 x = 46 ∨ 48 ≤ c8 x ∧ c8 x ≤ 57) := fun k m r => by
    by_cases hn : n < 0
    · rw [if_pos hn]; exact ⟨45, dec k m ++ r, rfl, .inr (.inl (by decide))⟩
    · rw [if_neg hn, List.nil_append]
      have hd1 := hd_dec k m r
      cases hq : dec k m ++ r with
      | nil => rw [hq] at hd1; exact absurd hd1 (by decide)
      | cons x t => rw [hq, hd_cons, isd_iff] at hd1; exact ⟨x, t, rfl, .inr (.inr (.inr hd1))⟩
  unfold pnum
  split
  · have := key 19 n.natAbs []
    rw [List.append_nil] at this
    exact this
  · exact key _ _ _

theorem TK_pnum (q : Bool) (n : Int) (r : List UInt8) (h : -214748364799999 ≤ n) (h' : n ≤ 214748364799999) (hq : q = true → -2147483647 ≤ n ∧ n ≤ 2147483647) (hr : rg (hd r) = false) : TK (pnum q n ++ r) = .tok (if q = true then 1 else 2) n [] r ∧ bl (pnum q n ++ r) false = 0 := by
  have hp : np (pnum q n) = (n, q, 0) := by
    unfold pnum
    cases q with
    | true => exact np_pwh n (hq rfl).1 (hq rfl).2
    | false => exact np_prl n h h'
  have ha := pnum_rg q n
  obtain ⟨x, t, he, hx⟩ := pnum_hd q n
  rw [he] at hp ha ⊢
  have hb : bl (x :: t ++ r) false = 0 := by
    have hw : ¬ wh (c8 x) = true := by unfold wh; simp only [Bool.or_eq_true, beq_iff_eq]; omega
    rw [List.cons_append, bl, if_neg hw, if_neg (by omega)]
  have h1 := tk_run x t r ha hr hx
  rw [hp] at h1
  have e : tk (x :: t ++ r) = numT (x :: t ++ r) := by
    rw [List.cons_append, tk, if_neg (by omega), if_neg (by omega), if_neg (by omega), if_neg (by omega), if_neg (by omega), if_neg (by omega), if_neg (by omega), if_pos hx]
  refine ⟨?_, hb⟩
  unfold TK
  rw [hb, List.drop_zero, e, h1]
  rfl
end Go.Proofs.Ytlmgklebikcbjaa

/-
  Numbers as they are printed: the document's digits, Text. Conditions: sizes.
-/
namespace Go.Proofs.Ytlmgklebikcbjaa
open Go.RowKit
set_option linter.unusedVariables false

theorem wrap64u (n : Int) : IntKind.u64.wrap n = n % 18446744073709551616 := by
  simp [IntKind.wrap, IntKind.signed, IntKind.bits]
theorem quo_u64 (a n : Nat) (hn : 0 < n) (ha : a < 18446744073709551616) (t : TypeId) : binOp .quo t (.int .u64 (a : Int)) (.int .u64 (n : Int)) = pure (.int .u64 ((a / n : Nat) : Int)) := by
  have e0 : binOp .quo t (.int .u64 (a : Int)) (.int .u64 (n : Int)) = Op.intDiv .quo .u64 (a : Int) (n : Int) := by simp [binOp]
  rw [e0]
  unfold Op.intDiv
  rw [if_neg (by omega)]
  have h1 : a / n ≤ a := Nat.div_le_self a n
  have e1 : ((a : Int)).tdiv (n : Int) = ((a / n : Nat) : Int) := rfl
  show pure (Value.int .u64 (IntKind.u64.wrap (((a : Int)).tdiv (n : Int)))) = _
  rw [e1]
  generalize a / n = z at h1
  congr 2
  rw [wrap64u]
  omega
theorem dec_len : ∀ k m : Nat, (dec k m).length ≤ k + 1
  | 0, m => by simp [dec]
  | k + 1, m => by
    rw [dec]; split
    · simp
    · have := dec_len k (m / 10); rw [List.length_append, List.length_singleton]; omega
theorem dec_small (k m : Nat) (h : m < 10) : dec k m = [dg1 m] := by
  cases k with
  | zero => rfl
  | succ k => rw [dec, if_pos h]

set_option maxHeartbeats 1600000 in
set_option maxRecDepth 100000 in
theorem digits_u (N : Nat) (hN : N < 18446744073709551616) (w : World) :
    Calls Try.prog 55 #[.int .u64 (N : Int)] w fun e w' => e = .returned (.string (st (dec 19 N))) ∧ Below w.heap.size w w' := by
  go_enter Try.func55, Try.ntmps55
  go_wp2
  go_loopw [0, 3] (fun v s wr => ∃ m k : Nat, ∃ l : List UInt8, v = .int .u64 (m : Int) ∧ s = .string (st l) ∧ m < 10 ^ (k + 1) ∧ m < 18446744073709551616 ∧ k + l.length ≤ 19 ∧ dec 19 N = dec k m ++ l ∧ Below w.heap.size w wr) (fun v _ _ => (intOf v).toNat)
  case atStart => exact ⟨N, 19, [], rfl, rfl, by omega, hN, by simp, by simp, Below.refl _ _⟩
  case round =>
    obtain ⟨m, k, l, rfl, rfl, hm, hm2, hk, hd, hbel⟩ := hrel
    have hrem : ∀ t, binOp .rem t (.int .u64 (m : Int)) (.int .u64 10) = pure (.int .u64 ((m % 10 : Nat) : Int)) := rem_any .u64 m 10 (by decide)
    have hquo : ∀ t, binOp .quo t (.int .u64 (m : Int)) (.int .u64 10) = pure (.int .u64 ((m / 10 : Nat) : Int)) := quo_u64 m 10 (by decide) hm2
    have hadd : ∀ w : World, (Op.stringOp .add (st [dg1 m]) (st l)).run Try.prog w = .ok (.string (st (dg1 m :: l))) w := fun w => st_add [dg1 m] l (by simp; omega) w
    have hr10 : m % 10 < 10 := Nat.mod_lt _ (by decide)
    have hcv : (convert 25 9 (.slice (some ⟨wr.heap.size, 0, none⟩) 1 1)).run Try.prog (wr.alloc (.cells #[.int .u8 (48 + ((m % 10 : Nat) : Int))] 5)) = .ok (.string (st [dg1 m])) (wr.alloc (.cells #[.int .u8 (48 + ((m % 10 : Nat) : Int))] 5)) := by
      have e1 : 48 + ((m % 10 : Nat) : Int) = c8 (dg1 m) := by unfold c8; rw [dg1_nat]; omega
      rw [e1]
      exact sl_string (P := Try.prog) _ 25 9 5 Try.underlying25 (by kernel_rfl) (by kernel_rfl) _ _ (Sl.oneC wr (dg1 m) 5 _ rfl)
    generalize hR : m % 10 = r at hrem hr10 hcv
    have HD := hid hd
    have HM := hid hm
    have HR := hid hR
    clear hd hm hR
    have hdiv : m / 10 ≤ m := Nat.div_le_self _ _
    by_cases hz : m / 10 = 0
    · rw [hz] at hquo
      clear hdiv
      go_wp2
      go_ret
      exact ⟨by rw [HD.out, dec_small k m (by omega)]; rfl, hbel.alloc hbel.size _⟩
    · have hz2 : (((m / 10 : Nat) : Int) == 0) = false := by simp; omega
      have hlt : m / 10 < m := by omega
      have hq64 : m / 10 < 18446744073709551616 := by omega
      go_wp2
      go_roundw
      case rel =>
        obtain ⟨k, rfl⟩ : ∃ k', k = k' + 1 := by
          cases k with
          | zero => have := HM.out; simp at this; omega
          | succ k => exact ⟨k, rfl⟩
        have hm10 : m / 10 < 10 ^ (k + 1) := by
          have := HM.out
          rw [Nat.pow_succ] at this
          exact Nat.div_lt_of_lt_mul (by omega)
        have hdd := HD.out
        have hde : dec (k + 1) m = dec k (m / 10) ++ [dg1 m] := by rw [dec, if_neg (by omega)]
        rw [hde, List.append_assoc] at hdd
        exact ⟨m / 10, k, dg1 m :: l, by rw [Int.natCast_ediv]; rfl, rfl, hm10, hq64, by simp; omega, hdd, hbel.alloc hbel.size _⟩
      case measure => simp [intOf]; omega

set_option maxRecDepth 100000 in
theorem in_any (n : Int) (w : World) :
    Calls Try.prog 27 #[.int .i64 n] w fun e w' => e = .returned (.bool (decide (-214748364799999 ≤ n) && decide (n ≤ 214748364799999))) ∧ w = w' := by
  by_cases h1 : -214748364799999 ≤ n
  · have t1 : decide (-214748364799999 ≤ n) = true := decide_eq_true h1
    go_enter Try.func27, Try.ntmps27
    go_wp2
    go_ret
    exact ⟨by first | rfl | (rw [t1]; rfl), rfl⟩
  · have t1 : decide (-214748364799999 ≤ n) = false := decide_eq_false h1
    go_enter Try.func27, Try.ntmps27
    go_wp2
    go_ret
    exact ⟨by first | rfl | (rw [t1]; rfl), rfl⟩

theorem digits_uv (z : Int) (N : Nat) (hz : z = N) (hN : N < 18446744073709551616) (w : World) :
    Calls Try.prog 55 #[.int .u64 z] w fun e w' => e = .returned (.string (st (dec 19 N))) ∧ Below w.heap.size w w' := by
  subst hz; exact digits_u N hN w
theorem st_extract (l : List UInt8) (a b : Nat) : (st l).extract a b = st ((l.drop a).take (b - a)) := ByteArray.extract_mk l a b
theorem st_from (P : Program) (t : TypeId) (ht : P.underlying t = some .string) (l : List UInt8) (z : Int) (n : Nat) (hz : z = n) (h : n ≤ l.length) (w : World) : (Instr.slice t (.string (st l)) (some (.int .i64 z)) none none).run P w = .ok (.string (st (l.drop n))) w := by
  subst hz
  rw [run_slice_string_l w t (st l) ht .i64 n (by omega) (by rw [st_size]; omega), st_extract, st_size]
  congr 3
  rw [List.take_of_length_le (by simp)]
  simp
theorem st_to (P : Program) (t : TypeId) (ht : P.underlying t = some .string) (l : List UInt8) (z : Int) (n : Nat) (hz : z = n) (h : n ≤ l.length) (w : World) : (Instr.slice t (.string (st l)) none (some (.int .i64 z)) none).run P w = .ok (.string (st (l.take n))) w := by
  subst hz
  rw [run_slice_string_h w t (st l) ht .i64 n (by omega) (by rw [st_size]; omega), st_extract]
  congr 3
theorem trim_step (j : Nat) (l : List UInt8) (h1 : 1 < l.length) (h2 : l.length ≤ j) (x : UInt8) (hx : x = l.getD (l.length - 1) 0) (h48 : (c8 x == 48) = true) : ∃ j', trim j l = trim j' (l.take (l.length - 1)) ∧ l.length - 1 ≤ j' := by
  obtain ⟨j, rfl⟩ : ∃ k, j = k + 1 := ⟨j - 1, by omega⟩
  have hx48 : x = 48 := by
    have : c8 x = 48 := by simpa using h48
    unfold c8 at this
    exact UInt8.toNat_inj.1 (by show x.toNat = 48; omega)
  have hl : l.getLast? = some 48 := by
    rw [List.getLast?_eq_getElem?, List.getElem?_eq_getElem (by omega)]
    rw [hx48] at hx
    simp [List.getD, List.getElem?_eq_getElem (show l.length - 1 < l.length by omega)] at hx
    rw [← hx]
  refine ⟨j, ?_, by omega⟩
  rw [trim, if_pos ⟨h1, hl⟩, List.dropLast_eq_take]
theorem trim_stop (j : Nat) (l : List UInt8) (h : ¬ 1 < l.length ∨ (c8 (l.getD (l.length - 1) 0) == 48) = false) : trim j l = l := by
  cases j with
  | zero => rfl
  | succ j =>
    rw [trim, if_neg]
    rintro ⟨h1, h2⟩
    rcases h with h | h
    · exact h h1
    · rw [List.getLast?_eq_getElem?, List.getElem?_eq_getElem (by omega)] at h2
      injection h2 with h2
      simp [List.getD, List.getElem?_eq_getElem (show l.length - 1 < l.length by omega), h2, c8] at h
def szOf : Value → Nat
  | .string b => b.size
  | _ => 0
theorem five_len (m : Nat) : (five m).length = 5 := rfl

set_option maxHeartbeats 1600000 in
set_option maxRecDepth 100000 in
theorem text_pos_whole (n : Int) (w : World) (h0 : 0 ≤ n) (h1 : n ≤ 214748364799999) :
    Calls Try.prog 28 #[.int .i64 n, .bool true] w fun e w' => e = .returned (.string (st (pnum true n))) ∧ Below w.heap.size w w' := by
  obtain ⟨N, hN⟩ : ∃ N : Nat, N = n.natAbs := ⟨_, rfl⟩
  have e0 : pnum true n = [] ++ dec 19 N := by unfold pnum pwh; rw [if_pos rfl, if_neg (by omega), hN]
  have hadd : ∀ w : World, (Op.stringOp .add ⟨#[]⟩ (st (dec 19 N))).run Try.prog w = .ok (.string (st ([] ++ dec 19 N))) w := fun w => st_add [] _ (by have := dec_len 19 N; simp; omega) w
  rw [e0]
  have t1 : decide (n < 0) = false := decide_eq_false (by omega)
  have HZ := hid (show n = (N : Int) by omega)
  have HN : N < 18446744073709551616 := by omega
  clear e0 hN
  go_enter Try.func28, Try.ntmps28
  go_wp2_with (go_at_call 55; refine (digits_uv _ N HZ.out HN _).mono ?_; rintro e w1 ⟨rfl, hb1⟩)
  go_ret
  exact ⟨rfl, hb1⟩

set_option maxHeartbeats 1600000 in
set_option maxRecDepth 100000 in
theorem text_neg_whole (n : Int) (w : World) (h0 : n < 0) (h1 : -214748364799999 ≤ n) :
    Calls Try.prog 28 #[.int .i64 n, .bool true] w fun e w' => e = .returned (.string (st (pnum true n))) ∧ Below w.heap.size w w' := by
  obtain ⟨N, hN⟩ : ∃ N : Nat, N = n.natAbs := ⟨_, rfl⟩
  have e0 : pnum true n = [45] ++ dec 19 N := by unfold pnum pwh; rw [if_pos rfl, if_pos h0, hN]
  have hadd : ∀ w : World, (Op.stringOp .add ⟨#[45]⟩ (st (dec 19 N))).run Try.prog w = .ok (.string (st ([45] ++ dec 19 N))) w := fun w => st_add [45] _ (by have := dec_len 19 N; simp; omega) w
  rw [e0]
  have t1 : decide (n < 0) = true := decide_eq_true h0
  have HZ := hid (show -(n + 1) + 1 = (N : Int) by omega)
  have HN : N < 18446744073709551616 := by omega
  clear e0 hN
  go_enter Try.func28, Try.ntmps28
  go_wp2_with (go_at_call 55; refine (digits_uv _ N HZ.out HN _).mono ?_; rintro e w1 ⟨rfl, hb1⟩)
  go_ret
  exact ⟨rfl, hb1⟩

set_option maxHeartbeats 3200000 in
set_option maxRecDepth 100000 in
theorem text_pos_real (n : Int) (w : World) (h0 : 0 ≤ n) (h1 : n ≤ 214748364799999) :
    Calls Try.prog 28 #[.int .i64 n, .bool false] w fun e w' => e = .returned (.string (st (pnum false n))) ∧ Below w.heap.size w w' := by
  obtain ⟨N, hN⟩ : ∃ N : Nat, N = n.natAbs := ⟨_, rfl⟩
  have e0 : pnum false n = ([] ++ dec 19 (N / 100000)) ++ [46] ++ trim 5 (five (N % 100000)) := by unfold pnum prl; rw [if_neg (by decide), if_neg (by omega), hN]; simp
  have hz : n = (N : Int) := by omega
  have hrem : ∀ t, binOp .rem t (.int .u64 (n)) (.int .u64 100000) = pure (.int .u64 ((N % 100000 : Nat) : Int)) := fun t => by rw [hz]; exact rem_any .u64 N 100000 (by decide) t
  have hquo : ∀ t, binOp .quo t (.int .u64 (n)) (.int .u64 100000) = pure (.int .u64 ((N / 100000 : Nat) : Int)) := fun t => by rw [hz]; exact quo_u64 N 100000 (by decide) (by omega) t
  have hr : N % 100000 < 100000 := Nat.mod_lt _ (by decide)
  have hq : N / 100000 ≤ 2147483647 := by omega
  rw [e0]
  generalize N % 100000 = r at hrem hr
  generalize N / 100000 = q at hquo hq
  have t1 : decide (n < 0) = false := decide_eq_false (by omega)
  have hsl := fun w => st_from Try.prog 9 (by kernel_rfl) (49 :: five r) 1 1 rfl (by simp) w
  rw [show (49 :: five r).drop 1 = five r from rfl] at hsl
  have hd5 := five_len r
  have ha1 : ∀ w : World, (Op.stringOp .add ⟨#[]⟩ (st (dec 19 q))).run Try.prog w = .ok (.string (st ([] ++ dec 19 q))) w := fun w => st_add [] _ (by have := dec_len 19 q; simp; omega) w
  have ha2 : ∀ w : World, (Op.stringOp .add (st ([] ++ dec 19 q)) ⟨#[46]⟩).run Try.prog w = .ok (.string (st ([] ++ dec 19 q ++ [46]))) w := fun w => st_add _ [46] (by have := dec_len 19 q; simp; omega) w
  have hal : ([] ++ dec 19 q ++ [46]).length ≤ 30 := by have := dec_len 19 q; simp; omega
  generalize hA : [] ++ dec 19 q = A at ha1 ha2
  have HA := hid hA
  generalize hB : A ++ [46] = B at ha2
  have HB := hid hB
  rw [hA, hB] at hal
  have HZ := hid hz
  clear e0 hA hB hN hz
  go_enter Try.func28, Try.ntmps28
  go_wp2_with (go_at_call 55; refine (digits_uv _ (100000 + r) (by simp) (by omega) _).mono ?_; rw [dec_five r hr]; rintro e w1 ⟨rfl, hb1⟩)
  go_loopw [7] (fun f wr => ∃ j : Nat, ∃ l : List UInt8, f = .string (st l) ∧ trim 5 (five r) = trim j l ∧ l.length ≤ j ∧ 1 ≤ l.length ∧ l.length ≤ 5 ∧ Below w.heap.size w wr) (fun f _ => szOf f)
  case atStart => exact ⟨5, five r, rfl, rfl, by omega, by omega, by omega, hb1⟩
  case round =>
    clear hb1 hsl hd5 hrem
    obtain ⟨j, l, rfl, htr, hj, hl1, hl5, hbel⟩ := hrel
    have hzl := st_size l
    by_cases hlt : 1 < l.length
    · have hz1 : ((l.length : Int) - 1) = ((l.length - 1 : Nat) : Int) := by omega
      have hix : ∀ w, (Instr.index 9 (.string (st l)) (.int .i64 ((l.length : Int) - 1))).run Try.prog w = .ok (.int .u8 (c8 (l.getD (l.length - 1) 0))) w := fun w => by rw [hz1]; exact st_at l (l.length - 1) (by omega) Try.prog 9 (by kernel_rfl) w
      have hsl := fun w => st_to Try.prog 9 (by kernel_rfl) l ((l.length : Int) - 1) (l.length - 1) hz1 (by omega) w
      obtain ⟨x, hx⟩ : ∃ x, x = l.getD (l.length - 1) 0 := ⟨_, rfl⟩
      rw [← hx] at hix
      cases h48 : (c8 x == 48) with
      | true =>
        obtain ⟨j', hj1, hj2⟩ := trim_step j l hlt hj x hx h48
        have HJ := hid (htr.trans hj1)
        have HX := hid hx
        clear hx htr hj1 hz1
        have htl : (l.take (l.length - 1)).length = l.length - 1 := by rw [List.length_take]; omega
        generalize hl' : l.take (l.length - 1) = l' at hsl htl HJ
        clear hl'
        go_wp2
        go_roundw
        case rel => exact ⟨j', l', rfl, HJ.out, by omega, by omega, by omega, hbel⟩
        case measure => show (st l').size < (st l).size; rw [st_size, st_size]; omega
      | false =>
        have hst := trim_stop j l (.inr (by rw [← hx]; exact h48))
        have HT := hid (htr.trans hst)
        have ha3 : ∀ w : World, (Op.stringOp .add (st B) (st l)).run Try.prog w = .ok (.string (st (B ++ l))) w := fun w => st_add B l (by omega) w
        have HX := hid hx
        clear hx htr hst hz1 hsl
        go_wp2_with (go_at_call 55; refine (digits_uv _ q (by omega) (by omega) _).mono ?_; rintro e w1 ⟨rfl, hb1⟩)
        go_ret
        exact ⟨by rw [HT.out]; rfl, below_then' hbel hb1 hbel.size⟩
    · have hst := trim_stop j l (.inl hlt)
      have HT := hid (htr.trans hst)
      have ha3 : ∀ w : World, (Op.stringOp .add (st B) (st l)).run Try.prog w = .ok (.string (st (B ++ l))) w := fun w => st_add B l (by omega) w
      have hne : ¬ (1 : Int) < (l.length : Int) := by omega
      clear htr hst
      go_wp2_with (go_at_call 55; refine (digits_uv _ q (by omega) (by omega) _).mono ?_; rintro e w1 ⟨rfl, hb1⟩)
      go_ret
      exact ⟨by rw [HT.out]; rfl, below_then' hbel hb1 hbel.size⟩

set_option maxHeartbeats 3200000 in
set_option maxRecDepth 100000 in
theorem text_neg_real (n : Int) (w : World) (h0 : n < 0) (h1 : -214748364799999 ≤ n) :
    Calls Try.prog 28 #[.int .i64 n, .bool false] w fun e w' => e = .returned (.string (st (pnum false n))) ∧ Below w.heap.size w w' := by
  obtain ⟨N, hN⟩ : ∃ N : Nat, N = n.natAbs := ⟨_, rfl⟩
  have e0 : pnum false n = ([45] ++ dec 19 (N / 100000)) ++ [46] ++ trim 5 (five (N % 100000)) := by unfold pnum prl; rw [if_neg (by decide), if_pos h0, hN]; simp
  have hz : -(n + 1) + 1 = (N : Int) := by omega
  have hrem : ∀ t, binOp .rem t (.int .u64 (-(n + 1) + 1)) (.int .u64 100000) = pure (.int .u64 ((N % 100000 : Nat) : Int)) := fun t => by rw [hz]; exact rem_any .u64 N 100000 (by decide) t
  have hquo : ∀ t, binOp .quo t (.int .u64 (-(n + 1) + 1)) (.int .u64 100000) = pure (.int .u64 ((N / 100000 : Nat) : Int)) := fun t => by rw [hz]; exact quo_u64 N 100000 (by decide) (by omega) t
  have hr : N % 100000 < 100000 := Nat.mod_lt _ (by decide)
  have hq : N / 100000 ≤ 2147483647 := by omega
  rw [e0]
  generalize N % 100000 = r at hrem hr
  generalize N / 100000 = q at hquo hq
  have t1 : decide (n < 0) = true := decide_eq_true h0
  have hsl := fun w => st_from Try.prog 9 (by kernel_rfl) (49 :: five r) 1 1 rfl (by simp) w
  rw [show (49 :: five r).drop 1 = five r from rfl] at hsl
  have hd5 := five_len r
  have ha1 : ∀ w : World, (Op.stringOp .add ⟨#[45]⟩ (st (dec 19 q))).run Try.prog w = .ok (.string (st ([45] ++ dec 19 q))) w := fun w => st_add [45] _ (by have := dec_len 19 q; simp; omega) w
  have ha2 : ∀ w : World, (Op.stringOp .add (st ([45] ++ dec 19 q)) ⟨#[46]⟩).run Try.prog w = .ok (.string (st ([45] ++ dec 19 q ++ [46]))) w := fun w => st_add _ [46] (by have := dec_len 19 q; simp; omega) w
  have hal : ([45] ++ dec 19 q ++ [46]).length ≤ 30 := by have := dec_len 19 q; simp; omega
  generalize hA : [45] ++ dec 19 q = A at ha1 ha2
  have HA := hid hA
  generalize hB : A ++ [46] = B at ha2
  have HB := hid hB
  rw [hA, hB] at hal
  have HZ := hid hz
  clear e0 hA hB hN hz
  go_enter Try.func28, Try.ntmps28
  go_wp2_with (go_at_call 55; refine (digits_uv _ (100000 + r) (by simp) (by omega) _).mono ?_; rw [dec_five r hr]; rintro e w1 ⟨rfl, hb1⟩)
  go_loopw [7] (fun f wr => ∃ j : Nat, ∃ l : List UInt8, f = .string (st l) ∧ trim 5 (five r) = trim j l ∧ l.length ≤ j ∧ 1 ≤ l.length ∧ l.length ≤ 5 ∧ Below w.heap.size w wr) (fun f _ => szOf f)
  case atStart => exact ⟨5, five r, rfl, rfl, by omega, by omega, by omega, hb1⟩
  case round =>
    clear hb1 hsl hd5 hrem
    obtain ⟨j, l, rfl, htr, hj, hl1, hl5, hbel⟩ := hrel
    have hzl := st_size l
    by_cases hlt : 1 < l.length
    · have hz1 : ((l.length : Int) - 1) = ((l.length - 1 : Nat) : Int) := by omega
      have hix : ∀ w, (Instr.index 9 (.string (st l)) (.int .i64 ((l.length : Int) - 1))).run Try.prog w = .ok (.int .u8 (c8 (l.getD (l.length - 1) 0))) w := fun w => by rw [hz1]; exact st_at l (l.length - 1) (by omega) Try.prog 9 (by kernel_rfl) w
      have hsl := fun w => st_to Try.prog 9 (by kernel_rfl) l ((l.length : Int) - 1) (l.length - 1) hz1 (by omega) w
      obtain ⟨x, hx⟩ : ∃ x, x = l.getD (l.length - 1) 0 := ⟨_, rfl⟩
      rw [← hx] at hix
      cases h48 : (c8 x == 48) with
      | true =>
        obtain ⟨j', hj1, hj2⟩ := trim_step j l hlt hj x hx h48
        have HJ := hid (htr.trans hj1)
        have HX := hid hx
        clear hx htr hj1 hz1
        have htl : (l.take (l.length - 1)).length = l.length - 1 := by rw [List.length_take]; omega
        generalize hl' : l.take (l.length - 1) = l' at hsl htl HJ
        clear hl'
        go_wp2
        go_roundw
        case rel => exact ⟨j', l', rfl, HJ.out, by omega, by omega, by omega, hbel⟩
        case measure => show (st l').size < (st l).size; rw [st_size, st_size]; omega
      | false =>
        have hst := trim_stop j l (.inr (by rw [← hx]; exact h48))
        have HT := hid (htr.trans hst)
        have ha3 : ∀ w : World, (Op.stringOp .add (st B) (st l)).run Try.prog w = .ok (.string (st (B ++ l))) w := fun w => st_add B l (by omega) w
        have HX := hid hx
        clear hx htr hst hz1 hsl
        go_wp2_with (go_at_call 55; refine (digits_uv _ q (by omega) (by omega) _).mono ?_; rintro e w1 ⟨rfl, hb1⟩)
        go_ret
        exact ⟨by rw [HT.out]; rfl, below_then' hbel hb1 hbel.size⟩
    · have hst := trim_stop j l (.inl hlt)
      have HT := hid (htr.trans hst)
      have ha3 : ∀ w : World, (Op.stringOp .add (st B) (st l)).run Try.prog w = .ok (.string (st (B ++ l))) w := fun w => st_add B l (by omega) w
      have hne : ¬ (1 : Int) < (l.length : Int) := by omega
      clear htr hst
      go_wp2_with (go_at_call 55; refine (digits_uv _ q (by omega) (by omega) _).mono ?_; rintro e w1 ⟨rfl, hb1⟩)
      go_ret
      exact ⟨by rw [HT.out]; rfl, below_then' hbel hb1 hbel.size⟩

theorem text_any (n : Int) (q : Bool) (w : World) (h0 : -214748364799999 ≤ n) (h1 : n ≤ 214748364799999) :
    Calls Try.prog 28 #[.int .i64 n, .bool q] w fun e w' => e = .returned (.string (st (pnum q n))) ∧ Below w.heap.size w w' := by
  by_cases hn : n < 0
  · cases q
    · exact text_neg_real n w hn h0
    · exact text_neg_whole n w hn h0
  · cases q
    · exact text_pos_real n w (by omega) h1
    · exact text_pos_whole n w (by omega) h1
end Go.Proofs.Ytlmgklebikcbjaa
