/-
  Plain laws of printed numbers: a number as it is printed is one token. No program here.
-/
import Derived.Test.YtjkoiknjffldjaaGreatDoorKLawFr
/-
  Plain laws of printed numbers: a number as it is printed is one token. No program here.
-/
namespace Go.Proofs.YtjkoiknjffldjaaGreatDoor
set_option linter.unusedVariables false

/-- five digits -/
def five (m : Nat) : List UInt8 := [dg1 (m / 10000), dg1 (m / 1000), dg1 (m / 100), dg1 (m / 10), dg1 m]

theorem dec_five (m : Nat) (h : m < 100000) : dec 19 (100000 + m) = 49 :: five m := by
  have e0 : (100000 + m) / 10 / 10 / 10 / 10 / 10 = 1 := by omega
  have e1 : ∀ k n : Nat, ¬ n < 10 → dec (k + 1) n = dec k (n / 10) ++ [dg1 n] := fun k n q => by rw [dec, if_neg q]
  rw [e1 18 _ (by omega), e1 17 _ (by omega), e1 16 _ (by omega), e1 15 _ (by omega), e1 14 _ (by omega), e0]
  have e2 : dec 14 1 = [49] := by decide
  rw [e2]
  have d : ∀ a b : Nat, a % 10 = b % 10 → dg1 a = dg1 b := fun a b q => by unfold dg1; rw [q]
  rw [d ((100000 + m) / 10 / 10 / 10 / 10) (m / 10000) (by omega), d ((100000 + m) / 10 / 10 / 10) (m / 1000) (by omega), d ((100000 + m) / 10 / 10) (m / 100) (by omega), d ((100000 + m) / 10) (m / 10) (by omega), d (100000 + m) m (by omega)]
  rfl

theorem five_isd (m : Nat) : ∀ x ∈ five m, isd (c8 x) = true := by
  intro x hx
  simp only [five, List.mem_cons, List.not_mem_nil, or_false] at hx
  rcases hx with rfl | rfl | rfl | rfl | rfl <;> exact dg1_isd _

theorem vl_five (m : Nat) (h : m < 100000) : vl (five m) 0 = m := by
  simp only [five, vl, dg1_nat]
  omega

theorem trim_sub : ∀ (k : Nat) (l : List UInt8), ∀ x ∈ trim k l, x ∈ l
  | 0, l, x, h => h
  | k + 1, l, x, h => by
    rw [trim] at h
    split at h
    · exact List.dropLast_subset _ (trim_sub k _ x h)
    · exact h

/-- a number with a point, as it is printed -/
def prl (n : Int) : List UInt8 := (if n < 0 then [45] else []) ++ (dec 19 (n.natAbs / 100000) ++ 46 :: trim 5 (five (n.natAbs % 100000)))

theorem np_sgn (n : Int) (d : List UInt8) (hd0 : isd (hd d) = true) : sgn ((if n < 0 then [45] else []) ++ d) = (if n < 0 then -1 else 1) ∧ uns ((if n < 0 then [45] else []) ++ d) = d := by
  rw [isd_iff] at hd0
  by_cases hn : n < 0
  · simp only [if_pos hn]
    rw [List.singleton_append]
    refine ⟨by unfold sgn; rw [hd_cons, if_pos (show c8 45 = 45 by decide)], by unfold uns; rw [if_pos (.inr (show c8 45 = 45 by decide))]; rfl⟩
  · simp only [if_neg hn]
    rw [List.nil_append]
    exact ⟨by unfold sgn; rw [if_neg (by omega)], by unfold uns; rw [if_neg (by omega)]⟩

theorem np_prl (n : Int) (h : -214748364799999 ≤ n) (h' : n ≤ 214748364799999) : np (prl n) = (n, false, 0) := by
  have hq : n.natAbs / 100000 ≤ 2147483647 := by omega
  have hv := vl_dec 19 (n.natAbs / 100000) (by omega)
  have hlen : 0 < (dec 19 (n.natAbs / 100000)).length := List.length_pos_iff.2 (dec_ne _ _)
  have hf : fr 5 (trim 5 (five (n.natAbs % 100000))) 0 = n.natAbs % 100000 := by
    rw [fr_trim 5 _ 0 (by simp [five]), fr_eq]
    have : (five (n.natAbs % 100000)).length = 5 := rfl
    rw [List.take_of_length_le (by omega), vl_five _ (Nat.mod_lt _ (by decide)), this]
    simp
  have hdf : dgs (trim 5 (five (n.natAbs % 100000))) = (trim 5 (five (n.natAbs % 100000))).length := by
    have := dgs_all (trim 5 (five (n.natAbs % 100000))) [] (fun x hx => five_isd _ x (trim_sub _ _ x hx)) (by decide)
    rwa [List.append_nil] at this
  obtain ⟨s1, s2⟩ := np_sgn n (dec 19 (n.natAbs / 100000) ++ 46 :: trim 5 (five (n.natAbs % 100000))) (hd_dec 19 _ _)
  have e : prl n = (if n < 0 then [45] else []) ++ (dec 19 (n.natAbs / 100000) ++ 46 :: trim 5 (five (n.natAbs % 100000))) := rfl
  rw [e]
  generalize trim 5 (five (n.natAbs % 100000)) = F at hf hdf s1 s2 ⊢
  have hds := dgs_all (dec 19 (n.natAbs / 100000)) (46 :: F) (dec_isd 19 _) (by show ¬ isd (c8 46) = true; decide)
  unfold np
  rw [s1, s2, hds, List.take_left, List.drop_left, numb, if_pos ⟨by decide, hdf, by omega⟩, hv, if_neg (by omega), hf]
  by_cases hn : n < 0
  · rw [if_pos hn]; congr 1; omega
  · rw [if_neg hn]; congr 1; omega

theorem isd_rg {c : Int} (h : isd c = true) : rg c = true := by
  rw [isd_iff] at h
  have : c = 48 ∨ c = 49 ∨ c = 50 ∨ c = 51 ∨ c = 52 ∨ c = 53 ∨ c = 54 ∨ c = 55 ∨ c = 56 ∨ c = 57 := by omega
  rcases this with rfl | rfl | rfl | rfl | rfl | rfl | rfl | rfl | rfl | rfl <;> decide

/-- a number as it is printed -/
def pnum (q : Bool) (n : Int) : List UInt8 := if q = true then pwh n else prl n

theorem pnum_rg (q : Bool) (n : Int) : ∀ y ∈ pnum q n, rg (c8 y) = true := by
  have h45 : rg (c8 45) = true := by decide
  have h46 : rg (c8 46) = true := by decide
  have hs : ∀ y ∈ (if n < 0 then ([45] : List UInt8) else []), rg (c8 y) = true := by
    intro y hy
    split at hy
    · simp at hy; rw [hy]; exact h45
    · simp at hy
  intro y hy
  unfold pnum at hy
  split at hy
  · unfold pwh at hy
    rw [List.mem_append] at hy
    rcases hy with hy | hy
    · exact hs y hy
    · exact isd_rg (dec_isd _ _ y hy)
  · unfold prl at hy
    rw [List.mem_append, List.mem_append, List.mem_cons] at hy
    rcases hy with hy | hy | rfl | hy
    · exact hs y hy
    · exact isd_rg (dec_isd _ _ y hy)
    · exact h46
    · exact isd_rg (five_isd _ y (trim_sub _ _ y hy))

theorem pnum_hd (q : Bool) (n : Int) : ∃ x t, pnum q n = x :: t ∧ (c8 x = 43 ∨ c8 x = 45 ∨ c8 x = 46 ∨ 48 ≤ c8 x ∧ c8 x ≤ 57) := by
  have key : ∀ (k m : Nat) (r : List UInt8), ∃ x t, (if n < 0 then ([45] : List UInt8) else []) ++ (dec k m ++ r) = x :: t ∧ (c8 x = 43 ∨ c8 x = 45 ∨ c8 x = 46 ∨ 48 ≤ c8 x ∧ c8 x ≤ 57) := fun k m r => by
    by_cases hn : n < 0
    · rw [if_pos hn]; exact ⟨45, dec k m ++ r, rfl, .inr (.inl (by decide))⟩
    · rw [if_neg hn, List.nil_append]
      have hd1 := hd_dec k m r
      cases hq : dec k m ++ r with
      | nil => rw [hq] at hd1; exact absurd hd1 (by decide)
      | cons x t => rw [hq, hd_cons, isd_iff] at hd1; exact ⟨x, t, rfl, .inr (.inr (.inr hd1))⟩
  unfold pnum
  split
  · have := key 19 n.natAbs []
    rw [List.append_nil] at this
    exact this
  · exact key _ _ _

theorem TK_pnum (q : Bool) (n : Int) (r : List UInt8) (h : -214748364799999 ≤ n) (h' : n ≤ 214748364799999) (hq : q = true → -2147483647 ≤ n ∧ n ≤ 2147483647) (hr : rg (hd r) = false) : TK (pnum q n ++ r) = .tok (if q = true then 1 else 2) n [] r ∧ bl (pnum q n ++ r) false = 0 := by
  have hp : np (pnum q n) = (n, q, 0) := by
    unfold pnum
    cases q with
    | true => exact np_pwh n (hq rfl).1 (hq rfl).2
    | false => exact np_prl n h h'
  have ha := pnum_rg q n
  obtain ⟨x, t, he, hx⟩ := pnum_hd q n
  rw [he] at hp ha ⊢
  have hb : bl (x :: t ++ r) false = 0 := by
    have hw : ¬ wh (c8 x) = true := by unfold wh; simp only [Bool.or_eq_true, beq_iff_eq]; omega
    rw [List.cons_append, bl, if_neg hw, if_neg (by omega)]
  have h1 := tk_run x t r ha hr hx
  rw [hp] at h1
  have e : tk (x :: t ++ r) = numT (x :: t ++ r) := by
    rw [List.cons_append, tk, if_neg (by omega), if_neg (by omega), if_neg (by omega), if_neg (by omega), if_neg (by omega), if_neg (by omega), if_neg (by omega), if_pos hx]
  refine ⟨?_, hb⟩
  unfold TK
  rw [hb, List.drop_zero, e, h1]
  rfl
end Go.Proofs.YtjkoiknjffldjaaGreatDoor
