/-
  Plain: errors are no noughts; a token takes at least a byte, but the end. No program here.
-/
import Derived.Test.YtlmgklebikcbjaaGreatTokL
namespace Go.Proofs.YtlmgklebikcbjaaGreat
set_option linter.unusedVariables false

/-- an error there is; what stands behind is no longer than s -/
def Res.fit (n : Nat) : Res → Prop
  | .bad x => x = 2 ∨ x = 3 ∨ x = 4
  | .ok out rest => rest.length ≤ n

theorem Res.fit_up {r : Res} {n m : Nat} (h : r.fit n) (hm : n ≤ m) : r.fit m := by
  cases r with
  | bad x => exact h
  | ok out rest => exact Nat.le_trans h hm

theorem fit_ite {c : Prop} [Decidable c] {a b : Res} {n : Nat} (ha : a.fit n) (hb : b.fit n) : (if c then a else b).fit n := by split <;> assumption

theorem nm_fit : ∀ (k : Nat) (s out : List UInt8), s.length ≤ k → (nm s out).fit s.length
  | k, [], out, _ => Nat.le_refl _
  | 0, x :: s, out, h => by simp at h
  | k + 1, x :: s, out, h => by
    rw [List.length_cons] at h
    rw [nm_cons]
    refine fit_ite (fit_ite (fit_ite (.inr (.inr rfl)) (fit_ite (.inr (.inl rfl)) ?_)) (fit_ite (.inr (.inl rfl)) ?_)) (Nat.le_refl _)
    · exact Res.fit_up (nm_fit k (s.drop 2) _ (by rw [List.length_drop]; omega)) (by rw [List.length_drop, List.length_cons]; omega)
    · exact Res.fit_up (nm_fit k s _ (by omega)) (by rw [List.length_cons]; omega)

theorem TX_fit : ∀ (k : Nat) (s : List UInt8) (o : Nat) (out : List UInt8), s.length ≤ k → (TX s o out).fit s.length
  | k, [], o, out, _ => .inl rfl
  | 0, x :: s, o, out, h => by simp at h
  | k + 1, x :: s, o, out, h => by
    rw [List.length_cons] at h
    have h1 := sk_len s
    have h2 := es_len (hd s) s.tail
    rw [List.length_tail] at h2
    have ih := fun s' o' out' (hs : List.length s' ≤ s.length) => Res.fit_up (m := (x :: s).length) (TX_fit k s' o' out' (by omega)) (by rw [List.length_cons]; omega)
    rw [TX_cons]
    refine fit_ite (fit_ite (.inl rfl) (fit_ite (ih _ _ _ (by omega)) (fit_ite (.inr (.inl rfl)) (ih _ _ _ (by omega))))) (fit_ite (show s.length ≤ (x :: s).length by simp) (fit_ite (.inr (.inl rfl)) (fit_ite (ih _ _ _ (Nat.le_refl _)) (fit_ite (ih _ _ _ (by omega)) (ih _ _ _ (Nat.le_refl _))))))

theorem hx_fit : ∀ (s : List UInt8) (g : Int) (out : List UInt8), (hx s g out).fit s.length
  | [], g, out => .inl rfl
  | x :: s, g, out => by
    have ih := fun g out => Res.fit_up (m := (x :: s).length) (hx_fit s g out) (by rw [List.length_cons]; omega)
    rw [hx]
    refine fit_ite (ih _ _) (fit_ite (fit_ite (show s.length ≤ (x :: s).length by simp) (fit_ite (.inr (.inl rfl)) (show s.length ≤ (x :: s).length by simp))) (fit_ite (.inr (.inr rfl)) (fit_ite (ih _ _) (fit_ite (.inr (.inl rfl)) (ih _ _)))))

/-- a token: an error; or at least a byte, and no end -/
def TRes.fit (n : Nat) : TRes → Prop
  | .bad x => (x == 0) = false ∧ ∃ k : Nat, x = k ∧ k ≤ 100
  | .tok k _ _ rest => (k == 0) = false ∧ rest.length < n

theorem tfit_ite {c : Prop} [Decidable c] {a b : TRes} {n : Nat} (ha : a.fit n) (hb : b.fit n) : (if c then a else b).fit n := by split <;> assumption
theorem wrp_fit {k : Int} {r : Res} {n m : Nat} (h : r.fit n) (hk : (k == 0) = false) (hm : n < m) : (wrp k r).fit m := by
  cases r with
  | bad x => rcases h with rfl | rfl | rfl; exact ⟨by decide, 2, rfl, by decide⟩; exact ⟨by decide, 3, rfl, by decide⟩; exact ⟨by decide, 4, rfl, by decide⟩
  | ok out rest => exact ⟨hk, Nat.lt_of_le_of_lt h hm⟩

theorem numb_err (g : Int) (a r : List UInt8) : (numb g a r).2.2 = 0 ∨ (numb g a r).2.2 = 4 ∨ (numb g a r).2.2 = 5 := by
  unfold numb
  cases r with
  | nil => simp only []; split; · simp
           split <;> simp
  | cons x f => simp only []; split; · split <;> simp
                simp

theorem rn_pos {x : UInt8} {t : List UInt8} (h : rg (c8 x) = true) : 0 < rn (x :: t) := by rw [rn, if_pos h]; omega
theorem drop_lt {x : UInt8} {t : List UInt8} {n : Nat} (h : 0 < n) : ((x :: t).drop n).length < (x :: t).length := by rw [List.length_drop, List.length_cons]; omega

theorem rg_num {c : Int} (h : c = 43 ∨ c = 45 ∨ c = 46 ∨ 48 ≤ c ∧ c ≤ 57) : rg c = true := by
  rcases h with rfl | rfl | rfl | h
  · decide
  · decide
  · decide
  · have : c = 48 ∨ c = 49 ∨ c = 50 ∨ c = 51 ∨ c = 52 ∨ c = 53 ∨ c = 54 ∨ c = 55 ∨ c = 56 ∨ c = 57 := by omega
    rcases this with rfl | rfl | rfl | rfl | rfl | rfl | rfl | rfl | rfl | rfl <;> decide

theorem tk_fit (x : UInt8) (t : List UInt8) : (tk (x :: t)).fit (x :: t).length := by
  have hn := nm_fit _ t [] (Nat.le_refl _)
  have ht := TX_fit _ t 1 [] (Nat.le_refl _)
  have hh := hx_fit t (-1) []
  have hl : t.length < (x :: t).length := by simp
  have hl2 : t.tail.length < (x :: t).length := by simp; omega
  rw [tk]
  refine tfit_ite ⟨by decide, hl⟩ (tfit_ite ⟨by decide, hl⟩ (tfit_ite ⟨by decide, hl2⟩ (tfit_ite ⟨by decide, hl2⟩ (tfit_ite (wrp_fit hn (by decide) hl) (tfit_ite (wrp_fit ht (by decide) hl) (tfit_ite (wrp_fit hh (by decide) hl) ?_))))))
  by_cases hc : c8 x = 43 ∨ c8 x = 45 ∨ c8 x = 46 ∨ 48 ≤ c8 x ∧ c8 x ≤ 57
  · rw [if_pos hc]
    unfold numT
    by_cases he : (np ((x :: t).take (rn (x :: t)))).2.2 = 0
    · rw [if_pos he]
      refine ⟨?_, drop_lt (rn_pos (rg_num hc))⟩
      split <;> decide
    · rw [if_neg he]
      unfold np at he ⊢
      rcases numb_err (sgn ((x :: t).take (rn (x :: t)))) ((uns ((x :: t).take (rn (x :: t)))).take (dgs (uns ((x :: t).take (rn (x :: t)))))) ((uns ((x :: t).take (rn (x :: t)))).drop (dgs (uns ((x :: t).take (rn (x :: t)))))) with q | q | q
      · exact absurd q he
      · rw [q]; exact ⟨by decide, 4, rfl, by decide⟩
      · rw [q]; exact ⟨by decide, 5, rfl, by decide⟩
  · rw [if_neg hc]
    by_cases hr : rg (c8 x) = true
    · rw [if_pos hr]
      exact tfit_ite ⟨by decide, 3, rfl, by decide⟩ ⟨by decide, drop_lt (rn_pos hr)⟩
    · rw [if_neg hr]; exact ⟨by decide, 4, rfl, by decide⟩

theorem tk_good (s : List UInt8) : (tk s).good := by
  cases s with
  | nil => trivial
  | cons x t =>
    have h := tk_fit x t
    cases hq : tk (x :: t) with
    | bad e => rw [hq] at h; exact h
    | tok k n out rest => trivial
theorem TK_good (s : List UInt8) : (TK s).good := tk_good _
/-- the end, or at least a byte -/
theorem TK_fit (s : List UInt8) : TK s = .tok 0 0 [] [] ∨ (TK s).fit s.length := by
  unfold TK
  cases hq : s.drop (bl s false) with
  | nil => exact .inl rfl
  | cons x t =>
    have h := tk_fit x t
    have hl : (x :: t).length ≤ s.length := by rw [← hq, List.length_drop]; omega
    right
    cases hz : tk (x :: t) with
    | bad e => rw [hz] at h; exact h
    | tok k n out rest => rw [hz] at h; exact ⟨h.1, Nat.lt_of_lt_of_le h.2 hl⟩
end Go.Proofs.YtlmgklebikcbjaaGreat
