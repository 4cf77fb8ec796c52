/-
  Plain laws of blanks between tokens: gaps are passed, the words of LexBlanks are read whatever stands behind them. No program here.
-/
import Derived.Test.YtjkoiknjffldjaaGreatDoorJa
/-
  Plain laws of blanks between tokens: gaps are passed, the words of LexBlanks are read whatever stands behind them. No program here.
-/
namespace Go.Proofs.YtjkoiknjffldjaaGreatDoor
set_option linter.unusedVariables false

/-- the gaps of LexBlanks -/
def gps : Nat → List UInt8
  | 0 => [32]
  | 1 => [10]
  | 2 => [0]
  | 3 => [37, 99, 13]
  | 4 => [32, 37, 37, 10, 32]
  | 5 => [9, 12]
  | 6 => [13, 10]
  | _ => [32, 32]
/-- its words -/
def wds : Nat → List UInt8
  | 0 => [47, 65]
  | 1 => [40, 120, 41]
  | 2 => [60, 52, 49, 62]
  | 3 => [91]
  | 4 => [93]
  | 5 => [60, 60]
  | 6 => [62, 62]
  | 7 => [49, 50]
  | 8 => [45, 46, 53]
  | 9 => [111, 98, 106]
  | _ => [116, 114, 117, 101]

theorem bl_gps (k : Nat) (s : List UInt8) : bl (gps k ++ s) false = (gps k).length + bl s false := by
  rcases k with _ | _ | _ | _ | _ | _ | _ | k <;> simp [gps, bl, wh, c8] <;> omega

/-- a token, and what stands behind it -/
def TRes.with : TRes → List UInt8 → TRes
  | .bad e, _ => .bad e
  | .tok k n out _, r => .tok k n out r

theorem rn_stop' {r : List UInt8} (hr : rg (hd r) = false) : rn r = 0 := by
  cases r with
  | nil => rfl
  | cons x t => rw [rn, if_neg (by rw [hd_cons] at hr; simp [hr])]

theorem rn_app : ∀ (a r : List UInt8), (∀ x ∈ a, rg (c8 x) = true) → rg (hd r) = false → rn (a ++ r) = a.length
  | [], r, _, hr => rn_stop' hr
  | x :: a, r, h, hr => by
    rw [List.cons_append, rn, if_pos (h x (by simp)), rn_app a r (fun y hy => h y (by simp [hy])) hr, List.length_cons]; omega

theorem tk_run (x : UInt8) (a r : List UInt8) (h : ∀ y ∈ x :: a, rg (c8 y) = true) (hr : rg (hd r) = false) (hn : c8 x = 43 ∨ c8 x = 45 ∨ c8 x = 46 ∨ 48 ≤ c8 x ∧ c8 x ≤ 57) : numT (x :: a ++ r) = if (np (x :: a)).2.2 = 0 then .tok (if (np (x :: a)).2.1 = true then 1 else 2) (np (x :: a)).1 [] r else .bad (np (x :: a)).2.2 := by
  unfold numT
  rw [rn_app (x :: a) r h hr, List.take_left, List.drop_left]

theorem tk_wds (k : Nat) (r : List UInt8) (hr : rg (hd r) = false) : tk (wds k ++ r) = (tk (wds k)).with r := by
  have hw : ∀ a : List UInt8, (∀ x ∈ a, rg (c8 x) = true) → rn (a ++ r) = a.length := fun a h => rn_app a r h hr
  have b1 : ∀ x ∈ ([49, 50] : List UInt8), rg (c8 x) = true := by decide
  have b2 : ∀ x ∈ ([45, 46, 53] : List UInt8), rg (c8 x) = true := by decide
  have b3 : ∀ x ∈ ([111, 98, 106] : List UInt8), rg (c8 x) = true := by decide
  have b4 : ∀ x ∈ ([116, 114, 117, 101] : List UInt8), rg (c8 x) = true := by decide
  rcases k with _ | _ | _ | _ | _ | _ | _ | _ | _ | _ | k
  · have := tk_pnm [65] r (by decide) (by decide) hr
    exact this
  · have := tk_ptx [120] r (by decide)
    exact this
  · have h1 := hx_print [65] r [] (by decide)
    have e : tk (60 :: (dgts [65] ++ 62 :: r)) = wrp 3 (hx (dgts [65] ++ 62 :: r) (-1) []) := by
      have hh := dgts_hd [65] (62 :: r) (show ¬ c8 62 = 60 by decide)
      simp [tk, c8, hh]
    rw [h1] at e
    exact e
  · rfl
  · rfl
  · rfl
  · rfl
  · have h1 := tk_run 49 [50] r b1 hr (by decide)
    have e : tk (49 :: 50 :: r) = numT (49 :: 50 :: r) := by simp [tk, c8]
    exact e.trans h1
  · have h1 := tk_run 45 [46, 53] r b2 hr (by decide)
    have e : tk (45 :: 46 :: 53 :: r) = numT (45 :: 46 :: 53 :: r) := by simp [tk, c8]
    exact e.trans h1
  · have h1 := hw _ b3
    have e : tk ([111, 98, 106] ++ r) = .tok 9 0 (([111, 98, 106] ++ r).take (rn ([111, 98, 106] ++ r))) (([111, 98, 106] ++ r).drop (rn ([111, 98, 106] ++ r))) := by
      have hq : ¬ 127 < rn ([111, 98, 106] ++ r) := by rw [h1]; decide
      have hrg : rg (c8 111) = true := by decide
      rw [List.cons_append] at hq ⊢
      simp only [tk]
      rw [if_neg (by decide), if_neg (by decide), if_neg (fun q => absurd q.1 (by decide)), if_neg (fun q => absurd q.1 (by decide)), if_neg (by decide), if_neg (by decide), if_neg (by decide), if_neg (by decide), if_pos hrg, if_neg hq]
    rw [h1, List.take_left, List.drop_left] at e
    exact e
  · have h1 := hw _ b4
    have e : tk ([116, 114, 117, 101] ++ r) = .tok 9 0 (([116, 114, 117, 101] ++ r).take (rn ([116, 114, 117, 101] ++ r))) (([116, 114, 117, 101] ++ r).drop (rn ([116, 114, 117, 101] ++ r))) := by
      have hq : ¬ 127 < rn ([116, 114, 117, 101] ++ r) := by rw [h1]; decide
      have hrg : rg (c8 116) = true := by decide
      rw [List.cons_append] at hq ⊢
      simp only [tk]
      rw [if_neg (by decide), if_neg (by decide), if_neg (fun q => absurd q.1 (by decide)), if_neg (fun q => absurd q.1 (by decide)), if_neg (by decide), if_neg (by decide), if_neg (by decide), if_neg (by decide), if_pos hrg, if_neg hq]
    rw [h1, List.take_left, List.drop_left] at e
    exact e
end Go.Proofs.YtjkoiknjffldjaaGreatDoor
