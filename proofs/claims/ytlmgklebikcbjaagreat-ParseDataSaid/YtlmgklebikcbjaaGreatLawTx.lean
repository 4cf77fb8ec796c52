/-
  Plain laws of strings, names, tokens: what is written is read. No program here.
-/
import Derived.Test.YtlmgklebikcbjaaGreatTok
namespace Go.Proofs.YtlmgklebikcbjaaGreat
set_option linter.unusedVariables false

/-- the parts of a string in LexTexts, and what they stand for -/
def pcs : Nat → List UInt8 × List UInt8
  | 0 => ([92, 110], [10])
  | 1 => ([92, 40], [40])
  | 2 => ([92, 41], [41])
  | 3 => ([92, 92], [92])
  | 4 => ([92, 13, 10], [])
  | 5 => ([13, 10], [10])
  | 6 => ([92, 49, 48, 49], [65])
  | 7 => ([92, 48, 53, 51, 56], [43, 56])
  | 8 => ([40, 97, 40, 98, 41, 41], [40, 97, 40, 98, 41, 41])
  | 9 => ([92, 113], [113])
  | 10 => ([92, 53, 48, 48], [64])
  | 11 => ([92, 116, 92, 98, 92, 102, 92, 114], [9, 8, 12, 13])
  | 12 => ([92, 55, 120], [7, 120])
  | _ => ([97, 98, 99, 37, 60, 62], [97, 98, 99, 37, 60, 62])

theorem TX_pcs (k : Nat) (r out : List UInt8) (o : Nat) (ho : 1 ≤ o) (hl : out.length + 8 ≤ 32767) : TX ((pcs k).1 ++ r) o out = TX r o (out ++ (pcs k).2) := by
  have h1 : ¬ 32767 ≤ out.length := by omega
  have h2 : ¬ 32767 ≤ out.length + 1 := by omega
  have h3 : ¬ 32767 ≤ out.length + 1 + 1 := by omega
  have h4 : ¬ 32767 ≤ out.length + 1 + 1 + 1 := by omega
  have h5 : ¬ 32767 ≤ out.length + 1 + 1 + 1 + 1 := by omega
  have h6 : ¬ 32767 ≤ out.length + 1 + 1 + 1 + 1 + 1 := by omega
  have ho0 : ¬ o = 0 := by omega
  rcases k with _ | _ | _ | _ | _ | _ | _ | _ | _ | _ | _ | _ | _ | k
  all_goals
    simp [pcs, TX_cons, es, oc, sk, hd, c8, byteOf, h1, h2, h3, h4, h5, h6, ho0]

/-- parts in a row -/
theorem TX_row : ∀ (ks : List Nat) (r out : List UInt8), out.length + 8 * ks.length ≤ 32767 → TX ((ks.flatMap fun k => (pcs k).1) ++ r) 1 out = TX r 1 (out ++ ks.flatMap fun k => (pcs k).2)
  | [], r, out, h => by simp
  | k :: ks, r, out, h => by
    rw [List.length_cons] at h
    have hp : ((pcs k).2).length ≤ 6 := by
      rcases k with _ | _ | _ | _ | _ | _ | _ | _ | _ | _ | _ | _ | _ | k <;> simp [pcs]
    rw [List.flatMap_cons, List.flatMap_cons, List.append_assoc, TX_pcs k _ out 1 (Nat.le_refl _) (by omega), TX_row ks r _ (by rw [List.length_append]; omega), List.append_assoc]

/-- a string of such parts, between its brackets -/
theorem tk_parts (ks : List Nat) (r : List UInt8) (h : ks.length ≤ 60) : tk (40 :: ((ks.flatMap fun k => (pcs k).1) ++ 41 :: r)) = .tok 3 0 (ks.flatMap fun k => (pcs k).2) r := by
  have h1 := TX_row ks (41 :: r) [] (by simp; omega)
  have e : ∀ t : List UInt8, tk (40 :: t) = wrp 3 (TX t 1 []) := fun t => by simp [tk, c8]
  rw [e, h1, TX_cons]
  simp [c8, wrp]
/-- .. without the end -/
theorem tk_short (ks : List Nat) (h : ks.length ≤ 60) : tk (40 :: (ks.flatMap fun k => (pcs k).1)) = .bad 2 := by
  have h1 := TX_row ks [] [] (by simp; omega)
  rw [List.append_nil] at h1
  have e : ∀ t : List UInt8, tk (40 :: t) = wrp 3 (TX t 1 []) := fun t => by simp [tk, c8]
  rw [e, h1, TX_nil]; rfl
end Go.Proofs.YtlmgklebikcbjaaGreat
