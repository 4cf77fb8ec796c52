/-
  Plain laws of LexBlanks: words with gaps ahead of each, a token for each. No program here.
-/
import Derived.Test.YtlmgklebikcbjaaLawNum
namespace Go.Proofs.Ytlmgklebikcbjaa
set_option linter.unusedVariables false

def gapAt (gs : List UInt8) (i : Nat) : List UInt8 := if i < gs.length then gps ((gs.getD i 0).toNat % 8) else [32]
def wdAt (ws : List UInt8) (i : Nat) : List UInt8 := wds ((ws.getD i 0).toNat % 11)
def segAt (ws gs : List UInt8) (i : Nat) : List UInt8 := gapAt gs i ++ wdAt ws i
/-- n pieces from number i on -/
def sgx (f : Nat → List UInt8) : Nat → Nat → List UInt8
  | _, 0 => []
  | i, n + 1 => f i ++ sgx f (i + 1) n
theorem sgx_snoc (f : Nat → List UInt8) : ∀ (n i : Nat), sgx f i (n + 1) = sgx f i n ++ f (i + n)
  | 0, i => by simp [sgx]
  | n + 1, i => by
    rw [sgx, sgx_snoc f n (i + 1), sgx, List.append_assoc, show i + 1 + n = i + (n + 1) by omega]
theorem sgx_split (f : Nat → List UInt8) (n : Nat) : ∀ (k : Nat), k ≤ n → sgx f 0 n = sgx f 0 k ++ sgx f k (n - k)
  | 0, _ => by simp [sgx]
  | k + 1, h => by
    rw [sgx_split f n k (by omega), sgx_snoc f k 0, List.append_assoc, Nat.zero_add]
    congr 1
    rw [show n - k = (n - (k + 1)) + 1 by omega, sgx]
theorem gps_facts (k : Nat) (hk : k < 8) : (gps k).length ≤ 5 ∧ ∃ x t, gps k = x :: t ∧ rg (c8 x) = false := by
  obtain rfl | rfl | rfl | rfl | rfl | rfl | rfl | rfl : k = 0 ∨ k = 1 ∨ k = 2 ∨ k = 3 ∨ k = 4 ∨ k = 5 ∨ k = 6 ∨ k = 7 := by omega
  all_goals exact ⟨by decide, _, _, rfl, by decide⟩
theorem wds_facts (k : Nat) (hk : k < 11) : (wds k).length ≤ 4 ∧ ∃ kd n out, ∀ r : List UInt8, rg (hd r) = false → bl (wds k ++ r) false = 0 ∧ TK (wds k ++ r) = .tok kd n out r := by
  have key : ∀ (kd n : Int) (out : List UInt8) (x : UInt8) (t : List UInt8), wds k = x :: t → wh (c8 x) = false → ¬ c8 x = 37 → tk (wds k) = .tok kd n out [] → ∀ r : List UInt8, rg (hd r) = false → bl (wds k ++ r) false = 0 ∧ TK (wds k ++ r) = .tok kd n out r := by
    intro kd n out x t e h1 h2 h3 r hr
    have h4 := tk_wds k r hr
    rw [h3] at h4
    have hb : bl (wds k ++ r) false = 0 := by rw [e, List.cons_append, bl, if_neg (by rw [h1]; decide), if_neg h2]
    exact ⟨hb, by unfold TK; rw [hb]; exact h4⟩
  obtain rfl | rfl | rfl | rfl | rfl | rfl | rfl | rfl | rfl | rfl | rfl : k = 0 ∨ k = 1 ∨ k = 2 ∨ k = 3 ∨ k = 4 ∨ k = 5 ∨ k = 6 ∨ k = 7 ∨ k = 8 ∨ k = 9 ∨ k = 10 := by omega
  · exact ⟨by decide, _, _, _, key 4 0 [65] _ _ rfl (by decide) (by decide) (by decide +kernel)⟩
  · exact ⟨by decide, _, _, _, key 3 0 [120] _ _ rfl (by decide) (by decide) (by decide +kernel)⟩
  · exact ⟨by decide, _, _, _, key 3 0 [65] _ _ rfl (by decide) (by decide) (by decide +kernel)⟩
  · exact ⟨by decide, _, _, _, key 5 0 [] _ _ rfl (by decide) (by decide) (by decide +kernel)⟩
  · exact ⟨by decide, _, _, _, key 6 0 [] _ _ rfl (by decide) (by decide) (by decide +kernel)⟩
  · exact ⟨by decide, _, _, _, key 7 0 [] _ _ rfl (by decide) (by decide) (by decide +kernel)⟩
  · exact ⟨by decide, _, _, _, key 8 0 [] _ _ rfl (by decide) (by decide) (by decide +kernel)⟩
  · exact ⟨by decide, _, _, _, key 1 12 [] _ _ rfl (by decide) (by decide) (by decide +kernel)⟩
  · exact ⟨by decide, _, _, _, key 2 (-50000) [] _ _ rfl (by decide) (by decide) (by decide +kernel)⟩
  · exact ⟨by decide, _, _, _, key 9 0 [111, 98, 106] _ _ rfl (by decide) (by decide) (by decide +kernel)⟩
  · exact ⟨by decide, _, _, _, key 9 0 [116, 114, 117, 101] _ _ rfl (by decide) (by decide) (by decide +kernel)⟩
theorem gapAt_is (gs : List UInt8) (i : Nat) : ∃ k, k < 8 ∧ gapAt gs i = gps k := by
  unfold gapAt
  split
  · exact ⟨_, Nat.mod_lt _ (by decide), rfl⟩
  · exact ⟨0, by decide, rfl⟩
theorem seg_len (ws gs : List UInt8) (i : Nat) : (segAt ws gs i).length ≤ 9 := by
  obtain ⟨k, hk, e⟩ := gapAt_is gs i
  have h1 := (gps_facts k hk).1
  have h2 := (wds_facts _ (Nat.mod_lt (ws.getD i 0).toNat (show 0 < 11 by decide))).1
  unfold segAt wdAt
  rw [List.length_append, e]
  omega
theorem sgx_len (f : Nat → List UInt8) (hf : ∀ i, (f i).length ≤ 9) : ∀ n i, (sgx f i n).length ≤ 9 * n
  | 0, i => by simp [sgx]
  | n + 1, i => by have := sgx_len f hf n (i + 1); have := hf i; rw [sgx, List.length_append]; omega
theorem sgx_hd (ws gs : List UInt8) (i n : Nat) : rg (hd (sgx (segAt ws gs) i n ++ [10])) = false := by
  cases n with
  | zero => show rg (c8 10) = false; decide
  | succ n =>
    obtain ⟨k, hk, e⟩ := gapAt_is gs i
    obtain ⟨_, x, t, e2, h2⟩ := gps_facts k hk
    rw [sgx, segAt, e, e2]
    exact h2
theorem TK_seg (ws gs : List UInt8) (i : Nat) : (wdAt ws i).length ≤ 4 ∧ ∃ kd n out, (∀ r : List UInt8, rg (hd r) = false → bl (segAt ws gs i ++ r) false = (gapAt gs i).length ∧ TK (segAt ws gs i ++ r) = .tok kd n out r) ∧ TK (wdAt ws i) = .tok kd n out [] ∧ bl (wdAt ws i) false = 0 := by
  obtain ⟨h1, kd, n, out, h2⟩ := wds_facts _ (Nat.mod_lt (ws.getD i 0).toNat (show 0 < 11 by decide))
  obtain ⟨k, hk, e⟩ := gapAt_is gs i
  refine ⟨h1, kd, n, out, fun r hr => ?_, ?_, ?_⟩
  · obtain ⟨a1, a2⟩ := h2 r hr
    unfold segAt
    rw [e, List.append_assoc]
    have hb := bl_gps k (wdAt ws i ++ r)
    have a1' : bl (wdAt ws i ++ r) false = 0 := a1
    rw [a1', Nat.add_zero] at hb
    refine ⟨hb, ?_⟩
    unfold TK
    rw [hb, List.drop_left]
    have a2' : TK (wdAt ws i ++ r) = .tok kd n out r := a2
    unfold TK at a2'
    rw [a1', List.drop_zero] at a2'
    exact a2'
  · have := (h2 [] (by decide)).2; rwa [List.append_nil] at this
  · have := (h2 [] (by decide)).1; rwa [List.append_nil] at this
end Go.Proofs.Ytlmgklebikcbjaa
