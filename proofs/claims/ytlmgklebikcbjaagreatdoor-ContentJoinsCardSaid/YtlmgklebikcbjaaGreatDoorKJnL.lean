/-
  The plain law of ContentJoins: two contents with an end of line between have the operators of both. No program here.
-/
import Derived.Test.YtlmgklebikcbjaaGreatDoorKCal
import Derived.Test.YtlmgklebikcbjaaGreatDoorJc
/-
  The plain law of ContentJoins: two contents with an end of line between have the operators of both. No program here.
-/
namespace Go.Proofs.YtlmgklebikcbjaaGreatDoor
set_option linter.unusedVariables false

theorem jhd (s t z : List UInt8) (k : Nat) (h : k < s.length) : hd ((s ++ z).drop k) = hd (s.drop k) := by
  rw [List.drop_append_of_le_length (Nat.le_of_lt h)]
  cases hq : s.drop k with
  | nil => exact absurd (congrArg List.length hq) (by simp; omega)
  | cons x t => rfl
theorem jhd0 {s : List UInt8} (z : List UInt8) (h : s ≠ []) : hd (s ++ z) = hd s := by
  cases s with
  | nil => exact absurd rfl h
  | cons x t => rfl
theorem jtl0 {s : List UInt8} (z : List UInt8) (h : s ≠ []) : (s ++ z).tail = s.tail ++ z := by
  cases s with
  | nil => exact absurd rfl h
  | cons x t => rfl
theorem jhd_neg {s : List UInt8} (h : ¬ hd s < 0) : s ≠ [] := by
  intro q; subst q; exact h (by decide)

section
variable {b : List UInt8}
theorem nm_join : ∀ (k : Nat) (s out o r : List UInt8), s.length ≤ k → nm s out = .ok o r → nm (s ++ 10 :: b) out = .ok o (r ++ 10 :: b)
  | k, [], out, o, r, _, h => by
    rw [nm] at h
    injection h with h1 h2
    subst h1; subst h2
    rw [List.nil_append, nm_cons, if_neg (by decide)]
  | 0, c :: s, out, o, r, hk, h => absurd hk (by simp)
  | k + 1, c :: s, out, o, r, hk, h => by
    rw [List.length_cons] at hk
    rw [List.cons_append]
    rw [nm_cons] at h ⊢
    by_cases h1 : rg (c8 c) = true
    · rw [if_pos h1] at h ⊢
      by_cases h2 : c8 c = 35
      · rw [if_pos h2] at h ⊢
        rcases s with _ | ⟨x, _ | ⟨y, t⟩⟩
        · rw [if_pos (by left; decide)] at h; cases h
        · rw [if_pos (by right; left; show dig (-1) < 0; decide)] at h; cases h
        · replace h : (if dig (c8 x) < 0 ∨ dig (c8 y) < 0 ∨ 16 * dig (c8 x) + dig (c8 y) = 0 then Res.bad 4 else if 127 ≤ out.length then Res.bad 3 else nm t (out ++ [byteOf (16 * dig (c8 x) + dig (c8 y))])) = Res.ok o r := h
          show (if dig (c8 x) < 0 ∨ dig (c8 y) < 0 ∨ 16 * dig (c8 x) + dig (c8 y) = 0 then Res.bad 4 else if 127 ≤ out.length then Res.bad 3 else nm (t ++ 10 :: b) (out ++ [byteOf (16 * dig (c8 x) + dig (c8 y))])) = Res.ok o (r ++ 10 :: b)
          by_cases h3 : dig (c8 x) < 0 ∨ dig (c8 y) < 0 ∨ 16 * dig (c8 x) + dig (c8 y) = 0
          · rw [if_pos h3] at h; cases h
          rw [if_neg h3] at h ⊢
          by_cases h4 : 127 ≤ out.length
          · rw [if_pos h4] at h; cases h
          rw [if_neg h4] at h ⊢
          exact nm_join k t _ o r (by simp at hk; omega) h
      · rw [if_neg h2] at h ⊢
        split at h
        · cases h
        rename_i h4
        rw [if_neg h4]
        exact nm_join k s _ o r (by omega) h
    · rw [if_neg h1] at h ⊢
      injection h with h2 h3
      subst h2; subst h3
      rfl
theorem sk_join {s : List UInt8} (h : s ≠ []) : sk (s ++ 10 :: b) = sk s ++ 10 :: b := by
  cases s with
  | nil => exact absurd rfl h
  | cons x t =>
    rw [List.cons_append, sk, sk]
    split <;> rfl
theorem oc_join : ∀ (k : Nat) (n : Int) (s : List UInt8), oc k n (s ++ 10 :: b) = ((oc k n s).1, (oc k n s).2 ++ 10 :: b)
  | 0, n, s => rfl
  | k + 1, n, [] => by
    rw [List.nil_append, show oc (k + 1) n (10 :: b) = (n, 10 :: b) from by rw [oc, if_neg (by decide)]]; rfl
  | k + 1, n, x :: s => by
    rw [List.cons_append, oc, oc]
    split
    · exact oc_join k _ s
    · rfl
theorem es_join {c : Int} {s : List UInt8} (h : c = 13 → s ≠ []) : es c (s ++ 10 :: b) = ((es c s).1, (es c s).2 ++ 10 :: b) := by
  unfold es
  split; · rfl
  split; · rfl
  split; · rfl
  split; · rfl
  split; · rfl
  split; · rfl
  split
  · rename_i hc
    rw [sk_join (h hc)]
  split
  · rw [oc_join]
  rfl
theorem TX_join : ∀ (k : Nat) (s : List UInt8) (o : Nat) (out u r : List UInt8), s.length ≤ k → TX s o out = .ok u r → TX (s ++ 10 :: b) o out = .ok u (r ++ 10 :: b)
  | k, [], o, out, u, r, _, h => by rw [TX_nil] at h; cases h
  | 0, c :: s, o, out, u, r, hk, h => absurd hk (by simp)
  | k + 1, x :: s, o, out, u, r, hk, h => by
    rw [List.length_cons] at hk
    rw [List.cons_append]
    rw [TX_cons] at h ⊢
    by_cases h1 : c8 x = 92
    · rw [if_pos h1] at h ⊢
      by_cases h2 : hd s < 0
      · rw [if_pos h2] at h; cases h
      rw [if_neg h2] at h
      have hs := jhd_neg h2
      rw [jhd0 _ hs, jtl0 _ hs, if_neg h2]
      have hel := es_len (hd s) s.tail
      rw [List.length_tail] at hel
      have hse : hd s = 13 → s.tail ≠ [] := by
        intro q1 q2
        rw [q1, q2] at h
        rw [if_pos (by decide)] at h
        rw [show (es 13 []).2 = [] by decide, TX_nil] at h
        cases h
      rw [es_join hse]
      simp only []
      split at h
      · rename_i h3
        rw [if_pos h3]
        exact TX_join k _ _ _ _ _ (by omega) h
      · rename_i h3
        rw [if_neg h3]
        split at h
        · cases h
        rename_i h4
        rw [if_neg h4]
        exact TX_join k _ _ _ _ _ (by omega) h
    rw [if_neg h1] at h ⊢
    by_cases h2 : c8 x = 41 ∧ o = 1
    · rw [if_pos h2] at h ⊢
      injection h with h3 h4
      subst h3; subst h4
      rfl
    rw [if_neg h2] at h ⊢
    by_cases h3 : 32767 ≤ out.length
    · rw [if_pos h3] at h; cases h
    rw [if_neg h3] at h ⊢
    by_cases h4 : c8 x = 10
    · rw [if_pos h4] at h ⊢
      exact TX_join k _ _ _ _ _ (by omega) h
    rw [if_neg h4] at h ⊢
    by_cases h5 : c8 x = 13
    · rw [if_pos h5] at h ⊢
      have hs : s ≠ [] := by
        intro q; subst q
        rw [sk, TX_nil] at h; cases h
      rw [sk_join hs]
      have := sk_len s
      exact TX_join k _ _ _ _ _ (by omega) h
    rw [if_neg h5] at h ⊢
    exact TX_join k _ _ _ _ _ (by omega) h
theorem hx_join : ∀ (s : List UInt8) (g : Int) (out u r : List UInt8), hx s g out = .ok u r → hx (s ++ 10 :: b) g out = .ok u (r ++ 10 :: b)
  | [], g, out, u, r, h => by rw [hx] at h; cases h
  | x :: s, g, out, u, r, h => by
    rw [List.cons_append]
    rw [hx] at h ⊢
    split at h
    · rename_i h1
      rw [if_pos h1]; exact hx_join s _ _ _ _ h
    rename_i h1
    rw [if_neg h1]
    split at h
    · rename_i h2
      rw [if_pos h2]
      split at h
      · rename_i h3
        rw [if_pos h3]
        injection h with q1 q2
        subst q1; subst q2; rfl
      rename_i h3
      rw [if_neg h3]
      split at h
      · cases h
      rename_i h4
      rw [if_neg h4]
      injection h with q1 q2
      subst q1; subst q2; rfl
    rename_i h2
    rw [if_neg h2]
    split at h
    · cases h
    rename_i h3
    rw [if_neg h3]
    split at h
    · rename_i h4
      rw [if_pos h4]; exact hx_join s _ _ _ _ h
    rename_i h4
    rw [if_neg h4]
    split at h
    · cases h
    rename_i h5
    rw [if_neg h5]
    exact hx_join s _ _ _ _ h
theorem rn_join : ∀ s : List UInt8, rn (s ++ 10 :: b) = rn s
  | [] => by rw [List.nil_append, show rn (10 :: b) = 0 from by rw [rn, if_neg (by decide)]]; rfl
  | x :: s => by rw [List.cons_append, rn, rn, rn_join s]
theorem take_join (s : List UInt8) : (s ++ 10 :: b).take (rn s) = s.take (rn s) := List.take_append_of_le_length (rn_le s)
theorem drop_join (s : List UInt8) : (s ++ 10 :: b).drop (rn s) = s.drop (rn s) ++ 10 :: b := List.drop_append_of_le_length (rn_le s)
theorem hd60 (t : List UInt8) (c : Int) (hc : 11 ≤ c) : (hd (t ++ 10 :: b) = c) = (hd t = c) := by
  cases t with
  | nil =>
    rw [List.nil_append]
    apply propext
    constructor
    · intro q
      have q : (10 : Int) = c := q
      omega
    · intro q
      have q : (-1 : Int) = c := q
      omega
  | cons x t => rfl
theorem wrp_join {k m n : Int} {f g : Res} {out r : List UInt8} (hf : ∀ o r, f = .ok o r → g = .ok o (r ++ 10 :: b)) (h : wrp k f = .tok m n out r) : wrp k g = .tok m n out (r ++ 10 :: b) := by
  cases f with
  | bad e => cases h
  | ok o r2 =>
    rw [hf _ _ rfl]
    unfold wrp at h ⊢
    simp only [] at h ⊢
    injection h with h1 h2 h3 h4
    subst h1; subst h2; subst h3; subst h4
    rfl
theorem tk_join {s out r : List UInt8} {k n : Int} (hs : s ≠ []) (h : tk s = .tok k n out r) : tk (s ++ 10 :: b) = .tok k n out (r ++ 10 :: b) := by
  rcases s with _ | ⟨x, t⟩
  · exact absurd rfl hs
  rw [List.cons_append]
  rw [tk] at h ⊢
  simp only [hd60 t 60 (by decide), hd60 t 62 (by decide)]
  split at h
  · rename_i h1; rw [if_pos h1]; injection h with q1 q2 q3 q4; subst q1; subst q2; subst q3; subst q4; rfl
  rename_i h1; rw [if_neg h1]; clear h1
  split at h
  · rename_i h1; rw [if_pos h1]; injection h with q1 q2 q3 q4; subst q1; subst q2; subst q3; subst q4; rfl
  rename_i h1; rw [if_neg h1]; clear h1
  split at h
  · rename_i h1; rw [if_pos h1, jtl0 _ (jhd_neg (by rw [h1.2]; decide))]; injection h with q1 q2 q3 q4; subst q1; subst q2; subst q3; subst q4; rfl
  rename_i h1; rw [if_neg h1]; clear h1
  split at h
  · rename_i h1; rw [if_pos h1, jtl0 _ (jhd_neg (by rw [h1.2]; decide))]; injection h with q1 q2 q3 q4; subst q1; subst q2; subst q3; subst q4; rfl
  rename_i h1; rw [if_neg h1]; clear h1
  split at h
  · rename_i h1; rw [if_pos h1]; exact wrp_join (fun o r q => nm_join _ t [] o r (Nat.le_refl _) q) h
  rename_i h1; rw [if_neg h1]; clear h1
  split at h
  · rename_i h1; rw [if_pos h1]; exact wrp_join (fun o r q => TX_join _ t 1 [] o r (Nat.le_refl _) q) h
  rename_i h1; rw [if_neg h1]; clear h1
  split at h
  · rename_i h1; rw [if_pos h1]; exact wrp_join (fun o r q => hx_join t (-1) [] o r q) h
  rename_i h1; rw [if_neg h1]; clear h1
  rw [show x :: (t ++ 10 :: b) = (x :: t) ++ 10 :: b from rfl]
  split at h
  · rename_i h1
    rw [if_pos h1]
    unfold numT at h ⊢
    rw [rn_join, take_join, drop_join]
    split at h
    · rename_i h2
      rw [if_pos h2]
      injection h with q1 q2 q3 q4; subst q1; subst q2; subst q3; subst q4; rfl
    · cases h
  rename_i h1; rw [if_neg h1]; clear h1
  split at h
  · rename_i h1
    rw [if_pos h1, rn_join, take_join, drop_join]
    split at h
    · cases h
    rename_i h2
    rw [if_neg h2]
    injection h with q1 q2 q3 q4; subst q1; subst q2; subst q3; subst q4; rfl
  · cases h
theorem bl_join : ∀ (s : List UInt8) (q : Bool), bl s q < s.length → bl (s ++ 10 :: b) q = bl s q
  | [], q, h => absurd h (by simp)
  | x :: s, false, h => by
    rw [List.cons_append]
    rw [bl, List.length_cons] at h
    rw [bl, bl]
    split at h
    · rename_i h1; rw [if_pos h1, if_pos h1, bl_join s false (by omega)]
    rename_i h1; rw [if_neg h1, if_neg h1]
    split at h
    · rename_i h2; rw [if_pos h2, if_pos h2, bl_join s true (by omega)]
    rename_i h2; rw [if_neg h2, if_neg h2]
  | x :: s, true, h => by
    rw [List.cons_append]
    rw [bl, List.length_cons] at h
    rw [bl, bl]
    split at h
    · rename_i h1; rw [if_pos h1, if_pos h1, bl_join s false (by omega)]
    rename_i h1; rw [if_neg h1, if_neg h1, bl_join s true (by omega)]
theorem bl_over : ∀ (s : List UInt8) (q : Bool), bl s q = s.length → bl (s ++ 10 :: b) q = s.length + 1 + bl b false
  | [], false, h => by rw [List.nil_append, bl, if_pos (by decide)]; simp
  | [], true, h => by rw [List.nil_append, bl, if_pos (by decide)]; simp
  | x :: s, false, h => by
    rw [List.cons_append, List.length_cons]
    rw [bl, List.length_cons] at h
    rw [bl]
    split at h
    · rename_i h1; rw [if_pos h1, bl_over s false (by omega)]; omega
    rename_i h1; rw [if_neg h1]
    split at h
    · rename_i h2; rw [if_pos h2, bl_over s true (by omega)]; omega
    · omega
  | x :: s, true, h => by
    rw [List.cons_append, List.length_cons]
    rw [bl, List.length_cons] at h
    rw [bl]
    split at h
    · rename_i h1; rw [if_pos h1, bl_over s false (by omega)]; omega
    rename_i h1; rw [if_neg h1, bl_over s true (by omega)]; omega
theorem tk_zero {s out r : List UInt8} {n : Int} (h : tk s = .tok 0 n out r) : s = [] := by
  cases s with
  | nil => rfl
  | cons x t =>
    have := tk_fit x t
    rw [h] at this
    exact absurd this.1 (by decide)
theorem TK_zero {s out r : List UInt8} {n : Int} (h : TK s = .tok 0 n out r) : bl s false = s.length := by
  have h1 := tk_zero h
  have h2 := congrArg List.length h1
  rw [List.length_drop] at h2
  have := bl_le s false
  simp at h2
  omega
theorem TK_some {s out r : List UInt8} {k n : Int} (h : TK s = .tok k n out r) (hk : ¬ k = 0) : bl s false < s.length := by
  have h1 := bl_le s false
  by_cases h2 : bl s false = s.length
  · unfold TK at h
    rw [h2, List.drop_length, tk] at h
    injection h with q
    exact absurd q.symm hk
  · omega
theorem blanks_join {s : List UInt8} (h : bl s false < s.length) : (s ++ 10 :: b).drop (bl (s ++ 10 :: b) false) = s.drop (bl s false) ++ 10 :: b := by
  rw [bl_join s false h, List.drop_append_of_le_length (Nat.le_of_lt h)]
theorem blanks_over {s : List UInt8} (h : bl s false = s.length) : (s ++ 10 :: b).drop (bl (s ++ 10 :: b) false) = b.drop (bl b false) := by
  rw [bl_over s false h, Nat.add_assoc, ← List.drop_drop, List.drop_left, Nat.add_comm 1, List.drop_succ_cons]
theorem TK_join {s out r : List UInt8} {k n : Int} (h : TK s = .tok k n out r) (hk : ¬ k = 0) : TK (s ++ 10 :: b) = .tok k n out (r ++ 10 :: b) := by
  have hs := TK_some h hk
  unfold TK at h ⊢
  rw [blanks_join hs]
  refine tk_join (fun q => ?_) h
  have := congrArg List.length q
  rw [List.length_drop] at this
  simp at this
  omega
theorem TK_over {s out r : List UInt8} {n : Int} (h : TK s = .tok 0 n out r) : TK (s ++ 10 :: b) = TK b := by
  unfold TK; rw [blanks_over (TK_zero h)]
theorem pF_ne0 {q : Bool} {f d : Nat} {s t : List UInt8} {x : PO} (h : pF q f (.v d) s = some (.ok x t)) : bl s false < s.length := by
  cases f with
  | zero => rw [pF] at h; cases h
  | succ f =>
    rw [pF] at h
    cases hT : TK s with
    | bad e => rw [hT] at h; simp only [] at h; injection h with h; cases h
    | tok k n out r =>
      rw [hT] at h
      simp only [] at h
      by_cases hk : k = 0
      · rw [if_pos hk] at h; injection h with h; cases h
      · exact TK_some hT hk
theorem whole_t (n : Int) (r : List UInt8) : whole true n r = .ok (poInt n) r := by
  unfold whole; rw [if_neg (by simp)]
theorem pF_join : ∀ (f : Nat) (m : Md) (s t : List UInt8) (x : PO), pF true f m s = some (.ok x t) → pF true f m (s ++ 10 :: b) = some (.ok x (t ++ 10 :: b))
  | 0, m, s, t, x, h => by rw [pF] at h; cases h
  | f + 1, .v d, s, t, x, h => by
    have hs := pF_ne0 h
    rw [pF] at h ⊢
    cases hT : TK s with
    | bad e => rw [hT] at h; simp only [] at h; injection h with h; cases h
    | tok k n out r =>
      by_cases hk : k = 0
      · rw [hT] at h; simp only [] at h; rw [if_pos hk] at h; injection h with h; cases h
      rw [TK_join hT hk]
      rw [hT] at h
      simp only [whole_t] at h ⊢
      rw [if_neg hk] at h ⊢
      split at h
      · rename_i h1; rw [if_pos h1]; injection h with h; injection h with q1 q2; subst q1; subst q2; rfl
      rename_i h1; rw [if_neg h1]; clear h1
      split at h
      · rename_i h1; rw [if_pos h1]; injection h with h; injection h with q1 q2; subst q1; subst q2; rfl
      rename_i h1; rw [if_neg h1]; clear h1
      split at h
      · rename_i h1; rw [if_pos h1]; injection h with h; injection h with q1 q2; subst q1; subst q2; rfl
      rename_i h1; rw [if_neg h1]; clear h1
      split at h
      · rename_i h1; rw [if_pos h1]; injection h with h; injection h with q1 q2; subst q1; subst q2; rfl
      rename_i h1; rw [if_neg h1]; clear h1
      split at h
      · rename_i h1
        rw [if_pos h1]
        injection h with h
        cases hw : wordO out with
        | none => rw [hw] at h; cases h
        | some o =>
          rw [hw] at h
          simp only [] at h ⊢
          injection h with q1 q2; subst q1; subst q2; rfl
      rename_i h1; rw [if_neg h1]; clear h1
      split at h
      · rename_i h1
        rw [if_pos h1]
        cases d with
        | zero => simp only [] at h; injection h with h; cases h
        | succ d =>
          simp only [] at h ⊢
          split at h
          · rename_i h2; rw [if_pos h2]; exact pF_join f _ _ _ _ h
          · rename_i h2; rw [if_neg h2]; exact pF_join f _ _ _ _ h
      · injection h with h; cases h
  | f + 1, .a d acc, s, t, x, h => by
    rw [pF] at h ⊢
    cases hT : TK s with
    | bad e => rw [hT] at h; simp only [] at h; injection h with h; cases h
    | tok k n out r =>
      rw [hT] at h
      simp only [] at h
      by_cases h6 : k = 6
      · rw [if_pos h6] at h
        rw [TK_join hT (by omega)]
        simp only []
        rw [if_pos h6]
        injection h with h; injection h with q1 q2; subst q1; subst q2; rfl
      rw [if_neg h6] at h
      cases hv : pF true f (.v d) s with
      | none => rw [hv] at h; cases h
      | some y =>
        cases y with
        | bad e u => rw [hv] at h; simp only [] at h; injection h with h; cases h
        | ok o u =>
          rw [hv] at h
          simp only [] at h
          have hk : ¬ k = 0 := by
            intro q; subst q
            have h1 := TK_zero hT
            have h2 := pF_ne0 hv
            omega
          rw [TK_join hT hk]
          simp only []
          rw [if_neg h6, pF_join f _ _ _ _ hv]
          exact pF_join f _ _ _ _ h
  | f + 1, .m d keys acc, s, t, x, h => by
    rw [pF] at h ⊢
    cases hT : TK s with
    | bad e => rw [hT] at h; simp only [] at h; injection h with h; cases h
    | tok k n out r =>
      rw [hT] at h
      simp only [] at h
      by_cases h8 : k = 8
      · rw [if_pos h8] at h
        rw [TK_join hT (by omega)]
        simp only []
        rw [if_pos h8]
        injection h with h; injection h with q1 q2; subst q1; subst q2; rfl
      rw [if_neg h8] at h
      by_cases h0 : k = 0
      · rw [if_pos h0] at h; injection h with h; cases h
      rw [if_neg h0] at h
      rw [TK_join hT h0]
      simp only []
      rw [if_neg h8, if_neg h0]
      split at h
      · injection h with h; cases h
      rename_i h4; rw [if_neg h4]
      split at h
      · injection h with h; cases h
      rename_i hm; rw [if_neg hm]
      cases hv : pF true f (.v d) r with
      | none => rw [hv] at h; cases h
      | some y =>
        cases y with
        | bad e u => rw [hv] at h; simp only [] at h; injection h with h; cases h
        | ok o u =>
          rw [hv] at h
          simp only [] at h
          rw [pF_join f _ _ _ _ hv]
          exact pF_join f _ _ _ _ h
theorem PV.join {m : Md} {s t : List UInt8} {x : PO} (h : PV true m s (.ok x t)) : PV true m (s ++ 10 :: b) (.ok x (t ++ 10 :: b)) := by
  obtain ⟨f, h⟩ := h
  exact ⟨f, pF_join f m s t x h⟩
theorem pF_over {s : List UInt8} (h : bl s false = s.length) (q : Bool) (d : Nat) : ∀ f, pF q f (.v d) (s ++ 10 :: b) = pF q f (.v d) b
  | 0 => rfl
  | f + 1 => by
    have hT : TK (s ++ 10 :: b) = TK b := by unfold TK; rw [blanks_over h]
    rw [pF, pF, hT, blanks_over h]
theorem PV.over {s : List UInt8} (h : bl s false = s.length) {q : Bool} {d : Nat} {r : PRes} (hv : PV q (.v d) b r) : PV q (.v d) (s ++ 10 :: b) r := by
  obtain ⟨f, hv⟩ := hv
  exact ⟨f, by rw [pF_over h]; exact hv⟩
theorem DI.join {keys : List (List UInt8)} {ents : List (List UInt8 × PO)} {s : List UInt8} {res : PRes} (h : DI keys ents s res) : ∀ d r, res = .ok d r → DI keys ents (s ++ 10 :: b) (.ok d (r ++ 10 :: b)) := by
  induction h with
  | err hT => intro d r q; cases q
  | close hT =>
    intro d r q
    injection q with q1 q2
    subst q1; subst q2
    exact DI.close (TK_join hT (by decide))
  | eof hT => intro d r q; cases q
  | form hT _ _ _ => intro d r q; cases q
  | twice hT _ => intro d r q; cases q
  | stop hT _ _ => intro d r q; cases q
  | step hT h hv _ ih =>
    intro d r q
    exact DI.step (TK_join hT (by decide)) h hv.join (ih d r q)
theorem endI_join {t : List UInt8} (h : 4 ≤ t.length) : endI (t ++ 10 :: b) = endI t := by
  unfold endI
  rw [jhd t [] _ 1 (by omega), jhd t [] _ 2 (by omega), jhd t [] _ 3 (by omega)]
  have := jhd t [] (10 :: b) 0 (by omega)
  rw [List.drop_zero, List.drop_zero] at this
  rw [this]
theorem endI_join3 {t : List UInt8} (h : endI t = true) : endI (t ++ 10 :: b) = true := by
  have hl : 3 ≤ t.length := by
    rcases t with _ | ⟨x, _ | ⟨y, _ | ⟨z, t⟩⟩⟩
    · simp [endI, hd, wh] at h
    · simp [endI, hd] at h
    · simp [endI, hd] at h
    · simp
  by_cases h4 : 4 ≤ t.length
  · rw [endI_join h4]; exact h
  · rcases t with _ | ⟨x, _ | ⟨y, _ | ⟨z, _ | ⟨u, t⟩⟩⟩⟩
    · simp at hl
    · simp at hl
    · simp at hl
    · unfold endI at h ⊢
      have e1 : hd (([x, y, z] ++ 10 :: b).drop 3) = 10 := rfl
      have e2 : hd (([x, y, z] : List UInt8).drop 3) = -1 := rfl
      rw [e1, show (rg 10 : Bool) = false by decide]
      rw [e2, show (rg (-1) : Bool) = false by decide] at h
      exact h
    · simp at h4
theorem imgN_le : ∀ (t : List UInt8) (n : Nat), imgN t = some n → n + 3 ≤ t.length
  | [], n, h => by rw [imgN] at h; cases h
  | x :: t, n, h => by
    rw [imgN] at h
    split at h
    · rename_i h1
      injection h with h
      subst h
      rcases t with _ | ⟨y, _ | ⟨z, t⟩⟩
      · simp [endI, hd] at h1
      · simp [endI, hd] at h1
      · simp
    · cases hq : imgN t with
      | none => rw [hq] at h; cases h
      | some m =>
        rw [hq] at h
        have h : m + 1 = n := by injection h
        have := imgN_le t m hq
        rw [List.length_cons]
        omega
theorem imgN_join : ∀ (t : List UInt8) (n : Nat), imgN t = some n → imgN (t ++ 10 :: b) = some n
  | [], n, h => by rw [imgN] at h; cases h
  | x :: t, n, h => by
    rw [List.cons_append]
    by_cases h1 : endI (x :: t) = true
    · rw [imgN, if_pos h1] at h
      rw [imgN, if_pos (by rw [← List.cons_append]; exact endI_join3 h1)]
      exact h
    · have hle := imgN_le _ _ h
      rw [imgN, if_neg h1] at h
      cases hq : imgN t with
      | none => rw [hq] at h; cases h
      | some m =>
        have hm := imgN_le _ _ hq
        rw [hq] at h
        rw [imgN, if_neg (by rw [← List.cons_append, endI_join (by rw [List.length_cons]; omega)]; exact h1), imgN_join t m hq]
        exact h
theorem imgF_join {t x r : List UInt8} (h : imgF t = .inr (x, r)) : imgF (t ++ 10 :: b) = .inr (x, r ++ 10 :: b) := by
  rcases t with _ | ⟨c, t⟩
  · rw [imgF] at h; cases h
  rw [List.cons_append]
  rw [imgF] at h ⊢
  split at h
  · rename_i h1
    rw [if_pos h1]
    cases hq : imgN t with
    | none => rw [hq] at h; cases h
    | some n =>
      have hle := imgN_le _ _ hq
      rw [hq] at h
      rw [imgN_join t n hq]
      simp only [] at h ⊢
      injection h with h
      injection h with q1 q2
      subst q1; subst q2
      rw [List.take_append_of_le_length (by omega), List.drop_append_of_le_length (by omega)]
  · cases h
theorem bik_join {m : Nat} {a : Int} {d : PO} {s r : List UInt8} {o : CO} (h : bik m a (.ok d s) = .op o r) : bik m a (.ok d (s ++ 10 :: b)) = .op o (r ++ 10 :: b) := by
  unfold bik at h ⊢
  simp only [] at h ⊢
  cases hF : imgF s with
  | inl e => rw [hF] at h; cases h
  | inr y =>
    obtain ⟨z, r2⟩ := y
    rw [hF] at h
    rw [imgF_join hF]
    simp only [] at h ⊢
    by_cases hm : m = 0
    · rw [if_pos hm] at h ⊢
      injection h with q1 q2
      subst q1; subst q2
      rfl
    · rw [if_neg hm] at h; cases h
theorem OP.fin_of {N : Nat} {args : List PO} {s : List UInt8} {res : ORes} (h : OP N args s res) : res = .fin → args = [] ∧ ∃ n out r, TK s = .tok 0 n out r := by
  induction h with
  | err hT => intro q; cases q
  | fin hT => exact fun _ => ⟨rfl, _, _, _, hT⟩
  | eof hT _ => intro q; cases q
  | word hT h hb => intro q; cases q
  | @img args s n r res hT h =>
    intro q
    cases res with
    | bad e t => cases q
    | ok d t =>
      unfold bik at q
      simp only [] at q
      cases hF : imgF t with
      | inl e => rw [hF] at q; cases q
      | inr y =>
        obtain ⟨z, r2⟩ := y
        rw [hF] at q
        simp only [] at q
        split at q <;> cases q
  | stop hT _ _ _ => intro q; cases q
  | much hT _ _ _ _ => intro q; cases q
  | step hT h0 h9 hv hm _ ih =>
    intro q
    exact absurd (ih q).1 (by simp)
/-- the same operator, so many places on -/
def CO.to (k : Nat) (o : CO) : CO := ⟨o.name, o.args, o.data, o.at_ + k⟩
def ORes.to (k : Nat) : ORes → ORes
  | .bad e => .bad e
  | .fin => .fin
  | .op o r => .op (o.to k) r
theorem plc_join {N : Nat} {s : List UInt8} (h : bl s false < s.length) : plc (N + (1 + b.length)) (s ++ 10 :: b) = plc N s := by
  unfold plc
  rw [blanks_join h, List.length_append, List.length_cons]
  omega
theorem OP.join {N : Nat} {args : List PO} {s : List UInt8} {res : ORes} (h : OP N args s res) : ∀ o r, res = .op o r → OP (N + (1 + b.length)) args (s ++ 10 :: b) (.op o (r ++ 10 :: b)) := by
  induction h with
  | err hT => intro o r q; cases q
  | fin hT => intro o r q; cases q
  | eof hT _ => intro o r q; cases q
  | word hT h hb =>
    intro o r q
    injection q with q1 q2
    subst q1; subst q2
    rw [← plc_join (TK_some hT (by decide))]
    exact OP.word (TK_join hT (by decide)) h hb
  | @img args s n r res hT h =>
    intro o r2 q
    cases res with
    | bad e t => cases q
    | ok d t =>
      rw [← plc_join (TK_some hT (by decide))] at q
      rw [← bik_join q]
      exact OP.img (TK_join hT (by decide)) (h.join _ _ rfl)
  | stop hT _ _ _ => intro o r q; cases q
  | much hT _ _ _ _ => intro o r q; cases q
  | step hT h0 h9 hv hm _ ih =>
    intro o r q
    exact OP.step (TK_join hT h0) h0 h9 hv.join hm (ih o r q)
theorem plc_over {N : Nat} {s : List UInt8} (h : bl s false = s.length) : plc N (s ++ 10 :: b) = plc N b := by
  unfold plc; rw [blanks_over h]
theorem OP.over {N : Nat} {args : List PO} {s : List UInt8} {res : ORes} (hs : bl s false = s.length) (h : OP N args b res) : OP N args (s ++ 10 :: b) res := by
  have hT : TK (s ++ 10 :: b) = TK b := by unfold TK; rw [blanks_over hs]
  cases h with
  | err h => exact OP.err (hT.trans h)
  | fin h => exact OP.fin (hT.trans h)
  | eof h h2 => exact OP.eof (hT.trans h) h2
  | word h h2 hb => rw [← plc_over hs]; exact OP.word (hT.trans h) h2 hb
  | img h h2 => rw [← plc_over hs]; exact OP.img (hT.trans h) h2
  | stop h h0 h9 hv => exact OP.stop (hT.trans h) h0 h9 (hv.over hs)
  | much h h0 h9 hv hm => exact OP.much (hT.trans h) h0 h9 (hv.over hs) hm
  | step h h0 h9 hv hm h2 => exact OP.step (hT.trans h) h0 h9 (hv.over hs) hm h2
end
theorem plc_to (N k : Nat) (s : List UInt8) : plc (N + k) s = plc N s + k := by
  unfold plc; omega
theorem bik_to (m : Nat) (a : Int) (k : Nat) (res : PRes) : bik m (a + k) res = (bik m a res).to k := by
  unfold bik
  cases res with
  | bad e t => rfl
  | ok d s =>
    simp only []
    cases imgF s with
    | inl e => rfl
    | inr y =>
      obtain ⟨z, r⟩ := y
      simp only []
      split <;> rfl
theorem OP.to {N : Nat} {args : List PO} {s : List UInt8} {res : ORes} (k : Nat) (h : OP N args s res) : OP (N + k) args s (res.to k) := by
  induction h with
  | err hT => exact OP.err hT
  | fin hT => exact OP.fin hT
  | eof hT h => exact OP.eof hT h
  | @word args s n out r hT h hb =>
    have := OP.word (N := N + k) (args := args) hT h hb
    rw [plc_to] at this
    exact this
  | img hT h => rw [← bik_to, ← plc_to]; exact OP.img hT h
  | stop hT h0 h9 hv => exact OP.stop hT h0 h9 hv
  | much hT h0 h9 hv hm => exact OP.much hT h0 h9 hv hm
  | step hT h0 h9 hv hm _ ih => exact OP.step hT h0 h9 hv hm ih
theorem AL.behind {N : Nat} {l : List CO} {s : List UInt8} {res : LRes} (h : AL N l s res) (k : Nat) (p : List CO) : ∀ q, res = .ok q → p.length + l.length + s.length ≤ 100000 → AL (N + k) (p ++ l.map (CO.to k)) s (.ok (p ++ q.map (CO.to k))) := by
  induction h with
  | bad h => intro q e; cases e
  | fin h => intro q e _; injection e with e; subst e; exact AL.fin (h.to k)
  | lim h hl => intro q e; cases e
  | @step l s o r res h hl _ ih =>
    intro q e hle
    have hr := h.fit _ _ rfl
    have h1 := ih q e (by rw [List.length_append, List.length_singleton]; omega)
    rw [List.map_append, ← List.append_assoc] at h1
    exact AL.step (h.to k) (by rw [List.length_append, List.length_map]; omega) h1
theorem AL.over {N : Nat} {l : List CO} {b s : List UInt8} {res : LRes} (hs : bl s false = s.length) (h : AL N l b res) : AL N l (s ++ 10 :: b) res := by
  cases h with
  | bad h => exact AL.bad (h.over hs)
  | fin h => exact AL.fin (h.over hs)
  | lim h hl => exact AL.lim (h.over hs) hl
  | step h hl h2 => exact AL.step (h.over hs) hl h2
theorem AL.ahead {N : Nat} {b : List UInt8} {l : List CO} {s : List UInt8} {res : LRes} (h : AL N l s res) : ∀ la res2, res = .ok la → AL (N + (1 + b.length)) la b res2 → AL (N + (1 + b.length)) l (s ++ 10 :: b) res2 := by
  induction h with
  | bad h => intro la res2 e; cases e
  | fin h =>
    intro la res2 e h2
    injection e with e
    subst e
    obtain ⟨-, n, out, r, hT⟩ := h.fin_of rfl
    exact h2.over (TK_zero hT)
  | lim h hl => intro la res2 e; cases e
  | step h hl _ ih =>
    intro la res2 e h2
    exact AL.step (h.join _ _ rfl) hl (ih la res2 e h2)
/-- two contents, an end of line between -/
theorem AL.both {a b : List UInt8} {la lb : List CO} (ha : AL a.length [] a (.ok la)) (hb : AL b.length [] b (.ok lb)) (hl : la.length + b.length ≤ 100000) : AL (a.length + (1 + b.length)) [] (a ++ 10 :: b) (.ok (la ++ lb.map (CO.to (a.length + 1)))) := by
  refine ha.ahead _ _ rfl ?_
  have h := hb.behind (a.length + 1) la _ rfl (by simpa using hl)
  rw [List.map_nil, List.append_nil] at h
  rw [show a.length + (1 + b.length) = b.length + (a.length + 1) by omega]
  exact h
end Go.Proofs.YtlmgklebikcbjaaGreatDoor
