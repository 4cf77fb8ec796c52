/-
  Plain laws of printed strings: what is printed as a string is read. No program here.
-/
import Derived.Test.YtlmgklebikcbjaaGreatLawNm
namespace Go.Proofs.YtlmgklebikcbjaaGreat
set_option linter.unusedVariables false

/-- a byte that stands for itself between brackets -/
def plain1 (c : UInt8) : Bool := decide (32 ≤ c8 c) && decide (c8 c ≤ 126) && !(c8 c == 40) && !(c8 c == 41) && !(c8 c == 92)

theorem TX_plain : ∀ (s r out : List UInt8), (∀ c ∈ s, plain1 c = true) → out.length + s.length ≤ 32767 → TX (s ++ 41 :: r) 1 out = .ok (out ++ s) r
  | [], r, out, _, _ => by rw [List.nil_append, TX_cons]; simp [c8]
  | c :: s, r, out, h0, hl => by
    rw [List.length_cons] at hl
    have hc := h0 c (by simp)
    simp only [plain1, Bool.and_eq_true, decide_eq_true_eq, Bool.not_eq_true', beq_eq_false_iff_ne] at hc
    obtain ⟨⟨⟨⟨c1, c2⟩, c3⟩, c4⟩, c5⟩ := hc
    rw [List.cons_append, TX_cons, if_neg c5, if_neg (fun q => c4 q.1), if_neg (by omega), if_neg (by omega), if_neg (by omega), if_neg c3, if_neg c4, TX_plain s r _ (fun x hx => h0 x (by simp [hx])) (by simp; omega)]
    simp

theorem hxd_wh : ∀ n : Fin 16, wh (c8 (hxd n.1)) = false ∧ ¬ c8 (hxd n.1) = 62 := by decide +kernel

/-- two digits for each byte -/
def dgts (s : List UInt8) : List UInt8 := s.flatMap fun c => [hxd (c.toNat / 16), hxd (c.toNat % 16)]

theorem hx_print : ∀ (s r out : List UInt8), out.length + s.length ≤ 32767 → hx (dgts s ++ 62 :: r) (-1) out = .ok (out ++ s) r
  | [], r, out, _ => by
    show hx (62 :: r) (-1) out = _
    rw [hx, if_neg (by decide), if_pos (by decide), if_pos (by decide), List.append_nil]
  | c :: s, r, out, hl => by
    rw [List.length_cons] at hl
    have hc := c.toNat_lt
    have d1 := hxd_dig ⟨c.toNat / 16, by omega⟩
    have d2 := hxd_dig ⟨c.toNat % 16, by omega⟩
    obtain ⟨w1, g1⟩ := hxd_wh ⟨c.toNat / 16, by omega⟩
    obtain ⟨w2, g2⟩ := hxd_wh ⟨c.toNat % 16, by omega⟩
    simp only [] at d1 d2 w1 w2 g1 g2
    have e0 : dgts (c :: s) ++ 62 :: r = hxd (c.toNat / 16) :: hxd (c.toNat % 16) :: (dgts s ++ 62 :: r) := by
      unfold dgts; rw [List.flatMap_cons]; rfl
    have e : byteOf (16 * ((c.toNat / 16 : Nat) : Int) + ((c.toNat % 16 : Nat) : Int)) = c := by
      rw [show 16 * ((c.toNat / 16 : Nat) : Int) + ((c.toNat % 16 : Nat) : Int) = c8 c by unfold c8; omega, byteOf_c8]
    rw [e0, hx, if_neg (by rw [w1]; decide), if_neg g1, d1, if_neg (by omega), if_pos (by decide), hx, if_neg (by rw [w2]; decide), if_neg g2, d2, if_neg (by omega), if_neg (by omega), if_neg (by omega), e, hx_print s r _ (by simp; omega)]
    simp

/-- a string as it is printed -/
def ptx (s : List UInt8) : List UInt8 := if s.all plain1 = true then 40 :: (s ++ [41]) else 60 :: (dgts s ++ [62])

theorem dgts_hd (s : List UInt8) (r : List UInt8) (hr : ¬ hd r = 60) : ¬ hd (dgts s ++ r) = 60 := by
  cases s with
  | nil => exact hr
  | cons c s =>
    have hc := c.toNat_lt
    have : ∀ n : Fin 16, ¬ c8 (hxd n.1) = 60 := by decide +kernel
    exact this ⟨c.toNat / 16, by omega⟩

theorem tk_ptx (s r : List UInt8) (hs : s.length ≤ 32767) : tk (ptx s ++ r) = .tok 3 0 s r := by
  unfold ptx
  by_cases h : s.all plain1 = true
  · have h1 := TX_plain s r [] (fun c hc => List.all_eq_true.1 h c hc) (by simpa using hs)
    have e : ∀ t : List UInt8, tk (40 :: t) = wrp 3 (TX t 1 []) := fun t => by simp [tk, c8]
    rw [if_pos h, List.cons_append, e, List.append_assoc]
    show wrp 3 (TX (s ++ 41 :: r) 1 []) = _
    rw [h1]; rfl
  · have h1 := hx_print s r [] (by simpa using hs)
    have hh := dgts_hd s (62 :: r) (show ¬ c8 62 = 60 by decide)
    have e : ∀ t : List UInt8, ¬ hd t = 60 → tk (60 :: t) = wrp 3 (hx t (-1) []) := fun t q => by simp [tk, c8, q]
    rw [if_neg h, List.cons_append, List.append_assoc]
    show tk (60 :: (dgts s ++ 62 :: r)) = _
    rw [e _ hh, h1]; rfl

/-- a name as it is printed, a string behind it -/
theorem tk_pnm (b r : List UInt8) (h0 : ∀ c ∈ b, ¬ c = 0) (hl : b.length ≤ 127) (hr : rg (hd r) = false) : tk (47 :: (b.flatMap pn1 ++ r)) = .tok 4 0 b r := by
  have h1 := nm_print b r [] h0 (by simpa using hl) hr
  have e : ∀ t : List UInt8, tk (47 :: t) = wrp 4 (nm t []) := fun t => by simp [tk, c8]
  rw [e, h1]; rfl
end Go.Proofs.YtlmgklebikcbjaaGreat
