/-
  Plain laws of names: what is printed as a name is read. No program here.
-/
import Derived.Test.YtlmgklebikcbjaaGreatLawTx
namespace Go.Proofs.YtlmgklebikcbjaaGreat
set_option linter.unusedVariables false

/-- a digit of a byte's half -/
def hxd (n : Nat) : UInt8 := if n < 10 then UInt8.ofNat (48 + n) else UInt8.ofNat (87 + n)
/-- a byte in a name, as it is printed -/
def pn1 (c : UInt8) : List UInt8 := if 33 ≤ c8 c ∧ c8 c ≤ 126 ∧ rg (c8 c) = true ∧ ¬ c8 c = 35 then [c] else [35, hxd (c.toNat / 16), hxd (c.toNat % 16)]

theorem hxd_dig : ∀ n : Fin 16, dig (c8 (hxd n.1)) = (n.1 : Int) := by decide +kernel

theorem nm_one (c : UInt8) (r out : List UInt8) (h0 : ¬ c = 0) (hl : out.length < 127) : nm (pn1 c ++ r) out = nm r (out ++ [c]) := by
  unfold pn1
  by_cases h : 33 ≤ c8 c ∧ c8 c ≤ 126 ∧ rg (c8 c) = true ∧ ¬ c8 c = 35
  · rw [if_pos h, List.singleton_append, nm_cons, if_pos h.2.2.1, if_neg h.2.2.2, if_neg (by omega)]
  · rw [if_neg h]
    have hc := c.toNat_lt
    have d1 := hxd_dig ⟨c.toNat / 16, by omega⟩
    have d2 := hxd_dig ⟨c.toNat % 16, by omega⟩
    simp only [] at d1 d2
    have hn : ¬ c.toNat = 0 := fun q => h0 (UInt8.toNat_inj.1 (by simpa using q))
    have r35 : rg (c8 35) = true := by decide
    have c35 : c8 35 = 35 := by decide
    rw [List.cons_append, nm_cons, if_pos r35, if_pos c35]
    simp only [List.cons_append, List.nil_append, hd_cons, List.tail_cons, d1, d2]
    rw [if_neg (by omega), if_neg (by omega)]
    have e : byteOf (16 * ((c.toNat / 16 : Nat) : Int) + ((c.toNat % 16 : Nat) : Int)) = c := by
      rw [show 16 * ((c.toNat / 16 : Nat) : Int) + ((c.toNat % 16 : Nat) : Int) = c8 c by unfold c8; omega, byteOf_c8]
    rw [e]; rfl

/-- a printed name is read as it was -/
theorem nm_print : ∀ (b r out : List UInt8), (∀ c ∈ b, ¬ c = 0) → out.length + b.length ≤ 127 → rg (hd r) = false → nm (b.flatMap pn1 ++ r) out = .ok (out ++ b) r
  | [], r, out, _, _, hr => by
    rw [List.flatMap_nil, List.nil_append, List.append_nil]
    cases r with
    | nil => rfl
    | cons x t => rw [nm_cons, if_neg (by rw [hd_cons] at hr; simp [hr])]
  | c :: b, r, out, h0, hl, hr => by
    rw [List.length_cons] at hl
    rw [List.flatMap_cons, List.append_assoc, nm_one c _ out (h0 c (by simp)) (by omega), nm_print b r _ (fun x hx => h0 x (by simp [hx])) (by simp; omega) hr]
    simp
end Go.Proofs.YtlmgklebikcbjaaGreat
