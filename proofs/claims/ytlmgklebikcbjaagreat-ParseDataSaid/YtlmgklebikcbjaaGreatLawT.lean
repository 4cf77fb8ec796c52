/-
  Same, SameToken, a token as the document has it; the statements of chapter 11 are awake; the walks. Conditions: sizes.
-/
import Derived.Test.YtlmgklebikcbjaaGreatGood
import Derived.Test.YtlmgklebikcbjaaGreatRtokL
import Derived.Lib.SlBytesConst
import Derived.Lib.SmallJoins
namespace Go.Proofs.YtlmgklebikcbjaaGreat
open Go.RowKit
set_option linter.unusedVariables false

set_option maxHeartbeats 800000 in
theorem same_any (aa ab : Option Addr) (ca cb : Nat) (la lb : List UInt8) (w : World) (ha : Rd w aa la) (hb : Rd w ab lb) (hla : la.length ≤ maxLen) (hlb : lb.length ≤ maxLen) :
    Calls Tryz.prog 13 #[.slice aa la.length ca, .slice ab lb.length cb] w fun e w' => e = .returned (.bool (decide (la = lb))) ∧ ∃ n, w' = w.drewN n := by
  unfold maxLen at hla hlb
  by_cases hl : la.length = lb.length
  · rw [← hl] at hlb ⊢
    have HL := hid hl
    clear hl
    go_enter Tryz.func13, Tryz.ntmps13
    go_wp2
    go_loopw [5] (fun i wr => (∃ n, wr = w.drewN n) ∧ ∃ k : Nat, k ≤ la.length ∧ i = .int .i64 k ∧ ∀ j, j < k → b8 la j = b8 lb j) (fun i _ => la.length - (intOf i).toNat)
    case atStart => exact ⟨⟨0, rfl⟩, 0, Nat.zero_le _, rfl, fun _ h => by omega⟩
    case round =>
      obtain ⟨⟨n, rfl⟩, k, hk, rfl, hall⟩ := hrel
      by_cases hlt : k < la.length
      · obtain ⟨b1, o1, rfl, hs1, hc1⟩ := ha.some (by omega)
        obtain ⟨b2, o2, rfl, hs2, hc2⟩ := hb.some (by have := HL.out; omega)
        have hc1 := hc1 k hlt
        have hc2 := hc2 k (by have := HL.out; omega)
        by_cases heq : b8 la k = b8 lb k
        · have hz : (b8 la k != b8 lb k) = false := by simp [heq]
          have HE := hid heq
          have HA := hid hall
          clear heq hall ha hb
          go_wp2
          go_quiet (fail)
          go_wp2
          go_roundw
          case rel => exact ⟨by first | exact ⟨_, rfl⟩ | exact ⟨_, World.drewN_drewN _ _ _⟩, k + 1, by omega, by go_num, fun j hj => by
            by_cases hjk : j = k
            · subst hjk; exact HE.out
            · exact HA.out j (by omega)⟩
          case measure => simp [intOf]; omega
        · have hz : (b8 la k != b8 lb k) = true := by simp [heq]
          have HE := hid heq
          clear heq hall ha hb
          go_wp2
          go_quiet (fail)
          go_wp2
          go_ret
          exact ⟨ret_bool (decide_eq_false (ne_of_b8 HE.out)).symm, by first | exact ⟨_, rfl⟩ | exact ⟨_, World.drewN_drewN _ _ _⟩⟩
      · have HA := hid hall
        clear hall ha hb
        go_wp2
        go_ret
        have : la = lb := eq_of_b8 HL.out (fun j hj => HA.out j (by omega))
        exact ⟨ret_bool (decide_eq_true this).symm, _, rfl⟩
  · have hz : ((la.length : Int) != (lb.length : Int)) = true := by simp; omega
    have HL := hid hl
    clear hl
    go_enter Tryz.func13, Tryz.ntmps13
    go_wp2
    go_ret
    exact ⟨ret_bool (decide_eq_false (fun h => HL.out (by rw [h]))).symm, 0, rfl⟩
theorem same_sl (u v : Value) (la lb : List UInt8) (w : World) (hu : Sl w u la) (hv : Sl w v lb) :
    Calls Tryz.prog 13 #[u, v] w fun e w' => e = .returned (.bool (decide (la = lb))) ∧ ∃ n, w' = w.drewN n := by
  obtain ⟨aa, ca, rfl, h1, h2, h3, h4⟩ := hu
  obtain ⟨ab, cb, rfl, g1, g2, g3, g4⟩ := hv
  exact same_any aa ab ca cb la lb w h4 g4 (by omega) (by omega)

theorem alb (w : World) (o : Obj) : Below w.heap.size w (w.alloc o) := Below.alloc (Below.refl _ _) (Nat.le_refl _) _

theorem Sl.litM (w : World) (vs : Array Value) (l : List UInt8) (n : Nat) (e : TypeId) (fr : Nat × Nat) (h : vs = (l.map bv).toArray) (hn : n = l.length) (hl : l.length ≤ 1000000) : Sl (w.alloc (.cells vs e fr)) (.slice (Option.some ⟨w.heap.size, 0, none⟩) n n) l := by
  subst h; subst hn
  refine ⟨_, _, rfl, Nat.le_refl _, by unfold maxLen; omega, (fun q => by cases q), .inr ⟨w.heap.size, 0, rfl, fun j hj => ?_⟩⟩
  rw [Nat.zero_add, World.cell?_alloc_mark]
  simp [List.getD, hj, bv, b8]

theorem lex_made (v : Value) (b : List UInt8) (w : World) (h : Sl w v b) (hl : b.length ≤ 1000000) :
    Calls Tryz.prog 15 #[v] w fun e w' => ∃ lp cp, e = .returned (.pointer (some ⟨lp, 0, none⟩)) ∧ w.heap.size ≤ lp ∧ w.heap.size ≤ cp ∧ Lx w' w' lp cp b 0 b (.int .i64 0) (.slice none 0 0) (.slice none 0 0) [] ∧ Below w.heap.size w w' := by
  refine (lex_new v b w h hl).mono ?_
  rintro e w' ⟨rfl, ⟨ao, cap, hq⟩, hb⟩
  exact ⟨_, _, rfl, by omega, Nat.le_refl _, Lx.start hq, hb⟩

theorem tk_awake1 : TK [47, 65, 35, 52, 50, 32] = .tok 4 0 [65, 66] [32] := by decide +kernel
theorem tk_awake2 : TK [32] = .tok 0 0 [] [] := by decide +kernel

/-- what a lexer's calls leave of the rest -/
theorem Lx.out0 {w0 w1 w : World} {lp cp : Nat} {b s : List UInt8} {i : Nat} {m v u : Value} {out : List UInt8} (h : Lx w1 w lp cp b i s m v u out) (hb : Below w0.heap.size w0 w1) (h1 : w0.heap.size ≤ lp) (h2 : w0.heap.size ≤ cp) : Below w0.heap.size w0 w :=
  hb.trans (h.held.below hb.size h1 h2)

end Go.Proofs.YtlmgklebikcbjaaGreat
