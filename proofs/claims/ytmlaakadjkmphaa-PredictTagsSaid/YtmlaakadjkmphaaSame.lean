/-
  Same and Copy: two slices that read as bytes are told equal just where their bytes are; a copy is a row of new memory with the same bytes. Conditions: lengths within memory.
-/
import Derived.Test.YtmlaakadjkmphaaMem
import Derived.Test.YtmlaakadjkmphaaProg

namespace Go.Proofs.Ytmlaakadjkmphaa
open Go.RowKit
set_option linter.unusedVariables false

theorem by26 : BytesTy Try.prog 26 5 := ⟨Try.underlying26, by kernel_rfl⟩

theorem u8_b8 (l : List UInt8) (k : Nat) : UInt8.ofNat (b8 l k).toNat = l.getD k 0 := by unfold b8; simp
theorem take_b8 (l : List UInt8) (k : Nat) (h : k < l.length) : l.take k ++ [UInt8.ofNat (b8 l k).toNat] = l.take (k + 1) := by
  rw [u8_b8, List.take_succ_eq_append_getElem h]; simp [List.getD, h]

set_option maxHeartbeats 800000 in
theorem copy_any (aa : Option Addr) (ca : Nat) (la : List UInt8) (w : World) (ha : Rd w aa la) (hla : la.length ≤ 140737488355328) :
    Calls Try.prog 12 #[.slice aa la.length ca] w fun e w' => ∃ v, e = .returned v ∧ OwnB w' w.heap.size 5 v la ∧ Below w.heap.size w w' := by
  go_enter Try.func12, Try.ntmps12
  go_wp2
  go_loopw [3, 4] (fun v i wr => ∃ k : Nat, k ≤ la.length ∧ i = .int .i64 k ∧ OwnB wr w.heap.size 5 v (la.take k) ∧ Below w.heap.size w wr) (fun _ i _ => la.length - (intOf i).toNat)
  case atStart => exact ⟨0, Nat.zero_le _, rfl, OwnB.nil _ _ _, Below.refl _ _⟩
  case round =>
    obtain ⟨k, hk, rfl, hown, hbel⟩ := hrel
    by_cases hlt : k < la.length
    · obtain ⟨b1, o1, rfl, hs1, hc1⟩ := (ha.up hbel).some (by omega)
      have hc1 := hc1 k hlt
      have g0 := b8_ge la k
      have g1 := b8_le la k
      have ht := List.length_take_le k la
      go_wp2_with (at_builtin; refine wpList_append_bytes by26 rfl _ _ rfl w.heap.size _ (la.take k) _ rfl (hown.alloc _) _ _ _ rfl ?c1 ?c2 (Rd.one _ _ _ g0 g1) ?c3 ?c4 ?_)
      case c1 => rfl
      case c2 => intro h; cases h
      case c3 => simp only [List.length_cons, List.length_nil]; omega
      case c4 => have := hbel.size; simp; omega
      intro v' w' hown' hg _
      rw [take_b8 la k hlt] at hown'
      have hb2 : Below w.heap.size w w' := below_append (hbel.alloc hbel.size _) (hown.alloc _) hg (Nat.le_refl _) (by have := hbel.size; simp; omega)
      clear hg hbel hown ha hc1
      go_wp2
      go_roundw
      case rel => exact ⟨k + 1, by omega, by go_num, hown', hb2⟩
      case measure => simp [intOf]; omega
    · go_wp2
      go_ret
      exact ⟨_, rfl, by rw [List.take_of_length_le (by omega)] at hown; exact hown, hbel⟩
set_option maxHeartbeats 800000 in
theorem same_any (aa ab : Option Addr) (ca cb : Nat) (la lb : List UInt8) (w : World) (ha : Rd w aa la) (hb : Rd w ab lb) (hla : la.length ≤ maxLen) (hlb : lb.length ≤ maxLen) :
    Calls Try.prog 11 #[.slice aa la.length ca, .slice ab lb.length cb] w fun e w' => e = .returned (.bool (decide (la = lb))) ∧ ∃ n, w' = w.drewN n := by
  unfold maxLen at hla hlb
  by_cases hl : la.length = lb.length
  · rw [← hl] at hlb ⊢
    have HL := hid hl
    clear hl
    go_enter Try.func11, Try.ntmps11
    go_wp2
    go_loopw [5] (fun i wr => (∃ n, wr = w.drewN n) ∧ ∃ k : Nat, k ≤ la.length ∧ i = .int .i64 k ∧ ∀ j, j < k → b8 la j = b8 lb j) (fun i _ => la.length - (intOf i).toNat)
    case atStart => exact ⟨⟨0, rfl⟩, 0, Nat.zero_le _, rfl, fun _ h => by omega⟩
    case round =>
      obtain ⟨⟨n, rfl⟩, k, hk, rfl, hall⟩ := hrel
      by_cases hlt : k < la.length
      · obtain ⟨b1, o1, rfl, hs1, hc1⟩ := ha.some (by omega)
        obtain ⟨b2, o2, rfl, hs2, hc2⟩ := hb.some (by have := HL.out; omega)
        have hc1 := hc1 k hlt
        have hc2 := hc2 k (by have := HL.out; omega)
        by_cases heq : b8 la k = b8 lb k
        · have hz : (b8 la k != b8 lb k) = false := by simp [heq]
          have HE := hid heq
          have HA := hid hall
          clear heq hall ha hb
          go_wp2
          go_quiet (fail)
          go_wp2
          go_roundw
          case rel => exact ⟨by first | exact ⟨_, rfl⟩ | exact ⟨_, World.drewN_drewN _ _ _⟩, k + 1, by omega, by go_num, fun j hj => by
            by_cases hjk : j = k
            · subst hjk; exact HE.out
            · exact HA.out j (by omega)⟩
          case measure => simp [intOf]; omega
        · have hz : (b8 la k != b8 lb k) = true := by simp [heq]
          have HE := hid heq
          clear heq hall ha hb
          go_wp2
          go_quiet (fail)
          go_wp2
          go_ret
          exact ⟨ret_bool (decide_eq_false (ne_of_b8 HE.out)).symm, by first | exact ⟨_, rfl⟩ | exact ⟨_, World.drewN_drewN _ _ _⟩⟩
      · have HA := hid hall
        clear hall ha hb
        go_wp2
        go_ret
        have : la = lb := eq_of_b8 HL.out (fun j hj => HA.out j (by omega))
        exact ⟨ret_bool (decide_eq_true this).symm, _, rfl⟩
  · have hz : ((la.length : Int) != (lb.length : Int)) = true := by simp; omega
    have HL := hid hl
    clear hl
    go_enter Try.func11, Try.ntmps11
    go_wp2
    go_ret
    exact ⟨ret_bool (decide_eq_false (fun h => HL.out (by rw [h]))).symm, 0, rfl⟩
end Go.Proofs.Ytmlaakadjkmphaa
