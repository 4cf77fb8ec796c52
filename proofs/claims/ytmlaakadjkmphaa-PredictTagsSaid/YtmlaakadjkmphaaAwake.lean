/-
  The statements of chapter 9 are awake: differences are undone. And Same over slices that read as bytes.
-/
import Derived.Test.YtmlaakadjkmphaaDec
import Derived.Test.YtmlaakadjkmphaaEnc
import Derived.Test.YtmlaakadjkmphaaSame
import Derived.Deep.RegionWith
namespace Go.Proofs.Ytmlaakadjkmphaa
open Go.RowKit
set_option linter.unusedVariables false

theorem Sl.lit (w : World) (vs : Array Value) (l : List UInt8) (n : Nat) (e : TypeId) (h : vs = (l.map bv).toArray) (hn : n = l.length) (hl : l.length ≤ 1000000) : Sl (w.alloc (.cells vs e)) (.slice (some ⟨w.heap.size, 0, none⟩) n n) l := by
  subst h; subst hn
  refine ⟨_, _, rfl, Nat.le_refl _, by unfold maxLen; omega, (fun q => by cases q), .inr ⟨w.heap.size, 0, rfl, fun j hj => ?_⟩⟩
  rw [Nat.zero_add, World.cell?_alloc_at _ _ _ _ rfl]
  simp [List.getD, hj, bv, b8]

theorem same_sl (u v : Value) (la lb : List UInt8) (w : World) (hu : Sl w u la) (hv : Sl w v lb) :
    Calls Try.prog 11 #[u, v] w fun e w' => e = .returned (.bool (decide (la = lb))) ∧ ∃ n, w' = w.drewN n := by
  obtain ⟨aa, ca, rfl, h1, h2, h3, h4⟩ := hu
  obtain ⟨ab, cb, rfl, g1, g2, g3, g4⟩ := hv
  exact same_any aa ab ca cb la lb w h4 g4 (by omega) (by omega)

theorem below_of_drewN (w : World) {w' : World} (h : ∃ n, w' = w.drewN n) : Below w.heap.size w w' := by
  obtain ⟨n, rfl⟩ := h; exact below_drewN (Below.refl _ _) n

theorem dec_awake : decode 12 1 2 [2, 1, 2, 2, 1, 1] = ([1, 2, 2, 3], 0) := by decide +kernel

theorem awake_any (w : World) : Calls Try.prog 8 #[] w fun e w' => e = .returned (.bool true) ∧ Below w.heap.size w w' := by
  have hd := hid dec_awake
  go_enter Try.func8, Try.ntmps8
  go_wp2_with (first
    | (go_at_call 9; refine (decode_any 12 1 2 _ [2, 1, 2, 2, 1, 1] _ (Sl.lit _ _ _ _ _ rfl rfl (by decide)) (by decide)).mono ?_; rintro e w1 ⟨u, rfl, h1, h2⟩; rw [hd.out] at h1 ⊢)
    | (go_at_call 11; refine (same_sl _ _ [1, 2, 2, 3] [1, 2, 2, 3] _ ((Sl.own h1).up (Below.alloc (Below.refl _ _) (Nat.le_refl _) _)) (Sl.lit _ _ _ _ _ rfl rfl (by decide))).mono ?_; rintro e w3 ⟨rfl, h3⟩))
  go_ret
  exact ⟨rfl, below_then (below_then (below_then (Below.alloc (Below.refl _ _) (Nat.le_refl _) _) h2) (Below.alloc (Below.refl _ _) (Nat.le_refl _) _)) (below_of_drewN _ h3)⟩

end Go.Proofs.Ytmlaakadjkmphaa
