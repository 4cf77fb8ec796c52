/-
  The document's Has, Pair, Dict of nothing, Set of one entry. Conditions: rows no longer than a million.
-/
import Derived.Test.YtjkoiknjffldjaaGreatDoorHc
import Derived.Test.YtjkoiknjffldjaaGreatDoorKRops
/-
  The document's Has, Pair, Dict of nothing, Set of one entry. Conditions: rows no longer than a million.
-/
namespace Go.Proofs.YtjkoiknjffldjaaGreatDoor
open Go.RowKit
set_option linter.unusedVariables false

theorem rhas_any (k n : Int) (b l d : Option Addr) (nb cb nl cl nd cd : Nat) (w : World) :
    Calls Tryz.prog 52 #[.agg #[.int .i64 k, .int .i64 n, .slice b nb cb, .slice l nl cl, .slice d nd cd]] w fun e w' => e = .returned (.bool (k == 7 || k == 8)) ∧ Below w.heap.size w w' := by
  by_cases h7 : k = 7
  · subst h7
    go_enter Tryz.func52, Tryz.ntmps52
    go_wp2
    go_ret
    exact ⟨rfl, alb _ _⟩
  · have b7 : (k == 7) = false := by simp [h7]
    rw [b7]
    go_enter Tryz.func52, Tryz.ntmps52
    go_wp2
    go_ret
    exact ⟨by simp, alb _ _⟩

set_option maxHeartbeats 1600000 in
set_option maxRecDepth 100000 in
theorem rpair_any {A : Nat → Prop} {w : World} {vs : List Value} {o : PO} (k : List UInt8) (h : OV A w vs o) :
    Calls Tryz.prog 11 #[.string (st k), .agg vs.toArray] w fun e w' => ∃ vs' : List Value, e = .returned (ent k vs') ∧ OV (fun g => w.heap.size ≤ g ∧ g < w'.heap.size) w' vs' o ∧ Below w.heap.size w w' := by
  have hv := h.v5
  have hcp := fun W (hW : Below w.heap.size w W) => rcopyO_any (h.up hW)
  obtain ⟨p1, p2, p3, p4, p5, p6, p7, p8, p9, p10, p11, rfl⟩ := hv
  clear h
  go_enter Tryz.func11, Tryz.ntmps11
  go_wp2_with (go_at_call 22; refine (hcp _ (below_then (alb _ _) (alb _ _))).mono ?_; rintro e w1 ⟨vs', rfl, hov, hb1⟩; have hZ := (C5.new (w.alloc (.cells #[.int .i64 p1, .int .i64 p2, .slice p3 p6 p7, .slice p4 p8 p9, .slice p5 p10 p11] 34)) (w.heap.size + 1) (by simp) [.string ⟨#[]⟩, .int .i64 0, .int .i64 0, .slice none 0 0, .slice none 0 0, .slice none 0 0] 41).up hb1; obtain ⟨rc, rf, rs⟩ := id hZ; have hV5 := hov.v5; have hov2 := hid hov; clear hov; obtain ⟨y1, y2, y3, y4, y5, y6, y7, y8, y9, y10, y11, rfl⟩ := hV5)
  have hC := hZ.set6 (a := .string (st k)) (b := .int .i64 y1) (c := .int .i64 y2) (d := .slice y3 y6 y7) (e := .slice y4 y8 y9) (f := .slice y5 y10 y11) rfl
  have hh := fun B => set6_held w1 B (w.heap.size + 1) (.string (st k)) (.int .i64 y1) (.int .i64 y2) (.slice y3 y6 y7) (.slice y4 y8 y9) (.slice y5 y10 y11)
  have k0 := hC.1 0
  have k1 := hC.1 1
  have k2 := hC.1 2
  have k3 := hC.1 3
  have k4 := hC.1 4
  have k5 := hC.1 5
  simp only [List.getElem?_cons_zero, List.getElem?_cons_succ] at k0 k1 k2 k3 k4 k5
  have hB := below_then (below_then (alb w _) (alb _ _)) hb1
  have hs := hB.size
  have hn := hb1.size
  simp at hn
  have hs6 := (hh w1.heap.size).size
  refine bodyPost_ret (v := ent k [.int .i64 y1, .int .i64 y2, .slice y3 y6 y7, .slice y4 y8 y9, .slice y5 y10 y11]) (by simp [results, Tryz.results11, go_sem, k0, k1, k2, k3, k4, k5]) rfl ⟨_, rfl, hov2.out.keep (fun g hg => ?_) (fun g hg h1 => ?_), hB.trans ((hh w1.heap.size).below hs (by omega) (by omega))⟩
  · have := hg.1
    simp at this
    exact ⟨by omega, Nat.lt_of_lt_of_le hg.2 hs6⟩
  · have := hg.1
    simp at this
    exact (hh w1.heap.size).block g h1 (by omega) (by omega)


set_option maxRecDepth 100000 in
theorem rdict_nil (w : World) : Calls Tryz.prog 10 #[.slice none 0 0] w fun e w' => e = .returned (ob 7 0 (.slice none 0 0)) ∧ Below w.heap.size w w' := by
  go_enter Tryz.func10, Tryz.ntmps10
  go_wp2
  go_loopw [4] (fun s4 wr => s4 = .int .i64 0 ∧ wr = (w.alloc (.cells #[.int .i64 0, .int .i64 0, .slice none 0 0, .slice none 0 0, .slice none 0 0] 34)).alloc (.cells #[.int .i64 7, .int .i64 0, .slice none 0 0, .slice none 0 0, .slice none 0 0] 34)) (fun _ _ => 0)
  case atStart => exact ⟨rfl, rfl⟩
  case round =>
    obtain ⟨rfl, rfl⟩ := hrel
    go_wp2
    refine bodyPost_ret (v := ob 7 0 (.slice none 0 0)) (by simp [results, Tryz.results10, go_sem]) rfl ⟨rfl, by first | exact alb _ _ | exact below_then (alb _ _) (alb _ _)⟩

end Go.Proofs.YtjkoiknjffldjaaGreatDoor
