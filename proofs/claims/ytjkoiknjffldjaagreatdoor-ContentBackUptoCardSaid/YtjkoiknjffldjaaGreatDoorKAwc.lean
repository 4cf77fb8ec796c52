/-
  Layer 22's awake: operators are read. Condition: the table of white signs reads as the library lays it.
-/
import Derived.Test.YtjkoiknjffldjaaGreatDoorKFit
import Derived.Test.YtjkoiknjffldjaaGreatDoorKAwk
/-
  Layer 22's awake: operators are read. Condition: the table of white signs reads as the library lays it.
-/
namespace Go.Proofs.YtjkoiknjffldjaaGreatDoor
open Go.RowKit
set_option linter.unusedVariables false

def awcB : List UInt8 := [49, 32, 48, 32, 48, 32, 114, 103, 32, 47, 70, 49, 32, 49, 50, 32, 84, 102]
def nRg : List UInt8 := [114, 103]
def nTf : List UInt8 := [84, 102]
def awcO : List CO := [⟨nRg, [poInt 1, poInt 0, poInt 0], [], plc awcB.length (awcB.drop 5)⟩, ⟨nTf, [poName [70, 49], poInt 12], [], plc awcB.length (awcB.drop 15)⟩]
set_option maxRecDepth 100000 in
theorem awc_al : AL awcB.length [] awcB (.ok awcO) := by
  have o1 : OP awcB.length [] awcB (.op ⟨nRg, [poInt 1, poInt 0, poInt 0], [], plc awcB.length (awcB.drop 5)⟩ (awcB.drop 8)) := by
    refine OP.step (k := 1) (n := 1) (out := []) (r := awcB.drop 1) (x := poInt 1) (t := awcB.drop 1) (by kernel_rfl) (by decide) (fun q => absurd q.1 (by decide)) ⟨40, by kernel_rfl⟩ (by decide) ?_
    refine OP.step (k := 1) (n := 0) (out := []) (r := awcB.drop 3) (x := poInt 0) (t := awcB.drop 3) (by kernel_rfl) (by decide) (fun q => absurd q.1 (by decide)) ⟨40, by kernel_rfl⟩ (by decide) ?_
    refine OP.step (k := 1) (n := 0) (out := []) (r := awcB.drop 5) (x := poInt 0) (t := awcB.drop 5) (by kernel_rfl) (by decide) (fun q => absurd q.1 (by decide)) ⟨40, by kernel_rfl⟩ (by decide) ?_
    exact OP.word (n := 0) (by kernel_rfl) (by decide) (by decide)
  have o2 : OP awcB.length [] (awcB.drop 8) (.op ⟨nTf, [poName [70, 49], poInt 12], [], plc awcB.length (awcB.drop 15)⟩ []) := by
    refine OP.step (k := 4) (n := 0) (out := [70, 49]) (r := awcB.drop 12) (x := poName [70, 49]) (t := awcB.drop 12) (by kernel_rfl) (by decide) (fun q => absurd q.1 (by decide)) ⟨40, by kernel_rfl⟩ (by decide) ?_
    refine OP.step (k := 1) (n := 12) (out := []) (r := awcB.drop 15) (x := poInt 12) (t := awcB.drop 15) (by kernel_rfl) (by decide) (fun q => absurd q.1 (by decide)) ⟨40, by kernel_rfl⟩ (by decide) ?_
    exact OP.word (n := 0) (by kernel_rfl) (by decide) (by decide)
  exact AL.step o1 (by decide) (AL.step o2 (by decide) (AL.fin (OP.fin (n := 0) (out := []) (r := []) (by kernel_rfl))))
theorem AlQ.ok' {w w' : World} {l : List CO} {e : Ending} (h : AlQ w (.ok l) e w') : ∃ vo, e = .returned (.tuple #[vo, .int .i64 0]) ∧ AO (fun g => w.heap.size ≤ g ∧ g < w'.heap.size) w' vo l ∧ Below w.heap.size w w' := h
theorem AO.slx {A : Nat → Prop} {w : World} {v : Value} {l : List CO} (h : AO A w v l) : ∃ C ao cap, v = .slice ao l.length cap ∧ SlX 4 w v C ∧ All2 (OpV A w) C l := by
  obtain ⟨C, h1, h2⟩ := h
  obtain ⟨ao, cap, hv, -⟩ := id h1
  exact ⟨C, ao, cap, hv, (h1.slx C (All2.len h2) (fun i hi => by simp [List.getD, hi])).1, h2⟩

set_option maxHeartbeats 3200000 in
set_option maxRecDepth 100000 in
theorem awake22_any (w : World) (htab : Lib.TabIs Tryz.prog w "strings.asciiSpace" .u8 Lib.asciiSpaceTab) : Calls Tryz.prog 4 #[] w fun e w' => e = .returned (.bool true) ∧ Below w.heap.size w w' := by
  have kc := fun (w : World) (C : Array Value) (n c : Nat) => Lib.run_convert_bytes_const (P := Tryz.prog) w 24 5 C n c Tryz.underlying24 Tryz.underlying5
  have hq0 : (nRg == [114, 103]) = true := rfl
  have hq1 : (nTf == [84, 102]) = true := rfl
  have hs0 := st_toList nRg
  have hs1 := st_toList nTf
  have hfit : ((kindOf nTf).isSome && fitL (kinds nTf) [5, 2]) = true := by decide +kernel
  have hnk : ¬ kinds nTf = [42] := by decide +kernel
  have HF := hid hfit
  have HN := hid hnk
  clear hfit hnk
  go_enter Tryz.func4, Tryz.ntmps4
  go_wp2_with (first | (go_at_call 16; refine (fits_plain nTf _ _ _ [5, 2] _ htab2.out HK1.out HN.out).mono ?_; rw [HF.out]; rintro e w3 ⟨rfl, hb3⟩) | (go_at_call 13; refine (all_any _ awcB _ (Sl.litM _ _ _ _ _ _ rfl rfl (by decide)) (by decide)).mono ?_; rintro e w2 ⟨res, hal, hq⟩; obtain rfl := AL.one hal awc_al; obtain ⟨vo, rfl, hao, hb2⟩ := hq.ok'; obtain ⟨C, aov, capv, rfl, hS, hC⟩ := hao.slx; obtain ⟨x0, C, rfl, y0, hC⟩ := All2.inv hC; obtain ⟨x1, C, rfl, y1, hC⟩ := All2.inv hC; obtain ⟨va0, vd0, rfl, ha0, hd0⟩ := y0; obtain ⟨va1, vd1, rfl, ha1, hd1⟩ := y1; have hk1 := ha1.kr; obtain ⟨C0, ⟨ao0, cap0, rfl, -⟩, -⟩ := ha0; obtain ⟨C1, ⟨ao1, cap1, rfl, -⟩, -⟩ := ha1; obtain ⟨aod, capd, rfl, -, -, -, -⟩ := hd1.1; obtain ⟨g, off, rfl, hc⟩ := hS.some (by decide); have q00 := hc 0 (by simp) 0 _ rfl; have q01 := hc 0 (by simp) 1 _ rfl; have q10 := hc 1 (by simp) 0 _ rfl; have q11 := hc 1 (by simp) 1 _ rfl; have q12 := hc 1 (by simp) 2 _ rfl; have q13 := hc 1 (by simp) 3 _ rfl; simp only [Nat.zero_mul, Nat.add_zero, Nat.one_mul] at q00 q01 q10 q11 q12 q13; have HK1 := hid hk1; have htab2 := hid (tab_up htab (below_then (alb w _) hb2)); clear hc hS hC hk1 hal hq hao hd0 hd1))
  go_ret
  exact ⟨rfl, below_then (below_then (alb w _) hb2) hb3⟩
end Go.Proofs.YtjkoiknjffldjaaGreatDoor
