/-
  ContentReads: any bytes: all operators with their operands, images within the line, or what is wrong first; the walk, by image's contract. Condition: the table of white signs reads as the library lays it.
-/
import Derived.Test.YtlmgklebikcbjaaGreatDoorKRset
import Derived.Test.YtlmgklebikcbjaaGreatDoorKAwc
/-
  ContentReads: any bytes: all operators with their operands, images within the line, or what is wrong first; the walk, by image's contract. Condition: the table of white signs reads as the library lays it.
-/
namespace Go.Proofs.YtlmgklebikcbjaaGreatDoor
open Go.RowKit
set_option linter.unusedVariables false

def LRes.code : LRes → Int
  | .bad x => x
  | .ok _ => 0
def LRes.l : LRes → List CO
  | .bad _ => []
  | .ok l => l
theorem AlQ.both {w w' : World} {res : LRes} {e : Ending} (h : AlQ w res e w') : ∃ vo, e = .returned (.tuple #[vo, .int .i64 res.code]) ∧ AO (fun g => w.heap.size ≤ g ∧ g < w'.heap.size) w' vo res.l ∧ Below w.heap.size w w' := by
  cases res with
  | bad x => obtain ⟨h1, h2⟩ := h; exact ⟨_, h1, ⟨[], RowA.nil _ _ _ _, .nil⟩, h2⟩
  | ok l => exact h
theorem AO.any {A : Nat → Prop} {w : World} {v : Value} {l : List CO} (h : AO A w v l) : ∃ C ao cap, v = .slice ao l.length cap ∧ SlX 4 w v C ∧ All2 (OpV (fun _ => True) w) C l := by
  obtain ⟨C, ao, cap, h1, h2, h3⟩ := h.slx
  exact ⟨C, ao, cap, h1, h2, h3.mono fun _ _ q => q.keep (fun _ _ => trivial) (fun _ _ _ => rfl)⟩
theorem AL.len {N : Nat} {l : List CO} {s : List UInt8} {res : LRes} (h : AL N l s res) : res.l.length ≤ l.length + s.length := by
  induction h with
  | bad _ => simp [LRes.l]
  | fin _ => simp [LRes.l]
  | lim _ _ => simp [LRes.l]
  | step h _ _ ih =>
    have := h.fit _ _ rfl
    rw [List.length_append, List.length_singleton] at ih
    omega

set_option maxHeartbeats 6400000 in
set_option maxRecDepth 100000 in
theorem crd_of (v : Value) (b : List UInt8) (w : World) (htab : Lib.TabIs Tryz.prog w "strings.asciiSpace" .u8 Lib.asciiSpaceTab) (h : Sl w v b) (hI : b.length ≤ 1500 → ∀ rp pp, ImgC rp pp b) :
    Calls Tryz.prog 4 #[v] w fun e w' => e = .returned (.bool true) ∧ Below w.heap.size w w' := by
  obtain ⟨ao, cap, rfl, -, -, -, -⟩ := id h
  by_cases hl : (b.length : Int) > 1500
  · go_enter Tryz.func4, Tryz.ntmps4
    go_wp2_with (go_at_call 8; refine (awake22_any _ htab).mono ?_; rintro e w1 ⟨rfl, hb1⟩)
    go_ret
    exact ⟨rfl, hb1⟩
  · have hl2 : b.length ≤ 1500 := by omega
    go_enter Tryz.func4, Tryz.ntmps4
    go_upto_region 5 with (first | (go_at_call 8; refine (awake22_any _ htab).mono ?_; rintro e w1 ⟨rfl, hb1⟩))
    go_upto_region 6 with (go_at_call 9; refine (all_any _ b _ (h.up hb1) (by omega)).mono ?_; rintro e w2 ⟨res, hal, hq⟩; obtain ⟨vo, rfl, hao, hb2⟩ := hq.both)
    obtain ⟨C, aov, capv, rfl, hS, hC⟩ := hao.any
    have hB2 := hb1.trans (hb2.mono hb1.size)
    have hln := hal.len
    rw [List.length_nil] at hln
    have HAL := hid hal
    clear hao hq hal
    go_upto_region 7 with (go_at_call 14; refine (rops_of _ b _ (h.up hB2) (by omega) (hI hl2)).mono ?_; rintro e w3 ⟨res2, hal2, hq2⟩; obtain rfl := AL.one hal2 HAL.out; obtain ⟨vo2, rfl, hao2, hb3⟩ := hq2.both)
    obtain ⟨D, aod, capd, rfl, hS2, hD⟩ := hao2.any
    have hB3 := hB2.trans (hb3.mono hB2.size)
    clear hao2 hq2 hal2
    have hcc : (res2.code == res2.code) = true := by simp
    generalize res2.code = cc at *
    have hC3 : All2 (OpV (fun _ => True) w3) C res2.l := hC.mono fun _ _ q => q.keep (fun _ _ => trivial) (fun g _ hlt => hb3.block g hlt)
    have hOP := hid (ops_cells _ res2.l C w3 (hS.up hb3) hC3 (by omega))
    generalize hL : res2.l = L at *
    clear hL
    go_wp2_with (first | (go_at_call 15; refine (sameops_any _ _ L C D _ hrow.sl (hC3.mono fun _ _ q => q.keep (fun _ _ => trivial) (fun g _ hlt => hb4.block g hlt)) (hS2.up hb4) (hD.mono fun _ _ q => q.keep (fun _ _ => trivial) (fun g _ hlt => hb4.block g hlt))).mono ?_; rintro e w5 ⟨rfl, hb5⟩) | (go_at_call 16; refine hOP.out.mono ?_; rintro e w4 ⟨v4, rfl, hrow, hb4⟩))
    go_ret
    exact ⟨rfl, hB3.trans ((hb4.trans (hb5.mono hb4.size)).mono hB3.size)⟩
end Go.Proofs.YtlmgklebikcbjaaGreatDoor
