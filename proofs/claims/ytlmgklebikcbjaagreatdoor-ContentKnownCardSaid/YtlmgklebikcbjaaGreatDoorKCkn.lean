/-
  ContentKnown: chapter 22's example, and what is none; the walk. Condition: the table of white signs reads as the library lays it.
-/
import Derived.Test.YtlmgklebikcbjaaGreatDoorKAwc
/-
  ContentKnown: chapter 22's example, and what is none; the walk. Condition: the table of white signs reads as the library lays it.
-/
namespace Go.Proofs.YtlmgklebikcbjaaGreatDoor
open Go.RowKit
set_option linter.unusedVariables false

def ckA : List UInt8 := [49, 32, 50]
def ckB : List UInt8 := [66, 73, 32, 47, 87, 32, 49, 32, 73, 68, 32, 1, 69, 73, 50, 32, 69, 73, 32, 81]
def ckC : List UInt8 := [66, 73, 32, 47, 87, 32, 49, 32, 73, 68, 32, 120]
def nDat : List UInt8 := [1, 69, 73, 50]
def nQq : List UInt8 := [113]
def nBDC : List UInt8 := [66, 68, 67]
def ckO : List CO := [⟨bBI, [dictOf [([87], poInt 1)]], nDat, plc ckB.length ckB⟩, ⟨[81], [], [], plc ckB.length (ckB.drop 18)⟩]
set_option maxRecDepth 100000 in
theorem ckA_al : AL ckA.length [] ckA (.bad 4) := by
  refine AL.bad ?_
  refine OP.step (k := 1) (n := 1) (out := []) (r := ckA.drop 1) (x := poInt 1) (t := ckA.drop 1) (by kernel_rfl) (by decide) (fun q => absurd q.1 (by decide)) ⟨40, by kernel_rfl⟩ (by decide) ?_
  refine OP.step (k := 1) (n := 2) (out := []) (r := []) (x := poInt 2) (t := []) (by kernel_rfl) (by decide) (fun q => absurd q.1 (by decide)) ⟨40, by kernel_rfl⟩ (by decide) ?_
  exact OP.eof (n := 0) (out := []) (r := []) (by kernel_rfl) (by simp)
set_option maxRecDepth 100000 in
theorem ck_di (s : List UInt8) (hs : s = ckB.drop 2 ∨ s = ckC.drop 2) : DI [] [] s (.ok (dictOf [([87], poInt 1)]) (s.drop 8)) := by
  rcases hs with rfl | rfl
  · exact DI.step (n := 0) (out := [87]) (r := ckB.drop 5) (x := poInt 1) (t := ckB.drop 7) (by kernel_rfl) (by simp) ⟨40, by kernel_rfl⟩ (DI.close (n := 0) (by kernel_rfl))
  · exact DI.step (n := 0) (out := [87]) (r := ckC.drop 5) (x := poInt 1) (t := ckC.drop 7) (by kernel_rfl) (by simp) ⟨40, by kernel_rfl⟩ (DI.close (n := 0) (by kernel_rfl))
set_option maxRecDepth 100000 in
theorem ckB_al : AL ckB.length [] ckB (.ok ckO) := by
  have h1 : OP ckB.length [] ckB (bik 0 (plc ckB.length ckB) (.ok (dictOf [([87], poInt 1)]) ((ckB.drop 2).drop 8))) := OP.img (n := 0) (r := ckB.drop 2) (by kernel_rfl) (ck_di _ (.inl rfl))
  have e1 : bik 0 (plc ckB.length ckB) (.ok (dictOf [([87], poInt 1)]) ((ckB.drop 2).drop 8)) = .op ⟨bBI, [dictOf [([87], poInt 1)]], nDat, plc ckB.length ckB⟩ (ckB.drop 18) := by kernel_rfl
  rw [e1] at h1
  have h2 : OP ckB.length [] (ckB.drop 18) (.op ⟨[81], [], [], plc ckB.length (ckB.drop 18)⟩ []) := OP.word (n := 0) (by kernel_rfl) (by decide) (by decide)
  exact AL.step h1 (by decide) (AL.step h2 (by decide) (AL.fin (OP.fin (n := 0) (out := []) (r := []) (by kernel_rfl))))
set_option maxRecDepth 100000 in
theorem ckC_al : AL ckC.length [] ckC (.bad 2) := by
  have h1 : OP ckC.length [] ckC (bik 0 (plc ckC.length ckC) (.ok (dictOf [([87], poInt 1)]) ((ckC.drop 2).drop 8))) := OP.img (n := 0) (r := ckC.drop 2) (by kernel_rfl) (ck_di _ (.inr rfl))
  have e1 : bik 0 (plc ckC.length ckC) (.ok (dictOf [([87], poInt 1)]) ((ckC.drop 2).drop 8)) = .bad 2 := by kernel_rfl
  rw [e1] at h1
  exact AL.bad h1
theorem ckq1 : OP nQq.length [] nQq (.op ⟨nQq, [], [], plc nQq.length nQq⟩ []) := OP.word (n := 0) (by kernel_rfl) (by decide) (by decide)
theorem ckq2 : OP nQq.length [] [] .fin := OP.fin (n := 0) (out := []) (r := []) (by kernel_rfl)
theorem AlQ.bad' {w w' : World} {x : Int} {e : Ending} (h : AlQ w (.bad x) e w') : e = .returned (.tuple #[.slice none 0 0, .int .i64 x]) ∧ Below w.heap.size w w' := h

set_option maxHeartbeats 6400000 in
set_option maxRecDepth 100000 in
theorem ckn_any (w : World) (htab : Lib.TabIs Tryz.prog w "strings.asciiSpace" .u8 Lib.asciiSpaceTab) : Calls Tryz.prog 3 #[] w fun e w' => e = .returned (.bool true) ∧ Below w.heap.size w w' := by
  have kc := fun (w : World) (C : Array Value) (n c : Nat) => Lib.run_convert_bytes_const (P := Tryz.prog) w 27 5 C n c Tryz.underlying27 Tryz.underlying5
  go_enter Tryz.func3, Tryz.ntmps3
  go_upto_region 3 with (go_at_call 8; refine (awake22_any _ htab).mono ?_; rintro e w1 ⟨rfl, hb1⟩)
  go_upto_region 4 with (go_at_call 9; refine (all_any _ ckA _ (Sl.litM _ _ _ _ _ _ rfl rfl (by decide)) (by decide)).mono ?_; rintro e w2 ⟨res, hal, hq⟩; obtain rfl := AL.one hal ckA_al; obtain ⟨rfl, hb2⟩ := hq.bad')
  have hB2 := hb1.trans ((below_then (alb w1 _) hb2).mono hb1.size)
  clear hal hq hb1 hb2
  go_upto_region 5 with (go_at_call 9; refine (all_any _ ckB _ (Sl.litM _ _ _ _ _ _ rfl rfl (by decide)) (by decide)).mono ?_; rintro e w3 ⟨res, hal, hq⟩; obtain rfl := AL.one hal ckB_al; obtain ⟨vo, rfl, hao, hb3⟩ := hq.ok'; obtain ⟨C, aov, capv, rfl, hS, hC⟩ := hao.slx; obtain ⟨x0, C, rfl, y0, hC⟩ := All2.inv hC; obtain ⟨va0, vd0, rfl, ha0, hd0⟩ := y0; obtain ⟨aod, capd, rfl, -, -, -, -⟩ := id hd0.1; obtain ⟨g, off, rfl, hc⟩ := hS.some (by decide); have q02 := hc 0 (by simp) 2 _ rfl; simp only [Nat.zero_mul, Nat.add_zero] at q02; have hsd := hd0.1; clear hc hS hC ha0 hd0 hao hq hal)
  have hB3 := hB2.trans ((below_then (alb w2 _) hb3).mono hB2.size)
  clear hB2 hb3
  go_upto_region 6 with (go_at_call 9; refine (all_any _ ckC _ (Sl.litM _ _ _ _ _ _ rfl rfl (by decide)) (by decide)).mono ?_; rintro e w4 ⟨res, hal, hq⟩; obtain rfl := AL.one hal ckC_al; obtain ⟨rfl, hb4⟩ := hq.bad'; clear hal hq)
  have hB34 := below_then (alb w3 _) hb4
  clear hb4
  have hB4 := hB3.trans (hB34.mono hB3.size)
  have hk5 := hid (kinds_any nBDC w4 (tab_up htab hB4))
  go_upto_region 7 with (go_at_call 10; refine hk5.out.mono ?_; rintro e w5 ⟨rfl, hb5⟩)
  have hB5 := hB4.trans (hb5.mono hB4.size)
  have hB35 := hB34.trans (hb5.mono hB34.size)
  clear hB4 hB34 hk5 hb5
  have hk6 := hid (kinds_any [] w5 (tab_up htab hB5))
  go_upto_region 8 with (go_at_call 10; refine hk6.out.mono ?_; rintro e w6 ⟨rfl, hb6⟩)
  have hB6 := hB5.trans (hb6.mono hB5.size)
  have hB36 := hB35.trans (hb6.mono hB35.size)
  clear hB5 hB35 hk6 hb6
  go_upto_region 9 with (go_at_call 11; refine (reader_new _ nQq _ (Sl.litM _ _ _ _ _ _ rfl rfl (by decide)) (by decide)).mono ?_; rintro e w7 ⟨rp, pp, lp, cp, rfl, hR7, ⟨hl7, hc7⟩, hb7⟩)
  have hz67 := (alb w6 (.cells #[.int .u8 113] 5)).size
  have hb67 := below_then (alb w6 _) hb7
  have hB7 := hB6.trans (hb67.mono hB6.size)
  have hB37 := hB36.trans (hb67.mono hB36.size)
  have hz36 := hB36.size
  have hl6 : w6.heap.size ≤ lp ∧ w6.heap.size ≤ cp := by
    simp at hl7 hc7
    omega
  clear hB6 hB36 hl7 hc7 hb7 hb67
  have ho8 := hid (op_any hR7 (by decide))
  go_upto_region 10 with (go_at_call 12; refine ho8.out.mono ?_; rintro e w8 ⟨res, hop, hq⟩; obtain rfl := OP.one hop ckq1; obtain ⟨vs, rfl, hov, j8, hR8⟩ := hq; obtain ⟨va8, vd8, rfl, ha8, hd8⟩ := hov; obtain ⟨C8, ⟨ao8, cap8, rfl, -⟩, -⟩ := ha8; obtain ⟨aod8, capd8, rfl, -, -, -, -⟩ := hd8.1)
  have hz7 := hB37.size
  have hzw := hB3.size
  have hb8 := hR8.ps.bel (B := w3.heap.size) hz7 (by omega) (by omega)
  have hz8 := hR8.ps.size
  have hlt7 := hR7.lt
  have hO8 := C5.new w8 w8.heap.size rfl [.string (st nQq), .slice ao8 ([] : List PO).length cap8, .slice aod8 ([] : List UInt8).length capd8, .int .i64 (plc nQq.length nQq)] 34
  have hab8 := alb w8 (.cells #[.string (st nQq), .slice ao8 ([] : List PO).length cap8, .slice aod8 ([] : List UInt8).length capd8, .int .i64 (plc nQq.length nQq)] 34)
  have hR8 := hR8.below hab8
  have hB38 := (hB37.trans hb8).trans (hab8.mono (by have := hb8.size; omega))
  have hsz8 : (w8.alloc (.cells #[.string (st nQq), .slice ao8 ([] : List PO).length cap8, .slice aod8 ([] : List UInt8).length capd8, .int .i64 (plc nQq.length nQq)] 34)).heap.size = w8.heap.size + 1 := by simp
  clear hd8 hb8 hab8
  generalize hpl : plc nQq.length nQq = pl at *
  generalize w8.alloc (.cells #[.string (st nQq), .slice ao8 ([] : List PO).length cap8, .slice aod8 ([] : List UInt8).length capd8, .int .i64 pl] 34) = x8 at *
  have ho9 := hid (op_any hR8.fresh (by decide))
  go_upto_region 11 with (go_at_call 12; refine ho9.out.mono ?_; rintro e w9 ⟨res, hop9, hq9⟩; obtain rfl := OP.one hop9 ckq2; obtain ⟨rfl, j9, t9, hR9⟩ := hq9)
  have hb9 := hR9.ps.bel (B := w3.heap.size) (by omega) (by omega) (by omega)
  have hO9 := hO8.held hR9.ps.held (by omega) (by omega)
  have hab9 := alb w9 (.cells #[.string ⟨#[]⟩, .slice none 0 0, .slice none 0 0, .int .i64 0] 34)
  have hO10 := hO9.up hab9
  have hB310 := (hB38.trans hb9).trans (hab9.mono (by have := hb9.size; have := hB38.size; omega))
  have hBF := hB3.trans (hB310.mono hB3.size)
  have q02 := cell_up' hB310 q02
  have hsd := hsd.up hB310
  clear hO8 hO9 hb9 hab9 hB38 hR8 hR9 ho9 ho8 hR7 hop hop9 hB37 hB7 hC
  generalize w9.alloc (.cells #[.string ⟨#[]⟩, .slice none 0 0, .slice none 0 0, .int .i64 0] 34) = wF at *
  obtain ⟨oc, of_, os⟩ := id hO10
  have hcv : (convert 27 9 (.slice aod nDat.length capd)).run Tryz.prog wF = .ok (.string (st nDat)) wF := sl_string (P := Tryz.prog) _ 27 9 5 Tryz.underlying27 (by kernel_rfl) (by kernel_rfl) _ _ hsd
  have hqD : (nDat == [1, 69, 73, 50]) = true := rfl
  have hsD := st_toList nDat
  have hqQ : (nQq == [113]) = true := rfl
  have hsQ := st_toList nQq
  have hqK : (kinds nBDC == [78, 100]) = true := by decide +kernel
  have hsK := st_toList (kinds nBDC)
  have hik : (kindOf nBDC).isSome = true := by decide +kernel
  have hi0 : (kindOf []).isSome = false := by decide +kernel
  have hck : ckO.length = 2 := rfl
  have HFT := hid (show ((kindOf nRg).isSome && fitL (kinds nRg) []) = false by decide +kernel)
  have HN := hid (show ¬ kinds nRg = [42] by decide +kernel)
  have htF := hid (tab_up htab hBF)
  have zq := World.block_lt_of_cell? _ _ q02
  generalize kinds nBDC = kb at *
  go_wp2_with (go_at_call 13; refine (fits_plain nRg _ _ _ [] _ htF.out ⟨[], SlX.nil _ _, .nil⟩ HN.out).mono ?_; rw [HFT.out]; rintro e w11 ⟨rfl, hb11⟩)
  go_ret
  exact ⟨rfl, hBF.trans (hb11.mono hBF.size)⟩
end Go.Proofs.YtlmgklebikcbjaaGreatDoor
