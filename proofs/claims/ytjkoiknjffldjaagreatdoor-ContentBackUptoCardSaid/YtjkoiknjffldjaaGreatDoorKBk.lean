/-
  ContentBack: operators that are written are read as they were; the walk. Conditions: the table of white signs reads as the library lays it; what came in holds at most 1048576 values and letters.
-/
import Derived.Test.YtjkoiknjffldjaaGreatDoorKZa
import Derived.Test.YtjkoiknjffldjaaGreatDoorKAwc
import Derived.Test.YtjkoiknjffldjaaGreatDoorKKnd
import Derived.Test.YtjkoiknjffldjaaGreatDoorKSao
/-
  ContentBack: operators that are written are read as they were; the walk. Conditions: the table of white signs reads as the library lays it; what came in holds at most 1048576 values and letters.
-/
namespace Go.Proofs.YtjkoiknjffldjaaGreatDoor
open Go.RowKit
set_option linter.unusedVariables false

set_option maxHeartbeats 6400000 in
set_option maxRecDepth 100000 in
theorem cbk_any (v : Value) (C0 : List (List Value)) (ws : List WO) (w : World) (htab : Lib.TabIs Tryz.prog w "strings.asciiSpace" .u8 Lib.asciiSpaceTab) (hS : SlX 4 w v C0) (hW : All2 (WV w 1048576) C0 ws) :
    Calls Tryz.prog 3 #[v] w fun e w' => e = .returned (.bool true) ∧ Below w.heap.size w w' := by
  obtain ⟨ao, cap, rfl, q1, q2, -⟩ := id hS
  have hCl := All2.len hW
  rw [hCl] at hS q1 ⊢
  have HS := hid hS
  have HW := hid hW
  have HAW := hid (awake22_any w htab)
  have hmx : ws.length ≤ 9223372036854775807 := by unfold maxLen at q2; omega
  clear hS hW htab
  by_cases h30 : (ws.length : Int) > 30
  · go_enter Tryz.func3, Tryz.ntmps3
    go_wp2_with (go_at_call 4; refine HAW.out.mono ?_; rintro e w1 ⟨rfl, hb1⟩)
    go_ret
    exact ⟨rfl, hb1⟩
  go_enter Tryz.func3, Tryz.ntmps3
  go_wp2_with (go_at_call 4; refine HAW.out.mono ?_; rintro e w1 ⟨rfl, hb1⟩)
  go_loopw [3, 4, 5] (fun vb vw s5 wr => ∃ i : Nat, s5 = .int .i64 i ∧ i ≤ ws.length ∧ ∃ os, Bk0 w i vb vw wr os) (fun _ _ s5 _ => ws.length - (intOf s5).toNat)
  case atStart =>
    exact ⟨0, rfl, Nat.zero_le _, [], rfl, (fun o h => by cases h), by simp, ⟨World.ownsRow_nil _ _ _ _, hb1, (fun g q => by cases q), [], fun _ => False, OwX.nil _ _ _ _, .nil, fun g q => q.elim⟩⟩
  case round =>
    obtain ⟨i, rfl, hi, os, ho1, ho2, ho3, hSt⟩ := hrel
    have HO1 := hid ho1
    have HO2 := hid ho2
    clear ho1 ho2
    by_cases hlt : i < ws.length
    rotate_left
    · obtain rfl : i = ws.length := by omega
      have hzi : ¬ (ws.length : Int) < (ws.length : Int) := by omega
      have hpl : (os.flatMap opB).length ≤ 2200000 := by omega
      have hAL := hid (back_all (N := (os.flatMap opB).length) os [] [] 0 (.inl rfl) HO2.out (by simp) (by have := HO1.out; simp; omega))
      rw [List.nil_append, List.nil_append] at hAL
      have hLl : (wants 0 os).length ≤ 60 := by have := wants_len 0 os; have := HO1.out; omega
      generalize os.flatMap opB = lb at hSt hpl hAL
      generalize wants 0 os = L at hSt hLl hAL
      go_wp2_with (first | (go_at_call 14; obtain ⟨D, A, hD, hE, hA⟩ := hSt3.ex; refine (sameops_any _ _ L C D _ hO3.sl (hCC.out.mono fun c o q => q.keep (fun _ _ => trivial) (fun g _ hlt => hb3.block g hlt)) hD.sl (hE.mono fun c o q => q.op hSt3.bel)).mono ?_; rintro e w4 ⟨rfl, hb4⟩; have hSt4 := hSt3.below hb4) | (go_at_call 15; refine (ops_cells _ L C _ hSC hCC.out (by omega)).mono ?_; rintro e w3 ⟨vo3, rfl, hO3, hb3⟩; have hSt3 := hSt2.below hb3) | (go_at_call 13; refine (all_any _ lb _ (Sl.own hSt.row) (by omega)).mono ?_; rintro e w2 ⟨res, hal, hq⟩; obtain rfl := AL.one hal hAL.out; obtain ⟨vo, rfl, hao, hb2⟩ := hq.ok'; have hSt2 := hSt.below hb2; obtain ⟨C, aoc, capc, rfl, hSC, hCC0⟩ := hao.slx; have hCC := hid (hCC0.mono (S := OpV (fun _ => True) w2) fun c o q => q.keep (fun _ _ => trivial) (fun _ _ _ => rfl)); clear hCC0))
      go_ret
      exact ⟨rfl, hSt4.bel⟩
    have hzi : (i : Int) < (ws.length : Int) := by omega
    obtain ⟨g, off, rfl, hcell⟩ := HS.out.some (by omega)
    have hCi : i < C0.length := by omega
    have l2 := hcell i hCi
    obtain ⟨va, vd, at_, hce, hga, hgd, hz1, hz2, hz3, hz4⟩ := HW.out.at i hCi hlt
    generalize C0[i]'hCi = ci at l2 hce
    generalize hwi : ws[i]'hlt = o at hce hga hgd hz1 hz2 hz3 hz4
    subst hce
    clear hwi
    have c0 := l2 0 _ rfl
    have c1 := l2 1 _ rfl
    have c2 := l2 2 _ rfl
    have c3 := l2 3 _ rfl
    rw [Nat.add_zero] at c0
    clear l2 hcell
    obtain ⟨nm, args, data⟩ := o
    simp only [] at c0 hga hgd hz1 hz2 hz3 hz4
    obtain ⟨Ca, hSa, hGa⟩ := hga
    have hCal := All2.len hGa
    obtain ⟨aa, ca, rfl, ha1, ha2, -⟩ := id hSa
    obtain ⟨ad, cd, rfl, hd1, hd2, -⟩ := id hgd
    rw [hCal] at hSa ha1 c1
    have HGA := hid (show GVZ w (.slice aa args.length ca) args from ⟨⟨Ca, hSa, hGa⟩, by omega, fun a ha dp => Nat.le_trans (hz4 a ha dp) (by omega)⟩)
    have HGD := hid hgd
    have HZ4 := hid hz4
    have HSA := hid hSa
    have HGG := hid hGa
    clear hz4 hgd hSa hGa
    have hmx2 : args.length ≤ 9223372036854775807 := by omega
    have hB := hSt.bel
    have hbs := hB.size
    have c0 := cell_up' hB c0
    have c1 := cell_up' hB c1
    have c2 := cell_up' hB c2
    have c3 := cell_up' hB c3
    have hgw := World.block_lt_of_cell? _ _ c0
    have hBX := hSt.new [.string (st nm), .slice aa args.length ca, .slice ad data.length cd, .int .i64 at_] 27
    have hSt1 := hSt.below (alb wr (.cells #[.string (st nm), .slice aa args.length ca, .slice ad data.length cd, .int .i64 at_] 27))
    have hst := st_toList nm
    clear hSt
    by_cases hkn : (kindOf nm).isSome = true
    rotate_left
    · have hk2 : (kindOf nm).isSome = false := by simpa using hkn
      clear hkn
      have HK := hid hk2
      clear hk2
      go_wp2_with (first | (go_at_call 5; refine (rkinds_any nm _).mono ?_; rw [HK.out]; rintro e w2 ⟨rfl, hb2⟩; have hSt2 := hSt1.below hb2; obtain ⟨oc, of_, os_⟩ := id (hBX.below hb2).1))
      go_ret
      exact ⟨rfl, hSt2.bel⟩
    have HK := hid hkn
    clear hkn
    by_cases hbi : nm = [66, 73]
    · have b1 : (nm == [66, 73]) = true := by rw [hbi]; rfl
      clear hbi
      go_wp2_with (first | (go_at_call 5; refine (rkinds_any nm _).mono ?_; rw [HK.out]; rintro e w2 ⟨rfl, hb2⟩; have hSt2 := hSt1.below hb2; have hBX2 := hBX.below hb2; obtain ⟨oc, of_, os_⟩ := id hBX2.1))
      go_ret
      exact ⟨rfl, hSt2.bel⟩
    have b1 : (nm == [66, 73]) = false := by simpa using hbi
    have HBI := hid hbi
    clear hbi
    by_cases h33 : (args.length : Int) > 33
    · go_wp2_with (first | (go_at_call 5; refine (rkinds_any nm _).mono ?_; rw [HK.out]; rintro e w2 ⟨rfl, hb2⟩; have hSt2 := hSt1.below hb2; have hBX2 := hBX.below hb2; obtain ⟨oc, of_, os_⟩ := id hBX2.1))
      go_ret
      exact ⟨rfl, hSt2.bel⟩
    go_wp2_with (first | (go_at_call 5; refine (rkinds_any nm _).mono ?_; rw [HK.out]; rintro e w2 ⟨rfl, hb2⟩; have hSt2 := hSt1.below hb2; have hBX2 := hBX.below hb2; obtain ⟨oc, of_, os_⟩ := id hBX2.1))
    clear oc of_ os_ hBX hSt1 hb2 c0 c1 c2 c3 hbs
    have hgo0 : w.heap.size ≤ wr.heap.size := hB.size
    clear hB hgw
    generalize hgo : wr.heap.size = go at *
    generalize hlb0 : os.flatMap opB = lb0 at *
    generalize hL : wants 0 os = L at *
    have HL0 := hid hlb0
    have HLL := hid hL
    have HB3 := hid ho3
    clear hlb0 hL
    obtain ⟨wo, rfl⟩ : ∃ wo : World, wo = wr := ⟨_, rfl⟩
    go_loopw [3, 9] (fun vb s9 wr => ∃ k : Nat, s9 = .int .i64 k ∧ k ≤ args.length ∧ (∀ a ∈ args.take k, ArgOk a) ∧ (argB (args.take k)).length ≤ 2001 * k ∧ St w wr vb u4 (lb0 ++ argB (args.take k)) L ∧ BX wr go [.string (st nm), .slice aa args.length ca, .slice ad data.length cd, .int .i64 at_] vb u4) (fun _ s9 _ => args.length - (intOf s9).toNat)
    case atStart => exact ⟨0, rfl, Nat.zero_le _, (fun a h => by simp at h), by simp [argB], by simpa [argB] using hSt2, hBX2⟩
    case round =>
      obtain ⟨k, rfl, hk, harg, hlen, hSt, hBX⟩ := hrel
      have HARG := hid harg
      clear harg
      have hlbz : (lb0 ++ argB (args.take k)).length ≤ 2200000 := by rw [List.length_append]; omega
      by_cases hkl : k < args.length
      rotate_left
      · obtain rfl : k = args.length := by omega
        have hzk : ¬ (args.length : Int) < (args.length : Int) := by omega
        rw [List.take_length] at hlen hSt hlbz HARG
        have hLl : L.length ≤ 60 := by rw [← HLL.out]; have := wants_len 0 os; have := HO1.out; omega
        generalize hlbk : lb0 ++ argB args = lb at hSt hlbz
        have hnl : nm.length ≤ 127 := wOk_len (kind_ok HK.out)
        have HSK := hid (fun (vb vw : Value) (wX : World) (h : St w wX vb vw (lb ++ nm ++ [32]) (L ++ [⟨nm, args, [], (lb.length : Int)⟩])) => bk_none HO1.out HO2.out (by rw [HL0.out]; exact HB3.out) ⟨HK.out, HBI.out, by show args.length ≤ 33; omega, HARG.out, fun l q => by cases q⟩ hnl hlen (by rw [HL0.out]; exact hlbk) HLL.out h)
        have HSM := hid (fun (hd2 : data.length < 200) (hno : noEI data) (vb vw : Value) (wX : World) (h : St w wX vb vw (lb ++ nm ++ [32] ++ bImg ++ data ++ bEnd) (L ++ [⟨nm, args, [], (lb.length : Int)⟩] ++ [⟨bBI, [poW], data, ((lb ++ nm ++ [32]).length : Int)⟩])) => bk_some HO1.out HO2.out (by rw [HL0.out]; exact HB3.out) ⟨HK.out, HBI.out, by show args.length ≤ 33; omega, HARG.out, fun l q => by injection q with q; subst q; exact hno⟩ hnl hd2 hlen (by rw [HL0.out]; exact hlbk) HLL.out h)
        clear hlbk
        obtain ⟨oc, of_, os_⟩ := id hBX.1
        have hgz := os_
        obtain ⟨ab, cb, hu3, -⟩ := Sl.own hSt.row
        subst hu3
        have hStA := hSt.below (alb wr (.cells #[.string (st nm), .slice aa args.length ca, .slice none 0 0, .int .i64 lb.length] 27))
        have hBXA := hBX.below (alb wr (.cells #[.string (st nm), .slice aa args.length ca, .slice none 0 0, .int .i64 lb.length] 27))
        obtain ⟨C, A, hC, hE, hA⟩ := hStA.ex
        have hCl := All2.len hE
        have hvw : ∀ g, u4.ownBlock = some g → w.heap.size ≤ g := fun g hg => (hC.lt g hg).1
        have HEL := hid (show EL (fun _ => False) w (wr.alloc (.cells #[.string (st nm), .slice aa args.length ca, .slice none 0 0, .int .i64 lb.length] 27)) [.string (st nm), .slice aa args.length ca, .slice none 0 0, .int .i64 lb.length] ⟨nm, args, [], (lb.length : Int)⟩ from ⟨_, _, rfl, .inl HGA.out, Sl.nil _⟩)
        clear hSt hBX
        by_cases d0 : data.length = 0
        · have hq : ¬ (data.length : Int) > 0 := by omega
          clear d0
          go_wp2_with (first | (at_builtin; refine wpList_append_bytes bytesTy rfl _ _ rfl w.heap.size _ (lb ++ nm) [32] rfl (hSt6.below (alb _ _)).row _ _ _ rfl rfl (fun q => by cases q) (Rd.byteM _ 32 _ _ (by simp) (by omega) (by omega)) (by simp; omega) (hSt6.below (alb _ _)).bel.size ?_; intro v7 w7 q1 q2 q3; have hSt7 := (hSt6.below (alb _ _)).bytes q1 q2 q3; have hBX7 := (hBX6.below (alb _ _)).bytes q2 q3; clear q1 q2 q3; obtain ⟨oc, of_, os_⟩ := id hBX7.1; have hgz := os_) | (at_builtin; refine wpList_append_st bytesTy rfl _ _ 9 (by kernel_rfl) rfl w.heap.size _ lb nm rfl hSt5.row rfl (by omega) hSt5.bel.size ?_; intro v6 w6 q1 q2 q3; have hSt6 := hSt5.bytes q1 q2 q3; have hBX6 := hBX5.bytes q2 q3; clear q1 q2 q3) | (at_builtin; refine wpList_append_slx rfl _ _ 22 rfl w.heap.size 27 zRop 4 72 ropTy' ropIn rfl (by decide) _ C rfl hC _ [[.string (st nm), .slice aa args.length ca, .slice none 0 0, .int .i64 lb.length]] rfl (SlX.lit1 wr _ rfl [.string (st nm), .slice aa args.length ca, .slice none 0 0, .int .i64 lb.length] _ 4 rfl) (op_one _ _ _ _ _ _ _ _) (by simp; omega) (by decide) hStA.bel.size ?_; intro v5 w5 q1 q2 q3; have hSt5 := hStA.want hE hA q1 q2 q3 hvw HEL.out (fun g q => q.elim); have hBX5 := hBXA.want q2 q3; obtain ⟨oc, of_, os_⟩ := id hBX5.1; have hgz := os_; clear q1 q2 q3))
          go_roundw
          case rel => exact ⟨i + 1, by go_num, by omega, _, HSK.out _ _ _ hSt7⟩
          case measure => simp [intOf]; omega
        obtain ⟨gd, offd, rfl, -, hdc⟩ := HGD.out.rd.some (by omega)
        have hdc0 := hdc 0 (by omega)
        rw [Nat.add_zero] at hdc0
        have HD0 := hid (fun (X : World) (hX : Below w.heap.size w X) => cell_up' hX hdc0)
        have x0 := b8_ge data 0
        have x1 := b8_le data 0
        have hq : (data.length : Int) > 0 := by omega
        clear hdc d0 hdc0
        by_cases d2 : (data.length : Int) < 200
        rotate_left
        · go_wp2_with (first | (at_builtin; refine wpList_append_bytes bytesTy rfl _ _ rfl w.heap.size _ (lb ++ nm) [32] rfl (hSt6.below (alb _ _)).row _ _ _ rfl rfl (fun q => by cases q) (Rd.byteM _ 32 _ _ (by simp) (by omega) (by omega)) (by simp; omega) (hSt6.below (alb _ _)).bel.size ?_; intro v7 w7 q1 q2 q3; have hSt7 := (hSt6.below (alb _ _)).bytes q1 q2 q3; have hBX7 := (hBX6.below (alb _ _)).bytes q2 q3; clear q1 q2 q3; obtain ⟨oc, of_, os_⟩ := id hBX7.1; have hgz := os_) | (at_builtin; refine wpList_append_st bytesTy rfl _ _ 9 (by kernel_rfl) rfl w.heap.size _ lb nm rfl hSt5.row rfl (by omega) hSt5.bel.size ?_; intro v6 w6 q1 q2 q3; have hSt6 := hSt5.bytes q1 q2 q3; have hBX6 := hBX5.bytes q2 q3; clear q1 q2 q3) | (at_builtin; refine wpList_append_slx rfl _ _ 22 rfl w.heap.size 27 zRop 4 72 ropTy' ropIn rfl (by decide) _ C rfl hC _ [[.string (st nm), .slice aa args.length ca, .slice none 0 0, .int .i64 lb.length]] rfl (SlX.lit1 wr _ rfl [.string (st nm), .slice aa args.length ca, .slice none 0 0, .int .i64 lb.length] _ 4 rfl) (op_one _ _ _ _ _ _ _ _) (by simp; omega) (by decide) hStA.bel.size ?_; intro v5 w5 q1 q2 q3; have hSt5 := hStA.want hE hA q1 q2 q3 hvw HEL.out (fun g q => q.elim); have hBX5 := hBXA.want q2 q3; obtain ⟨oc, of_, os_⟩ := id hBX5.1; have hgz := os_; clear q1 q2 q3))
          go_roundw
          case rel => exact ⟨i + 1, by go_num, by omega, _, HSK.out _ _ _ hSt7⟩
          case measure => simp [intOf]; omega
        cases hwh : wh (b8 data 0) with
        | true =>
          have HWH := hid hwh
          clear hwh
          go_wp2_with (first | (go_at_call 8; refine (rwhite_any _ _).mono ?_; rintro e w8 ⟨rfl, rfl⟩; rw [HWH.out]) | (at_builtin; refine wpList_append_bytes bytesTy rfl _ _ rfl w.heap.size _ (lb ++ nm) [32] rfl (hSt6.below (alb _ _)).row _ _ _ rfl rfl (fun q => by cases q) (Rd.byteM _ 32 _ _ (by simp) (by omega) (by omega)) (by simp; omega) (hSt6.below (alb _ _)).bel.size ?_; intro v7 w7 q1 q2 q3; have hSt7 := (hSt6.below (alb _ _)).bytes q1 q2 q3; have hBX7 := (hBX6.below (alb _ _)).bytes q2 q3; clear q1 q2 q3; obtain ⟨oc, of_, os_⟩ := id hBX7.1; have hgz := os_; have d0 := HD0.out w7 hSt7.bel; have hgd := World.block_lt_of_cell? _ _ d0) | (at_builtin; refine wpList_append_st bytesTy rfl _ _ 9 (by kernel_rfl) rfl w.heap.size _ lb nm rfl hSt5.row rfl (by omega) hSt5.bel.size ?_; intro v6 w6 q1 q2 q3; have hSt6 := hSt5.bytes q1 q2 q3; have hBX6 := hBX5.bytes q2 q3; clear q1 q2 q3) | (at_builtin; refine wpList_append_slx rfl _ _ 22 rfl w.heap.size 27 zRop 4 72 ropTy' ropIn rfl (by decide) _ C rfl hC _ [[.string (st nm), .slice aa args.length ca, .slice none 0 0, .int .i64 lb.length]] rfl (SlX.lit1 wr _ rfl [.string (st nm), .slice aa args.length ca, .slice none 0 0, .int .i64 lb.length] _ 4 rfl) (op_one _ _ _ _ _ _ _ _) (by simp; omega) (by decide) hStA.bel.size ?_; intro v5 w5 q1 q2 q3; have hSt5 := hStA.want hE hA q1 q2 q3 hvw HEL.out (fun g q => q.elim); have hBX5 := hBXA.want q2 q3; obtain ⟨oc, of_, os_⟩ := id hBX5.1; have hgz := os_; clear q1 q2 q3))
          go_roundw
          case rel => exact ⟨i + 1, by go_num, by omega, _, HSK.out _ _ _ hSt7⟩
          case measure => simp [intOf]; omega
        | false =>
          have HWH := hid hwh
          clear hwh
          have HFI := hid (fun (X : World) (hX : Below w.heap.size w X) => find2_any _ data X (HGD.out.up hX) (by omega))
          have HSM2 := hid (fun (hno : findN data < 0) => HSM.out (by omega) (findN_neg hno))
          generalize findN data = nf at HFI HSM2
          by_cases hnf : nf < 0
          rotate_left
          · go_wp2_with (first | (go_at_call 9; refine (HFI.out _ hSt7.bel).mono ?_; rintro e w8 ⟨rfl, rfl⟩) | (go_at_call 8; refine (rwhite_any _ _).mono ?_; rintro e w8 ⟨rfl, rfl⟩; rw [HWH.out]) | (at_builtin; refine wpList_append_bytes bytesTy rfl _ _ rfl w.heap.size _ (lb ++ nm) [32] rfl (hSt6.below (alb _ _)).row _ _ _ rfl rfl (fun q => by cases q) (Rd.byteM _ 32 _ _ (by simp) (by omega) (by omega)) (by simp; omega) (hSt6.below (alb _ _)).bel.size ?_; intro v7 w7 q1 q2 q3; have hSt7 := (hSt6.below (alb _ _)).bytes q1 q2 q3; have hBX7 := (hBX6.below (alb _ _)).bytes q2 q3; clear q1 q2 q3; obtain ⟨oc, of_, os_⟩ := id hBX7.1; have hgz := os_; have d0 := HD0.out w7 hSt7.bel; have hgd := World.block_lt_of_cell? _ _ d0) | (at_builtin; refine wpList_append_st bytesTy rfl _ _ 9 (by kernel_rfl) rfl w.heap.size _ lb nm rfl hSt5.row rfl (by omega) hSt5.bel.size ?_; intro v6 w6 q1 q2 q3; have hSt6 := hSt5.bytes q1 q2 q3; have hBX6 := hBX5.bytes q2 q3; clear q1 q2 q3) | (at_builtin; refine wpList_append_slx rfl _ _ 22 rfl w.heap.size 27 zRop 4 72 ropTy' ropIn rfl (by decide) _ C rfl hC _ [[.string (st nm), .slice aa args.length ca, .slice none 0 0, .int .i64 lb.length]] rfl (SlX.lit1 wr _ rfl [.string (st nm), .slice aa args.length ca, .slice none 0 0, .int .i64 lb.length] _ 4 rfl) (op_one _ _ _ _ _ _ _ _) (by simp; omega) (by decide) hStA.bel.size ?_; intro v5 w5 q1 q2 q3; have hSt5 := hStA.want hE hA q1 q2 q3 hvw HEL.out (fun g q => q.elim); have hBX5 := hBXA.want q2 q3; obtain ⟨oc, of_, os_⟩ := id hBX5.1; have hgz := os_; clear q1 q2 q3))
            go_roundw
            case rel => exact ⟨i + 1, by go_num, by omega, _, HSK.out _ _ _ hSt7⟩
            case measure => simp [intOf]; omega
          have HS3 := hid (HSM2.out hnf)
          clear HSM HSM2 HSK
          go_upto_region 24 with (first | (go_at_call 9; refine (HFI.out _ hSt7.bel).mono ?_; rintro e w8 ⟨rfl, rfl⟩) | (go_at_call 8; refine (rwhite_any _ _).mono ?_; rintro e w8 ⟨rfl, rfl⟩; rw [HWH.out]) | (at_builtin; refine wpList_append_bytes bytesTy rfl _ _ rfl w.heap.size _ (lb ++ nm) [32] rfl (hSt6.below (alb _ _)).row _ _ _ rfl rfl (fun q => by cases q) (Rd.byteM _ 32 _ _ (by simp) (by omega) (by omega)) (by simp; omega) (hSt6.below (alb _ _)).bel.size ?_; intro v7 w7 q1 q2 q3; have hSt7 := (hSt6.below (alb _ _)).bytes q1 q2 q3; have hBX7 := (hBX6.below (alb _ _)).bytes q2 q3; clear q1 q2 q3; obtain ⟨oc, of_, os_⟩ := id hBX7.1; have hgz := os_; have d0 := HD0.out w7 hSt7.bel; have hgd := World.block_lt_of_cell? _ _ d0) | (at_builtin; refine wpList_append_st bytesTy rfl _ _ 9 (by kernel_rfl) rfl w.heap.size _ lb nm rfl hSt5.row rfl (by omega) hSt5.bel.size ?_; intro v6 w6 q1 q2 q3; have hSt6 := hSt5.bytes q1 q2 q3; have hBX6 := hBX5.bytes q2 q3; clear q1 q2 q3) | (at_builtin; refine wpList_append_slx rfl _ _ 22 rfl w.heap.size 27 zRop 4 72 ropTy' ropIn rfl (by decide) _ C rfl hC _ [[.string (st nm), .slice aa args.length ca, .slice none 0 0, .int .i64 lb.length]] rfl (SlX.lit1 wr _ rfl [.string (st nm), .slice aa args.length ca, .slice none 0 0, .int .i64 lb.length] _ 4 rfl) (op_one _ _ _ _ _ _ _ _) (by simp; omega) (by decide) hStA.bel.size ?_; intro v5 w5 q1 q2 q3; have hSt5 := hStA.want hE hA q1 q2 q3 hvw HEL.out (fun g q => q.elim); have hBX5 := hBXA.want q2 q3; obtain ⟨oc, of_, os_⟩ := id hBX5.1; have hgz := os_; clear q1 q2 q3))
          have hz7 : (lb ++ nm ++ [32]).length ≤ 2300000 := by simp; omega
          generalize lb ++ nm ++ [32] = l7 at *
          obtain ⟨a7, k7, hv7, -⟩ := Sl.own hSt7.row
          subst hv7
          have hzL : (L ++ [(⟨nm, args, [], (lb.length : Int)⟩ : CO)]).length ≤ 61 := by rw [List.length_append, List.length_singleton]; omega
          generalize L ++ [(⟨nm, args, [], (lb.length : Int)⟩ : CO)] = L7 at *
          have hz16 : l7.length + bImg.length ≤ 140737488355328 := by have : bImg.length = 11 := rfl; omega
          have hz17 : (l7 ++ bImg).length + data.length ≤ 140737488355328 := by rw [List.length_append]; have : bImg.length = 11 := rfl; omega
          have hz18 : (l7 ++ bImg ++ data).length + bEnd.length ≤ 140737488355328 := by rw [List.length_append, List.length_append]; have : bImg.length = 11 := rfl; have : bEnd.length = 4 := rfl; omega
          clear hC hE hA hvw HEL hStA hBXA hSt5 hBX5 hSt6 hBX6 d0 hgd
          have hbd : Below w8.heap.size w8 w8.drew := below_drewN (Below.refl _ _) 1
          have HSX := hid (fun (X : World) (hX : Below w8.heap.size w8 X) => show X.cell? ⟨go, 2, none⟩ = some (.slice (some ⟨gd, offd, none⟩) data.length cd) from cell_up' hX (hBX7.1.1 2))
          have HS8 := hid (HSX.out w8 (Below.refl _ _))
          have HS8d := hid (HSX.out w8.drew hbd)
          go_region_held3 (fun w' => w'.cell? ⟨go, 2, none⟩ = some (.slice (some ⟨gd, offd, none⟩) data.length cd)) (first | with_reducible exact HS8.out | with_reducible exact HS8d.out | with_reducible exact HS9.out | with_reducible exact HS10.out | with_reducible exact HS12.out | with_reducible exact HS15.out | go_keep | skip) (first | (go_at_call 10; refine (rdict_one (A0 := fun g => w9.heap.size ≤ g ∧ g < w10.heap.size) [87] (SlX.lit1 w10 _ rfl (ecl ([87], [.int .i64 z1, .int .i64 z2, .slice z3 z6 z7, .slice z4 z8 z9, .slice z5 z10 z11])) 41 6 rfl) (HOV.out.up (alb _ _)) (fun g hg => Nat.lt_of_lt_of_le hg.2 (alb _ _).size)).mono ?_; rintro e w12 ⟨vs12, rfl, hov12, hb12⟩; have s11 := (alb w10 (.cells #[.string (st [87]), .int .i64 z1, .int .i64 z2, .slice z3 z6 z7, .slice z4 z8 z9, .slice z5 z10 z11] 41)).size; have s12 := hb12.size; have hb12 := (hb10.trans ((alb w10 (.cells #[.string (st [87]), .int .i64 z1, .int .i64 z2, .slice z3 z6 z7, .slice z4 z8 z9, .slice z5 z10 z11] 41)).mono hb10.size)).trans (hb12.mono (Nat.le_trans hb10.size s11)); have HS12 := hid (HSX.out w12 hb12); obtain ⟨n1, n3, n4, n6, n7, n9, rfl⟩ := hov12.shape; have HOV12 := hid (hov12.keep (B := fun g => w8.heap.size ≤ g ∧ g < w12.heap.size) (fun g hg => hg.elim (fun hg => ⟨Nat.le_trans hb9.size hg.1, Nat.lt_of_lt_of_le hg.2 (Nat.le_trans s11 s12)⟩) (fun hg => ⟨Nat.le_trans (Nat.le_trans hb10.size s11) hg.1, hg.2⟩)) (fun _ _ _ => rfl)); clear hov12) | (go_at_call 11; refine (pairW_any _).mono ?_; rintro e w10 ⟨vs10, rfl, hov10, hb10⟩; have s10 := hb10.size; have hb10 := hb9.trans (hb10.mono hb9.size); have HS10 := hid (HSX.out w10 hb10); have hv5 := hov10.v5; have HOV := hid hov10; clear hov10; obtain ⟨z1, z2, z3, z4, z5, z6, z7, z8, z9, z10, z11, rfl⟩ := hv5) | (have hbB : Below w8.heap.size w8 ((w12.alloc (.cells #[.int .i64 7, .int .i64 0, .slice n1 0 n3, .slice n4 0 n6, .slice n7 (wi ([87], poInt 1) []).length n9] 34)).alloc (.cells #[.string ⟨#[66, 73]⟩, .slice (some ⟨w12.heap.size, 0, none⟩) 1 1, .slice (some ⟨gd, offd, none⟩) data.length cd, .int .i64 l7.length] 27)) := (hb12.trans ((alb w12 _).mono hb12.size)).trans ((alb _ _).mono (Nat.le_trans hb12.size (alb w12 _).size)); obtain ⟨C, hC, hCl7, hfin⟩ := hSt7.img hbB (img_ar HOV12.out hb12.size) HGD.out; refine wp_append_slx _ _ 22 rfl w.heap.size 27 zRop 4 72 ropTy' ropIn rfl (by decide) _ C rfl hC _ [[.string ⟨#[66, 73]⟩, .slice (some ⟨w12.heap.size, 0, none⟩) 1 1, .slice (some ⟨gd, offd, none⟩) data.length cd, .int .i64 l7.length]] rfl (SlX.lit1 (w12.alloc (.cells #[.int .i64 7, .int .i64 0, .slice n1 0 n3, .slice n4 0 n6, .slice n7 (wi ([87], poInt 1) []).length n9] 34)) (w12.heap.size + 1) (by simp) [.string ⟨#[66, 73]⟩, .slice (some ⟨w12.heap.size, 0, none⟩) 1 1, .slice (some ⟨gd, offd, none⟩) data.length cd, .int .i64 l7.length] _ 4 rfl) (op_one _ _ _ _ _ _ _ _) (by rw [hCl7]; simp; omega) (by decide) (hSt7.below hbB).bel.size ?_; intro v15 w15 q1 q2 q3; have hSt15 := hfin _ _ q1 q2 q3; have hBX15 := (hBX7.below hbB).want q2 q3; have HS15 := hid (show w15.cell? ⟨go, 2, none⟩ = some (.slice (some ⟨gd, offd, none⟩) data.length cd) from hBX15.1.1 2); clear q1 q2 q3) | (go_at_call 12; refine (rint_any 1 _).mono ?_; rintro e w9 ⟨rfl, hb9⟩; have hb9 := hbd.trans (hb9.mono hbd.size); have HS9 := hid (HSX.out w9 hb9)))
          all_goals
            have hbd15 : Below w15.heap.size w15 w15.drew := below_drewN (Below.refl _ _) 1
            have hSt15d := hSt15.below hbd15
            have hBX15d := hBX15.below hbd15
            have HS15d := hid (show w15.drew.cell? ⟨go, 2, none⟩ = some (.slice (some ⟨gd, offd, none⟩) data.length cd) from hBX15d.1.1 2)
            go_upto_region 25 with fail
            go_region_held3 (fun w' => w'.cell? ⟨go, 2, none⟩ = some (.slice (some ⟨gd, offd, none⟩) data.length cd)) (first | with_reducible exact HS15.out | with_reducible exact HS15d.out | with_reducible exact HS16.out | with_reducible exact HS17.out | with_reducible exact HS18.out | go_keep | skip) (first | (refine wp_append_st1 bytesTy _ _ 9 (by kernel_rfl) rfl w.heap.size _ (l7 ++ bImg ++ data) bEnd rfl hSt17.row rfl hz18 hSt17.bel.size ?_; intro v18 w18 q1 q2 q3; have hSt18 := hSt17.bytes q1 q2 q3; have hBX18 := hBX17.bytes q2 q3; have HS18 := hid (show w18.cell? ⟨go, 2, none⟩ = some (.slice (some ⟨gd, offd, none⟩) data.length cd) from hBX18.1.1 2); clear q1 q2 q3) | (refine wp_append_bytes1 bytesTy _ _ rfl w.heap.size _ (l7 ++ bImg) data rfl hSt16.row ⟨gd, offd, none⟩ _ _ rfl rfl ((HGD.out.up hSt16.bel).rd) hz17 hSt16.bel.size ?_; intro v17 w17 q1 q0 q2 q3; have hSt17 := hSt16.bytes q1 q2 q3; have hBX17 := hBX16.bytes q2 q3; have HS17 := hid (show w17.cell? ⟨go, 2, none⟩ = some (.slice (some ⟨gd, offd, none⟩) data.length cd) from hBX17.1.1 2); clear q0 q1 q2 q3) | (refine wp_append_st1 bytesTy _ _ 9 (by kernel_rfl) rfl w.heap.size _ l7 bImg rfl hSt15d.row rfl hz16 hSt15d.bel.size ?_; intro v16 w16 q1 q2 q3; have hSt16 := hSt15d.bytes q1 q2 q3; have hBX16 := hBX15d.bytes q2 q3; have HS16 := hid (show w16.cell? ⟨go, 2, none⟩ = some (.slice (some ⟨gd, offd, none⟩) data.length cd) from hBX16.1.1 2); clear q1 q2 q3))
            all_goals
              go_wp2_with fail
              go_roundw
              case rel => exact ⟨i + 1, by go_num, by omega, _, HS3.out _ _ _ hSt18⟩
              case measure => simp [intOf]; omega
      have hzk : (k : Int) < (args.length : Int) := by omega
      obtain ⟨ga, offa, rfl, hcell⟩ := HSA.out.some (by omega)
      have hCk : k < Ca.length := by omega
      have l2 := hcell k hCk
      have hgv := HGG.out.at k hCk hkl
      have hz28 := HZ4.out _ (List.getElem_mem hkl) 28
      have HAS := hid (argB_snoc args k hkl)
      have hv5 := hgv.v5
      have HGV := hid hgv
      have HA1 := hid (fun (q : ArgOk args[k]) => show ∀ a ∈ args.take (k + 1), ArgOk a from by
        rw [List.take_succ_eq_append_getElem hkl]
        intro a ha
        rcases List.mem_append.1 ha with h | h
        · exact HARG.out a h
        · obtain rfl : a = args[k] := by simpa using h
          exact q)
      generalize Ca[k]'hCk = ck at l2 hv5 HGV hgv
      generalize args[k]'hkl = a at HGV hgv hz28 HAS HA1
      obtain ⟨p1, p2, p3, p4, p5, p6, p7, p8, p9, p10, p11, rfl⟩ := hv5
      have c0 := l2 0 _ rfl
      have c1 := l2 1 _ rfl
      have c2 := l2 2 _ rfl
      have c3 := l2 3 _ rfl
      have c4 := l2 4 _ rfl
      rw [Nat.add_zero] at c0
      have HCW := hid (fun (X : World) (hX : Below w.heap.size w X) => (show _ ∧ _ ∧ _ ∧ _ ∧ _ from ⟨cell_up' hX c0, cell_up' hX c1, cell_up' hX c2, cell_up' hX c3, cell_up' hX c4⟩))
      clear l2 hcell hgv c0 c1 c2 c3 c4
      obtain ⟨c0, c1, c2, c3, c4⟩ := HCW.out wr hSt.bel
      have hgw := World.block_lt_of_cell? _ _ c0
      obtain ⟨oc, of_, os_⟩ := id hBX.1
      have hgz := os_
      by_cases hok : mayF 28 a = true ∧ ¬ a.kind = 8
      rotate_left
      · have HPR := hid (fun X (hX : Below w.heap.size w X) => rprint_no (HGV.out.up hX) hok)
        clear hok
        go_wp2_with (first | (go_at_call 6; refine (HPR.out _ hSt.bel).mono ?_; rintro e w3 ⟨rfl, hb3⟩; have hSt3 := hSt.below hb3; obtain ⟨oc, of_, os_⟩ := id (hBX.below hb3).1))
        go_ret
        exact ⟨rfl, hSt3.bel⟩
      have HPR := hid (fun X (hX : Below w.heap.size w X) => rprint_ok (HGV.out.up hX) hok.1 hok.2 (by omega))
      have HRF := hid (fun X (hX : Below w.heap.size w X) => refs_all 28 a _ X (HGV.out.up hX) ⟨hok.1, hok.2, by have := refF_le 28 a; omega⟩)
      have HOK := hid (fun (q : refF 28 a = 0) => show ArgOk a from ⟨hok.1, hok.2, q⟩)
      clear hok
      generalize hx : shwF 28 a = x at HPR HAS
      generalize hnr : refF 28 a = nr at HRF HOK
      clear hx hnr
      by_cases hr : nr = 0
      rotate_left
      · have hr1 : (0 : Int) < (nr : Int) := by omega
        have hr2 : 0 < nr := by omega
        clear hr HOK
        go_wp2_with (first | (go_at_call 7; refine (HRF.out _ hSt3.bel).mono ?_; rintro e w4 ⟨v4, C4, rfl, hs4, hl4, hi4, hb4⟩; obtain ⟨a4, k4, rfl, -⟩ := id hs4.sl; rw [hl4]; have hSt4 := hSt3.below hb4; have hBX4 := hBX3.below hb4; have hs3u := hs3.up hb4; obtain ⟨c0, c1, c2, c3, c4⟩ := HCW.out _ hSt4.bel; have hgw := World.block_lt_of_cell? _ _ c0; obtain ⟨oc, of_, os_⟩ := id (hBX4).1; have hgz := os_; clear hl4) | (go_at_call 6; refine (HPR.out _ hSt.bel).mono ?_; rintro e w3 ⟨v3, rfl, hs3, hb3⟩; obtain ⟨a3, k3, rfl, e1, e2, e3, e4⟩ := id hs3; have hSt3 := hSt.below hb3; have hBX3 := hBX.below hb3; obtain ⟨c0, c1, c2, c3, c4⟩ := HCW.out _ hSt3.bel; have hgw := World.block_lt_of_cell? _ _ c0; obtain ⟨oc, of_, os_⟩ := id (hBX3).1; have hgz := os_))
        go_ret
        exact ⟨rfl, hSt4.bel⟩
      subst hr
      have HARG2 := hid (HA1.out (HOK.out rfl))
      clear HA1 HOK
      by_cases hxl : (x.length : Int) > 2000
      · go_wp2_with (first | (go_at_call 7; refine (HRF.out _ hSt3.bel).mono ?_; rintro e w4 ⟨v4, C4, rfl, hs4, hl4, hi4, hb4⟩; obtain ⟨a4, k4, rfl, -⟩ := id hs4.sl; rw [hl4]; have hSt4 := hSt3.below hb4; have hBX4 := hBX3.below hb4; have hs3u := hs3.up hb4; obtain ⟨c0, c1, c2, c3, c4⟩ := HCW.out _ hSt4.bel; have hgw := World.block_lt_of_cell? _ _ c0; obtain ⟨oc, of_, os_⟩ := id (hBX4).1; have hgz := os_; clear hl4) | (go_at_call 6; refine (HPR.out _ hSt.bel).mono ?_; rintro e w3 ⟨v3, rfl, hs3, hb3⟩; obtain ⟨a3, k3, rfl, e1, e2, e3, e4⟩ := id hs3; have hSt3 := hSt.below hb3; have hBX3 := hBX.below hb3; obtain ⟨c0, c1, c2, c3, c4⟩ := HCW.out _ hSt3.bel; have hgw := World.block_lt_of_cell? _ _ c0; obtain ⟨oc, of_, os_⟩ := id (hBX3).1; have hgz := os_))
        go_ret
        exact ⟨rfl, hSt4.bel⟩
      generalize hlbk : lb0 ++ argB (args.take k) = lb at hSt hlbz
      have HLB := hid hlbk
      clear hlbk
      go_wp2_with (first | (at_builtin; refine wpList_append_bytes bytesTy rfl _ _ rfl w.heap.size _ (lb ++ x) [32] rfl (hSt5.below (alb _ _)).row _ _ _ rfl rfl (fun q => by cases q) (Rd.byteM _ 32 _ _ (by simp) (by omega) (by omega)) (by simp; omega) (hSt5.below (alb _ _)).bel.size ?_; intro v6 w6 q1 q2 q3; have hSt6 := (hSt5.below (alb _ _)).bytes q1 q2 q3; have hBX6 := (hBX5.below (alb _ _)).bytes q2 q3; clear q1 q2 q3; obtain ⟨c0, c1, c2, c3, c4⟩ := HCW.out _ hSt6.bel; have hgw := World.block_lt_of_cell? _ _ c0; obtain ⟨oc, of_, os_⟩ := id (hBX6).1; have hgz := os_) | (at_builtin; refine wpList_append_bytes bytesTy rfl _ _ rfl w.heap.size _ lb x rfl hSt4.row _ _ _ rfl rfl e3 hs3u.rd (by omega) hSt4.bel.size ?_; intro v5 w5 q1 q2 q3; have hSt5 := hSt4.bytes q1 q2 q3; have hBX5 := hBX4.bytes q2 q3; clear q1 q2 q3) | (go_at_call 7; refine (HRF.out _ hSt3.bel).mono ?_; rintro e w4 ⟨v4, C4, rfl, hs4, hl4, hi4, hb4⟩; obtain ⟨a4, k4, rfl, -⟩ := id hs4.sl; rw [hl4]; have hSt4 := hSt3.below hb4; have hBX4 := hBX3.below hb4; have hs3u := hs3.up hb4; obtain ⟨c0, c1, c2, c3, c4⟩ := HCW.out _ hSt4.bel; have hgw := World.block_lt_of_cell? _ _ c0; obtain ⟨oc, of_, os_⟩ := id (hBX4).1; have hgz := os_; clear hl4) | (go_at_call 6; refine (HPR.out _ hSt.bel).mono ?_; rintro e w3 ⟨v3, rfl, hs3, hb3⟩; obtain ⟨a3, k3, rfl, e1, e2, e3, e4⟩ := id hs3; have hSt3 := hSt.below hb3; have hBX3 := hBX.below hb3; obtain ⟨c0, c1, c2, c3, c4⟩ := HCW.out _ hSt3.bel; have hgw := World.block_lt_of_cell? _ _ c0; obtain ⟨oc, of_, os_⟩ := id (hBX3).1; have hgz := os_))
      go_roundw
      case rel => exact ⟨k + 1, by go_num, by omega, HARG2.out, by rw [HAS.out]; simp; omega, by rw [HAS.out, ← List.append_assoc, ← List.append_assoc, HLB.out]; exact hSt6, hBX6⟩
      case measure => simp [intOf]; omega
end Go.Proofs.YtjkoiknjffldjaaGreatDoor
