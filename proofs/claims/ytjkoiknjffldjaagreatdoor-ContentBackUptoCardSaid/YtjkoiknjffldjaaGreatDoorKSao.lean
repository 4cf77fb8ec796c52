/-
  The document's SameOps: of two rows of the same operators it is true. Condition: both rows lie in memory.
-/
import Derived.Test.YtjkoiknjffldjaaGreatDoorKSop
import Derived.Test.YtjkoiknjffldjaaGreatDoorHi
/-
  The document's SameOps: of two rows of the same operators it is true. Condition: both rows lie in memory.
-/
namespace Go.Proofs.YtjkoiknjffldjaaGreatDoor
open Go.RowKit
set_option linter.unusedVariables false

set_option maxHeartbeats 6400000 in
set_option maxRecDepth 100000 in
theorem sameops_any (va vb : Value) (l : List CO) (C D : List (List Value)) (w : World) (hSa : SlX 4 w va C) (hC : All2 (OpV (fun _ => True) w) C l) (hSb : SlX 4 w vb D) (hD : All2 (OpV (fun _ => True) w) D l) :
    Calls Tryz.prog 14 #[va, vb] w fun e w' => e = .returned (.bool true) ∧ Below w.heap.size w w' := by
  have hCl := All2.len hC
  have hDl := All2.len hD
  obtain ⟨aos, cas, rfl, hle, hmx, -⟩ := id hSa
  obtain ⟨bos, cbs, rfl, -⟩ := id hSb
  have hkb : l.length ≤ 9223372036854775807 := by unfold maxLen at hmx; omega
  clear hle hmx
  rw [hCl] at hSa ⊢
  rw [hDl] at hSb ⊢
  have hll : ((l.length : Int) != (l.length : Int)) = false := by simp
  go_enter Tryz.func14, Tryz.ntmps14
  go_wp2
  go_loopw [5, 6] (fun s5 _ wr => ∃ i : Nat, s5 = .int .i64 i ∧ i ≤ l.length ∧ Below w.heap.size w wr) (fun s5 _ _ => l.length - (intOf s5).toNat)
  case atStart => exact ⟨0, rfl, Nat.zero_le _, Below.refl _ _⟩
  case round =>
    obtain ⟨i, rfl, hi, hB⟩ := hrel
    by_cases hlt : i < l.length
    · have hz : (i : Int) < (l.length : Int) := by omega
      obtain ⟨g, off, rfl, hcell⟩ := hSa.some (by omega)
      obtain ⟨g9, off9, rfl, hcell9⟩ := hSb.some (by omega)
      have hCi : i < C.length := by omega
      have hDi : i < D.length := by omega
      have l2 := hcell i hCi
      have l9 := hcell9 i hDi
      obtain ⟨va0, vd0, hf0, ha0, hd0⟩ := All2.at hC i hCi hlt
      obtain ⟨va1, vd1, hf1, ha1, hd1⟩ := All2.at hD i hDi hlt
      obtain ⟨CA, hra, hoa⟩ := ha0
      obtain ⟨CB, hrb, hob⟩ := ha1
      obtain ⟨aoa, capa, rfl, -⟩ := id hra
      obtain ⟨boa, capb, rfl, -⟩ := id hrb
      obtain ⟨aod, capd, rfl, -, -, -, -⟩ := id hd0.1
      obtain ⟨bod, capbd, rfl, -, -, -, -⟩ := id hd1.1
      have hsa := (hra.slx CA (All2.len hoa) (fun i hi => by simp [List.getD, hi])).1
      have hsb := (hrb.slx CB (All2.len hob) (fun i hi => by simp [List.getD, hi])).1
      rw [hf0] at l2
      rw [hf1] at l9
      have c0 := l2 0 _ rfl
      have c1 := l2 1 _ rfl
      have c2 := l2 2 _ rfl
      have c3 := l2 3 _ rfl
      rw [Nat.add_zero] at c0
      have d0 := l9 0 _ rfl
      have d1 := l9 1 _ rfl
      have d2 := l9 2 _ rfl
      have d3 := l9 3 _ rfl
      rw [Nat.add_zero] at d0
      have hda := hd0.1
      have hdb := hd1.1
      clear l2 l9 hcell hcell9 hf0 hf1 hra hrb hd0 hd1
      generalize l[i]'hlt = o at *
      obtain ⟨nm, as_, dd, at_⟩ := o
      simp only [] at c0 c1 c2 c3 d0 d1 d2 d3 hda hdb hsa hsb hoa hob
      have hal := All2.len hoa
      have hbl := All2.len hob
      have HSM := hid (fun n => same_sl _ _ dd dd (wr.drewN n) ((hda.up hB).up (below_drewN (Below.refl _ _) n)) ((hdb.up hB).up (below_drewN (Below.refl _ _) n)))
      have hmxa : as_.length ≤ 9223372036854775807 := by
        obtain ⟨_, _, e, h1, h2, _⟩ := hsa
        injection e with _ _ e3
        subst e3
        unfold maxLen at h2; omega
      have hOA := hid hoa
      have hOB := hid hob
      clear hda hdb hoa hob
      generalize hna : as_.length = na at *
      have HNA := hid hna
      clear hna
      generalize dd.length = nd at *
      have hat : (at_ != at_) = false := by simp
      have hnn : ((na : Int) != (na : Int)) = false := by simp
      have HS := hid (show ∀ w', Below w.heap.size w w' → w'.cell? ⟨g, off + i * 4, none⟩ = some (.string (st nm)) ∧ w'.cell? ⟨g, off + i * 4 + 1, none⟩ = some (.slice aoa na capa) ∧ w'.cell? ⟨g, off + i * 4 + 2, none⟩ = some (.slice aod nd capd) ∧ w'.cell? ⟨g, off + i * 4 + 3, none⟩ = some (.int .i64 at_) ∧ w'.cell? ⟨g9, off9 + i * 4, none⟩ = some (.string (st nm)) ∧ w'.cell? ⟨g9, off9 + i * 4 + 1, none⟩ = some (.slice boa na capb) ∧ w'.cell? ⟨g9, off9 + i * 4 + 2, none⟩ = some (.slice bod nd capbd) ∧ w'.cell? ⟨g9, off9 + i * 4 + 3, none⟩ = some (.int .i64 at_) from fun X hX => ⟨cell_up' hX c0, cell_up' hX c1, cell_up' hX c2, cell_up' hX c3, cell_up' hX d0, cell_up' hX d1, cell_up' hX d2, cell_up' hX d3⟩)
      clear c0 c1 c2 c3 d0 d1 d2 d3
      obtain ⟨c0, c1, c2, c3, d0, d1, d2, d3⟩ := HS.out wr hB
      have hBn := hid (fun n => hB.trans ((below_drewN (Below.refl wr.heap.size wr) n).mono hB.size))
      go_upto_region 6 with fail
      go_cut [70] (fun s70 wx => s70 = .bool false ∧ Below w.heap.size w wx)
      case first =>
        go_region_held3 (fun w' => w'.cell? ⟨g, off + i * 4, none⟩ = some (.string (st nm)) ∧ w'.cell? ⟨g, off + i * 4 + 1, none⟩ = some (.slice aoa na capa) ∧ w'.cell? ⟨g, off + i * 4 + 2, none⟩ = some (.slice aod nd capd) ∧ w'.cell? ⟨g, off + i * 4 + 3, none⟩ = some (.int .i64 at_) ∧ w'.cell? ⟨g9, off9 + i * 4, none⟩ = some (.string (st nm)) ∧ w'.cell? ⟨g9, off9 + i * 4 + 1, none⟩ = some (.slice boa na capb) ∧ w'.cell? ⟨g9, off9 + i * 4 + 2, none⟩ = some (.slice bod nd capbd) ∧ w'.cell? ⟨g9, off9 + i * 4 + 3, none⟩ = some (.int .i64 at_)) (first | go_keep | with_reducible exact HS.out _ hB | exact HS.out _ (hBn.out _) | skip) (first | (go_at_call 25; refine (HSM.out 1).mono ?_; rw [decide_eq_true (rfl : dd = dd)]; rintro e w5 ⟨rfl, n5, rfl⟩))
        all_goals
          go_wp2_with fail
          go_meet
          exact ⟨rfl, hBn.out _⟩
      case rest =>
        obtain ⟨rfl, hB6⟩ := hcut
        obtain ⟨w6, rfl⟩ : ∃ x : World, x = wc := ⟨_, rfl⟩
        clear hB c0 c1 c2 c3 d0 d1 d2 d3 hBn HSM
        go_wp2
        go_loopw [6] (fun s6 wr => ∃ k : Nat, s6 = .int .i64 k ∧ k ≤ na ∧ Below w.heap.size w wr) (fun s6 _ => na - (intOf s6).toNat)
        case atStart => exact ⟨0, rfl, Nat.zero_le _, hB6⟩
        case round =>
          obtain ⟨k, rfl, hk, hB⟩ := hrel
          obtain ⟨wq, rfl⟩ : ∃ x : World, x = wr := ⟨_, rfl⟩
          by_cases hk2 : k < na
          · have hzk : (k : Int) < (na : Int) := by omega
            obtain ⟨ga, oa, rfl, hca⟩ := hsa.some (by omega)
            obtain ⟨gb, ob_, rfl, hcb⟩ := hsb.some (by omega)
            have hn := HNA.out
            have hka : k < CA.length := by omega
            have hkb' : k < CB.length := by omega
            have hko : k < as_.length := by omega
            have l2 := hca k hka
            have l9 := hcb k hkb'
            have ova := All2.at hOA.out k hka hko
            have ovb := All2.at hOB.out k hkb' hko
            have hv5 := ova.v5
            have hv9 := ovb.v5
            have hcp := same_of ova (fun _ => True) _ ovb
            clear ova ovb hca hcb
            generalize CA[k]'hka = ca at l2 hv5 hcp
            generalize CB[k]'hkb' = cb at l9 hv9 hcp
            obtain ⟨p1, p2, p3, p4, p5, p6, p7, p8, p9, p10, p11, rfl⟩ := hv5
            obtain ⟨r1, r2, r3, r4, r5, r6, r7, r8, r9, r10, r11, rfl⟩ := hv9
            have c5 := l2 0 _ rfl
            have c6 := l2 1 _ rfl
            have c7 := l2 2 _ rfl
            have c8' := l2 3 _ rfl
            have c9 := l2 4 _ rfl
            rw [Nat.add_zero] at c5
            have d5 := l9 0 _ rfl
            have d6 := l9 1 _ rfl
            have d7 := l9 2 _ rfl
            have d8 := l9 3 _ rfl
            have d9 := l9 4 _ rfl
            rw [Nat.add_zero] at d5
            clear l2 l9 hn
            have HCP := hid hcp
            clear hcp
            have HT := hid (show ∀ w', Below w.heap.size w w' → w'.cell? ⟨g, off + i * 4 + 1, none⟩ = some (.slice (some ⟨ga, oa, none⟩) na capa) ∧ w'.cell? ⟨g9, off9 + i * 4 + 1, none⟩ = some (.slice (some ⟨gb, ob_, none⟩) na capb) ∧ w'.cell? ⟨ga, oa + k * 5, none⟩ = some (.int .i64 p1) ∧ w'.cell? ⟨ga, oa + k * 5 + 1, none⟩ = some (.int .i64 p2) ∧ w'.cell? ⟨ga, oa + k * 5 + 2, none⟩ = some (.slice p3 p6 p7) ∧ w'.cell? ⟨ga, oa + k * 5 + 3, none⟩ = some (.slice p4 p8 p9) ∧ w'.cell? ⟨ga, oa + k * 5 + 4, none⟩ = some (.slice p5 p10 p11) ∧ w'.cell? ⟨gb, ob_ + k * 5, none⟩ = some (.int .i64 r1) ∧ w'.cell? ⟨gb, ob_ + k * 5 + 1, none⟩ = some (.int .i64 r2) ∧ w'.cell? ⟨gb, ob_ + k * 5 + 2, none⟩ = some (.slice r3 r6 r7) ∧ w'.cell? ⟨gb, ob_ + k * 5 + 3, none⟩ = some (.slice r4 r8 r9) ∧ w'.cell? ⟨gb, ob_ + k * 5 + 4, none⟩ = some (.slice r5 r10 r11) from fun X hX => ⟨(HS.out X hX).2.1, (HS.out X hX).2.2.2.2.2.1, cell_up' hX c5, cell_up' hX c6, cell_up' hX c7, cell_up' hX c8', cell_up' hX c9, cell_up' hX d5, cell_up' hX d6, cell_up' hX d7, cell_up' hX d8, cell_up' hX d9⟩)
            clear c5 c6 c7 c8' c9 d5 d6 d7 d8 d9
            obtain ⟨t0, t1, t2, t3, t4, t5, t6, t7, t8, t9, t10, t11⟩ := HT.out wq hB
            have hBn := hid (fun n => hB.trans ((below_drewN (Below.refl wq.heap.size wq) n).mono hB.size))
            go_upto_region 11 with fail
            go_region_held3 (fun w' => w'.cell? ⟨g, off + i * 4 + 1, none⟩ = some (.slice (some ⟨ga, oa, none⟩) na capa) ∧ w'.cell? ⟨g9, off9 + i * 4 + 1, none⟩ = some (.slice (some ⟨gb, ob_, none⟩) na capb) ∧ w'.cell? ⟨ga, oa + k * 5, none⟩ = some (.int .i64 p1) ∧ w'.cell? ⟨ga, oa + k * 5 + 1, none⟩ = some (.int .i64 p2) ∧ w'.cell? ⟨ga, oa + k * 5 + 2, none⟩ = some (.slice p3 p6 p7) ∧ w'.cell? ⟨ga, oa + k * 5 + 3, none⟩ = some (.slice p4 p8 p9) ∧ w'.cell? ⟨ga, oa + k * 5 + 4, none⟩ = some (.slice p5 p10 p11) ∧ w'.cell? ⟨gb, ob_ + k * 5, none⟩ = some (.int .i64 r1) ∧ w'.cell? ⟨gb, ob_ + k * 5 + 1, none⟩ = some (.int .i64 r2) ∧ w'.cell? ⟨gb, ob_ + k * 5 + 2, none⟩ = some (.slice r3 r6 r7) ∧ w'.cell? ⟨gb, ob_ + k * 5 + 3, none⟩ = some (.slice r4 r8 r9) ∧ w'.cell? ⟨gb, ob_ + k * 5 + 4, none⟩ = some (.slice r5 r10 r11)) (first | go_keep | with_reducible exact HT.out _ hB | exact HT.out _ (hBn.out _) | exact HT.out _ (by assumption) | skip) (first | (go_at_call 26; refine (HCP.out _ (hBn.out _)).mono ?_; rintro e w5 ⟨rfl, hb5⟩; have hb6 : Below w.heap.size w w5 := ((hBn.out _).trans (hb5.mono (hBn.out _).size))))
            all_goals
              go_wp2_with fail
              go_roundw
              case rel => exact ⟨k + 1, by go_num, by omega, hb6⟩
              case measure => simp [intOf]; omega
          · obtain rfl : k = na := by omega
            have hzk : ¬ (k : Int) < (k : Int) := by omega
            obtain ⟨c0, c1, c2, c3, d0, d1, d2, d3⟩ := HS.out wq hB
            go_wp2
            go_roundw
            case rel => exact ⟨i + 1, by go_num, by omega, hB⟩
            case measure => simp [intOf]; omega
    · obtain rfl : i = l.length := by omega
      have hz : ¬ (l.length : Int) < (l.length : Int) := by omega
      go_wp2
      go_ret
      exact ⟨rfl, hB⟩
end Go.Proofs.YtjkoiknjffldjaaGreatDoor
