/-
  Two of the program's parsers, over bytes of their own, in one world. Condition: each stands in its bytes.
-/
import Derived.Test.YtlmgklebikcbjaaHc
import Derived.Test.YtlmgklebikcbjaaLawT
import Derived.Test.YtlmgklebikcbjaaHm
/-
  The document's Same of two objects in memory that are the same: true. No condition but that they are read.
-/
namespace Go.Proofs.Ytlmgklebikcbjaa
open Go.RowKit
set_option linter.unusedVariables false

/-- the call of Same on two objects, in a world where their blocks are as they were -/
def SameC (w : World) (vs us : List Value) : Prop := ∀ W : World, Below w.heap.size w W →
  Calls Try.prog 41 #[.agg vs.toArray, .agg us.toArray] W fun e w' => e = .returned (.bool true) ∧ Below W.heap.size W w'

set_option maxHeartbeats 4000000 in
set_option maxRecDepth 100000 in
theorem same_of {A : Nat → Prop} {w : World} {vs : List Value} {o : PO} (h : OV A w vs o) : ∀ (B : Nat → Prop) (us : List Value), OV B w us o → SameC w vs us := by
  induction h with
  | mk k n vb vl vd b l d cl cd hb hl hl' hd hkk hd' hz ih1 ih2 =>
    intro B us hu W hW
    obtain ⟨_, _, vb9, vl9, vd9, _, _, _, cl9, cd9, hb9, hl9, hl9', hd9, hkk9, hd9', -⟩ := hu
    obtain ⟨⟨aob, capb, rfl, -, -, -, -⟩, -⟩ := id hb
    obtain ⟨aol, capl, rfl, -⟩ := id hl
    obtain ⟨aod, capd, rfl, -⟩ := id hd
    obtain ⟨⟨aob9, capb9, rfl, -, -, -, -⟩, -⟩ := id hb9
    obtain ⟨aol9, capl9, rfl, -⟩ := id hl9
    obtain ⟨aod9, capd9, rfl, -⟩ := id hd9
    have hP0 := (C5.new W _ rfl [.int .i64 k, .int .i64 n, .slice aob b.length capb, .slice aol l.length capl, .slice aod d.length capd] 61).up (alb _ (.cells #[.int .i64 k, .int .i64 n, .slice aob9 b.length capb9, .slice aol9 l.length capl9, .slice aod9 d.length capd9] 61))
    have hQ0 := C5.new (W.alloc (.cells #[.int .i64 k, .int .i64 n, .slice aob b.length capb, .slice aol l.length capl, .slice aod d.length capd] 61)) (W.heap.size + 1) (by simp) [.int .i64 k, .int .i64 n, .slice aob9 b.length capb9, .slice aol9 l.length capl9, .slice aod9 d.length capd9] 61
    have hWW := below_then (alb W (.cells #[.int .i64 k, .int .i64 n, .slice aob b.length capb, .slice aol l.length capl, .slice aod d.length capd] 61)) (alb _ (.cells #[.int .i64 k, .int .i64 n, .slice aob9 b.length capb9, .slice aol9 l.length capl9, .slice aod9 d.length capd9] 61))
    have HB := hid ((hb.1.up hW).up hWW)
    have HB9 := hid ((hb9.1.up hW).up hWW)
    obtain ⟨C, hC, hCc⟩ := ov_of l cl hl'
    obtain ⟨D, hD, hDc⟩ := ev_of d cd hkk hd'
    obtain ⟨C9, hC9, hCc9⟩ := ov_of l cl9 hl9'
    obtain ⟨D9, hD9, hDc9⟩ := ev_of d cd9 hkk9 hd9'
    have hCl : C.length = l.length := All2.len hC
    have hDl : D.length = d.length := All2.len hD
    have hCl9 : C9.length = l.length := All2.len hC9
    have hDl9 : D9.length = d.length := All2.len hD9
    have HSL := hid ((hl.slx C hCl hCc).1.up hW)
    have HSD := hid ((hd.slx (D.map ecl) (by rw [List.length_map]; exact hDl) (fun i hi => by rw [List.getElem_map]; exact hDc i (by simpa using hi))).1.up hW)
    have HSL9 := hid ((hl9.slx C9 hCl9 hCc9).1.up hW)
    have HSD9 := hid ((hd9.slx (D9.map ecl) (by rw [List.length_map]; exact hDl9) (fun i hi => by rw [List.getElem_map]; exact hDc9 i (by simpa using hi))).1.up hW)
    have HI1 := hid (show ∀ i (h : i < C.length) (h9 : i < C9.length), SameC w C[i] C9[i] ∧ V5 C[i] ∧ V5 C9[i] from fun i h h9 => by
      refine ⟨?_, hC.len5 _ (List.getElem_mem h), hC9.len5 _ (List.getElem_mem h9)⟩
      rw [hCc i h]; exact ih1 i (by omega) B _ (hC9.at i h9 (by omega)))
    have HI2 := hid (show ∀ i (h : i < D.length) (h9 : i < D9.length), SameC w (D[i]).2 (D9[i]).2 ∧ (D[i]).1 = (D9[i]).1 ∧ V5 (D[i]).2 ∧ V5 (D9[i]).2 from fun i h h9 => by
      have e : (D[i]).2 = (cd i).tail := by rw [← hDc i h]; rfl
      refine ⟨?_, (hD.at i h (by omega)).1.trans (hD9.at i h9 (by omega)).1.symm, hD.allV _ (List.getElem_mem h), hD9.allV _ (List.getElem_mem h9)⟩
      rw [e]; exact ih2 i (by omega) B _ (hD9.at i h9 (by omega)).2)
    have hqk : (k == k) = true := by simp
    have hqn : (n == n) = true := by simp
    have HZ := hid hz
    clear hb hl hl' hd hkk hd' hz hb9 hl9 hl9' hd9 hkk9 hd9' ih1 ih2 hCc hDc hCc9 hDc9 hC hD hC9 hD9
    by_cases e1 : k = 1 ∨ k = 2 ∨ k = 3 ∨ k = 9
    · rcases e1 with rfl | rfl | rfl | rfl
      all_goals
        go_enter Try.func41, Try.ntmps41
        go_wp2
        go_ret
        exact ⟨by simp, hWW⟩
    by_cases e2 : k = 4 ∨ k = 5
    · rcases e2 with rfl | rfl
      all_goals
        clear e1
        go_enter Try.func41, Try.ntmps41
        go_wp2_with (go_at_call 24; refine (same_sl _ _ b b _ HB.out HB9.out).mono ?_; rintro e w1 ⟨rfl, m, rfl⟩)
        go_ret
        exact ⟨by simp, below_then hWW (below_drewN (Below.refl _ _) m)⟩
    by_cases e3 : k = 6
    · subst e3
      clear e1 e2
      go_enter Try.func41, Try.ntmps41
      go_wp2
      go_loopw [5] (fun s5 wr => ∃ i : Nat, s5 = .int .i64 i ∧ i ≤ l.length ∧ Below ((W.alloc (.cells #[.int .i64 6, .int .i64 n, .slice aob b.length capb, .slice aol l.length capl, .slice aod d.length capd] 61)).alloc (.cells #[.int .i64 6, .int .i64 n, .slice aob9 b.length capb9, .slice aol9 l.length capl9, .slice aod9 d.length capd9] 61)).heap.size ((W.alloc (.cells #[.int .i64 6, .int .i64 n, .slice aob b.length capb, .slice aol l.length capl, .slice aod d.length capd] 61)).alloc (.cells #[.int .i64 6, .int .i64 n, .slice aob9 b.length capb9, .slice aol9 l.length capl9, .slice aod9 d.length capd9] 61)) wr) (fun s5 _ => l.length - (intOf s5).toNat)
      case atStart => exact ⟨0, rfl, Nat.zero_le _, Below.refl _ _⟩
      case round =>
        obtain ⟨i, rfl, hi, hb⟩ := hrel
        have hP := hP0.up hb
        have hQ := hQ0.up hb
        have hWr := below_then hWW hb
        obtain ⟨rc, rf, rs⟩ := hP
        obtain ⟨oc, of_, os⟩ := hQ
        have hP := hid (hP0.up hb)
        have hlz := HZ.out.2.1
        by_cases hlt : i < l.length
        · have hiz : (i : Int) < (l.length : Int) := by omega
          obtain ⟨g, off, rfl, hcell⟩ := (HSL.out.up hWr).some (by omega)
          obtain ⟨g9, off9, rfl, hcell9⟩ := (HSL9.out.up hWr).some (by omega)
          have l2 := hcell i (by omega)
          have l9 := hcell9 i (by omega)
          obtain ⟨hcp, hv5, hv9⟩ := HI1.out i (by omega) (by omega)
          clear hcell hcell9
          generalize C[i]'(by omega) = ci at l2 hcp hv5
          generalize C9[i]'(by omega) = ci9 at l9 hcp hv9
          obtain ⟨p1, p2, p3, p4, p5, p6, p7, p8, p9, p10, p11, rfl⟩ := hv5
          obtain ⟨r1, r2, r3, r4, r5, r6, r7, r8, r9, r10, r11, rfl⟩ := hv9
          have c0 := l2 0 _ rfl
          have c1 := l2 1 _ rfl
          have c2 := l2 2 _ rfl
          have c3 := l2 3 _ rfl
          have c4 := l2 4 _ rfl
          rw [Nat.add_zero] at c0
          have d0 := l9 0 _ rfl
          have d1 := l9 1 _ rfl
          have d2 := l9 2 _ rfl
          have d3 := l9 3 _ rfl
          have d4 := l9 4 _ rfl
          rw [Nat.add_zero] at d0
          clear l2 l9
          have HCP := hid hcp
          clear hcp
          go_upto_region 18 with fail
          have HS := hid (show ∀ X, Below wr.heap.size wr X → X.cell? ⟨W.heap.size, 3, none⟩ = some (.slice (some ⟨g, off, none⟩) l.length capl) ∧ X.cell? ⟨W.heap.size + 1, 3, none⟩ = some (.slice (some ⟨g9, off9, none⟩) l.length capl9) ∧ X.cell? ⟨g, off + i * 5, none⟩ = some (.int .i64 p1) ∧ X.cell? ⟨g, off + i * 5 + 1, none⟩ = some (.int .i64 p2) ∧ X.cell? ⟨g, off + i * 5 + 2, none⟩ = some (.slice p3 p6 p7) ∧ X.cell? ⟨g, off + i * 5 + 3, none⟩ = some (.slice p4 p8 p9) ∧ X.cell? ⟨g, off + i * 5 + 4, none⟩ = some (.slice p5 p10 p11) ∧ X.cell? ⟨g9, off9 + i * 5, none⟩ = some (.int .i64 r1) ∧ X.cell? ⟨g9, off9 + i * 5 + 1, none⟩ = some (.int .i64 r2) ∧ X.cell? ⟨g9, off9 + i * 5 + 2, none⟩ = some (.slice r3 r6 r7) ∧ X.cell? ⟨g9, off9 + i * 5 + 3, none⟩ = some (.slice r4 r8 r9) ∧ X.cell? ⟨g9, off9 + i * 5 + 4, none⟩ = some (.slice r5 r10 r11) from fun X hX => ⟨cell_up' hX (rc 3), cell_up' hX (oc 3), cell_up' hX c0, cell_up' hX c1, cell_up' hX c2, cell_up' hX c3, cell_up' hX c4, cell_up' hX d0, cell_up' hX d1, cell_up' hX d2, cell_up' hX d3, cell_up' hX d4⟩)
          go_region_held3 (fun w' => w'.cell? ⟨W.heap.size, 3, none⟩ = some (.slice (some ⟨g, off, none⟩) l.length capl) ∧ w'.cell? ⟨W.heap.size + 1, 3, none⟩ = some (.slice (some ⟨g9, off9, none⟩) l.length capl9) ∧ w'.cell? ⟨g, off + i * 5, none⟩ = some (.int .i64 p1) ∧ w'.cell? ⟨g, off + i * 5 + 1, none⟩ = some (.int .i64 p2) ∧ w'.cell? ⟨g, off + i * 5 + 2, none⟩ = some (.slice p3 p6 p7) ∧ w'.cell? ⟨g, off + i * 5 + 3, none⟩ = some (.slice p4 p8 p9) ∧ w'.cell? ⟨g, off + i * 5 + 4, none⟩ = some (.slice p5 p10 p11) ∧ w'.cell? ⟨g9, off9 + i * 5, none⟩ = some (.int .i64 r1) ∧ w'.cell? ⟨g9, off9 + i * 5 + 1, none⟩ = some (.int .i64 r2) ∧ w'.cell? ⟨g9, off9 + i * 5 + 2, none⟩ = some (.slice r3 r6 r7) ∧ w'.cell? ⟨g9, off9 + i * 5 + 3, none⟩ = some (.slice r4 r8 r9) ∧ w'.cell? ⟨g9, off9 + i * 5 + 4, none⟩ = some (.slice r5 r10 r11)) (first | go_keep | exact HS.out _ (Below.refl _ _) | exact HS.out _ (by assumption) | skip) (first | (go_at_call 41; refine (HCP.out _ (below_drewN (hW.trans (hWr.mono hW.size)) _)).mono ?_; rintro e w5 ⟨rfl, hb5⟩; have hb6 : Below wr.heap.size wr w5 := ((below_drewN (Below.refl _ _) _).trans hb5)))
          all_goals
            go_wp2_with fail
            go_roundw
            case rel => exact ⟨i + 1, by go_num, by omega, hb.trans (hb6.mono hb.size)⟩
            case measure => simp [intOf]; omega
        · obtain rfl : i = l.length := by omega
          have hiz : ¬ (l.length : Int) < (l.length : Int) := by omega
          go_wp2
          go_ret
          exact ⟨rfl, hWr⟩
    by_cases e4 : k = 7
    · subst e4
      clear e1 e2 e3
      go_enter Try.func41, Try.ntmps41
      go_wp2
      go_loopw [6] (fun s5 wr => ∃ i : Nat, s5 = .int .i64 i ∧ i ≤ d.length ∧ Below ((W.alloc (.cells #[.int .i64 7, .int .i64 n, .slice aob b.length capb, .slice aol l.length capl, .slice aod d.length capd] 61)).alloc (.cells #[.int .i64 7, .int .i64 n, .slice aob9 b.length capb9, .slice aol9 l.length capl9, .slice aod9 d.length capd9] 61)).heap.size ((W.alloc (.cells #[.int .i64 7, .int .i64 n, .slice aob b.length capb, .slice aol l.length capl, .slice aod d.length capd] 61)).alloc (.cells #[.int .i64 7, .int .i64 n, .slice aob9 b.length capb9, .slice aol9 l.length capl9, .slice aod9 d.length capd9] 61)) wr) (fun s5 _ => d.length - (intOf s5).toNat)
      case atStart => exact ⟨0, rfl, Nat.zero_le _, Below.refl _ _⟩
      case round =>
        obtain ⟨i, rfl, hi, hb⟩ := hrel
        have hP := hP0.up hb
        have hQ := hQ0.up hb
        have hWr := below_then hWW hb
        obtain ⟨rc, rf, rs⟩ := hP
        obtain ⟨oc, of_, os⟩ := hQ
        have hlz := HZ.out.2.2
        by_cases hlt : i < d.length
        · have hiz : (i : Int) < (d.length : Int) := by omega
          obtain ⟨g, off, rfl, hcell⟩ := (HSD.out.up hWr).some (by omega)
          obtain ⟨g9, off9, rfl, hcell9⟩ := (HSD9.out.up hWr).some (by omega)
          have l2 := hcell i (by simp; omega)
          have l9 := hcell9 i (by simp; omega)
          rw [List.getElem_map] at l2 l9
          obtain ⟨hcp, hkk, hv5, hv9⟩ := HI2.out i (by omega) (by omega)
          clear hcell hcell9
          generalize D[i]'(by omega) = ci at l2 hcp hv5 hkk
          generalize D9[i]'(by omega) = ci9 at l9 hcp hv9 hkk
          obtain ⟨kk, vs⟩ := ci
          obtain ⟨kk9, us⟩ := ci9
          dsimp only at hkk hcp hv5 hv9
          subst hkk
          obtain ⟨p1, p2, p3, p4, p5, p6, p7, p8, p9, p10, p11, rfl⟩ := hv5
          obtain ⟨r1, r2, r3, r4, r5, r6, r7, r8, r9, r10, r11, rfl⟩ := hv9
          have c0 := l2 0 _ rfl
          have c1 := l2 1 _ rfl
          have c2 := l2 2 _ rfl
          have c3 := l2 3 _ rfl
          have c4 := l2 4 _ rfl
          have c5 := l2 5 _ rfl
          rw [Nat.add_zero] at c0
          have d0 := l9 0 _ rfl
          have d1 := l9 1 _ rfl
          have d2 := l9 2 _ rfl
          have d3 := l9 3 _ rfl
          have d4 := l9 4 _ rfl
          have d5 := l9 5 _ rfl
          rw [Nat.add_zero] at d0
          clear l2 l9
          have HCP := hid hcp
          clear hcp
          go_upto_region 27 with fail
          have HS := hid (show ∀ X, Below wr.heap.size wr X → X.cell? ⟨W.heap.size, 4, none⟩ = some (.slice (some ⟨g, off, none⟩) d.length capd) ∧ X.cell? ⟨W.heap.size + 1, 4, none⟩ = some (.slice (some ⟨g9, off9, none⟩) d.length capd9) ∧ X.cell? ⟨g, off + i * 6, none⟩ = some (.string (st kk)) ∧ X.cell? ⟨g, off + i * 6 + 1, none⟩ = some (.int .i64 p1) ∧ X.cell? ⟨g, off + i * 6 + 2, none⟩ = some (.int .i64 p2) ∧ X.cell? ⟨g, off + i * 6 + 3, none⟩ = some (.slice p3 p6 p7) ∧ X.cell? ⟨g, off + i * 6 + 4, none⟩ = some (.slice p4 p8 p9) ∧ X.cell? ⟨g, off + i * 6 + 5, none⟩ = some (.slice p5 p10 p11) ∧ X.cell? ⟨g9, off9 + i * 6, none⟩ = some (.string (st kk)) ∧ X.cell? ⟨g9, off9 + i * 6 + 1, none⟩ = some (.int .i64 r1) ∧ X.cell? ⟨g9, off9 + i * 6 + 2, none⟩ = some (.int .i64 r2) ∧ X.cell? ⟨g9, off9 + i * 6 + 3, none⟩ = some (.slice r3 r6 r7) ∧ X.cell? ⟨g9, off9 + i * 6 + 4, none⟩ = some (.slice r4 r8 r9) ∧ X.cell? ⟨g9, off9 + i * 6 + 5, none⟩ = some (.slice r5 r10 r11) from fun X hX => ⟨cell_up' hX (rc 4), cell_up' hX (oc 4), cell_up' hX c0, cell_up' hX c1, cell_up' hX c2, cell_up' hX c3, cell_up' hX c4, cell_up' hX c5, cell_up' hX d0, cell_up' hX d1, cell_up' hX d2, cell_up' hX d3, cell_up' hX d4, cell_up' hX d5⟩)
          go_region_held3 (fun w' => w'.cell? ⟨W.heap.size, 4, none⟩ = some (.slice (some ⟨g, off, none⟩) d.length capd) ∧ w'.cell? ⟨W.heap.size + 1, 4, none⟩ = some (.slice (some ⟨g9, off9, none⟩) d.length capd9) ∧ w'.cell? ⟨g, off + i * 6, none⟩ = some (.string (st kk)) ∧ w'.cell? ⟨g, off + i * 6 + 1, none⟩ = some (.int .i64 p1) ∧ w'.cell? ⟨g, off + i * 6 + 2, none⟩ = some (.int .i64 p2) ∧ w'.cell? ⟨g, off + i * 6 + 3, none⟩ = some (.slice p3 p6 p7) ∧ w'.cell? ⟨g, off + i * 6 + 4, none⟩ = some (.slice p4 p8 p9) ∧ w'.cell? ⟨g, off + i * 6 + 5, none⟩ = some (.slice p5 p10 p11) ∧ w'.cell? ⟨g9, off9 + i * 6, none⟩ = some (.string (st kk)) ∧ w'.cell? ⟨g9, off9 + i * 6 + 1, none⟩ = some (.int .i64 r1) ∧ w'.cell? ⟨g9, off9 + i * 6 + 2, none⟩ = some (.int .i64 r2) ∧ w'.cell? ⟨g9, off9 + i * 6 + 3, none⟩ = some (.slice r3 r6 r7) ∧ w'.cell? ⟨g9, off9 + i * 6 + 4, none⟩ = some (.slice r4 r8 r9) ∧ w'.cell? ⟨g9, off9 + i * 6 + 5, none⟩ = some (.slice r5 r10 r11)) (first | go_keep | exact HS.out _ (Below.refl _ _) | exact HS.out _ (by assumption) | skip) (first | (go_at_call 41; refine (HCP.out _ (below_drewN (hW.trans (hWr.mono hW.size)) _)).mono ?_; rintro e w5 ⟨rfl, hb5⟩; have hb6 : Below wr.heap.size wr w5 := ((below_drewN (Below.refl _ _) _).trans hb5)))
          all_goals
            go_wp2_with fail
            go_roundw
            case rel => exact ⟨i + 1, by go_num, by omega, hb.trans (hb6.mono hb.size)⟩
            case measure => simp [intOf]; omega
        · obtain rfl : i = d.length := by omega
          have hiz : ¬ (d.length : Int) < (d.length : Int) := by omega
          go_wp2
          go_ret
          exact ⟨rfl, hWr⟩
    by_cases e5 : k = 8
    · subst e5
      clear e1 e2 e3 e4
      go_enter Try.func41, Try.ntmps41
      go_wp2_with (go_at_call 24; refine (same_sl _ _ b b _ HB.out HB9.out).mono ?_; rintro e w1 ⟨rfl, m, rfl⟩; have hdd : decide (b = b) = true := decide_eq_true rfl)
      go_loopw [6] (fun s5 wr => ∃ i : Nat, s5 = .int .i64 i ∧ i ≤ d.length ∧ Below ((W.alloc (.cells #[.int .i64 8, .int .i64 n, .slice aob b.length capb, .slice aol l.length capl, .slice aod d.length capd] 61)).alloc (.cells #[.int .i64 8, .int .i64 n, .slice aob9 b.length capb9, .slice aol9 l.length capl9, .slice aod9 d.length capd9] 61)).heap.size ((W.alloc (.cells #[.int .i64 8, .int .i64 n, .slice aob b.length capb, .slice aol l.length capl, .slice aod d.length capd] 61)).alloc (.cells #[.int .i64 8, .int .i64 n, .slice aob9 b.length capb9, .slice aol9 l.length capl9, .slice aod9 d.length capd9] 61)) wr) (fun s5 _ => d.length - (intOf s5).toNat)
      case atStart => exact ⟨0, rfl, Nat.zero_le _, below_drewN (Below.refl _ _) _⟩
      case round =>
        obtain ⟨i, rfl, hi, hb⟩ := hrel
        have hP := hP0.up hb
        have hQ := hQ0.up hb
        have hWr := below_then hWW hb
        obtain ⟨rc, rf, rs⟩ := hP
        obtain ⟨oc, of_, os⟩ := hQ
        have hlz := HZ.out.2.2
        by_cases hlt : i < d.length
        · have hiz : (i : Int) < (d.length : Int) := by omega
          obtain ⟨g, off, rfl, hcell⟩ := (HSD.out.up hWr).some (by omega)
          obtain ⟨g9, off9, rfl, hcell9⟩ := (HSD9.out.up hWr).some (by omega)
          have l2 := hcell i (by simp; omega)
          have l9 := hcell9 i (by simp; omega)
          rw [List.getElem_map] at l2 l9
          obtain ⟨hcp, hkk, hv5, hv9⟩ := HI2.out i (by omega) (by omega)
          clear hcell hcell9
          generalize D[i]'(by omega) = ci at l2 hcp hv5 hkk
          generalize D9[i]'(by omega) = ci9 at l9 hcp hv9 hkk
          obtain ⟨kk, vs⟩ := ci
          obtain ⟨kk9, us⟩ := ci9
          dsimp only at hkk hcp hv5 hv9
          subst hkk
          obtain ⟨p1, p2, p3, p4, p5, p6, p7, p8, p9, p10, p11, rfl⟩ := hv5
          obtain ⟨r1, r2, r3, r4, r5, r6, r7, r8, r9, r10, r11, rfl⟩ := hv9
          have c0 := l2 0 _ rfl
          have c1 := l2 1 _ rfl
          have c2 := l2 2 _ rfl
          have c3 := l2 3 _ rfl
          have c4 := l2 4 _ rfl
          have c5 := l2 5 _ rfl
          rw [Nat.add_zero] at c0
          have d0 := l9 0 _ rfl
          have d1 := l9 1 _ rfl
          have d2 := l9 2 _ rfl
          have d3 := l9 3 _ rfl
          have d4 := l9 4 _ rfl
          have d5 := l9 5 _ rfl
          rw [Nat.add_zero] at d0
          clear l2 l9
          have HCP := hid hcp
          clear hcp
          go_upto_region 27 with fail
          have HS := hid (show ∀ X, Below wr.heap.size wr X → X.cell? ⟨W.heap.size, 4, none⟩ = some (.slice (some ⟨g, off, none⟩) d.length capd) ∧ X.cell? ⟨W.heap.size + 1, 4, none⟩ = some (.slice (some ⟨g9, off9, none⟩) d.length capd9) ∧ X.cell? ⟨g, off + i * 6, none⟩ = some (.string (st kk)) ∧ X.cell? ⟨g, off + i * 6 + 1, none⟩ = some (.int .i64 p1) ∧ X.cell? ⟨g, off + i * 6 + 2, none⟩ = some (.int .i64 p2) ∧ X.cell? ⟨g, off + i * 6 + 3, none⟩ = some (.slice p3 p6 p7) ∧ X.cell? ⟨g, off + i * 6 + 4, none⟩ = some (.slice p4 p8 p9) ∧ X.cell? ⟨g, off + i * 6 + 5, none⟩ = some (.slice p5 p10 p11) ∧ X.cell? ⟨g9, off9 + i * 6, none⟩ = some (.string (st kk)) ∧ X.cell? ⟨g9, off9 + i * 6 + 1, none⟩ = some (.int .i64 r1) ∧ X.cell? ⟨g9, off9 + i * 6 + 2, none⟩ = some (.int .i64 r2) ∧ X.cell? ⟨g9, off9 + i * 6 + 3, none⟩ = some (.slice r3 r6 r7) ∧ X.cell? ⟨g9, off9 + i * 6 + 4, none⟩ = some (.slice r4 r8 r9) ∧ X.cell? ⟨g9, off9 + i * 6 + 5, none⟩ = some (.slice r5 r10 r11) from fun X hX => ⟨cell_up' hX (rc 4), cell_up' hX (oc 4), cell_up' hX c0, cell_up' hX c1, cell_up' hX c2, cell_up' hX c3, cell_up' hX c4, cell_up' hX c5, cell_up' hX d0, cell_up' hX d1, cell_up' hX d2, cell_up' hX d3, cell_up' hX d4, cell_up' hX d5⟩)
          go_region_held3 (fun w' => w'.cell? ⟨W.heap.size, 4, none⟩ = some (.slice (some ⟨g, off, none⟩) d.length capd) ∧ w'.cell? ⟨W.heap.size + 1, 4, none⟩ = some (.slice (some ⟨g9, off9, none⟩) d.length capd9) ∧ w'.cell? ⟨g, off + i * 6, none⟩ = some (.string (st kk)) ∧ w'.cell? ⟨g, off + i * 6 + 1, none⟩ = some (.int .i64 p1) ∧ w'.cell? ⟨g, off + i * 6 + 2, none⟩ = some (.int .i64 p2) ∧ w'.cell? ⟨g, off + i * 6 + 3, none⟩ = some (.slice p3 p6 p7) ∧ w'.cell? ⟨g, off + i * 6 + 4, none⟩ = some (.slice p4 p8 p9) ∧ w'.cell? ⟨g, off + i * 6 + 5, none⟩ = some (.slice p5 p10 p11) ∧ w'.cell? ⟨g9, off9 + i * 6, none⟩ = some (.string (st kk)) ∧ w'.cell? ⟨g9, off9 + i * 6 + 1, none⟩ = some (.int .i64 r1) ∧ w'.cell? ⟨g9, off9 + i * 6 + 2, none⟩ = some (.int .i64 r2) ∧ w'.cell? ⟨g9, off9 + i * 6 + 3, none⟩ = some (.slice r3 r6 r7) ∧ w'.cell? ⟨g9, off9 + i * 6 + 4, none⟩ = some (.slice r4 r8 r9) ∧ w'.cell? ⟨g9, off9 + i * 6 + 5, none⟩ = some (.slice r5 r10 r11)) (first | go_keep | exact HS.out _ (Below.refl _ _) | exact HS.out _ (by assumption) | skip) (first | (go_at_call 41; refine (HCP.out _ (below_drewN (hW.trans (hWr.mono hW.size)) _)).mono ?_; rintro e w5 ⟨rfl, hb5⟩; have hb6 : Below wr.heap.size wr w5 := ((below_drewN (Below.refl _ _) _).trans hb5)))
          all_goals
            go_wp2_with fail
            go_roundw
            case rel => exact ⟨i + 1, by go_num, by omega, hb.trans (hb6.mono hb.size)⟩
            case measure => simp [intOf]; omega
        · obtain rfl : i = d.length := by omega
          have hiz : ¬ (d.length : Int) < (d.length : Int) := by omega
          go_wp2
          go_ret
          exact ⟨rfl, hWr⟩
    have q1 : (k == 1) = false := by simp; omega
    have q2 : (k == 2) = false := by simp; omega
    have q3 : (k == 3) = false := by simp; omega
    have q4 : (k == 4) = false := by simp; omega
    have q5 : (k == 5) = false := by simp; omega
    have q6 : (k == 6) = false := by simp; omega
    have q7 : (k == 7) = false := by simp; omega
    have q8 : (k == 8) = false := by simp; omega
    have q9 : (k == 9) = false := by simp; omega
    clear e1 e2 e3 e4 e5
    go_enter Try.func41, Try.ntmps41
    go_wp2
    go_ret
    exact ⟨rfl, hWW⟩
end Go.Proofs.Ytlmgklebikcbjaa

/-
  Two of the program's parsers, over bytes of their own, in one world. Condition: each stands in its bytes.
-/
namespace Go.Proofs.Ytlmgklebikcbjaa
open Go.RowKit
set_option linter.unusedVariables false

set_option maxRecDepth 100000 in
theorem cursor_new2 (g off cap : Nat) (b : List UInt8) (w : World) (h : Sl w (.slice (some ⟨g, off, none⟩) b.length cap) b) (hl : b.length ≤ 1000000) (h0 : 0 < b.length) :
    Calls Try.prog 50 #[.slice (some ⟨g, off, none⟩) b.length cap] w fun e w' => e = .returned (.pointer (some ⟨w.heap.size, 0, none⟩)) ∧ (∃ cap2, CurAt w' w.heap.size (some ⟨g, off, none⟩) cap2 b 0) ∧ Below w.heap.size w w' ∧ w'.heap.size = w.heap.size + 1 := by
  obtain ⟨ao, cap0, he, c1, c2, c3, c4⟩ := id h
  injection he with e1 e2 e3
  subst e1; subst e3
  have hz : ¬ (cap = 0) := by omega
  have bl : Below w.heap.size w (w.alloc (Obj.cells #[Value.slice (some ⟨g, off, none⟩) b.length b.length, Value.int IntKind.i64 0] 96)) := Below.alloc (Below.refl _ _) (Nat.le_refl _) _
  go_enter Try.func50, Try.ntmps50
  go_wp2
  go_ret
  refine ⟨rfl, ⟨b.length, ⟨?_, ?_, ?_, c4.up bl, Nat.le_refl _, by omega, (fun q => by cases q), Nat.zero_le _, hl, ?_⟩⟩, bl, by simp⟩
  · rw [World.cell?_alloc_at _ _ _ _ rfl]; rfl
  · rw [World.cell?_alloc_at _ _ _ _ rfl]; rfl
  · exact World.frozen?_alloc_at _ _ _ _ rfl
  · intro h0 a ha
    obtain ⟨bb, off, h1, h2, _⟩ := c4.some h0
    rw [h1] at ha; injection ha with ha; subst ha
    show bb ≠ w.heap.size
    omega
theorem lex_new2 (g off cap : Nat) (b : List UInt8) (w : World) (h : Sl w (.slice (some ⟨g, off, none⟩) b.length cap) b) (hl : b.length ≤ 1000000) (h0 : 0 < b.length) :
    Calls Try.prog 16 #[.slice (some ⟨g, off, none⟩) b.length cap] w fun e w' => e = .returned (.pointer (some ⟨w.heap.size + 1, 0, none⟩)) ∧ (∃ cap2, LexAt w' (w.heap.size + 1) w.heap.size (some ⟨g, off, none⟩) cap2 b 0 (.int .i64 0) (.slice none 0 0)) ∧ Below w.heap.size w w' := by
  go_enter Try.func16, Try.ntmps16
  go_wp2_with (go_at_call 50; refine (cursor_new2 g off cap b w h hl h0).mono ?_; rintro e w1 ⟨rfl, ⟨cap2, hc⟩, hb, hsz⟩)
  have al : Below w1.heap.size w1 (w1.alloc (Obj.cells #[Value.pointer (some ⟨w.heap.size, 0, none⟩), Value.int IntKind.i64 0, Value.slice none 0 0] 43)) := Below.alloc (Below.refl _ _) (Nat.le_refl _) _
  go_ret
  refine ⟨rfl, ⟨cap2, ⟨hc.same al, ?_, ?_, ?_, ?_, ?_, by omega, ?_⟩⟩, below_then hb al⟩
  · rw [World.cell?_alloc_at _ _ _ _ hsz.symm]; rfl
  · rw [World.cell?_alloc_at _ _ _ _ hsz.symm]; rfl
  · rw [World.cell?_alloc_at _ _ _ _ hsz.symm]; rfl
  · exact World.frozen?_alloc_at _ _ _ _ hsz.symm
  · exact World.frozen?_alloc_at _ _ _ _ hsz.symm
  · intro h0 a ha
    obtain ⟨bb, off, h1, h2, _⟩ := hc.rd.some h0
    rw [h1] at ha; injection ha with ha; subst ha
    show bb ≠ w.heap.size + 1
    omega
/-- where a parser's bytes lie -/
def RowAt (w : World) (cp : Nat) (b : List UInt8) (P : Nat → Prop) : Prop := ∃ ao cap, w.cell? ⟨cp, 0, none⟩ = some (.slice ao b.length cap) ∧ (0 < b.length → ∀ a, ao = some a → P a.block)
set_option maxRecDepth 100000 in
theorem parse_new2 (g off cap : Nat) (b : List UInt8) (n : Int) (w : World) (h : Sl w (.slice (some ⟨g, off, none⟩) b.length cap) b) (hl : b.length ≤ 1000000) (h0 : 0 < b.length) :
    Calls Try.prog 42 #[.slice (some ⟨g, off, none⟩) b.length cap, .int .i64 n] w fun e w' => ∃ pp lp cp, e = .returned (.pointer (some ⟨pp, 0, none⟩)) ∧ w.heap.size ≤ pp ∧ w.heap.size ≤ lp ∧ w.heap.size ≤ cp ∧ Ps false w' w' pp lp cp b 0 b ∧ w'.cell? ⟨pp, 1, none⟩ = some (.int .i64 (min (max n 0) 28)) ∧ Below w.heap.size w w' ∧ RowAt w' cp b (fun k => k = g) := by
  go_enter Try.func42, Try.ntmps42
  go_wp2_with (go_at_call 16; refine (lex_new2 g off cap b _ h hl h0).mono ?_; rintro e w2 ⟨rfl, ⟨cap2, hq⟩, hb2⟩)
  go_ret
  have hL := Lx.start hq
  have z1 := World.block_lt_of_cell? _ _ hL.p0
  have z2 := World.block_lt_of_cell? _ _ hq.cur.c0
  refine ⟨_, _, _, rfl, hb2.size, by omega, Nat.le_refl _, ⟨⟨_, _, (hL.below (alb w2 _)).fresh⟩, ?_, ?_, ?_, ?_⟩, ?_, hb2.trans ((alb w2 _).mono hb2.size), ⟨_, cap2, cell_up' (alb w2 _) hq.cur.c0, fun _ a ha => by injection ha with ha; subst ha; rfl⟩⟩
  · rw [World.cell?_alloc_at _ _ _ _ rfl]; rfl
  · rw [World.cell?_alloc_at _ _ _ _ rfl]; rfl
  · exact Ne.symm (Nat.ne_of_lt z1)
  · exact Ne.symm (Nat.ne_of_lt z2)
  · rw [World.cell?_alloc_at _ _ _ _ rfl]; rfl
theorem Ps.row {q : Bool} {w0 w : World} {pp lp cp : Nat} {b s : List UInt8} {i : Nat} (h : Ps q w0 w pp lp cp b i s) : RowAt w cp b (fun k => k < w0.heap.size) := by
  obtain ⟨m, v, hL⟩ := h.lx
  obtain ⟨ao, cap, h1, h2⟩ := hL.lex
  exact ⟨ao, cap, h1.cur.c0, fun h0 a ha => h2.ao h0 a ha⟩
theorem RowAt.imp {w : World} {cp : Nat} {b : List UInt8} {P Q : Nat → Prop} (h : RowAt w cp b P) (k : ∀ g, P g → Q g) : RowAt w cp b Q := by
  obtain ⟨ao, cap, h1, h2⟩ := h
  exact ⟨ao, cap, h1, fun h0 a ha => k _ (h2 h0 a ha)⟩
theorem parse_new_row (v : Value) (b : List UInt8) (n : Int) (w : World) (h : Sl w v b) (hl : b.length ≤ 1000000) :
    Calls Try.prog 42 #[v, .int .i64 n] w fun e w' => ∃ pp lp cp, e = .returned (.pointer (some ⟨pp, 0, none⟩)) ∧ w.heap.size ≤ pp ∧ w.heap.size ≤ lp ∧ w.heap.size ≤ cp ∧ Ps false w' w' pp lp cp b 0 b ∧ w'.cell? ⟨pp, 1, none⟩ = some (.int .i64 (min (max n 0) 28)) ∧ Below w.heap.size w w' ∧ RowAt w' cp b (fun k => v.ownBlock = some k) := by
  obtain ⟨ao, cap, rfl, -, -, -, hr⟩ := id h
  rcases Nat.eq_zero_or_pos b.length with h0 | h0
  · refine (parse_new _ b n w h hl).mono ?_
    rintro e w' ⟨pp, lp, cp, h1, h2, h3, h4, h5, h6, h7⟩
    obtain ⟨ao2, cap2, k1, -⟩ := h5.row
    exact ⟨pp, lp, cp, h1, h2, h3, h4, h5, h6, h7, ao2, cap2, k1, fun q => by omega⟩
  · obtain ⟨g, off, rfl, -, -⟩ := hr.some h0
    refine (parse_new2 g off cap b n w h hl h0).mono ?_
    rintro e w' ⟨pp, lp, cp, h1, h2, h3, h4, h5, h6, h7, h8⟩
    exact ⟨pp, lp, cp, h1, h2, h3, h4, h5, h6, h7, h8.imp fun k hk => by subst hk; rfl⟩

/-- the bytes of a parser stay where they lie -/
theorem RowAt.step {q : Bool} {w w' : World} {pp lp cp : Nat} {b s : List UInt8} {i : Nat} {P : Nat → Prop} (h : RowAt w cp b P) (k : Ps q w w' pp lp cp b i s) : RowAt w' cp b P := by
  obtain ⟨ao, cap, h1, h2⟩ := h
  obtain ⟨m, v, hL⟩ := k.lx
  obtain ⟨ao', cap', k1, k2⟩ := hL.lex
  have e := k2.c0
  rw [h1] at e
  injection e with e
  injection e with e1 e2 e3
  subst e1
  exact ⟨ao, cap', k1.cur.c0, h2⟩
/-- other blocks were written -/
theorem Ps.side {q : Bool} {w w' : World} {pp lp cp : Nat} {b s : List UInt8} {i x y : Nat} (h : Ps q w w pp lp cp b i s) (hr : RowAt w cp b (fun k => k ≠ x ∧ k ≠ y)) (hh : Held w.heap.size x y w w') (h1 : pp ≠ x ∧ pp ≠ y) (h2 : lp ≠ x ∧ lp ≠ y) (h3 : cp ≠ x ∧ cp ≠ y) : Ps q w' w' pp lp cp b i s := by
  obtain ⟨m, v, hL⟩ := h.lx
  obtain ⟨ao', cap', k1, k2⟩ := hL.lex
  obtain ⟨ao, cap, r1, r2⟩ := hr
  have e := k2.c0
  rw [r1] at e
  injection e with e
  injection e with e1 e2 e3
  subst e1
  have hl := Lx.start (k1.held hh h2 h3 r2)
  rw [hL.drp] at hl
  exact ⟨⟨m, v, hl⟩, hh.cell' h.c0 h1.1 h1.2, hh.cell' h.c2 h1.1 h1.2, h.nl, h.nc⟩

/-- two parsers at places of their own -/
structure Two (d : Nat) (w0 w : World) (pp lp cp pq lq cq : Nat) (b c : List UInt8) (i j : Nat) : Prop where
  p : Ps false w w pp lp cp b i (b.drop i)
  q : Ps false w w pq lq cq c j (c.drop j)
  dp : w.cell? ⟨pp, 1, none⟩ = some (.int .i64 (d : Int))
  dq : w.cell? ⟨pq, 1, none⟩ = some (.int .i64 (d : Int))
  rp : RowAt w cp b (fun k => k ≠ lq ∧ k ≠ cq)
  rq : RowAt w cq c (fun k => k ≠ lp ∧ k ≠ cp)
  n1 : (pp ≠ lq ∧ pp ≠ cq) ∧ (lp ≠ lq ∧ lp ≠ cq) ∧ (cp ≠ lq ∧ cp ≠ cq)
  n2 : (pq ≠ lp ∧ pq ≠ cp) ∧ (lq ≠ lp ∧ lq ≠ cp) ∧ (cq ≠ lp ∧ cq ≠ cp)
  bel : Below w0.heap.size w0 w
  lo : w0.heap.size ≤ lp ∧ w0.heap.size ≤ cp ∧ w0.heap.size ≤ lq ∧ w0.heap.size ≤ cq
section
variable {d : Nat} {w0 w w' : World} {pp lp cp pq lq cq : Nat} {b c t : List UInt8} {i j k : Nat}
theorem RowAt.up {P : Nat → Prop} (h : RowAt w cp b P) (hb : Below w.heap.size w w') : RowAt w' cp b P := by
  obtain ⟨ao, cap, h1, h2⟩ := h
  exact ⟨ao, cap, cell_up' hb h1, h2⟩
theorem RowAt.held {P : Nat → Prop} {x y : Nat} (h : RowAt w cp b P) (hb : Held w.heap.size x y w w') (hn : cp ≠ x ∧ cp ≠ y) : RowAt w' cp b P := by
  obtain ⟨ao, cap, h1, h2⟩ := h
  exact ⟨ao, cap, hb.cell' h1 hn.1 hn.2, h2⟩
theorem Two.below (h : Two d w0 w pp lp cp pq lq cq b c i j) (hb : Below w.heap.size w w') : Two d w0 w' pp lp cp pq lq cq b c i j :=
  ⟨(h.p.below hb).fresh, (h.q.below hb).fresh, cell_up' hb h.dp, cell_up' hb h.dq, h.rp.up hb, h.rq.up hb, h.n1, h.n2, h.bel.trans (hb.mono h.bel.size), h.lo⟩
theorem Two.stepP (h : Two d w0 w pp lp cp pq lq cq b c i j) (hp : Ps false w w' pp lp cp b k t) : Two d w0 w' pp lp cp pq lq cq b c k j :=
  ⟨by rw [hp.drp]; exact hp.fresh, h.q.side h.rq hp.held h.n2.1 h.n2.2.1 h.n2.2.2, hp.held.cell' h.dp h.p.nl h.p.nc, hp.held.cell' h.dq h.n2.1.1 h.n2.1.2, h.rp.step hp, h.rq.held hp.held h.n2.2.2, h.n1, h.n2, h.bel.trans (hp.held.below h.bel.size h.lo.1 h.lo.2.1), h.lo⟩
theorem Two.stepQ (h : Two d w0 w pp lp cp pq lq cq b c i j) (hp : Ps false w w' pq lq cq c k t) : Two d w0 w' pp lp cp pq lq cq b c i k :=
  ⟨h.p.side h.rp hp.held h.n1.1 h.n1.2.1 h.n1.2.2, by rw [hp.drp]; exact hp.fresh, hp.held.cell' h.dp h.n1.1.1 h.n1.1.2, hp.held.cell' h.dq h.q.nl h.q.nc, h.rp.held hp.held h.n1.2.2, h.rq.step hp, h.n1, h.n2, h.bel.trans (hp.held.below h.bel.size h.lo.2.2.1 h.lo.2.2.2), h.lo⟩
end
end Go.Proofs.Ytlmgklebikcbjaa
