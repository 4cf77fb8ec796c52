/-
  The document's 'with': entries with one more, by its key; of a Null without. Condition: the entries are no more than 900000.
-/
import Derived.Test.YtlmgklebikcbjaaHc
import Derived.Test.YtlmgklebikcbjaaRhex
import Derived.Test.YtlmgklebikcbjaaHa
import Derived.BigQuiet
import Derived.Laws.Cover1
/-
  The document's Copy: an object in memory of its own. Condition: the object's rows are no longer than a million.
-/
namespace Go.Proofs.Ytlmgklebikcbjaa
open Go.RowKit
set_option linter.unusedVariables false

/-- the call of Copy in a world where the object's blocks are as they were -/
def RCopyC (A : Nat → Prop) (w : World) (vs : List Value) (o : PO) : Prop := ∀ W : World, (∀ g, A g → g < w.heap.size → W.heap[g]? = w.heap[g]?) →
  Calls Try.prog 63 #[.agg vs.toArray] W fun e w' => ∃ vs' : List Value, e = .returned (.agg vs'.toArray) ∧ OV (fun g => W.heap.size ≤ g ∧ g < w'.heap.size) w' vs' o ∧ Below W.heap.size W w'

set_option maxHeartbeats 4000000 in
set_option maxRecDepth 100000 in
theorem rcopy_of {A : Nat → Prop} {w : World} {vs : List Value} {o : PO} (h : OV A w vs o) : RCopyC A w vs o := by
  induction h with
  | mk k n vb vl vd b l d cl cd hb hl hl' hd hkk hd' hz ih1 ih2 =>
    intro W hW
    have hb1 := hb.keep (B := A) (fun _ h => h) hW
    have hl1 := hl.keep (B := A) (fun _ h => h) hW
    have hd1 := hd.keep (B := A) (fun _ h => h) hW
    obtain ⟨⟨aob, capb, rfl, -, -, -, -⟩, -⟩ := id hb1
    obtain ⟨aol, capl, rfl, -⟩ := id hl1
    obtain ⟨aod, capd, rfl, -⟩ := id hd1
    have HB := hid hb1.1
    have HZ := hid hz
    clear hb hl hd hb1
    have hP0 := (C5.new W _ rfl [.int .i64 k, .int .i64 n, .slice aob b.length capb, .slice aol l.length capl, .slice aod d.length capd] 61).up (alb _ (.cells #[.int .i64 0, .int .i64 0, .slice none 0 0, .slice none 0 0, .slice none 0 0] 61))
    have hWW := below_then (alb W (.cells #[.int .i64 k, .int .i64 n, .slice aob b.length capb, .slice aol l.length capl, .slice aod d.length capd] 61)) (alb _ (.cells #[.int .i64 0, .int .i64 0, .slice none 0 0, .slice none 0 0, .slice none 0 0] 61))
    go_enter Try.func63, Try.ntmps63
    go_upto_region 1 with fail
    go_cut [3] (fun s3 wx => ∃ go ao' cap', s3 = .pointer (some ⟨go, 0, none⟩) ∧ C5 wx go [.int .i64 k, .int .i64 n, .slice ao' b.length cap', .slice none 0 0, .slice none 0 0] ∧ SlA (fun g => W.heap.size + 2 ≤ g ∧ g < wx.heap.size ∧ g ≠ go) wx (.slice ao' b.length cap') b ∧ W.heap.size + 2 ≤ go ∧ Below (W.heap.size + 2) ((W.alloc (.cells #[.int .i64 k, .int .i64 n, .slice aob b.length capb, .slice aol l.length capl, .slice aod d.length capd] 61)).alloc (.cells #[.int .i64 0, .int .i64 0, .slice none 0 0, .slice none 0 0, .slice none 0 0] 61)) wx)
    case first =>
      go_region_held3 (fun w' => w'.cell? ⟨W.heap.size, 0, none⟩ = some (.int .i64 k) ∧ w'.cell? ⟨W.heap.size, 1, none⟩ = some (.int .i64 n) ∧ w'.cell? ⟨W.heap.size, 2, none⟩ = some (.slice aob b.length capb)) (first | go_keep | (refine ⟨?_, ?_, ?_⟩ <;> (repeat rw [cset_ne (fun q => by injection q with q1 q2; omega)]) <;> assumption) | skip)
        (first | (go_at_call 85; refine (copy_sl _ b ((((W.alloc (.cells #[.int .i64 k, .int .i64 n, .slice aob b.length capb, .slice aol l.length capl, .slice aod d.length capd] 61)).alloc (.cells #[.int .i64 0, .int .i64 0, .slice none 0 0, .slice none 0 0, .slice none 0 0] 61)).alloc (.cells #[.int .i64 0, .int .i64 0, .slice none 0 0, .slice none 0 0, .slice none 0 0] 61)).drewN 1) (HB.out.up (below_drewN (hWW.alloc (by simp; omega) _) 1)) (Nat.le_trans HZ.out.1 (by decide))).mono ?_; rintro e w1 ⟨v1, rfl, hv, hb1⟩; obtain ⟨ao1, cap1, rfl, -, -, -⟩ := Rd.own hv; have hPw : C5 w1 W.heap.size [.int .i64 k, .int .i64 n, .slice aob b.length capb, .slice aol l.length capl, .slice aod d.length capd] := (((hP0.up (alb _ (.cells #[.int .i64 0, .int .i64 0, .slice none 0 0, .slice none 0 0, .slice none 0 0] 61))).up (below_drewN (Below.refl _ _) 1)).up hb1); have k0 : w1.cell? ⟨W.heap.size, 0, none⟩ = some (.int .i64 k) := hPw.1 0; have k1 : w1.cell? ⟨W.heap.size, 1, none⟩ = some (.int .i64 n) := hPw.1 1; have k2 : w1.cell? ⟨W.heap.size, 2, none⟩ = some (.slice aob b.length capb) := hPw.1 2; have hNw := ((C5.new ((W.alloc (.cells #[.int .i64 k, .int .i64 n, .slice aob b.length capb, .slice aol l.length capl, .slice aod d.length capd] 61)).alloc (.cells #[.int .i64 0, .int .i64 0, .slice none 0 0, .slice none 0 0, .slice none 0 0] 61)) (W.heap.size + 1 + 1) (by simp) [.int .i64 0, .int .i64 0, .slice none 0 0, .slice none 0 0, .slice none 0 0] 61).up (below_drewN (Below.refl _ _) 1)).up hb1; obtain ⟨rc, rf, rs⟩ := id hNw) | (go_at_call 85; refine (copy_sl _ b (((W.alloc (.cells #[.int .i64 k, .int .i64 n, .slice aob b.length capb, .slice aol l.length capl, .slice aod d.length capd] 61)).alloc (.cells #[.int .i64 0, .int .i64 0, .slice none 0 0, .slice none 0 0, .slice none 0 0] 61)).drewN 1) (HB.out.up (below_drewN hWW 1)) (Nat.le_trans HZ.out.1 (by decide))).mono ?_; rintro e w1 ⟨v1, rfl, hv, hb1⟩; obtain ⟨ao1, cap1, rfl, -, -, -⟩ := Rd.own hv; have hPw : C5 w1 W.heap.size [.int .i64 k, .int .i64 n, .slice aob b.length capb, .slice aol l.length capl, .slice aod d.length capd] := ((hP0.up (below_drewN (Below.refl _ _) 1)).up hb1); have k0 : w1.cell? ⟨W.heap.size, 0, none⟩ = some (.int .i64 k) := hPw.1 0; have k1 : w1.cell? ⟨W.heap.size, 1, none⟩ = some (.int .i64 n) := hPw.1 1; have k2 : w1.cell? ⟨W.heap.size, 2, none⟩ = some (.slice aob b.length capb) := hPw.1 2))
      · go_wp2_with fail
        go_meet
        have hB : Below ((W.alloc (.cells #[.int .i64 k, .int .i64 n, .slice aob b.length capb, .slice aol l.length capl, .slice aod d.length capd] 61)).alloc (.cells #[.int .i64 0, .int .i64 0, .slice none 0 0, .slice none 0 0, .slice none 0 0] 61)).heap.size ((W.alloc (.cells #[.int .i64 k, .int .i64 n, .slice aob b.length capb, .slice aol l.length capl, .slice aod d.length capd] 61)).alloc (.cells #[.int .i64 0, .int .i64 0, .slice none 0 0, .slice none 0 0, .slice none 0 0] 61)) w1 := (below_drewN (Below.refl _ ((W.alloc (.cells #[.int .i64 k, .int .i64 n, .slice aob b.length capb, .slice aol l.length capl, .slice aod d.length capd] 61)).alloc (.cells #[.int .i64 0, .int .i64 0, .slice none 0 0, .slice none 0 0, .slice none 0 0] 61))) 1).trans hb1
        refine ⟨_, _, _, rfl, C5.new w1 _ rfl [.int .i64 k, .int .i64 n, .slice ao1 b.length cap1, .slice none 0 0, .slice none 0 0] _, ⟨(Sl.own hv).up (alb _ _), fun g hg => ?_⟩, ?_, ?_⟩
        · have h1 := World.ownsRow.lt hv g hg
          simp at h1
          exact ⟨by omega, by simp; omega, by omega⟩
        · have h1 := hb1.size
          simp at h1; omega
        · have h2 := below_then hB (alb w1 (.cells #[.int .i64 k, .int .i64 n, .slice ao1 b.length cap1, .slice none 0 0, .slice none 0 0] 61))
          exact h2.mono (by simp)
      · go_wp2_with fail
        go_meet
        have hB2 : Below (((W.alloc (.cells #[.int .i64 k, .int .i64 n, .slice aob b.length capb, .slice aol l.length capl, .slice aod d.length capd] 61)).alloc (.cells #[.int .i64 0, .int .i64 0, .slice none 0 0, .slice none 0 0, .slice none 0 0] 61)).alloc (.cells #[.int .i64 0, .int .i64 0, .slice none 0 0, .slice none 0 0, .slice none 0 0] 61)).heap.size (((W.alloc (.cells #[.int .i64 k, .int .i64 n, .slice aob b.length capb, .slice aol l.length capl, .slice aod d.length capd] 61)).alloc (.cells #[.int .i64 0, .int .i64 0, .slice none 0 0, .slice none 0 0, .slice none 0 0] 61)).alloc (.cells #[.int .i64 0, .int .i64 0, .slice none 0 0, .slice none 0 0, .slice none 0 0] 61)) w1 := (below_drewN (Below.refl _ _) 1).trans hb1
        have hB : Below ((W.alloc (.cells #[.int .i64 k, .int .i64 n, .slice aob b.length capb, .slice aol l.length capl, .slice aod d.length capd] 61)).alloc (.cells #[.int .i64 0, .int .i64 0, .slice none 0 0, .slice none 0 0, .slice none 0 0] 61)).heap.size ((W.alloc (.cells #[.int .i64 k, .int .i64 n, .slice aob b.length capb, .slice aol l.length capl, .slice aod d.length capd] 61)).alloc (.cells #[.int .i64 0, .int .i64 0, .slice none 0 0, .slice none 0 0, .slice none 0 0] 61)) w1 := below_then (alb _ _) hB2
        have hh := set5_held w1 w1.heap.size (W.heap.size + 1 + 1) (.int .i64 k) (.int .i64 n) (.slice ao1 b.length cap1) (.slice none 0 0) (.slice none 0 0)
        refine ⟨_, _, _, rfl, hNw.set5 rfl, ⟨(Sl.own hv).held hh (fun g hg => ?_), fun g hg => ?_⟩, by omega, ?_⟩
        · have h1 := World.ownsRow.lt hv g hg
          simp at h1
          exact ⟨by omega, by omega⟩
        · have h1 := World.ownsRow.lt hv g hg
          have h2 := hh.size
          simp at h1
          exact ⟨by omega, Nat.lt_of_lt_of_le h1.2 h2, by omega⟩
        · have h3 := hB.size
          simp at h3
          exact (hB.mono (by simp)).trans (hh.below (by omega) (by omega) (by omega))
    case rest =>
      obtain ⟨go, ao1, cap1, rfl, hO, hS, hgo, hbel⟩ := hcut
      have hsz : (((W.alloc (.cells #[.int .i64 k, .int .i64 n, .slice aob b.length capb, .slice aol l.length capl, .slice aod d.length capd] 61)).alloc (.cells #[.int .i64 0, .int .i64 0, .slice none 0 0, .slice none 0 0, .slice none 0 0] 61))).heap.size = W.heap.size + 2 := by simp
      have hP1 := hP0.up (hbel.mono (by simp))
      have hZ1 := (C5.new (W.alloc (.cells #[.int .i64 k, .int .i64 n, .slice aob b.length capb, .slice aol l.length capl, .slice aod d.length capd] 61)) (W.heap.size + 1) (by simp) [.int .i64 0, .int .i64 0, .slice none 0 0, .slice none 0 0, .slice none 0 0] 61).up (hbel.mono (by simp))
      have hWc : Below W.heap.size W wc := hWW.trans (hbel.mono (by omega))
      have HBL := hid hbel
      clear hP0 hbel hWW
      obtain ⟨C, hC, hCc⟩ := ov_of l cl hl'
      obtain ⟨D, hD, hDc⟩ := ev_of d cd hkk hd'
      have hCl : C.length = l.length := All2.len hC
      have hDl : D.length = d.length := All2.len hD
      have HSL := hid (hl1.slx C hCl hCc).1
      have HSD := hid (hd1.slx (D.map ecl) (by rw [List.length_map]; exact hDl) (fun i hi => by rw [List.getElem_map]; exact hDc i (by simpa using hi))).1
      have hag : ∀ X, Below W.heap.size W X → ∀ g, A g → g < w.heap.size → X.heap[g]? = w.heap[g]? := fun X hX g hg hlt => by
        have e := hW g hg hlt
        refine (hX.block g ?_).trans e
        rcases Nat.lt_or_ge g W.heap.size with q | q
        · exact q
        · rw [Array.getElem?_eq_none q, Array.getElem?_eq_getElem hlt] at e; cases e
      have HAG := hid hag
      have hI1 : ∀ i (h : i < C.length), RCopyC A w C[i] (l[i]'(by omega)) := fun i h => by rw [hCc i h]; exact ih1 i (by omega)
      have hI2 : ∀ i (h : i < D.length), RCopyC A w (D[i]).2 (d[i]'(by omega)).2 ∧ (D[i]).1 = (d[i]'(by omega)).1 ∧ V5 (D[i]).2 := fun i h => by
        have e : (D[i]).2 = (cd i).tail := by rw [← hDc i h]; rfl
        exact ⟨by rw [e]; exact ih2 i (by omega), (hD.at i h (by omega)).1, hD.allV _ (List.getElem_mem h)⟩
      have hV1 : ∀ i (h : i < C.length), V5 C[i] := fun i h => hC.len5 _ (List.getElem_mem h)
      have HI1 := hid hI1
      have HI2 := hid hI2
      have HV1 := hid hV1
      clear hag hW hl1 hd1 hl' hkk hd' ih1 ih2 hC hD hCc hDc hI1 hI2 hV1
      have HO := hid hO
      obtain ⟨oc, of_, os⟩ := hO
      obtain ⟨rc, rf, rs⟩ := id hP1
      go_wp2
      clear oc of_ os rc rf rs
      go_loopw [4] (fun s19 wr => ∃ i : Nat, ∃ aol' capl' C', s19 = .int .i64 i ∧ i ≤ l.length ∧ CpL wc wr go k n (.slice ao1 b.length cap1) (.slice aol' i capl') (.slice none 0 0) l i C') (fun s19 _ => l.length - (intOf s19).toNat)
      case atStart => exact ⟨0, none, 0, [], rfl, Nat.zero_le _, HO.out, RowG.nil _ _ _ _ _ _, Held.refl _ _ _ _⟩
      case round =>
        obtain ⟨i, aol', capl', C', rfl, hi, hL⟩ := hrel
        have hWr : Below W.heap.size W wr := hWc.trans (hL.hh.below hWc.size (by omega) (by omega))
        have hPr := hP1.held hL.hh (by omega) (by omega)
        by_cases hlt : i < l.length
        · obtain ⟨pc, pf, ps⟩ := id hPr
          have hiz : (i : Int) < (l.length : Int) := by omega
          obtain ⟨g, off, rfl, hcell0⟩ := HSL.out.some (by omega)
          have hcell := fun i h j u hu => cell_up' hWr (hcell0 i h j u hu)
          have l20 := hcell0 i (by omega)
          clear hcell0
          have l2 := hcell i (by omega)
          have hcp := HI1.out i (by omega)
          have hv5 := HV1.out i (by omega)
          clear hcell
          generalize C[i]'(by omega) = ci at l2 l20 hcp hv5
          obtain ⟨p1, p2, p3, p4, p5, p6, p7, p8, p9, p10, p11, rfl⟩ := hv5
          have hgl : g < W.heap.size := World.block_lt_of_cell? _ _ (l20 0 _ rfl)
          have c0 := l2 0 _ rfl
          have c1 := l2 1 _ rfl
          have c2 := l2 2 _ rfl
          have c3 := l2 3 _ rfl
          have c4 := l2 4 _ rfl
          rw [Nat.add_zero] at c0
          have HL := hid hL
          obtain ⟨oc, of_, os⟩ := hL.out
          clear l2 l20 hL
          have hone : ∀ vs : List Value, V5 vs → ∀ c ∈ [vs], ∀ u ∈ c, u.oneCell' = true := fun vs h c hc => by
            rw [List.mem_singleton] at hc; subst hc; exact h.one
          have hlz := HZ.out.2.1
          have hbz := HL.out.hh.size
          have hgw : go < wc.heap.size := HO.out.2.2
          have hgW : g < W.heap.size := hgl
          have hcz : W.heap.size + 2 ≤ wc.heap.size := Nat.le_trans hgo (Nat.le_of_lt HO.out.2.2)
          have hBr : Below (W.heap.size + 2) wc wr := HL.out.hh.below hcz hgo hgo
          have hS : ∀ X, Below (W.heap.size + 2) wc X → (fun w' => w'.cell? ⟨W.heap.size, 3, none⟩ = some (.slice (some ⟨g, off, none⟩) l.length capl) ∧ w'.cell? ⟨g, off + i * 5, none⟩ = some (.int .i64 p1) ∧ w'.cell? ⟨g, off + i * 5 + 1, none⟩ = some (.int .i64 p2) ∧ w'.cell? ⟨g, off + i * 5 + 2, none⟩ = some (.slice p3 p6 p7) ∧ w'.cell? ⟨g, off + i * 5 + 3, none⟩ = some (.slice p4 p8 p9) ∧ w'.cell? ⟨g, off + i * 5 + 4, none⟩ = some (.slice p5 p10 p11)) X := fun X hX => by
            have hbk : ∀ g, g < W.heap.size + 2 → X.heap[g]? = wr.heap[g]? := fun g hg => (hX.block g hg).trans (hBr.block g hg).symm
            exact ⟨(World.cell?_of_block (w := wr) (hbk W.heap.size (by omega))).trans (hPr.1 3), (World.cell?_of_block (w := wr) (hbk g (by omega))).trans c0, (World.cell?_of_block (w := wr) (hbk g (by omega))).trans c1, (World.cell?_of_block (w := wr) (hbk g (by omega))).trans c2, (World.cell?_of_block (w := wr) (hbk g (by omega))).trans c3, (World.cell?_of_block (w := wr) (hbk g (by omega))).trans c4⟩
          have HS := hid hS
          have hBr0 := hid hBr
          clear hS hBr
          go_upto_region 5 with fail
          have hlv : opLd 58 (Operand.tmp 21) = Op.load 58 (Operand.tmp 21) := rfl
          rw [← hlv]
          go_region_held3 (fun w' => w'.cell? ⟨W.heap.size, 3, none⟩ = some (.slice (some ⟨g, off, none⟩) l.length capl) ∧ w'.cell? ⟨g, off + i * 5, none⟩ = some (.int .i64 p1) ∧ w'.cell? ⟨g, off + i * 5 + 1, none⟩ = some (.int .i64 p2) ∧ w'.cell? ⟨g, off + i * 5 + 2, none⟩ = some (.slice p3 p6 p7) ∧ w'.cell? ⟨g, off + i * 5 + 3, none⟩ = some (.slice p4 p8 p9) ∧ w'.cell? ⟨g, off + i * 5 + 4, none⟩ = some (.slice p5 p10 p11)) (first | go_keep | exact HS.out _ hBr0.out | exact HS.out _ (by assumption) | skip) (first | (go_at_call 63; refine (hcp _ (HAG.out _ (below_drewN hWr _))).mono ?_; rintro e w5 ⟨vs', rfl, hov, hb5⟩; have hb : Below wr.heap.size wr w5 := (below_drewN (Below.refl _ _) _).trans hb5; have hV5 := hov.v5; have hone := hone _ hV5; have hov2 := hid (hov.keep (B := fun g => wr.heap.size ≤ g ∧ g < w5.heap.size) (fun g hg => ⟨by have := hg.1; simp at this; omega, hg.2⟩) (fun _ _ _ => rfl)); clear hov; obtain ⟨y1, y2, y3, y4, y5, y6, y7, y8, y9, y10, y11, rfl⟩ := hV5; have hLo := HL.out.out.up hb; obtain ⟨oc, of_, os⟩ := id hLo; have hrow : OwX 5 61 w5 wc.heap.size (.slice aol' i capl') C' := (by simpa using (HL.out.row.up keepOV hb).row); have hCl2 : C'.length = i := (by have := All2.len HL.out.row.rel; rw [List.length_take] at this; omega); have hbs := hb.size; have hkA := hBr0.out.trans (hb.mono (by have := hBr0.out.size; omega)); have hkB := hkA.trans ((alb w5 (.cells #[.int .i64 y1, .int .i64 y2, .slice y3 y6 y7, .slice y4 y8 y9, .slice y5 y10 y11] 61)).mono (by have := hkA.size; omega))) | (refine wp_append_slx _ _ 58 rfl wc.heap.size 61 zObj 5 88 objTy' objIn rfl (by decide) (.slice aol' i capl') C' rfl (hrow.up (alb _ _)) _ [[.int .i64 y1, .int .i64 y2, .slice y3 y6 y7, .slice y4 y8 y9, .slice y5 y10 y11]] rfl (SlX.lit1 w5 _ rfl [.int .i64 y1, .int .i64 y2, .slice y3 y6 y7, .slice y4 y8 y9, .slice y5 y10 y11] _ 5 rfl) hone (by simp; omega) (by decide) (Nat.le_trans hbz (Nat.le_trans hbs (alb _ _).size)) ?_; intro v8 w8 r1 r2 r3; obtain ⟨g8, cap8, rfl⟩ := r1.cons (by simp); have e8 : (C' ++ ([[.int .i64 y1, .int .i64 y2, .slice y3 y6 y7, .slice y4 y8 y9, .slice y5 y10 y11]] : List (List Value))).length = i + 1 := (by rw [List.length_append, hCl2]; rfl); rw [e8] at r1 r3; have hne8 : (Value.slice aol' i capl').ownBlock ≠ some go := (fun q => by have := (hrow.lt go q).1; omega); have hkC := hkB.trans (Held.below (B := W.heap.size + 2) (p := go) (q := go) (Held.grown r2 (Nat.le_trans hcz hkB.size) (fun g q => by have := (hrow.lt g q).1; omega)) (Nat.le_refl _) hgo hgo); have hkD := hkC.trans ((Held.set (B := W.heap.size + 2) (p := go) (q := go) w8 ⟨go, 3, none⟩ (.slice (some ⟨g8, 0, none⟩) (i + 1) cap8) (.inl rfl)).below (Nat.le_refl _) hgo hgo); have hLo := (hLo.up (alb _ _)).grown r2 hne8; obtain ⟨oc, of_, os⟩ := id hLo))
          all_goals
            go_wp2_with fail
            go_roundw
            case rel => exact ⟨i + 1, _, _, _, by go_num, by omega, HL.out.push hlt (below_then hb (alb w5 _)) (hov2.out.keep (fun g hg => ⟨hg.1, Nat.lt_of_lt_of_le hg.2 (alb _ _).size⟩) (fun g _ hlt => (alb _ _).block g hlt)) r1 r2 r3 hgw⟩
            case measure => simp [intOf]; omega
        · obtain rfl : i = l.length := by omega
          have hiz : ¬ (l.length : Int) < (l.length : Int) := by omega
          have HL1 := hid hL
          have HPr := hid hPr
          have HWr := hid hWr
          have HOo := hid hL.out
          obtain ⟨oc, of_, os⟩ := hL.out
          obtain ⟨rc, rf, rs⟩ := hPr
          clear hL hWr
          obtain ⟨wo, hwo⟩ : ∃ wo : World, wo = wr := ⟨_, rfl⟩
          subst hwo
          go_wp2
          clear oc of_ os rc rf rs
          go_loopw [5] (fun s34 wr => ∃ i : Nat, ∃ aod' capd' D', s34 = .int .i64 i ∧ i ≤ d.length ∧ CpD wo wr go k n (.slice ao1 b.length cap1) (.slice aol' l.length capl') (.slice aod' i capd') d i D') (fun s34 _ => d.length - (intOf s34).toNat)
          case atStart => exact ⟨0, none, 0, [], rfl, Nat.zero_le _, HOo.out, RowG.nil _ _ _ _ _ _, Held.refl _ _ _ _⟩
          case round =>
            obtain ⟨i, aod', capd', D', rfl, hi2, hL⟩ := hrel
            have hWr : Below W.heap.size W wr := HWr.out.trans (hL.hh.below HWr.out.size (by omega) (by omega))
            have hPr := HPr.out.held hL.hh (by omega) (by omega)
            by_cases hlt : i < d.length
            · obtain ⟨pc, pf, ps⟩ := id hPr
              have hiz : (i : Int) < (d.length : Int) := by omega
              obtain ⟨g, off, rfl, hcell0⟩ := HSD.out.some (by omega)
              have hcell := fun i h j u hu => cell_up' hWr (hcell0 i h j u hu)
              have l20 := hcell0 i (by rw [List.length_map]; omega)
              rw [List.getElem_map] at l20
              clear hcell0
              have l2 := hcell i (by rw [List.length_map]; omega)
              rw [List.getElem_map] at l2
              obtain ⟨hcp, hkk, hv5⟩ := HI2.out i (by omega)
              have hps := fun (D' : List KV) (wc wr : World) (C : List KV) (q : i < d.length) => True.intro
              clear hcell hps
              generalize D[i]'(by omega) = di at l2 l20 hcp hkk hv5
              obtain ⟨kk, vv⟩ := di
              obtain ⟨p1, p2, p3, p4, p5, p6, p7, p8, p9, p10, p11, rfl⟩ := hv5
              have hgl : g < W.heap.size := World.block_lt_of_cell? _ _ (l20 0 _ rfl)
              have c0 := l2 0 _ rfl
              have c1 := l2 1 _ rfl
              have c2 := l2 2 _ rfl
              have c3 := l2 3 _ rfl
              have c4 := l2 4 _ rfl
              have c5 := l2 5 _ rfl
              rw [Nat.add_zero] at c0
              have HKK := hid hkk
              have HL := hid hL
              obtain ⟨oc, of_, os⟩ := hL.out
              clear l2 l20 hL hkk
              have hone : ∀ vs : List Value, V5 vs → ∀ c ∈ [ecl (kk, vs)], ∀ u ∈ c, u.oneCell' = true := fun vs h c hc => by
                rw [List.mem_singleton] at hc; subst hc; exact ecl_one (e := (kk, vs)) h
              have hlz := HZ.out.2.2
              have hbz := HL.out.hh.size
              have hgw : go < wo.heap.size := HOo.out.2.2
              have hgW : g < W.heap.size := hgl
              have hcz : W.heap.size + 2 ≤ wc.heap.size := Nat.le_trans hgo (Nat.le_of_lt HO.out.2.2)
              have hBr : Below (W.heap.size + 2) wc wr := (HL1.out.hh.below hcz hgo hgo).trans (HL.out.hh.below (Nat.le_trans hcz HL1.out.hh.size) hgo hgo)
              have hS : ∀ X, Below (W.heap.size + 2) wc X → (fun w' => w'.cell? ⟨W.heap.size, 4, none⟩ = some (.slice (some ⟨g, off, none⟩) d.length capd) ∧ w'.cell? ⟨g, off + i * 6, none⟩ = some (.string (st kk)) ∧ w'.cell? ⟨g, off + i * 6 + 1, none⟩ = some (.int .i64 p1) ∧ w'.cell? ⟨g, off + i * 6 + 2, none⟩ = some (.int .i64 p2) ∧ w'.cell? ⟨g, off + i * 6 + 3, none⟩ = some (.slice p3 p6 p7) ∧ w'.cell? ⟨g, off + i * 6 + 4, none⟩ = some (.slice p4 p8 p9) ∧ w'.cell? ⟨g, off + i * 6 + 5, none⟩ = some (.slice p5 p10 p11)) X := fun X hX => by
                have hbk : ∀ g, g < W.heap.size + 2 → X.heap[g]? = wr.heap[g]? := fun g hg => (hX.block g hg).trans (hBr.block g hg).symm
                exact ⟨(World.cell?_of_block (w := wr) (hbk W.heap.size (by omega))).trans (hPr.1 4), (World.cell?_of_block (w := wr) (hbk g (by omega))).trans c0, (World.cell?_of_block (w := wr) (hbk g (by omega))).trans c1, (World.cell?_of_block (w := wr) (hbk g (by omega))).trans c2, (World.cell?_of_block (w := wr) (hbk g (by omega))).trans c3, (World.cell?_of_block (w := wr) (hbk g (by omega))).trans c4, (World.cell?_of_block (w := wr) (hbk g (by omega))).trans c5⟩
              have HS := hid hS
              have hBr0 := hid hBr
              clear hS hBr
              go_upto_region 9 with fail
              have hlv : opLd 59 (Operand.tmp 39) = Op.load 59 (Operand.tmp 39) := rfl
              rw [← hlv]
              go_region_held3 (fun w' => w'.cell? ⟨W.heap.size, 4, none⟩ = some (.slice (some ⟨g, off, none⟩) d.length capd) ∧ w'.cell? ⟨g, off + i * 6, none⟩ = some (.string (st kk)) ∧ w'.cell? ⟨g, off + i * 6 + 1, none⟩ = some (.int .i64 p1) ∧ w'.cell? ⟨g, off + i * 6 + 2, none⟩ = some (.int .i64 p2) ∧ w'.cell? ⟨g, off + i * 6 + 3, none⟩ = some (.slice p3 p6 p7) ∧ w'.cell? ⟨g, off + i * 6 + 4, none⟩ = some (.slice p4 p8 p9) ∧ w'.cell? ⟨g, off + i * 6 + 5, none⟩ = some (.slice p5 p10 p11)) (first | go_keep | exact HS.out _ hBr0.out | exact HS.out _ (by assumption) | skip) (first | (go_at_call 63; refine (hcp _ (HAG.out _ (below_drewN hWr _))).mono ?_; rintro e w5 ⟨vs', rfl, hov, hb5⟩; have hb : Below wr.heap.size wr w5 := (below_drewN (Below.refl _ _) _).trans hb5; have hV5 := hov.v5; have hone := hone _ hV5; have hov2 := hid (hov.keep (B := fun g => wr.heap.size ≤ g ∧ g < w5.heap.size) (fun g hg => ⟨by have := hg.1; simp at this; omega, hg.2⟩) (fun _ _ _ => rfl)); clear hov; obtain ⟨y1, y2, y3, y4, y5, y6, y7, y8, y9, y10, y11, rfl⟩ := hV5; have hLo := HL.out.out.up hb; obtain ⟨oc, of_, os⟩ := id hLo; have hrow : OwX 6 90 w5 wo.heap.size (.slice aod' i capd') (D'.map ecl) := (HL.out.row.up keepEV hb).row; have hCl2 : D'.length = i := (by have := All2.len HL.out.row.rel; rw [List.length_take] at this; omega); have hbs := hb.size; have hkA := hBr0.out.trans (hb.mono (by have := hBr0.out.size; omega)); have hkB := hkA.trans ((alb w5 (.cells #[.string (st kk), .int .i64 y1, .int .i64 y2, .slice y3 y6 y7, .slice y4 y8 y9, .slice y5 y10 y11] 90)).mono (by have := hkA.size; omega))) | (refine wp_append_slx _ _ 59 rfl wo.heap.size 90 zEnt 6 104 entTy' entIn rfl (by decide) (.slice aod' i capd') (D'.map ecl) rfl (hrow.up (alb _ _)) _ [ecl (kk, [.int .i64 y1, .int .i64 y2, .slice y3 y6 y7, .slice y4 y8 y9, .slice y5 y10 y11])] rfl (SlX.lit1 w5 _ rfl (ecl (kk, [.int .i64 y1, .int .i64 y2, .slice y3 y6 y7, .slice y4 y8 y9, .slice y5 y10 y11])) _ 6 rfl) hone (by simp; omega) (by decide) (Nat.le_trans hbz (Nat.le_trans hbs (alb _ _).size)) ?_; intro v8 w8 r1 r2 r3; obtain ⟨g8, cap8, rfl⟩ := r1.cons (by simp); have e8 : (D'.map ecl ++ ([ecl (kk, [.int .i64 y1, .int .i64 y2, .slice y3 y6 y7, .slice y4 y8 y9, .slice y5 y10 y11])] : List (List Value))).length = i + 1 := (by rw [List.length_append, List.length_map, hCl2]; rfl); rw [e8] at r1 r3; have hne8 : (Value.slice aod' i capd').ownBlock ≠ some go := (fun q => by have := (hrow.lt go q).1; omega); have hco := HL1.out.hh.size; have hkC := hkB.trans (Held.below (B := W.heap.size + 2) (p := go) (q := go) (Held.grown r2 (Nat.le_trans hcz hkB.size) (fun g q => by have := (hrow.lt g q).1; omega)) (Nat.le_refl _) hgo hgo); have hkD := hkC.trans ((Held.set (B := W.heap.size + 2) (p := go) (q := go) w8 ⟨go, 4, none⟩ (.slice (some ⟨g8, 0, none⟩) (i + 1) cap8) (.inl rfl)).below (Nat.le_refl _) hgo hgo); have hLo := (hLo.up (alb _ _)).grown r2 hne8; obtain ⟨oc, of_, os⟩ := id hLo))
              all_goals
                go_wp2_with fail
                go_roundw
                case rel => exact ⟨i + 1, _, _, _, by go_num, by omega, CpD.push' HL.out hlt HKK.out (below_then hb (alb w5 _)) (hov2.out.keep (fun g hg => ⟨hg.1, Nat.lt_of_lt_of_le hg.2 (alb _ _).size⟩) (fun g _ hlt => (alb _ _).block g hlt)) r1 r2 r3 hgw⟩
                case measure => simp [intOf]; omega
            · obtain rfl : i = d.length := by omega
              have hiz : ¬ (d.length : Int) < (d.length : Int) := by omega
              have hZr := (hZ1.held HL1.out.hh (by omega) (by omega)).held hL.hh (by omega) (by omega)
              have HL2 := hid hL
              have hcs := hWc.size
              have hgw : go < wc.heap.size := HO.out.2.2
              have hzc : W.heap.size + 1 < wc.heap.size := hZ1.2.2
              obtain ⟨oc, of_, os⟩ := hL.out
              obtain ⟨rc, rf, rs⟩ := id hZr
              obtain ⟨pc, pf, ps⟩ := id hPr
              clear hL hPr
              go_wp2
              obtain ⟨k0, k1, k2, k3, k4⟩ := set5_cells (a := .int .i64 k) (b := .int .i64 n) (c := .slice ao1 b.length cap1) (d := .slice aol' l.length capl') (e := .slice aod' d.length capd') (hZr.five rfl)
              have hf := fun B => set5_held wr B (W.heap.size + 1) (.int .i64 k) (.int .i64 n) (.slice ao1 b.length cap1) (.slice aol' l.length capl') (.slice aod' d.length capd')
              have hco := HL1.out.hh.size
              have hall : ∀ g, g < wc.heap.size → g ≠ go → g ≠ W.heap.size + 1 → (set5 wr (W.heap.size + 1) (.int .i64 k) (.int .i64 n) (.slice ao1 b.length cap1) (.slice aol' l.length capl') (.slice aod' d.length capd')).heap[g]? = wc.heap[g]? := fun g h1 h2 h3 =>
                ((hf wr.heap.size).block g (Nat.lt_of_lt_of_le h1 (Nat.le_trans hco HL2.out.hh.size)) h3 h3).trans ((HL2.out.hh.block g (Nat.lt_of_lt_of_le h1 hco) h2 h2).trans (HL1.out.hh.block g h1 h2 h2))
              have hl9 := ((HL1.out.row.held keepOV HL2.out.hh hgw hgw).held keepOV (hf _) (by omega) (by omega))
              have hd9 := HL2.out.row.held keepEV (hf _) (by omega) (by omega)
              rw [List.take_length] at hl9 hd9
              have hsf := (hf wr.heap.size).size
              have hso := HL2.out.hh.size
              have hA : ∀ g, wc.heap.size ≤ g → g < (set5 wr (W.heap.size + 1) (.int .i64 k) (.int .i64 n) (.slice ao1 b.length cap1) (.slice aol' l.length capl') (.slice aod' d.length capd')).heap.size → W.heap.size ≤ g ∧ g < (set5 wr (W.heap.size + 1) (.int .i64 k) (.int .i64 n) (.slice ao1 b.length cap1) (.slice aol' l.length capl') (.slice aod' d.length capd')).heap.size := fun g h1 h2 => ⟨by omega, h2⟩
              have hA2 : ∀ g, wo.heap.size ≤ g → g < (set5 wr (W.heap.size + 1) (.int .i64 k) (.int .i64 n) (.slice ao1 b.length cap1) (.slice aol' l.length capl') (.slice aod' d.length capd')).heap.size → W.heap.size ≤ g ∧ g < (set5 wr (W.heap.size + 1) (.int .i64 k) (.int .i64 n) (.slice ao1 b.length cap1) (.slice aol' l.length capl') (.slice aod' d.length capd')).heap.size := fun g h1 h2 => ⟨by omega, h2⟩
              have hrl := hl9.row.row hA
              rw [List.map_id'] at hrl
              have hrd := hd9.row.row hA2
              rw [List.length_map] at hrd
              have hsa := hS.keep (B := fun g => W.heap.size ≤ g ∧ g < (set5 wr (W.heap.size + 1) (.int .i64 k) (.int .i64 n) (.slice ao1 b.length cap1) (.slice aol' l.length capl') (.slice aod' d.length capd')).heap.size) (w' := set5 wr (W.heap.size + 1) (.int .i64 k) (.int .i64 n) (.slice ao1 b.length cap1) (.slice aol' l.length capl') (.slice aod' d.length capd')) (fun g hg => ⟨by have := hg.1; omega, by have := hg.2.1; exact Nat.lt_of_lt_of_le (Nat.lt_of_lt_of_le this (Nat.le_trans hco hso)) hsf⟩) (fun g hg h1 => hall g h1 hg.2.2 (by have := hg.1; omega))
              have hbel : Below W.heap.size W (set5 wr (W.heap.size + 1) (.int .i64 k) (.int .i64 n) (.slice ao1 b.length cap1) (.slice aol' l.length capl') (.slice aod' d.length capd')) := hWr.trans ((hf wr.heap.size).below hWr.size (by omega) (by omega))
              exact bodyPost_ret (v := .agg ([.int .i64 k, .int .i64 n, .slice ao1 b.length cap1, .slice aol' l.length capl', .slice aod' d.length capd']).toArray) (by simp [results, Try.results63, go_sem, k0, k1, k2, k3, k4]) rfl ⟨[.int .i64 k, .int .i64 n, .slice ao1 b.length cap1, .slice aol' l.length capl', .slice aod' d.length capd'], rfl, OV.make hsa hrl (hl9.wide keepOV hA) hrd (hd9.wide keepEV hA2) HZ.out, hbel⟩
theorem rcopyO_any {A : Nat → Prop} {w : World} {vs : List Value} {o : PO} (h : OV A w vs o) :
    Calls Try.prog 63 #[.agg vs.toArray] w fun e w' => ∃ vs' : List Value, e = .returned (.agg vs'.toArray) ∧ OV (fun g => w.heap.size ≤ g ∧ g < w'.heap.size) w' vs' o ∧ Below w.heap.size w w' := rcopy_of h w (fun _ _ _ => rfl)
end Go.Proofs.Ytlmgklebikcbjaa

/-
  Plain: the document's 'with', one entry after the other. No program here.
-/
namespace Go.Proofs.Ytlmgklebikcbjaa
set_option linter.unusedVariables false

theorem wi_null {e : List UInt8 × PO} (h : e.2.kind = 0) : ∀ d, wi e d = d.filter (fun y => !(y.1 == e.1))
  | [] => by rw [wi, if_pos h]; rfl
  | x :: d => by
    rw [wi, if_neg (fun q => q.1 h), List.filter_cons]
    by_cases hx : x.1 = e.1
    · rw [if_pos hx, wi_null h d]; simp [hx]
    · rw [if_neg hx, wi_null h d]; simp [hx]
/-- what is still to come: the entry is put, or it is not -/
def wp (e : List UInt8 × PO) : Bool → List (List UInt8 × PO) → List (List UInt8 × PO)
  | true, d => d.filter (fun y => !(y.1 == e.1))
  | false, d => wi e d
section
variable {e x : List UInt8 × PO} {d : List (List UInt8 × PO)}
theorem wp_start : wp e (e.2.kind == 0) d = wi e d := by
  by_cases h : e.2.kind = 0
  · have : (e.2.kind == 0) = true := by simp [h]
    rw [this, wi_null h]; rfl
  · have : (e.2.kind == 0) = false := by simp [h]
    rw [this]; rfl
theorem wp_done : wp e true [] = [] := rfl
theorem wp_last (h : ¬ e.2.kind = 0) : wp e false [] = [e] := by show wi e [] = [e]; rw [wi, if_neg h]
theorem wp_here (h : ¬ e.2.kind = 0) (hk : kle e.1 x.1 = true) : wp e false (x :: d) = e :: wp e true (x :: d) := by
  show wi e (x :: d) = _
  rw [wi, if_pos ⟨h, hk⟩]; rfl
theorem wp_skip (h : x.1 = e.1) : wp e true (x :: d) = wp e true d := by
  rw [wp, wp, List.filter_cons]; simp [h]
theorem wp_take (h : ¬ x.1 = e.1) : wp e true (x :: d) = x :: wp e true d := by
  rw [wp, wp, List.filter_cons]; simp [h]
theorem wp_past (h : ¬ e.2.kind = 0) (hk : kle e.1 x.1 = false) : wp e false (x :: d) = x :: wp e false d ∧ ¬ x.1 = e.1 := by
  have hne : ¬ x.1 = e.1 := fun q => by rw [q, kle_refl] at hk; cases hk
  refine ⟨?_, hne⟩
  show wi e (x :: d) = x :: wi e d
  rw [wi, if_neg (fun q => by rw [hk] at q; exact absurd q.2 (by decide)), if_neg hne]
end
end Go.Proofs.Ytlmgklebikcbjaa

/-
  The document's 'with': entries with one more, by its key; of a Null without. Condition: the entries are no more than 900000.
-/
namespace Go.Proofs.Ytlmgklebikcbjaa
open Go.RowKit
set_option linter.unusedVariables false

/-- a row of the call's own of entries, whose values lie in blocks of the call's own or of A -/
structure RowW (A : Nat → Prop) (B : Nat) (w : World) (v : Value) (E : List KV) (x : List (List UInt8 × PO)) : Prop where
  row : OwX 6 90 w B v (E.map ecl)
  rel : EVs (fun g => A g ∨ (B ≤ g ∧ g < w.heap.size ∧ v.ownBlock ≠ some g)) w E x
section
variable {A : Nat → Prop} {B : Nat} {w w' : World} {v v' : Value} {E : List KV} {x : List (List UInt8 × PO)}
theorem RowW.nil (A : Nat → Prop) (B : Nat) (w : World) : RowW A B w (.slice Option.none 0 0) [] [] := ⟨OwX.nil _ _ _ _, .nil⟩
theorem RowW.up (h : RowW A B w v E x) (hb : Below w.heap.size w w') : RowW A B w' v E x :=
  ⟨h.row.up hb, h.rel.keep (fun g hg => hg.imp id (fun hg => ⟨hg.1, Nat.lt_of_lt_of_le hg.2.1 hb.size, hg.2.2⟩)) (fun g hg hlt => hb.block g hlt)⟩
theorem RowW.push (h : RowW A B w v E x) (hA : ∀ g, A g → g < B) {a : KV} {b : List UInt8 × PO} (hx : EV (fun g => A g ∨ (B ≤ g ∧ g < w.heap.size ∧ v.ownBlock ≠ some g)) w a b) (hrow : OwX 6 90 w' B v' (E.map ecl ++ [ecl a])) (hg : w.grownBy w' v.ownBlock) (hm : Moved w v v') : RowW A B w' v' (E ++ [a]) (x ++ [b]) := by
  have hne' : ∀ g, v'.ownBlock = Option.some g → v.ownBlock = Option.some g ∨ g = w.heap.size := by
    intro g hq
    rcases hm with hm | hm
    · left; rw [← hm]; exact hq
    · right; rw [hm] at hq; injection hq with hq; exact hq.symm
  have hA' : ∀ g, (A g ∨ (B ≤ g ∧ g < w.heap.size ∧ v.ownBlock ≠ Option.some g)) → (A g ∨ (B ≤ g ∧ g < w'.heap.size ∧ v'.ownBlock ≠ Option.some g)) := fun g hq => hq.imp id fun hq => ⟨hq.1, Nat.lt_of_lt_of_le hq.2.1 hg.size, fun q => by
    rcases hne' g q with q1 | q1
    · exact hq.2.2 q1
    · have := hq.2.1; omega⟩
  have hk : ∀ g, (A g ∨ (B ≤ g ∧ g < w.heap.size ∧ v.ownBlock ≠ Option.some g)) → g < w.heap.size → w'.heap[g]? = w.heap[g]? := fun g hq hlt => hg.block g hlt fun q => by
    rcases hq with hq | hq
    · have h1 := (h.row.lt g q.symm).1
      have h2 := hA g hq
      omega
    · exact hq.2.2 q.symm
  refine ⟨by rw [List.map_append]; exact hrow, (h.rel.keep hA' hk).app (.one ⟨hx.1, hx.2.keep hA' hk⟩)⟩
theorem RowW.len (h : RowW A B w v E x) : E.length = x.length := All2.len h.rel
end

set_option maxHeartbeats 3200000 in
set_option maxRecDepth 100000 in
theorem with_any {A : Nat → Prop} {w : World} {d : List (List UInt8 × PO)} {D : List KV} {vd : Value} (ke : List UInt8) {oe : PO} {ve : List Value} (hA : ∀ g, A g → g < w.heap.size) (hD : EVs A w D d) (hS : SlX 6 w vd (D.map ecl)) (he : OV A w ve oe) (hz : d.length ≤ 900000) :
    Calls Try.prog 121 #[vd, ent ke ve] w fun e w' => ∃ v', e = .returned v' ∧ ∃ E, OwX 6 90 w' w.heap.size v' (E.map ecl) ∧ EVs (fun g => A g ∨ (w.heap.size ≤ g ∧ g < w'.heap.size)) w' E (wi (ke, oe) d) ∧ Below w.heap.size w w' := by
  have hDl : D.length = d.length := All2.len hD
  have hcp0 := fun W (hW : Below w.heap.size w W) => rcopyO_any (he.up hW)
  have hk0 := hid (fun (a b c : Value) (k n : Int) (h : ve = [.int .i64 k, .int .i64 n, a, b, c]) => (OV.kind (h ▸ he)))
  have HCP := hid hcp0
  have hv5 := he.v5
  obtain ⟨z1, z2, z3, z4, z5, z6, z7, z8, z9, z10, z11, rfl⟩ := hv5
  have hkd : oe.kind = z1 := hk0.out _ _ _ _ _ rfl
  obtain ⟨aod, capd, rfl, s1, s2, s3, s4, s5⟩ := id hS
  rw [List.length_map, hDl] at hS
  rw [List.length_map, hDl]
  have HE := hid he
  have HKD := hid hkd
  have HSD := hid hS
  have HD := hid hD
  have HST := hid (wp_start (e := (ke, oe)) (d := d))
  have hX0 := C5.new w _ rfl [.string (st ke), .int .i64 z1, .int .i64 z2, .slice z3 z6 z7, .slice z4 z8 z9, .slice z5 z10 z11] 90
  have hsw : (w.alloc (.cells #[.string (st ke), .int .i64 z1, .int .i64 z2, .slice z3 z6 z7, .slice z4 z8 z9, .slice z5 z10 z11] 90)).heap.size = w.heap.size + 1 := by simp
  clear hS hD he hkd hcp0 hk0 s5 s4 s3
  go_enter Try.func121, Try.ntmps121
  go_wp2
  go_loopw [5, 6, 7] (fun s5 s6 s7 wr => ∃ i : Nat, ∃ E o pt, s7 = .int .i64 i ∧ i ≤ d.length ∧ s6 = .bool pt ∧ Below (w.heap.size + 1) (w.alloc (.cells #[.string (st ke), .int .i64 z1, .int .i64 z2, .slice z3 z6 z7, .slice z4 z8 z9, .slice z5 z10 z11] 90)) wr ∧ RowW A (w.heap.size + 1) wr s5 E o ∧ o ++ wp (ke, oe) pt (d.drop i) = wi (ke, oe) d ∧ o.length ≤ i + 1 ∧ (pt = false → o.length ≤ i ∧ ¬ oe.kind = 0)) (fun _ _ s7 _ => d.length - (intOf s7).toNat)
  case atStart => exact ⟨0, [], [], z1 == 0, rfl, Nat.zero_le _, rfl, Below.refl _ _, RowW.nil _ _ _, by rw [List.drop_zero, List.nil_append, ← HKD.out]; exact HST.out, by simp, fun q => ⟨by simp, fun q2 => by rw [HKD.out] at q2; simp [q2] at q⟩⟩
  case round =>
    obtain ⟨i, E, o, pt, rfl, hi, rfl, hb, hR, hwp, hol, hpt⟩ := hrel
    have hEl := hR.len
    obtain ⟨aoO, capO, hvO⟩ := hR.row.lin
    rw [List.length_map, hEl] at hvO
    subst hvO
    have hXr := hX0.up (hb.mono (by rw [hsw]; exact Nat.le_refl _))
    have hWr : Below w.heap.size w wr := (alb w _).trans (hb.mono (by omega))
    have hzr : w.heap.size + 1 ≤ wr.heap.size := by have := hb.size; omega
    have HR := hid hR
    have HWP := hid hwp
    clear hR hwp
    obtain ⟨xc, xf, xs⟩ := id hXr
    by_cases hlt : i < d.length
    · have hiz : (i : Int) < (d.length : Int) := by omega
      obtain ⟨g, off, rfl, hcell⟩ := HSD.out.some (by omega)
      have l20 := hcell i (by rw [List.length_map]; omega)
      rw [List.getElem_map] at l20
      have l2 := fun j u hu => cell_up' hWr (l20 j u hu)
      obtain ⟨hkk, hov⟩ := HD.out.at i (by omega) hlt
      have hv5 := hov.v5
      have HDR := hid (show d.drop i = d[i] :: d.drop (i + 1) from (List.getElem_cons_drop hlt).symm)
      clear hcell
      generalize d[i] = e2 at hkk hov HDR
      generalize D[i]'(by omega) = di at l2 l20 hkk hv5 hov
      obtain ⟨kk, vv⟩ := di
      obtain ⟨kx, ox⟩ := e2
      obtain rfl : kk = kx := hkk
      have HOV := hid hov
      obtain ⟨p1, p2, p3, p4, p5, p6, p7, p8, p9, p10, p11, rfl⟩ := hv5
      have q0 := l2 0 _ rfl
      have q1 := l2 1 _ rfl
      have q2 := l2 2 _ rfl
      have q3 := l2 3 _ rfl
      have q4 := l2 4 _ rfl
      have q5 := l2 5 _ rfl
      rw [Nat.add_zero] at q0
      have HGL := hid (show g < w.heap.size from World.block_lt_of_cell? _ _ (l20 0 _ rfl))
      clear l20
      have HOX := hid (hov.up hWr)
      clear l2 hov
      have hsk := st_toList kk
      have hse := st_toList ke
      have honeX : ∀ c ∈ [ecl (kk, [.int .i64 p1, .int .i64 p2, .slice p3 p6 p7, .slice p4 p8 p9, .slice p5 p10 p11])], ∀ u ∈ c, u.oneCell' = true := fun c hc => by
        rw [List.mem_singleton] at hc; subst hc; exact ecl_one (e := (kk, _)) ⟨_, _, _, _, _, _, _, _, _, _, _, rfl⟩
      go_upto_region 6 with fail
      go_cut [29] from 12 to 53 (fun s29 wx => s29 = .bool (!pt && kle ke kk) ∧ Below wr.heap.size wr wx)
      case first =>
        cases pt with
        | true =>
          go_quiet (fail)
          go_wp2_with fail
          go_meet
          exact ⟨rfl, below_drewN (Below.refl _ _) _⟩
        | false =>
          have hlk := less_kle ke kk
          go_quiet (fail)
          go_wp2_with fail
          go_meet
          exact ⟨by simp, below_drewN (Below.refl _ _) _⟩
      case rest =>
        obtain ⟨rfl, hb6⟩ := hcut
        obtain ⟨w6, rfl⟩ : ∃ x : World, x = wc := ⟨_, rfl⟩
        have hW6 : Below w.heap.size w w6 := hWr.trans (hb6.mono (by omega))
        have hX6 := hXr.up hb6
        have hs6 : w.heap.size + 1 ≤ w6.heap.size := by have := hb6.size; omega
        have HR6 := hid (HR.out.up hb6)
        have honeY : ∀ vs : List Value, V5 vs → ∀ c ∈ [ecl (ke, vs)], ∀ u ∈ c, u.oneCell' = true := fun vs h c hc => by
          rw [List.mem_singleton] at hc; subst hc; exact ecl_one (e := (ke, vs)) h
        clear xc xf xs
        obtain ⟨xc, xf, xs⟩ := id hX6
        go_upto_if 29 with fail
        go_cut [5, 6] from 12 to 53 (fun s5 s6 wx => ∃ E2 o2 pt2 ao cap, s5 = .slice ao o2.length cap ∧ s6 = .bool pt2 ∧ Below (w.heap.size + 1) w6 wx ∧ RowW A (w.heap.size + 1) wx (.slice ao o2.length cap) E2 o2 ∧ o2 ++ wp (ke, oe) pt2 ((kk, ox) :: d.drop (i + 1)) = wi (ke, oe) d ∧ (pt2 = false → kle ke kk = false ∧ o2.length ≤ i ∧ ¬ oe.kind = 0) ∧ o2.length ≤ i + 1)
        case first =>
          cases hpk : (!pt && kle ke kk) with
          | false =>
            go_wp2_with fail
            go_meet
            exact ⟨E, o, pt, _, _, rfl, rfl, Below.refl _ _, HR6.out, by rw [← HDR.out]; exact HWP.out, fun q => ⟨by rw [q] at hpk; simpa using hpk, (hpt q).1, (hpt q).2⟩, hol⟩
          | true =>
            obtain ⟨rfl, hkl⟩ : pt = false ∧ kle ke kk = true := by simpa using hpk
            have hol2 := hid hpt
            clear hpk hpt
            go_upto_region 7 with fail
            go_region_held3 (fun w' => w'.cell? ⟨w.heap.size, 0, none⟩ = some (.string (st ke)) ∧ w'.cell? ⟨w.heap.size, 1, none⟩ = some (.int .i64 z1) ∧ w'.cell? ⟨w.heap.size, 2, none⟩ = some (.int .i64 z2) ∧ w'.cell? ⟨w.heap.size, 3, none⟩ = some (.slice z3 z6 z7) ∧ w'.cell? ⟨w.heap.size, 4, none⟩ = some (.slice z4 z8 z9) ∧ w'.cell? ⟨w.heap.size, 5, none⟩ = some (.slice z5 z10 z11)) (first | go_keep | exact C5.s6 hX6 | exact C5.s6 hX | exact C5.s6 (hX.up (alb _ _)) | skip) (first | (go_at_call 63; refine (HCP.out _ (below_drewN hW6 _)).mono ?_; rintro e w5 ⟨vs', rfl, hov, hb5⟩; have hb : Below w6.heap.size w6 w5 := (below_drewN (Below.refl _ _) _).trans hb5; have hX := hX6.up hb; have hV5 := hov.v5; have hone := honeY _ hV5; have hov2 := hid (hov.keep (B := fun g => w6.heap.size ≤ g ∧ g < w5.heap.size) (fun g hg => ⟨by have := hg.1; simp at this; omega, hg.2⟩) (fun _ _ _ => rfl)); clear hov; obtain ⟨y1, y2, y3, y4, y5, y6, y7, y8, y9, y10, y11, rfl⟩ := hV5; have hrow : OwX 6 90 w5 (w.heap.size + 1) (.slice aoO o.length capO) (E.map ecl) := (HR6.out.up hb).row; have hbs := hb.size) | (refine wp_append_slx _ _ 59 rfl (w.heap.size + 1) 90 zEnt 6 104 entTy' entIn rfl (by decide) (.slice aoO o.length capO) (E.map ecl) rfl (hrow.up (alb _ _)) _ [ecl (ke, [.int .i64 y1, .int .i64 y2, .slice y3 y6 y7, .slice y4 y8 y9, .slice y5 y10 y11])] rfl (SlX.lit1 w5 _ rfl (ecl (ke, [.int .i64 y1, .int .i64 y2, .slice y3 y6 y7, .slice y4 y8 y9, .slice y5 y10 y11])) _ 6 rfl) hone (by simp; omega) (by decide) (by simp; omega) ?_; intro v8 w8 r1 r2 r3; obtain ⟨g8, cap8, rfl⟩ := r1.cons (by simp); have e8 : (E.map ecl ++ ([ecl (ke, [.int .i64 y1, .int .i64 y2, .slice y3 y6 y7, .slice y4 y8 y9, .slice y5 y10 y11])] : List (List Value))).length = o.length + 1 := (by rw [List.length_append, List.length_map, hEl]; rfl); rw [e8] at r1 r3; have hX := (hX.up (alb _ _)).grown r2 (fun q => by have := (hrow.lt _ q).1; omega)))
            all_goals
              go_wp2_with fail
              go_meet
              refine ⟨E ++ [(ke, [.int .i64 y1, .int .i64 y2, .slice y3 y6 y7, .slice y4 y8 y9, .slice y5 y10 y11])], o ++ [(ke, oe)], true, some ⟨g8, 0, none⟩, cap8, by simp, rfl, ?_, ?_, ?_, fun q => (by cases q), by simp; exact (hol2.out (by trivial)).1⟩
              · exact (hb.mono hs6).trans (((alb w5 _).mono (by omega)).trans (Held.below (B := w.heap.size + 1) (p := w.heap.size + 1) (q := w.heap.size + 1) (Held.grown r2 (by simp; omega) (fun g q => (hrow.lt g q).1)) (Nat.le_refl _) (Nat.le_refl _) (Nat.le_refl _)))
              · have hL : (o ++ [(ke, oe)]).length = o.length + 1 := by simp
                rw [hL]
                refine ((HR6.out.up hb).up (alb w5 _)).push (fun g hg => by have := hA g hg; omega) ⟨rfl, hov2.out.keep (fun g hg => .inr ⟨by have := hg.1; omega, by simp; have := hg.2; omega, fun q => by have := (HR6.out.row.lt g q).2; have := hg.1; omega⟩) (fun g _ hlt => (alb w5 _).block g hlt)⟩ r1 r2 r3
              · rw [← HWP.out, HDR.out, wp_here (hol2.out (by trivial)).2 hkl, List.append_assoc]; rfl
        case rest =>
          obtain ⟨E2, o2, pt2, ao2, cap2, rfl, rfl, hb7, hR7, hwp7, hpt7, hol7⟩ := hcut
          obtain ⟨w7, rfl⟩ : ∃ x : World, x = wc := ⟨_, rfl⟩
          have hX7 := hX0.up ((hb.trans (hb6.mono hzr)).trans hb7 |>.mono (by rw [hsw]; exact Nat.le_refl _))
          have HR7 := hid hR7
          have HWP7 := hid hwp7
          have hW7 : Below (w.heap.size + 1) wr w7 := (hb6.mono hzr).trans hb7
          have hs7 := hb7.size
          have hEl7 := hR7.len
          clear hR7 hwp7 xc xf xs
          obtain ⟨xc, xf, xs⟩ := id hX7
          have hgl : g < w.heap.size := HGL.out
          have cU : ∀ o v, wr.cell? ⟨g, o, none⟩ = some v → w7.cell? ⟨g, o, none⟩ = some v := fun o v h => (World.cell?_of_block (w := wr) (hW7.block g (by omega))).trans h
          have q0 := cU _ _ q0
          have q1 := cU _ _ q1
          have q2 := cU _ _ q2
          have q3 := cU _ _ q3
          have q4 := cU _ _ q4
          have q5 := cU _ _ q5
          clear cU
          go_upto_region 9 with fail
          obtain ⟨bq, hbq⟩ : ∃ bq, bq = !(kk == ke) := ⟨_, rfl⟩
          have HBQ := hid hbq
          clear hbq
          go_cut [46] from 12 to 53 (fun s46 wx => s46 = .bool bq ∧ Below w7.heap.size w7 wx)
          case first =>
            go_quiet (fail)
            go_wp2_with fail
            go_meet
            exact ⟨by rw [HBQ.out], below_drewN (Below.refl _ _) _⟩
          case rest =>
            obtain ⟨rfl, hb8⟩ := hcut
            obtain ⟨w8, rfl⟩ : ∃ x : World, x = wc := ⟨_, rfl⟩
            have hs8 := hb8.size
            have q0 := cell_up' hb8 q0
            have q1 := cell_up' hb8 q1
            have q2 := cell_up' hb8 q2
            have q3 := cell_up' hb8 q3
            have q4 := cell_up' hb8 q4
            have q5 := cell_up' hb8 q5
            have HR8 := hid (HR7.out.up hb8)
            have hbF : Below (w.heap.size + 1) (w.alloc (.cells #[.string (st ke), .int .i64 z1, .int .i64 z2, .slice z3 z6 z7, .slice z4 z8 z9, .slice z5 z10 z11] 90)) w8 := ((hb.trans (hb6.mono hzr)).trans hb7).trans (hb8.mono (by omega))
            cases bq with
            | false =>
              have hkq : kk = ke := by have := HBQ.out; simpa using this.symm
              obtain rfl : pt2 = true := by
                cases pt2 with
                | true => rfl
                | false => have := (hpt7 rfl).1; rw [hkq, kle_refl] at this; cases this
              have HKQ := hid hkq
              clear hkq hpt7
              go_wp2
              go_roundw
              case rel => exact ⟨i + 1, E2, o2, true, by go_num, by omega, rfl, hbF, HR8.out, by rw [← HWP7.out, wp_skip HKQ.out], by omega, fun q => (by cases q)⟩
              case measure => simp [intOf]; omega
            | true =>
              have hkq : ¬ kk = ke := by have := HBQ.out; simpa using this.symm
              have HKQ := hid hkq
              have HPT := hid hpt7
              clear hkq hpt7
              go_wp2_with (at_builtin; refine wpList_append_slx rfl _ _ 59 rfl (w.heap.size + 1) 90 zEnt 6 104 entTy' entIn rfl (by decide) (.slice ao2 o2.length cap2) (E2.map ecl) rfl (HR8.out.row.up (alb _ _)) _ [ecl (kk, [.int .i64 p1, .int .i64 p2, .slice p3 p6 p7, .slice p4 p8 p9, .slice p5 p10 p11])] rfl (SlX.lit1 w8 w8.heap.size rfl (ecl (kk, [.int .i64 p1, .int .i64 p2, .slice p3 p6 p7, .slice p4 p8 p9, .slice p5 p10 p11])) _ 6 rfl) honeX (by simp; omega) (by decide) (by simp; omega) ?_; intro v9 w9 r1 r2 r3; obtain ⟨g9, cap9, rfl⟩ := r1.cons (by simp); have e9 : (E2.map ecl ++ ([ecl (kk, [.int .i64 p1, .int .i64 p2, .slice p3 p6 p7, .slice p4 p8 p9, .slice p5 p10 p11])] : List (List Value))).length = o2.length + 1 := (by rw [List.length_append, List.length_map, hEl7]; rfl); rw [e9] at r1 r3)
              go_roundw
              case rel =>
                have hrow := HR8.out.row
                have hL : (o2 ++ [(kk, ox)]).length = o2.length + 1 := by simp
                refine ⟨i + 1, E2 ++ [(kk, [.int .i64 p1, .int .i64 p2, .slice p3 p6 p7, .slice p4 p8 p9, .slice p5 p10 p11])], o2 ++ [(kk, ox)], pt2, by go_num, by omega, rfl, ?_, ?_, ?_, by rw [hL]; omega, fun q => ⟨by rw [hL]; have := (HPT.out q).2.1; omega, (HPT.out q).2.2⟩⟩
                · exact hbF.trans (((alb w8 _).mono (by omega)).trans (Held.below (B := w.heap.size + 1) (p := w.heap.size + 1) (q := w.heap.size + 1) (Held.grown r2 (by simp; omega) (fun g q => (hrow.lt g q).1)) (Nat.le_refl _) (Nat.le_refl _) (Nat.le_refl _)))
                · refine (HR8.out.up (alb w8 _)).push (fun g hg => by have := hA g hg; omega) ⟨rfl, HOV.out.keep (fun g hg => .inl hg) (fun g hg hlt => ?_)⟩ r1 r2 r3
                  exact ((alb w8 _).block g (by omega)).trans ((hb8.block g (by omega)).trans ((hW7.block g (by omega)).trans (hWr.block g hlt)))
                · rw [← HWP7.out]
                  cases pt2 with
                  | true => rw [wp_take HKQ.out, List.append_assoc]; rfl
                  | false => rw [(wp_past (x := (kk, ox)) (d := d.drop (i + 1)) (HPT.out (by trivial)).2.2 (HPT.out (by trivial)).1).1, List.append_assoc]; rfl
              case measure => simp [intOf]; omega
    · obtain rfl : i = d.length := by omega
      have hiz : ¬ (d.length : Int) < (d.length : Int) := by omega
      have HOL := hid hol
      have HPT := hid hpt
      clear hol hpt
      have hwp9 := HWP.out
      rw [List.drop_length] at hwp9
      have HW9 := hid hwp9
      clear hwp9
      cases pt with
      | true =>
        go_wp2
        go_ret
        exact ⟨_, rfl, E, (HR.out.row).base (by omega), by rw [← HW9.out, wp_done, List.append_nil]; exact HR.out.rel.keep (fun g hg => hg.imp id fun q => ⟨by have := q.1; omega, q.2.1⟩) (fun _ _ _ => rfl), hWr⟩
      | false =>
        obtain ⟨w6, rfl⟩ : ∃ x : World, x = wr := ⟨_, rfl⟩
        have hX6 := hXr
        have hW6 := hWr
        have HR6 := HR
        have honeY : ∀ vs : List Value, V5 vs → ∀ c ∈ [ecl (ke, vs)], ∀ u ∈ c, u.oneCell' = true := fun vs h c hc => by
          rw [List.mem_singleton] at hc; subst hc; exact ecl_one (e := (ke, vs)) h
        have hbo := (HPT.out (by trivial)).1
        go_upto_region 12 with fail
        go_region_held3 (fun w' => w'.cell? ⟨w.heap.size, 0, none⟩ = some (.string (st ke)) ∧ w'.cell? ⟨w.heap.size, 1, none⟩ = some (.int .i64 z1) ∧ w'.cell? ⟨w.heap.size, 2, none⟩ = some (.int .i64 z2) ∧ w'.cell? ⟨w.heap.size, 3, none⟩ = some (.slice z3 z6 z7) ∧ w'.cell? ⟨w.heap.size, 4, none⟩ = some (.slice z4 z8 z9) ∧ w'.cell? ⟨w.heap.size, 5, none⟩ = some (.slice z5 z10 z11)) (first | go_keep | exact C5.s6 hX6 | exact C5.s6 hX | exact C5.s6 (hX.up (alb _ _)) | skip) (first | (go_at_call 63; refine (HCP.out _ (below_drewN hW6 _)).mono ?_; rintro e w5 ⟨vs', rfl, hov, hb5⟩; have hb : Below w6.heap.size w6 w5 := (below_drewN (Below.refl _ _) _).trans hb5; have hX := hX6.up hb; have hV5 := hov.v5; have hone := honeY _ hV5; have hov2 := hid (hov.keep (B := fun g => w6.heap.size ≤ g ∧ g < w5.heap.size) (fun g hg => ⟨by have := hg.1; simp at this; omega, hg.2⟩) (fun _ _ _ => rfl)); clear hov; obtain ⟨y1, y2, y3, y4, y5, y6, y7, y8, y9, y10, y11, rfl⟩ := hV5; have hrow : OwX 6 90 w5 (w.heap.size + 1) (.slice aoO o.length capO) (E.map ecl) := (HR6.out.up hb).row; have hbs := hb.size) | (refine wp_append_slx _ _ 59 rfl (w.heap.size + 1) 90 zEnt 6 104 entTy' entIn rfl (by decide) (.slice aoO o.length capO) (E.map ecl) rfl (hrow.up (alb _ _)) _ [ecl (ke, [.int .i64 y1, .int .i64 y2, .slice y3 y6 y7, .slice y4 y8 y9, .slice y5 y10 y11])] rfl (SlX.lit1 w5 _ rfl (ecl (ke, [.int .i64 y1, .int .i64 y2, .slice y3 y6 y7, .slice y4 y8 y9, .slice y5 y10 y11])) _ 6 rfl) hone (by simp; omega) (by decide) (by simp; omega) ?_; intro v8 w8 r1 r2 r3; obtain ⟨g8, cap8, rfl⟩ := r1.cons (by simp); have e8 : (E.map ecl ++ ([ecl (ke, [.int .i64 y1, .int .i64 y2, .slice y3 y6 y7, .slice y4 y8 y9, .slice y5 y10 y11])] : List (List Value))).length = o.length + 1 := (by rw [List.length_append, List.length_map, hEl]; rfl); rw [e8] at r1 r3; have hX := (hX.up (alb _ _)).grown r2 (fun q => by have := (hrow.lt _ q).1; omega)))
        all_goals
          go_wp2_with fail
          go_ret
          have hR9 := ((HR6.out.up hb).up (alb w5 _)).push (fun g hg => by have := hA g hg; omega) (a := (ke, [.int .i64 y1, .int .i64 y2, .slice y3 y6 y7, .slice y4 y8 y9, .slice y5 y10 y11])) (b := (ke, oe)) ⟨rfl, hov2.out.keep (fun g hg => .inr ⟨by have := hg.1; omega, by simp; have := hg.2; omega, fun q => by have := (HR6.out.row.lt g q).2; have := hg.1; omega⟩) (fun g _ hlt => (alb w5 _).block g hlt)⟩ r1 r2 r3
          refine ⟨_, rfl, E ++ [(ke, [.int .i64 y1, .int .i64 y2, .slice y3 y6 y7, .slice y4 y8 y9, .slice y5 y10 y11])], ?_, ?_, ?_⟩
          · rw [List.map_append]; exact (r1.base (by omega))
          · rw [← HW9.out, wp_last (HPT.out (by trivial)).2]
            exact hR9.rel.keep (fun g hg => hg.imp id fun q => ⟨by have := q.1; omega, q.2.1⟩) (fun _ _ _ => rfl)
          · exact hW6.trans ((hb.mono hW6.size).trans (((alb w5 _).mono (by omega)).trans (Held.below (B := w.heap.size) (p := w.heap.size + 1) (q := w.heap.size + 1) (Held.grown r2 (by simp; omega) (fun g q => by have := (hrow.lt g q).1; omega)) (Nat.le_refl _) (by omega) (by omega))))
end Go.Proofs.Ytlmgklebikcbjaa
