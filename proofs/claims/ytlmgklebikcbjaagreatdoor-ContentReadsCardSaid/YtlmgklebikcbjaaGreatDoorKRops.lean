/-
  The document's Ops: all operators, by image's contract. Condition: the bytes are no more than 3600000.
-/
import Derived.Test.YtlmgklebikcbjaaGreatDoorKRop
/-
  The document's Ops: all operators, by image's contract. Condition: the bytes are no more than 3600000.
-/
namespace Go.Proofs.YtlmgklebikcbjaaGreatDoor
open Go.RowKit
set_option linter.unusedVariables false

theorem AO.ofT {T : TypeId} {B : Nat} {w : World} {v : Value} {C : List (List Value)} {l : List CO} (h : RowG (fun c => c) OpV 4 T B w v C l) {A : Nat → Prop} (hA : ∀ g, B ≤ g → g < w.heap.size → A g) : AO A w v l := by
  have h1 := h.row.row hA
  rw [List.map_id'] at h1
  rw [All2.len h.rel] at h1
  exact ⟨C, h1, h.wide keepOP hA⟩
/-- the parser that NewParser made, without references -/
theorem Pd.newT {w : World} {v : Value} {b : List UInt8} (h : Sl w v b) (hl : b.length ≤ 3600000) (n : Int) (T : TypeId) : Pd true (dep n) (w.alloc (.cells #[v, .int .i64 0, .int .i64 (min (max n 0) 28), .bool true] T)) (w.alloc (.cells #[v, .int .i64 0, .int .i64 (min (max n 0) 28), .bool true] T)) w.heap.size b 0 b := by
  obtain ⟨ao, cap, rfl, c1, c2, c3, c4⟩ := id h
  refine ⟨?_, ?_, ?_⟩
  · have hc : CurAt (w.alloc (.cells #[.slice ao b.length cap, .int .i64 0, .int .i64 (min (max n 0) 28), .bool true] T)) w.heap.size ao cap b 0 := by
      refine ⟨by rw [World.cell?_alloc_at _ _ _ _ rfl]; rfl, by rw [World.cell?_alloc_at _ _ _ _ rfl]; rfl, by simp, c4.up (alb _ _), c1, c2, c3, Nat.zero_le _, by omega, fun h0 a ha => ?_⟩
      subst ha
      rcases c4 with c4 | ⟨g, off, e, c5⟩
      · first | omega | (rw [c4] at h0; exact absurd h0 (by simp))
      · injection e with e
        subst e
        have := World.block_lt_of_cell? _ _ (c5 0 h0)
        exact Nat.ne_of_lt this
    have h2 := Cx.start hc
    rw [List.drop_zero] at h2
    exact h2
  · rw [World.cell?_alloc_at _ _ _ _ rfl, dep_cast]; rfl
  · rw [World.cell?_alloc_at _ _ _ _ rfl]; rfl

set_option maxHeartbeats 3200000 in
set_option maxRecDepth 100000 in
theorem rops_of (v : Value) (b : List UInt8) (w : World) (h : Sl w v b) (hsb : b.length ≤ 3600000) (hI : ∀ rp pp, ImgC rp pp b) :
    Calls Tryz.prog 14 #[v] w fun e w' => ∃ res, AL b.length [] b res ∧ AlQ w res e w' := by
  obtain ⟨ao, cap, rfl, -, -, -, -⟩ := id h
  go_enter Tryz.func14, Tryz.ntmps14
  go_upto_region 3 with (go_at_call 40; refine (rnew_any _ b 28 _ h hsb).mono ?_; rintro e w1 ⟨rfl, rfl⟩)
  have hPd := Pd.newT h hsb 28 98
  have hb0 := alb w (.cells #[.slice ao b.length cap, .int .i64 0, .int .i64 (min (max 28 0) 28), .bool true] 98)
  have hz0 : (w.alloc (.cells #[.slice ao b.length cap, .int .i64 0, .int .i64 (min (max 28 0) 28), .bool true] 98)).heap.size = w.heap.size + 1 := by simp
  generalize w.alloc (.cells #[.slice ao b.length cap, .int .i64 0, .int .i64 (min (max 28 0) 28), .bool true] 98) = w1 at *
  have hab := alb w1 (.cells #[.pointer (some ⟨w.heap.size, 0, none⟩)] 94)
  have hR : Rr (w1.alloc (.cells #[.pointer (some ⟨w.heap.size, 0, none⟩)] 94)) (w1.alloc (.cells #[.pointer (some ⟨w.heap.size, 0, none⟩)] 94)) (w.heap.size + 1) w.heap.size b 0 b :=
    ⟨(hPd.below hab).fresh, by rw [World.cell?_alloc_at _ _ _ _ hz0.symm]; rfl, by omega⟩
  have hb2 := hb0.trans (hab.mono hb0.size)
  have hlc : w.heap.size ≤ w.heap.size := Nat.le_refl _
  clear hPd hb0 hab
  generalize w1.alloc (.cells #[.pointer (some ⟨w.heap.size, 0, none⟩)] 94) = w2 at *
  clear hz0
  obtain ⟨rp, hrp⟩ : ∃ rp, rp = w.heap.size + 1 := ⟨_, rfl⟩
  rw [← hrp] at hR ⊢
  obtain ⟨pp, hpp⟩ : ∃ pp, pp = w.heap.size := ⟨_, rfl⟩
  have hR : Rr w2 w2 rp pp b 0 b := by rw [hpp]; exact hR
  have hlc : w.heap.size ≤ pp := by omega
  have hlo := hR.lt
  clear hrp hpp
  go_wp2
  have hG : RowG (fun c => c) OpV 4 49 w2.heap.size w2 (.slice none 0 0) [] [] := RowG.nil _ _ _ _ _ _

  go_loopw [5, 6, 7, 8] (fun s5 _ _ _ wr => ∃ l : List CO, ∃ C : List (List Value), ∃ p : Nat, ∃ t : List UInt8, Rr w2 wr rp pp b p t ∧ RowG (fun c => c) OpV 4 49 w2.heap.size wr s5 C l ∧ l.length + t.length ≤ b.length ∧ ∀ res, AL b.length l t res → AL b.length [] b res) (fun _ _ _ _ wr => remOf wr pp)
  case atStart => exact ⟨[], [], _, _, hR, hG, by simp, fun _ h => h⟩
  case round =>
    clear hR hG
    obtain ⟨l, C, p, t, hR, hG, hal, hback⟩ := hrel
    have hrm := hid hR.pd.rem
    have hBK := hid hback
    have hClen : C.length = l.length := All2.len hG.rel
    clear hback
    have hRl := hG.row.lin
    rw [List.length_map, hClen] at hRl
    obtain ⟨aol, capl, hvl⟩ := hRl
    subst hvl
    have hop := hid (rop_of (hI rp pp) hR.fresh hsb)
    have hbel := hb2.trans (hR.pd.bel hb2.size hlc)
    have hbz := hbel.size
    have hrw := hR.pd.cx.size
    by_cases hm : l.length < 100000
    · have tm : ∀ t, binOp .geq t (.int .i64 (l.length : Int)) (.int .i64 100000) = pure (.bool false) := fun t => (geq_any _ _ t).trans (by rw [decide_eq_false (by omega)])
      have hone : ∀ (nm : ByteArray) (y1 y2 : Option Addr) (y3 y4 y5 y6 : Nat) (z : Int), ∀ c ∈ ([[.string nm, .slice y1 y3 y4, .slice y2 y5 y6, .int .i64 z]] : List (List Value)), ∀ u ∈ c, u.oneCell' = true := fun nm y1 y2 y3 y4 y5 y6 z c hc => by
        rw [List.mem_singleton] at hc; subst hc
        intro u hu; simp at hu; rcases hu with rfl | rfl | rfl | rfl <;> rfl
      go_wp2_with (first | (at_builtin; refine wpList_append_slx rfl _ _ 38 rfl w2.heap.size 49 zRop 4 72 ropTy' ropIn rfl (by decide) (.slice aol l.length capl) C rfl hrow.out _ [[.string (st o9.name), .slice aov o9.args.length capv, .slice aod o9.data.length capd, .int .i64 o9.at_]] rfl (SlX.lit1 (w3.alloc (.cells #[.string (st o9.name), .slice aov o9.args.length capv, .slice aod o9.data.length capd, .int .i64 o9.at_] 49)) (w3.heap.size + 1) (by simp) [.string (st o9.name), .slice aov o9.args.length capv, .slice aod o9.data.length capd, .int .i64 o9.at_] _ 4 rfl) (hone _ _ _ _ _ _ _ _) (by simp; omega) (by decide) (by simp; omega) ?_; intro v8 w8 q1 q2 q3; obtain ⟨g8, cap8, rfl⟩ := q1.cons (by simp); have e8 : (C ++ ([[.string (st o9.name), .slice aov o9.args.length capv, .slice aod o9.data.length capd, .int .i64 o9.at_]] : List (List Value))).length = l.length + 1 := (by rw [List.length_append, hClen]; rfl); rw [e8] at q1 q3) | (go_at_call 41; refine hop.out.mono ?_; rintro e w3 ⟨res, hpv, hq⟩; have hrow4 := hG.row.lt; rcases res with x9 | _ | ⟨o9, t9⟩; (obtain ⟨rfl, j9, t9, hR3⟩ := hq; have bx := hpv.ne _ rfl; have hR := hR.joinR hR3); rotate_left; (obtain ⟨rfl, j9, t9, hR3⟩ := hq; have hR := hR.joinR hR3; have hG := hG.held keepOP hR3.pd.cx.held (by omega) (by omega)); rotate_left; (obtain ⟨vs, rfl, hov, j9, hR3⟩ := hq; have hov0 := hid hov; obtain ⟨va, vd, rfl, hva, hvd⟩ := hov; obtain ⟨C5', ⟨aov, capv, rfl, -⟩, -⟩ := hva; obtain ⟨aod, capd, rfl, -, -, -, -⟩ := hvd.1; have hR := hR.joinR hR3; have hG := hG.held keepOP hR3.pd.cx.held (by omega) (by omega); have hz3 := hR3.pd.cx.size; have hBW := below_then (alb w3 (.cells #[.string (st o9.name), .slice aov o9.args.length capv, .slice aod o9.data.length capd, .int .i64 o9.at_] 49)) (alb _ (.cells #[.string (st o9.name), .slice aov o9.args.length capv, .slice aod o9.data.length capd, .int .i64 o9.at_] 49)); have hrow := hid (show OwX 4 49 ((w3.alloc (.cells #[.string (st o9.name), .slice aov o9.args.length capv, .slice aod o9.data.length capd, .int .i64 o9.at_] 49)).alloc (.cells #[.string (st o9.name), .slice aov o9.args.length capv, .slice aod o9.data.length capd, .int .i64 o9.at_] 49)) w2.heap.size (.slice aol l.length capl) C from (by simpa using (hG.up keepOP hBW).row))); rotate_left))
      · have hbe := hb2.trans (hR.pd.bel hb2.size hlc)
        exact bodyPost_ret (v := .tuple #[.slice none 0 0, .int .i64 x9]) (by simp [results, Tryz.results14, go_sem]) rfl ⟨_, hBK.out _ (AL.bad hpv), rfl, hbe.trans ((alb w3 (.cells #[.string ⟨#[]⟩, .slice none 0 0, .slice none 0 0, .int .i64 0] 49)).mono hbe.size)⟩
      · have hbe := hb2.trans (hR.pd.bel hb2.size hlc)
        have hG8 := hG.up keepOP (alb w3 (.cells #[.string ⟨#[]⟩, .slice none 0 0, .slice none 0 0, .int .i64 0] 49))
        exact bodyPost_ret (v := .tuple #[.slice aol l.length capl, .int .i64 0]) (by simp [results, Tryz.results14, go_sem]) rfl ⟨_, hBK.out _ (AL.fin hpv), _, rfl, AO.ofT hG8 (fun g h1 h2 => ⟨Nat.le_trans hb2.size h1, h2⟩), hbe.trans ((alb w3 (.cells #[.string ⟨#[]⟩, .slice none 0 0, .slice none 0 0, .int .i64 0] 49)).mono hbe.size)⟩
      · have hf := hpv.fit _ _ rfl
        have hR8 := (hR.below hBW).grow q2 (fun z hz => (hrow4 _ hz).1)
        have hG8 := (hG.up keepOP hBW).push keepOP (a := [.string (st o9.name), .slice aov o9.args.length capv, .slice aod o9.data.length capd, .int .i64 o9.at_]) (b := o9) (hov0.out.keep (fun g hg => ⟨by have := hg.1; omega, Nat.lt_of_lt_of_le hg.2 hBW.size, fun z => by have := (hrow4 _ z).2; have := hg.1; omega⟩) (fun g _ hlt => hBW.block g hlt)) (by simpa using q1) q2 q3
        go_roundw
        case rel => exact ⟨l ++ [o9], C ++ [[.string (st o9.name), .slice aov o9.args.length capv, .slice aod o9.data.length capd, .int .i64 o9.at_]], _, _, hR8, hG8, by rw [List.length_append, List.length_singleton]; omega, fun res hr => hBK.out _ (AL.step hpv hm hr)⟩
        case measure => rw [hR8.pd.rem, hrm.out]; omega
    · have tm : ∀ t, binOp .geq t (.int .i64 (l.length : Int)) (.int .i64 100000) = pure (.bool true) := fun t => (geq_any _ _ t).trans (by rw [decide_eq_true (by omega)])
      go_wp2_with (first | (go_at_call 41; refine hop.out.mono ?_; rintro e w3 ⟨res, hpv, hq⟩; have hrow4 := hG.row.lt; rcases res with x9 | _ | ⟨o9, t9⟩; (obtain ⟨rfl, j9, t9, hR3⟩ := hq; have bx := hpv.ne _ rfl; have hR := hR.joinR hR3); rotate_left; (obtain ⟨rfl, j9, t9, hR3⟩ := hq; have hR := hR.joinR hR3; have hG := hG.held keepOP hR3.pd.cx.held (by omega) (by omega)); rotate_left; (obtain ⟨vs, rfl, hov, j9, hR3⟩ := hq; have hov0 := hid hov; obtain ⟨va, vd, rfl, hva, hvd⟩ := hov; obtain ⟨C5', ⟨aov, capv, rfl, -⟩, -⟩ := hva; obtain ⟨aod, capd, rfl, -, -, -, -⟩ := hvd.1; have hR := hR.joinR hR3; have hG := hG.held keepOP hR3.pd.cx.held (by omega) (by omega); have hz3 := hR3.pd.cx.size; have hBW := below_then (alb w3 (.cells #[.string (st o9.name), .slice aov o9.args.length capv, .slice aod o9.data.length capd, .int .i64 o9.at_] 49)) (alb _ (.cells #[.string (st o9.name), .slice aov o9.args.length capv, .slice aod o9.data.length capd, .int .i64 o9.at_] 49)); have hrow := hid (show OwX 4 49 ((w3.alloc (.cells #[.string (st o9.name), .slice aov o9.args.length capv, .slice aod o9.data.length capd, .int .i64 o9.at_] 49)).alloc (.cells #[.string (st o9.name), .slice aov o9.args.length capv, .slice aod o9.data.length capd, .int .i64 o9.at_] 49)) w2.heap.size (.slice aol l.length capl) C from (by simpa using (hG.up keepOP hBW).row))); rotate_left))
      · have hbe := hb2.trans (hR.pd.bel hb2.size hlc)
        exact bodyPost_ret (v := .tuple #[.slice none 0 0, .int .i64 x9]) (by simp [results, Tryz.results14, go_sem]) rfl ⟨_, hBK.out _ (AL.bad hpv), rfl, hbe.trans ((alb w3 (.cells #[.string ⟨#[]⟩, .slice none 0 0, .slice none 0 0, .int .i64 0] 49)).mono hbe.size)⟩
      · have hbe := hb2.trans (hR.pd.bel hb2.size hlc)
        have hG8 := hG.up keepOP (alb w3 (.cells #[.string ⟨#[]⟩, .slice none 0 0, .slice none 0 0, .int .i64 0] 49))
        exact bodyPost_ret (v := .tuple #[.slice aol l.length capl, .int .i64 0]) (by simp [results, Tryz.results14, go_sem]) rfl ⟨_, hBK.out _ (AL.fin hpv), _, rfl, AO.ofT hG8 (fun g h1 h2 => ⟨Nat.le_trans hb2.size h1, h2⟩), hbe.trans ((alb w3 (.cells #[.string ⟨#[]⟩, .slice none 0 0, .slice none 0 0, .int .i64 0] 49)).mono hbe.size)⟩
      · have hbe := hb2.trans (hR.pd.bel hb2.size hlc)
        exact bodyPost_ret (v := .tuple #[.slice none 0 0, .int .i64 7]) (by simp [results, Tryz.results14, go_sem]) rfl ⟨_, hBK.out _ (AL.lim hpv (by omega)), rfl, hbe.trans ((alb w3 (.cells #[.string (st o9.name), .slice aov o9.args.length capv, .slice aod o9.data.length capd, .int .i64 o9.at_] 49)).mono hbe.size)⟩
end Go.Proofs.YtlmgklebikcbjaaGreatDoor
