/-
  The document's Has, Pair, Dict of nothing, Set of one entry. Conditions: rows no longer than a million.
-/
import Derived.Test.YtlmgklebikcbjaaGreatDoorHc
import Derived.Test.YtlmgklebikcbjaaGreatDoorKRops
/-
  The document's Has, Pair, Dict of nothing, Set of one entry. Conditions: rows no longer than a million.
-/
namespace Go.Proofs.YtlmgklebikcbjaaGreatDoor
open Go.RowKit
set_option linter.unusedVariables false

theorem rhas_any (k n : Int) (b l d : Option Addr) (nb cb nl cl nd cd : Nat) (w : World) :
    Calls Tryz.prog 71 #[.agg #[.int .i64 k, .int .i64 n, .slice b nb cb, .slice l nl cl, .slice d nd cd]] w fun e w' => e = .returned (.bool (k == 7 || k == 8)) ∧ Below w.heap.size w w' := by
  by_cases h7 : k = 7
  · subst h7
    go_enter Tryz.func71, Tryz.ntmps71
    go_wp2
    go_ret
    exact ⟨rfl, alb _ _⟩
  · have b7 : (k == 7) = false := by simp [h7]
    rw [b7]
    go_enter Tryz.func71, Tryz.ntmps71
    go_wp2
    go_ret
    exact ⟨by simp, alb _ _⟩

set_option maxHeartbeats 1600000 in
set_option maxRecDepth 100000 in
theorem rpair_any {A : Nat → Prop} {w : World} {vs : List Value} {o : PO} (k : List UInt8) (h : OV A w vs o) :
    Calls Tryz.prog 25 #[.string (st k), .agg vs.toArray] w fun e w' => ∃ vs' : List Value, e = .returned (ent k vs') ∧ OV (fun g => w.heap.size ≤ g ∧ g < w'.heap.size) w' vs' o ∧ Below w.heap.size w w' := by
  have hv := h.v5
  have hcp := fun W (hW : Below w.heap.size w W) => rcopyO_any (h.up hW)
  obtain ⟨p1, p2, p3, p4, p5, p6, p7, p8, p9, p10, p11, rfl⟩ := hv
  clear h
  go_enter Tryz.func25, Tryz.ntmps25
  go_wp2_with (go_at_call 50; refine (hcp _ (below_then (alb _ _) (alb _ _))).mono ?_; rintro e w1 ⟨vs', rfl, hov, hb1⟩; have hZ := (C5.new (w.alloc (.cells #[.int .i64 p1, .int .i64 p2, .slice p3 p6 p7, .slice p4 p8 p9, .slice p5 p10 p11] 47)) (w.heap.size + 1) (by simp) [.string ⟨#[]⟩, .int .i64 0, .int .i64 0, .slice none 0 0, .slice none 0 0, .slice none 0 0] 59).up hb1; obtain ⟨rc, rf, rs⟩ := id hZ; have hV5 := hov.v5; have hov2 := hid hov; clear hov; obtain ⟨y1, y2, y3, y4, y5, y6, y7, y8, y9, y10, y11, rfl⟩ := hV5)
  have hC := hZ.set6 (a := .string (st k)) (b := .int .i64 y1) (c := .int .i64 y2) (d := .slice y3 y6 y7) (e := .slice y4 y8 y9) (f := .slice y5 y10 y11) rfl
  have hh := fun B => set6_held w1 B (w.heap.size + 1) (.string (st k)) (.int .i64 y1) (.int .i64 y2) (.slice y3 y6 y7) (.slice y4 y8 y9) (.slice y5 y10 y11)
  have k0 := hC.1 0
  have k1 := hC.1 1
  have k2 := hC.1 2
  have k3 := hC.1 3
  have k4 := hC.1 4
  have k5 := hC.1 5
  simp only [List.getElem?_cons_zero, List.getElem?_cons_succ] at k0 k1 k2 k3 k4 k5
  have hB := below_then (below_then (alb w _) (alb _ _)) hb1
  have hs := hB.size
  have hn := hb1.size
  simp at hn
  have hs6 := (hh w1.heap.size).size
  refine bodyPost_ret (v := ent k [.int .i64 y1, .int .i64 y2, .slice y3 y6 y7, .slice y4 y8 y9, .slice y5 y10 y11]) (by simp [results, Tryz.results25, go_sem, k0, k1, k2, k3, k4, k5]) rfl ⟨_, rfl, hov2.out.keep (fun g hg => ?_) (fun g hg h1 => ?_), hB.trans ((hh w1.heap.size).below hs (by omega) (by omega))⟩
  · have := hg.1
    simp at this
    exact ⟨by omega, Nat.lt_of_lt_of_le hg.2 hs6⟩
  · have := hg.1
    simp at this
    exact (hh w1.heap.size).block g h1 (by omega) (by omega)


set_option maxRecDepth 100000 in
theorem rdict_nil (w : World) : Calls Tryz.prog 24 #[.slice none 0 0] w fun e w' => e = .returned (ob 7 0 (.slice none 0 0)) ∧ Below w.heap.size w w' := by
  go_enter Tryz.func24, Tryz.ntmps24
  go_wp2
  go_loopw [4] (fun s4 wr => s4 = .int .i64 0 ∧ wr = (w.alloc (.cells #[.int .i64 0, .int .i64 0, .slice none 0 0, .slice none 0 0, .slice none 0 0] 47)).alloc (.cells #[.int .i64 7, .int .i64 0, .slice none 0 0, .slice none 0 0, .slice none 0 0] 47)) (fun _ _ => 0)
  case atStart => exact ⟨rfl, rfl⟩
  case round =>
    obtain ⟨rfl, rfl⟩ := hrel
    go_wp2
    refine bodyPost_ret (v := ob 7 0 (.slice none 0 0)) (by simp [results, Tryz.results24, go_sem]) rfl ⟨rfl, by first | exact alb _ _ | exact below_then (alb _ _) (alb _ _)⟩

set_option maxHeartbeats 3200000 in
set_option maxRecDepth 100000 in
theorem rset_any {A A0 : Nat → Prop} {w : World} {n : Int} {b : List UInt8} {l : List PO} {d : List (List UInt8 × PO)} {vs us : List Value} (key : List UInt8) {vk : Value} {oe : PO} (hk : SlX 6 w vk [ecl (key, us)]) (hus : OV A0 w us oe) (hA0 : ∀ g, A0 g → g < w.heap.size) (h : OV A w vs (.mk 7 n b l d)) (hz : d.length ≤ 3200000) :
    Calls Tryz.prog 110 #[.agg vs.toArray, vk] w fun e w' => ∃ vs' : List Value, e = .returned (.agg vs'.toArray) ∧ OV (fun g => A0 g ∨ (w.heap.size ≤ g ∧ g < w'.heap.size)) w' vs' (.mk 7 n b l (wi (key, oe) d)) ∧ Below w.heap.size w w' := by
  obtain ⟨o1, o3, o4, o6, o7, o9, rfl⟩ := h.shape
  obtain ⟨ak, ck, rfl, s1, s2, s3, s4, s5⟩ := id hk
  have hu5 := hus.v5
  have HUS := hid hus
  clear hus
  obtain ⟨z1, z2, z3, z4, z5, z6, z7, z8, z9, z10, z11, rfl⟩ := hu5
  have hO0 := (C5.new w _ rfl [.int .i64 7, .int .i64 n, .slice o1 b.length o3, .slice o4 l.length o6, .slice o7 d.length o9] 47).up (alb _ (.cells #[.int .i64 0, .int .i64 0, .slice none 0 0, .slice none 0 0, .slice none 0 0] 47))
  have hZ0 := C5.new (w.alloc (.cells #[.int .i64 7, .int .i64 n, .slice o1 b.length o3, .slice o4 l.length o6, .slice o7 d.length o9] 47)) (w.heap.size + 1) (by simp) [.int .i64 0, .int .i64 0, .slice none 0 0, .slice none 0 0, .slice none 0 0] 47
  have hWW := below_then (alb w (.cells #[.int .i64 7, .int .i64 n, .slice o1 b.length o3, .slice o4 l.length o6, .slice o7 d.length o9] 47)) (alb _ (.cells #[.int .i64 0, .int .i64 0, .slice none 0 0, .slice none 0 0, .slice none 0 0] 47))
  obtain ⟨gk, offk, rfl, hck⟩ := hk.some (by simp)
  have HCK := hid (hck 0 (by simp) 0 _ rfl)
  have HC1 := hid (hck 0 (by simp) 1 _ rfl)
  have HC2 := hid (hck 0 (by simp) 2 _ rfl)
  have HC3 := hid (hck 0 (by simp) 3 _ rfl)
  have HC4 := hid (hck 0 (by simp) 4 _ rfl)
  have HC5 := hid (hck 0 (by simp) 5 _ rfl)
  have hsz2 : ((w.alloc (.cells #[.int .i64 7, .int .i64 n, .slice o1 b.length o3, .slice o4 l.length o6, .slice o7 d.length o9] 47)).alloc (.cells #[.int .i64 0, .int .i64 0, .slice none 0 0, .slice none 0 0, .slice none 0 0] 47)).heap.size = w.heap.size + 2 := by simp
  have HCP := hid (rcopyO_any (h.up hWW))
  clear hck s5
  obtain ⟨oc, of_, os⟩ := id hO0
  go_enter Tryz.func110, Tryz.ntmps110
  go_upto_region 3 with (first | (go_at_call 71; refine (rhas_any _ _ _ _ _ _ _ _ _ _ _ _).mono ?_; rintro e w4 ⟨rfl, hb4⟩) | (go_at_call 50; refine HCP.out.mono ?_; rintro e w3 ⟨vs3, rfl, hov3, hb3⟩; have hO3 := (hO0.up hb3).up (alb w3 (.cells vs3.toArray 47)); obtain ⟨oc, of_, os⟩ := id hO3; obtain ⟨y1, y3, y4, y6, y7, y9, rfl⟩ := hov3.shape))
  have hX4 := (C5.new w3 _ rfl [.int .i64 7, .int .i64 n, .slice y1 b.length y3, .slice y4 l.length y6, .slice y7 d.length y9] 47).up hb4
  have hW4 := (below_then (below_then hWW hb3) (alb w3 (.cells #[.int .i64 7, .int .i64 n, .slice y1 b.length y3, .slice y4 l.length y6, .slice y7 d.length y9] 47))).trans (hb4.mono (below_then (below_then hWW hb3) (alb w3 (.cells #[.int .i64 7, .int .i64 n, .slice y1 b.length y3, .slice y4 l.length y6, .slice y7 d.length y9] 47))).size)
  have hZ4 := ((hZ0.up hb3).up (alb w3 (.cells #[.int .i64 7, .int .i64 n, .slice y1 b.length y3, .slice y4 l.length y6, .slice y7 d.length y9] 47))).up hb4
  have hov4 := (hov3.up (alb w3 (.cells #[.int .i64 7, .int .i64 n, .slice y1 b.length y3, .slice y4 l.length y6, .slice y7 d.length y9] 47))).up hb4
  have hs3 := hb3.size
  have hs4 := hb4.size
  have hs34 : (w3.alloc (.cells #[.int .i64 7, .int .i64 n, .slice y1 b.length y3, .slice y4 l.length y6, .slice y7 d.length y9] 47)).heap.size = w3.heap.size + 1 := by simp
  clear hO0 hZ0 hov3 HCP hO3 oc of_ os hb3 hb4 hWW
  generalize w3.heap.size = g3 at *
  have hg3 : w.heap.size + 2 ≤ g3 := by omega
  have HOV := hid (show OV (fun g => w.heap.size + 2 ≤ g ∧ g < g3) w4 [.int .i64 7, .int .i64 n, .slice y1 b.length y3, .slice y4 l.length y6, .slice y7 d.length y9] (.mk 7 n b l d) from hov4.keep (fun g hg => ⟨by have := hg.1; omega, hg.2⟩) (fun _ _ _ => rfl))
  obtain ⟨D, hD, hS⟩ := hov4.ents
  have HD := hid (show EVs (fun g => w.heap.size + 2 ≤ g ∧ g < g3) w4 D d from hD.keep (fun g hg => ⟨by have := hg.1; omega, hg.2⟩) (fun _ _ _ => rfl))
  have HS := hid hS
  have hck := cell_up' hW4 HCK.out
  have hzk := World.block_lt_of_cell? _ _ hck
  have hck1 := cell_up' hW4 HC1.out
  have hck2 := cell_up' hW4 HC2.out
  have hck3 := cell_up' hW4 HC3.out
  have hck4 := cell_up' hW4 HC4.out
  have hck5 := cell_up' hW4 HC5.out
  rw [show offk + 0 * 6 + 0 = offk by omega] at hck
  rw [show offk + 0 * 6 + 1 = offk + 1 by omega] at hck1
  rw [show offk + 0 * 6 + 2 = offk + 2 by omega] at hck2
  rw [show offk + 0 * 6 + 3 = offk + 3 by omega] at hck3
  rw [show offk + 0 * 6 + 4 = offk + 4 by omega] at hck4
  rw [show offk + 0 * 6 + 5 = offk + 5 by omega] at hck5
  have HCC := hid (show ∀ X : World, (∀ o, w4.cell? ⟨gk, o, none⟩ = X.cell? ⟨gk, o, none⟩) → (X.cell? ⟨gk, offk, none⟩ = some (.string (st key)) ∧ X.cell? ⟨gk, offk + 1, none⟩ = some (.int .i64 z1) ∧ X.cell? ⟨gk, offk + 2, none⟩ = some (.int .i64 z2) ∧ X.cell? ⟨gk, offk + 3, none⟩ = some (.slice z3 z6 z7) ∧ X.cell? ⟨gk, offk + 4, none⟩ = some (.slice z4 z8 z9) ∧ X.cell? ⟨gk, offk + 5, none⟩ = some (.slice z5 z10 z11)) from fun X hX => ⟨by rw [← hX]; exact hck, by rw [← hX]; exact hck1, by rw [← hX]; exact hck2, by rw [← hX]; exact hck3, by rw [← hX]; exact hck4, by rw [← hX]; exact hck5⟩)
  have hgk : gk < w.heap.size := World.block_lt_of_cell? _ _ HCK.out
  clear hov4 hD hS hs3 hs34
  go_wp2
  go_loopw [6] (fun s6 wr => (s6 = .int .i64 0 ∧ wr = w4) ∨ (s6 = .int .i64 1 ∧ ∃ a9 k9 c9, C5 wr g3 [.int .i64 7, .int .i64 n, .slice y1 b.length y3, .slice y4 l.length y6, .slice a9 k9 c9] ∧ OV (fun g => (w.heap.size + 2 ≤ g ∧ g < wr.heap.size ∧ g ≠ g3) ∨ A0 g) wr [.int .i64 7, .int .i64 n, .slice y1 b.length y3, .slice y4 l.length y6, .slice a9 k9 c9] (.mk 7 n b l (wi (key, oe) d)) ∧ Below w.heap.size w wr ∧ C5 wr (w.heap.size + 1) [.int .i64 0, .int .i64 0, .slice none 0 0, .slice none 0 0, .slice none 0 0])) (fun s6 _ => 1 - (intOf s6).toNat)
  case atStart => exact .inl ⟨rfl, rfl⟩
  case round =>
    rcases hrel with ⟨rfl, rfl⟩ | ⟨rfl, a9, k9, c9, hX9, hov9, hW9, hZ9⟩
    · obtain ⟨xc, xf, xs⟩ := id hX4
      have hbd : Below wr.heap.size wr wr.drew := below_drewN (Below.refl _ _) 1
      have HWI := hid (with_any (A := fun g => (w.heap.size + 2 ≤ g ∧ g < g3) ∨ A0 g) (w := wr.drew) (D := D) key (fun g hg => by have := hbd.size; have := hX4.2.2; exact hg.elim (fun hg => by have := hg.2; omega) (fun hg => by have := hA0 g hg; omega)) (HD.out.keep (fun _ h => .inl h) (fun g _ hlt => hbd.block g hlt)) (HS.out.up hbd) ((HUS.out.up (hW4.trans (hbd.mono hW4.size))).keep (fun _ h => .inr h) (fun _ _ _ => rfl)) (by omega))
      have HNE := hid (show gk ≠ g3 from by omega)
      have HCCd := HCC.out wr.drew (fun o => (hbd.cell (p := ⟨gk, o, none⟩) hzk).symm)
      go_upto_region 6 with fail
      have hlv : opLd 45 (Operand.tmp 17) = Op.load 45 (Operand.tmp 17) := rfl
      rw [← hlv]
      go_region_held3 (fun w' => w'.cell? ⟨gk, offk, none⟩ = some (.string (st key)) ∧ w'.cell? ⟨gk, offk + 1, none⟩ = some (.int .i64 z1) ∧ w'.cell? ⟨gk, offk + 2, none⟩ = some (.int .i64 z2) ∧ w'.cell? ⟨gk, offk + 3, none⟩ = some (.slice z3 z6 z7) ∧ w'.cell? ⟨gk, offk + 4, none⟩ = some (.slice z4 z8 z9) ∧ w'.cell? ⟨gk, offk + 5, none⟩ = some (.slice z5 z10 z11)) (first | go_keep | with_reducible exact HCC.out _ (fun _ => rfl) | with_reducible exact HCCd | with_reducible exact HCC9.out | with_reducible exact HCCs.out | skip) (first | (go_at_call 49; (with_reducible refine HWI.out.mono ?_); rintro e w9 ⟨v9, rfl, E9, hrow9, hE9, hb9⟩; obtain ⟨a9, c9, hv9⟩ := hrow9.lin; rw [List.length_map] at hv9; subst hv9; have hX9 := (hX4.up hbd).up hb9; have HCC9 := hid (HCC.out w9 (fun o => ((hb9.cell (p := ⟨gk, o, none⟩) (Nat.lt_of_lt_of_le hzk hbd.size)).trans (hbd.cell (p := ⟨gk, o, none⟩) hzk)).symm)); have HCCs := hid (HCC.out (w9.setCell ⟨g3, 4, none⟩ (.slice a9 E9.length c9)) (fun o => ((cset_ne (fun q => HNE.out (by injection q with q1 _; exact q1.symm))).trans ((hb9.cell (p := ⟨gk, o, none⟩) (Nat.lt_of_lt_of_le hzk hbd.size)).trans (hbd.cell (p := ⟨gk, o, none⟩) hzk))).symm)); obtain ⟨xc, xf, xs⟩ := id hX9))
      all_goals
        go_wp2_with fail
        have hS := fun B => Held.set (B := B) (p := g3) (q := g3) w9 ⟨g3, 4, none⟩ (.slice a9 E9.length c9) (.inl rfl)
        have hsd := hbd.size
        have hs9 := hb9.size
        have hgx := hX4.2.2
        have hwl := wi_len (key, oe) d
        have hov9 : OV (fun g => (w.heap.size + 2 ≤ g ∧ g < w9.heap.size ∧ g ≠ g3) ∨ A0 g) w9 [.int .i64 7, .int .i64 n, .slice y1 b.length y3, .slice y4 l.length y6, .slice y7 d.length y9] (.mk 7 n b l d) := HOV.out.keep (fun g hg => .inl ⟨hg.1, by have := hg.2; omega, by have := hg.2; omega⟩) (fun g hg hlt => (hb9.block g (Nat.lt_of_lt_of_le hlt hsd)).trans (hbd.block g hlt))
        have hr9 := hrow9.row (A := fun g => (w.heap.size + 2 ≤ g ∧ g < w9.heap.size ∧ g ≠ g3) ∨ A0 g) (fun g h1 h2 => .inl ⟨by omega, h2, by omega⟩)
        rw [List.length_map] at hr9
        have hset := hov9.setD hr9 (hE9.keep (fun g hg => by
          rcases hg with (hg | hg) | hg
          · have := hg.1; have := hg.2; exact .inl ⟨by omega, by omega, by omega⟩
          · exact .inr hg
          · have := hg.1; have := hg.2; exact .inl ⟨by omega, by omega, by omega⟩) (fun _ _ _ => rfl)) (Nat.le_trans hwl (by omega))
        go_roundw
        case rel => exact .inr ⟨rfl, a9, E9.length, c9, hX9.set (k := 4) (by simp), hset.keep (fun g hg => hg.imp (fun hg => ⟨hg.1, Nat.lt_of_lt_of_le hg.2.1 (hS 0).size, hg.2.2⟩) id) (fun g hg hlt => by
          have hne : g ≠ g3 := by
            rcases hg with hg | hg
            · exact hg.2.2
            · have := hA0 g hg; omega
          exact (hS w9.heap.size).block g hlt hne hne), ((hW4.trans (hbd.mono hW4.size)).trans (hb9.mono (by have := hW4.size; omega))).trans ((hS w.heap.size).below (Nat.le_refl _) (by omega) (by omega)), ((hZ4.up hbd).up hb9).held (hS _) (by omega) (by omega)⟩
        case measure => simp [intOf]
    · obtain ⟨xc, xf, xs⟩ := id hX9
      obtain ⟨rc, rf, rs⟩ := id hZ9
      go_wp2
      obtain ⟨k0, k1, k2, k3, k4⟩ := (hZ9.set5 (a := .int .i64 7) (b := .int .i64 n) (c := .slice y1 b.length y3) (d := .slice y4 l.length y6) (e := .slice a9 k9 c9) rfl).s5
      have hh := fun B => set5_held wr B (w.heap.size + 1) (.int .i64 7) (.int .i64 n) (.slice y1 b.length y3) (.slice y4 l.length y6) (.slice a9 k9 c9)
      have hws := hW9.size
      refine bodyPost_ret (v := .agg #[.int .i64 7, .int .i64 n, .slice y1 b.length y3, .slice y4 l.length y6, .slice a9 k9 c9]) (by simp [results, Tryz.results110, go_sem, k0, k1, k2, k3, k4]) rfl ⟨[.int .i64 7, .int .i64 n, .slice y1 b.length y3, .slice y4 l.length y6, .slice a9 k9 c9], rfl, ?_, hW9.trans ((hh wr.heap.size).below hws (by omega) (by omega))⟩
      exact hov9.keep (fun g hg => by
        rcases hg with hg | hg
        · exact .inr ⟨by have := hg.1; omega, Nat.lt_of_lt_of_le hg.2.1 (hh 0).size⟩
        · exact .inl hg) (fun g hg h1 => by
        have hne : g ≠ w.heap.size + 1 := by
          rcases hg with hg | hg
          · have := hg.1; omega
          · have := hA0 g hg; omega
        exact (hh wr.heap.size).block g h1 hne hne)
end Go.Proofs.YtlmgklebikcbjaaGreatDoor
