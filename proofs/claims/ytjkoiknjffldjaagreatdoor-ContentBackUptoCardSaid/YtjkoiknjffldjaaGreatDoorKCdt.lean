/-
  The program's data of an image: the bytes up to the word that ends it. Condition: the reader stands in its bytes.
-/
import Derived.Test.YtjkoiknjffldjaaGreatDoorKRds
/-
  The program's data of an image: the bytes up to the word that ends it. Condition: the reader stands in its bytes.
-/
namespace Go.Proofs.YtjkoiknjffldjaaGreatDoor
open Go.RowKit
set_option linter.unusedVariables false

section
variable {w0 w w' : World} {rp pp lp cp : Nat} {b s t : List UInt8} {i j : Nat}
theorem r_next_nil (h : Rs w0 w rp pp lp cp b i []) : Calls Tryz.prog 79 #[.pointer (some ⟨cp, 0, none⟩)] w fun e w' => e = .returned (.int .i64 (-1)) ∧ Rs w0 w' rp pp lp cp b i [] := by
  obtain ⟨m, v, hL⟩ := h.ps.lx
  refine (next_nil hL.fresh).mono ?_
  rintro e w' ⟨rfl, hL2⟩
  exact ⟨rfl, h.step hL2⟩
theorem r_next {x : UInt8} (h : Rs w0 w rp pp lp cp b i (x :: t)) : Calls Tryz.prog 79 #[.pointer (some ⟨cp, 0, none⟩)] w fun e w' => e = .returned (.int .i64 (c8 x)) ∧ Rs w0 w' rp pp lp cp b (i + 1) t := by
  obtain ⟨m, v, hL⟩ := h.ps.lx
  refine (next_cons hL.fresh).mono ?_
  rintro e w' ⟨rfl, hL2⟩
  exact ⟨rfl, h.step hL2⟩
theorem r_pos (h : Rs w0 w rp pp lp cp b i s) : Calls Tryz.prog 38 #[.pointer (some ⟨cp, 0, none⟩)] w fun e w' => e = .returned (.int .i64 i) ∧ w = w' := by
  obtain ⟨m, v, hL⟩ := h.ps.lx
  exact pos_l hL
theorem r_left (h : Rs w0 w rp pp lp cp b i s) : Calls Tryz.prog 89 #[.pointer (some ⟨cp, 0, none⟩)] w fun e w' => e = .returned (.int .i64 s.length) ∧ w = w' := by
  obtain ⟨m, v, hL⟩ := h.ps.lx
  exact left_l hL
theorem r_peek (h : Rs w0 w rp pp lp cp b i s) (k : Int) (h0 : 0 ≤ k) (h1 : k ≤ 4000000) : Calls Tryz.prog 77 #[.pointer (some ⟨cp, 0, none⟩), .int .i64 k] w fun e w' => e = .returned (.int .i64 (hd (s.drop k.toNat))) ∧ Rs w0 w' rp pp lp cp b i s := by
  obtain ⟨n, rfl⟩ : ∃ n : Nat, k = n := ⟨k.toNat, by omega⟩
  obtain ⟨m, v, hL⟩ := h.ps.lx
  refine (peekn n (by omega) hL.fresh).mono ?_
  rintro e w' ⟨rfl, hL2, -⟩
  exact ⟨rfl, h.step hL2⟩
theorem r_seek (h : Rs w0 w rp pp lp cp b i s) (k : Nat) (n : Int) (hn : n = k) (hk : k ≤ b.length) : Calls Tryz.prog 42 #[.pointer (some ⟨cp, 0, none⟩), .int .i64 n] w fun e w' => e = .returned (.bool true) ∧ Rs w0 w' rp pp lp cp b k (b.drop k) ∧ Held w.heap.size lp cp w w' := by
  obtain ⟨m, v, hL⟩ := h.ps.lx
  refine (seek_l k n hn hk hL.fresh).mono ?_
  rintro e w' ⟨rfl, hL2⟩
  exact ⟨rfl, h.step hL2, hL2.held⟩
theorem r_take (h : Rs w0 w rp pp lp cp b i s) (n : Nat) (hn : n ≤ s.length) : Calls Tryz.prog 90 #[.pointer (some ⟨cp, 0, none⟩), .int .i64 n] w fun e w' => ∃ u', e = .returned (.tuple #[u', .bool true]) ∧ SlA (fun g => w.heap.size ≤ g ∧ g < w'.heap.size) w' u' (s.take n) ∧ ∃ j, Rs w0 w' rp pp lp cp b j (s.drop n) := by
  obtain ⟨m, v, hL⟩ := h.ps.lx
  refine (take_l n hn hL.fresh).mono ?_
  rintro e w' ⟨u', rfl, hL2⟩
  exact ⟨u', rfl, ⟨Sl.own hL2.row, fun g hg => World.ownsRow.lt hL2.row g hg⟩, _, h.step hL2⟩
end

/-- what data gives -/
def DtQ (w : World) (rp pp lp cp : Nat) (b : List UInt8) : Int ⊕ (List UInt8 × List UInt8) → Ending → World → Prop
  | .inl x, e, w' => e = .returned (.tuple #[.slice none 0 0, .int .i64 x]) ∧ ∃ j t, Rs w w' rp pp lp cp b j t
  | .inr y, e, w' => ∃ u, e = .returned (.tuple #[u, .int .i64 0]) ∧ SlA (fun g => w.heap.size ≤ g ∧ g < w'.heap.size) w' u y.1 ∧ ∃ j, Rs w w' rp pp lp cp b j y.2
theorem imgN_hit : ∀ (t : List UInt8) (n : Nat), n < t.length → endI (t.drop n) = true → (∀ m, m < n → endI (t.drop m) = false) → imgN t = some n
  | [], n, h, _, _ => absurd h (Nat.not_lt_zero _)
  | x :: t, 0, _, h, _ => by rw [imgN, if_pos (show endI (x :: t) = true from h)]
  | x :: t, n + 1, hl, h, hb => by
    have h0 := hb 0 (by omega)
    rw [imgN, if_neg (by rw [show x :: t = (x :: t).drop 0 from rfl, h0]; decide), imgN_hit t n (by simpa using hl) h (fun m hm => hb (m + 1) (by omega))]
    rfl
theorem imgN_none : ∀ (t : List UInt8), (∀ m, m < t.length → endI (t.drop m) = false) → imgN t = none
  | [], _ => rfl
  | x :: t, hb => by
    have h0 := hb 0 (by simp)
    rw [imgN, if_neg (by rw [show x :: t = (x :: t).drop 0 from rfl, h0]; decide), imgN_none t (fun m hm => hb (m + 1) (by simpa using hm))]
    rfl
theorem endI_len {t : List UInt8} (h : endI t = true) : 3 ≤ t.length := by
  rcases t with _ | ⟨x, _ | ⟨y, _ | ⟨z, t⟩⟩⟩
  · simp [endI, hd, wh] at h
  · simp [endI, hd] at h
  · simp [endI, hd] at h
  · simp

set_option maxHeartbeats 3200000 in
set_option maxRecDepth 100000 in
theorem cdata_any {w : World} {rp pp lp cp : Nat} {b s : List UInt8} {i : Nat} (h : Rs w w rp pp lp cp b i s) (hbl : b.length ≤ 3600000) :
    Calls Tryz.prog 64 #[.pointer (some ⟨rp, 0, none⟩)] w fun e w' => DtQ w rp pp lp cp b (imgF s) e w' := by
  have r0 := h.r0
  have p0 := h.ps.p0
  have l0 := h.ps.l0
  rcases s with _ | ⟨x, t⟩
  · go_enter Tryz.func64, Tryz.ntmps64
    go_wp2_with (go_at_call 79; refine (r_next_nil h).mono ?_; rintro e w1 ⟨rfl, hR⟩)
    exact bodyPost_ret (v := .tuple #[.slice none 0 0, .int .i64 2]) (by simp [results, Tryz.results64, go_sem]) rfl ⟨rfl, _, _, hR⟩
  · have hx0 := c8_ge x
    have hx1 : decide (c8 x < 0) = false := decide_eq_false (by omega)
    by_cases hw : wh (c8 x) = true
    · obtain ⟨F, hF⟩ : ∃ F, F = imgF (x :: t) := ⟨_, rfl⟩
      rw [← hF]
      have HF := hid hF
      have HW := hid hw
      clear hF
      have hat := h.ps.at_
      have hsm := h.ps.sm
      rw [List.length_cons] at hat
      go_enter Tryz.func64, Tryz.ntmps64
      go_wp2_with (first | (go_at_call 79; refine (r_next h).mono ?_; rintro e w1 ⟨rfl, hR⟩; have r0 := hR.r0; have p0 := hR.ps.p0; have l0 := hR.ps.l0) | (go_at_call 78; refine (white_any _ _).mono ?_; rintro e w2 ⟨rfl, rfl⟩; rw [hw]) | (go_at_call 38; refine (r_pos hR).mono ?_; rintro e w2 ⟨rfl, rfl⟩) | (go_at_call 89; refine (r_left hR).mono ?_; rintro e w2 ⟨rfl, rfl⟩))
      have hR0 := hid hR
      clear hR r0 p0 l0 h
      go_loopw [50, 6, 7, 8, 9] (fun s50 _ _ _ _ wr => ∃ n : Nat, s50 = .int .i64 n ∧ n ≤ t.length ∧ (∀ m, m < n → endI (t.drop m) = false) ∧ Rs w wr rp pp lp cp b (i + 1) t) (fun s50 _ _ _ _ _ => t.length - (intOf s50).toNat)
      case atStart => exact ⟨0, rfl, Nat.zero_le _, fun m hm => absurd hm (Nat.not_lt_zero _), hR0.out⟩
      case round =>
        obtain ⟨n, rfl, hn, hbef, hR⟩ := hrel
        have HB := hid hbef
        clear hbef
        have r0 := hR.r0
        have p0 := hR.ps.p0
        have l0 := hR.ps.l0
        by_cases hlt : n < t.length
        · have hz : (n : Int) < (t.length : Int) := by omega
          have e1 : ((n : Int) + 1).toNat = n + 1 := by omega
          have e2 : ((n : Int) + 2).toNat = n + 2 := by omega
          have e3 : ((n : Int) + 3).toNat = n + 3 := by omega
          have e0 : ((n : Int)).toNat = n := by omega
          obtain ⟨y1, hy1⟩ : ∃ y1, y1 = hd (t.drop (n + 1)) := ⟨_, rfl⟩
          obtain ⟨y2, hy2⟩ : ∃ y2, y2 = hd (t.drop (n + 2)) := ⟨_, rfl⟩
          obtain ⟨y3, hy3⟩ : ∃ y3, y3 = hd (t.drop (n + 3)) := ⟨_, rfl⟩
          obtain ⟨y0, hy0⟩ : ∃ y0, y0 = hd (t.drop n) := ⟨_, rfl⟩
          have P1 := hid (show hd (t.drop ((n : Int) + 1).toNat) = y1 by rw [e1, hy1])
          have P2 := hid (show hd (t.drop ((n : Int) + 2).toNat) = y2 by rw [e2, hy2])
          have P3 := hid (show hd (t.drop ((n : Int) + 3).toNat) = y3 by rw [e3, hy3])
          have P0 := hid (show hd (t.drop ((n : Int)).toNat) = y0 by rw [e0, hy0])
          have hE : endI (t.drop n) = (wh y0 && (y1 == 69 && (y2 == 73 && !rg y3))) := by
            unfold endI
            rw [List.drop_drop, List.drop_drop, List.drop_drop, hy0, hy1, hy2, hy3]
          have HE := hid hE
          clear e0 e1 e2 e3 hy0 hy1 hy2 hy3 hE
          obtain ⟨g3, hg3⟩ : ∃ g3, g3 = rg y3 := ⟨_, rfl⟩
          obtain ⟨g0, hg0⟩ : ∃ g0, g0 = wh y0 := ⟨_, rfl⟩
          have G3 := hid hg3
          have G0 := hid hg0
          clear hg3 hg0
          by_cases q1 : y1 = 69
          · have b1 : (y1 == 69) = true := by simp [q1]
            by_cases q2 : y2 = 73
            · have b2 : (y2 == 73) = true := by simp [q2]
              clear q1 q2
              cases g3 with
              | false =>
                cases g0 with
                | true =>
                  have hhit : endI (t.drop n) = true := by rw [HE.out, b1, b2, ← G3.out, ← G0.out]; rfl
                  have hlen := endI_len hhit
                  rw [List.length_drop] at hlen
                  have HN := hid (imgN_hit t n hlt hhit HB.out)
                  have hdi := hR.ps.drp
                  have hdn : b.drop (i + 1 + n + 3) = t.drop (n + 3) := by rw [← hdi, List.drop_drop]; congr 1
                  have HDI := hid hdi
                  have HDN := hid hdn
                  have hlo := hR.lt
                  clear hhit hdi hdn
                  go_wp2_with (first | (go_at_call 77; refine (r_peek hR _ (by omega) (by omega)).mono ?_; (first | rw [P1.out] | rw [P2.out] | rw [P3.out] | rw [P0.out]); rintro e wk ⟨rfl, hR⟩; have r0 := hR.r0; have p0 := hR.ps.p0; have l0 := hR.ps.l0) | (go_at_call 78; refine (white_any _ _).mono ?_; rintro e w2 ⟨rfl, rfl⟩; rw [← G0.out]) | (go_at_call 86; refine (regular_any _ _).mono ?_; rw [← G3.out]; rintro e wk ⟨rfl, nk, rfl⟩; have hR := hR.below (below_drewN (Below.refl _ _) nk); have r0 := hR.r0; have p0 := hR.ps.p0; have l0 := hR.ps.l0) | (go_at_call 42; refine (r_seek hR5 (i + 1 + n + 3) _ (by omega) (by omega)).mono ?_; rw [HDN.out]; rintro e w6 ⟨rfl, hR6, hh6⟩) | (go_at_call 90; refine (r_take hR4 n (by omega)).mono ?_; rintro e w5 ⟨u5, rfl, hS5, j5, hR5⟩; have r0 := hR5.r0; have p0 := hR5.ps.p0; have l0 := hR5.ps.l0) | (go_at_call 42; refine (r_seek hR (i + 1) _ (by omega) (by omega)).mono ?_; rw [HDI.out]; rintro e w4 ⟨rfl, hR4, -⟩; have r0 := hR4.r0; have p0 := hR4.ps.p0; have l0 := hR4.ps.l0))
                  have hz4 := hR4.ps.size
                  refine bodyPost_ret (v := .tuple #[u5, .int .i64 0]) (by simp [results, Tryz.results64, go_sem]) rfl ?_
                  have hf : F = .inr (t.take n, t.drop (n + 3)) := by rw [HF.out, imgF, if_pos HW.out, HN.out]
                  rw [hf]
                  exact ⟨u5, rfl, hS5.keep (fun g hg => ⟨by have := hg.1; omega, Nat.lt_of_lt_of_le hg.2 hh6.size⟩) (fun g hg hlt => hh6.block g hlt (by have := hg.1; omega) (by have := hg.1; omega)), _, hR6⟩
                | false =>
                  have hmiss : endI (t.drop n) = false := by rw [HE.out]; rw [← G0.out]; rfl
                  have HM := hid hmiss
                  clear hmiss
                  go_wp2_with (first | (go_at_call 77; refine (r_peek hR _ (by omega) (by omega)).mono ?_; (first | rw [P1.out] | rw [P2.out] | rw [P3.out] | rw [P0.out]); rintro e wk ⟨rfl, hR⟩; have r0 := hR.r0; have p0 := hR.ps.p0; have l0 := hR.ps.l0) | (go_at_call 78; refine (white_any _ _).mono ?_; rintro e w2 ⟨rfl, rfl⟩; rw [← G0.out]) | (go_at_call 86; refine (regular_any _ _).mono ?_; rw [← G3.out]; rintro e wk ⟨rfl, nk, rfl⟩; have hR := hR.below (below_drewN (Below.refl _ _) nk); have r0 := hR.r0; have p0 := hR.ps.p0; have l0 := hR.ps.l0))
                  go_roundw
                  case rel => exact ⟨n + 1, by go_num, by omega, fun m hm => by
                    rcases Nat.lt_or_ge m n with q | q
                    · exact HB.out m q
                    · obtain rfl : m = n := by omega
                      exact HM.out, hR⟩
                  case measure => simp [intOf]; omega
              | true =>
                have hmiss : endI (t.drop n) = false := by rw [HE.out]; rw [b1, b2, ← G3.out]; simp
                have HM := hid hmiss
                clear hmiss
                go_wp2_with (first | (go_at_call 77; refine (r_peek hR _ (by omega) (by omega)).mono ?_; (first | rw [P1.out] | rw [P2.out] | rw [P3.out] | rw [P0.out]); rintro e wk ⟨rfl, hR⟩; have r0 := hR.r0; have p0 := hR.ps.p0; have l0 := hR.ps.l0) | (go_at_call 78; refine (white_any _ _).mono ?_; rintro e w2 ⟨rfl, rfl⟩; rw [← G0.out]) | (go_at_call 86; refine (regular_any _ _).mono ?_; rw [← G3.out]; rintro e wk ⟨rfl, nk, rfl⟩; have hR := hR.below (below_drewN (Below.refl _ _) nk); have r0 := hR.r0; have p0 := hR.ps.p0; have l0 := hR.ps.l0))
                go_roundw
                case rel => exact ⟨n + 1, by go_num, by omega, fun m hm => by
                  rcases Nat.lt_or_ge m n with q | q
                  · exact HB.out m q
                  · obtain rfl : m = n := by omega
                    exact HM.out, hR⟩
                case measure => simp [intOf]; omega
            · have b2 : (y2 == 73) = false := by simp [q2]
              have hmiss : endI (t.drop n) = false := by rw [HE.out]; rw [b1, b2]; simp
              have HM := hid hmiss
              clear hmiss
              go_wp2_with (first | (go_at_call 77; refine (r_peek hR _ (by omega) (by omega)).mono ?_; (first | rw [P1.out] | rw [P2.out] | rw [P3.out] | rw [P0.out]); rintro e wk ⟨rfl, hR⟩; have r0 := hR.r0; have p0 := hR.ps.p0; have l0 := hR.ps.l0) | (go_at_call 78; refine (white_any _ _).mono ?_; rintro e w2 ⟨rfl, rfl⟩; rw [← G0.out]) | (go_at_call 86; refine (regular_any _ _).mono ?_; rw [← G3.out]; rintro e wk ⟨rfl, nk, rfl⟩; have hR := hR.below (below_drewN (Below.refl _ _) nk); have r0 := hR.r0; have p0 := hR.ps.p0; have l0 := hR.ps.l0))
              go_roundw
              case rel => exact ⟨n + 1, by go_num, by omega, fun m hm => by
                rcases Nat.lt_or_ge m n with q | q
                · exact HB.out m q
                · obtain rfl : m = n := by omega
                  exact HM.out, hR⟩
              case measure => simp [intOf]; omega
          · have b1 : (y1 == 69) = false := by simp [q1]
            have hmiss : endI (t.drop n) = false := by rw [HE.out]; rw [b1]; simp
            have HM := hid hmiss
            clear hmiss
            go_wp2_with (first | (go_at_call 77; refine (r_peek hR _ (by omega) (by omega)).mono ?_; (first | rw [P1.out] | rw [P2.out] | rw [P3.out] | rw [P0.out]); rintro e wk ⟨rfl, hR⟩; have r0 := hR.r0; have p0 := hR.ps.p0; have l0 := hR.ps.l0) | (go_at_call 78; refine (white_any _ _).mono ?_; rintro e w2 ⟨rfl, rfl⟩; rw [← G0.out]) | (go_at_call 86; refine (regular_any _ _).mono ?_; rw [← G3.out]; rintro e wk ⟨rfl, nk, rfl⟩; have hR := hR.below (below_drewN (Below.refl _ _) nk); have r0 := hR.r0; have p0 := hR.ps.p0; have l0 := hR.ps.l0))
            go_roundw
            case rel => exact ⟨n + 1, by go_num, by omega, fun m hm => by
              rcases Nat.lt_or_ge m n with q | q
              · exact HB.out m q
              · obtain rfl : m = n := by omega
                exact HM.out, hR⟩
            case measure => simp [intOf]; omega
        · obtain rfl : n = t.length := by omega
          have hz : ¬ (t.length : Int) < (t.length : Int) := by omega
          have HN := hid (imgN_none t HB.out)
          go_wp2
          refine bodyPost_ret (v := .tuple #[.slice none 0 0, .int .i64 2]) (by simp [results, Tryz.results64, go_sem]) rfl ?_
          have hf : F = .inl 2 := by rw [HF.out, imgF, if_pos HW.out, HN.out]
          rw [hf]
          exact ⟨rfl, _, _, hR⟩
    · have hwf : wh (c8 x) = false := by simpa using hw
      have hF : imgF (x :: t) = .inl 4 := by rw [imgF, if_neg hw]
      rw [hF]
      go_enter Tryz.func64, Tryz.ntmps64
      go_wp2_with (first | (go_at_call 79; refine (r_next h).mono ?_; rintro e w1 ⟨rfl, hR⟩; have r0 := hR.r0; have p0 := hR.ps.p0; have l0 := hR.ps.l0) | (go_at_call 78; refine (white_any _ _).mono ?_; rintro e w2 ⟨rfl, rfl⟩; rw [hwf]))
      exact bodyPost_ret (v := .tuple #[.slice none 0 0, .int .i64 4]) (by simp [results, Tryz.results64, go_sem]) rfl ⟨rfl, _, _, hR⟩
end Go.Proofs.YtjkoiknjffldjaaGreatDoor
