/-
  The program's Fits of whatever operator; the document's fit and Fits. Condition: the table of white signs reads as the library lays it; the operands are no more than a thousand.
-/
import Derived.Test.YtlmgklebikcbjaaGreatDoorKFit
import Derived.Test.YtlmgklebikcbjaaGreatDoorKKnd
import Derived.Test.YtlmgklebikcbjaaGreatDoorHb
/-
  The program's Fits of whatever operator; the document's fit and Fits. Condition: the table of white signs reads as the library lays it; the operands are no more than a thousand.
-/
namespace Go.Proofs.YtlmgklebikcbjaaGreatDoor
open Go.RowKit
set_option linter.unusedVariables false

/-- the operands without a name at the end -/
def starL (ks : List Int) : List Int := if ks.getLast? = some 5 then ks.dropLast else ks
def fitS (ks : List Int) : Bool := decide (1 ≤ (starL ks).length) && decide ((starL ks).length ≤ 32) && (starL ks).all (fun k => fitK 110 k)
def fitsOf (n : List UInt8) (ks : List Int) : Bool := if kinds n = [42] then fitS ks else (kindOf n).isSome && fitL (kinds n) ks
theorem starL_nil : starL [] = [] := rfl
theorem starL_name (l : List Int) : starL (l ++ [5]) = l := by unfold starL; rw [List.getLast?_concat, if_pos rfl, List.dropLast_concat]
theorem starL_else (l : List Int) (z : Int) (h : ¬ z = 5) : starL (l ++ [z]) = l ++ [z] := by unfold starL; rw [List.getLast?_concat, if_neg (fun q => h (Option.some.inj q))]
theorem fitS_yes {ks l : List Int} (h : starL ks = l) (h1 : 1 ≤ l.length) (h2 : l.length ≤ 32) (h3 : ∀ j (hj : j < l.length), fitK 110 l[j] = true) : fitS ks = true := by
  unfold fitS
  rw [h, decide_eq_true h1, decide_eq_true h2, Bool.true_and, Bool.true_and, List.all_eq_true]
  intro x hx
  obtain ⟨j, hj, rfl⟩ := List.getElem_of_mem hx
  exact h3 j hj
theorem fitS_no {ks l : List Int} (h : starL ks = l) {j : Nat} (hj : j < l.length) (h3 : fitK 110 l[j] = false) : fitS ks = false := by
  unfold fitS
  have h4 : (l.all fun k => fitK 110 k) = false := List.all_eq_false.2 ⟨_, List.getElem_mem hj, by rw [h3]; decide⟩
  rw [h, h4, Bool.and_false]
theorem fitS_few {ks l : List Int} (h : starL ks = l) (h1 : l.length = 0) : fitS ks = false := by
  unfold fitS
  rw [h, decide_eq_false (by omega)]; rfl
theorem fitS_many {ks l : List Int} (h : starL ks = l) (h1 : ¬ l.length ≤ 32) : fitS ks = false := by
  unfold fitS
  rw [h, decide_eq_false h1]; simp
theorem rep110 : ∀ m, Lib.repeatL [110] m = List.replicate m 110
  | 0 => rfl
  | m + 1 => by rw [Lib.repeatL, rep110 m]; rfl
theorem rep_any (m : Nat) (w : World) (h : m ≤ 1000) : Calls Tryz.prog 38 #[.string ⟨#[110]⟩, .int .i64 (m : Int)] w fun e w' => e = .returned (.string (st (List.replicate m 110))) ∧ Below w.heap.size w w' := by
  have h2 := Tryz.strings_Repeat ⟨#[110]⟩ m w (by omega) (by show 1 * m ≤ _; omega)
  have e : (⟨(Lib.repeatL (⟨#[110]⟩ : ByteArray).data.toList m).toArray⟩ : ByteArray) = st (List.replicate m 110) := by
    rw [← rep110]; rfl
  rw [e] at h2
  exact h2

set_option maxHeartbeats 6400000 in
set_option maxRecDepth 100000 in
theorem fits_star (name : List UInt8) (va vd : Value) (at_ : Int) (ks : List Int) (w : World) (htab : Lib.TabIs Tryz.prog w "strings.asciiSpace" .u8 Lib.asciiSpaceTab) (hK : KR w va ks) (hn : kinds name = [42]) (hkb : ks.length ≤ 1000) :
    Calls Tryz.prog 13 #[.agg #[.string (st name), va, vd, .int .i64 at_]] w fun e w' => e = .returned (.bool (fitS ks)) ∧ Below w.heap.size w w' := by
  obtain ⟨C, hS, hC⟩ := hK
  have hCl := All2.len hC
  obtain ⟨aoa, capa, rfl, hle, hmx, -⟩ := id hS
  clear hle hmx
  rw [hCl] at hS ⊢
  have hq : (kinds name == [42]) = true := by rw [hn]; rfl
  have hst := st_toList (kinds name)
  have hKI := hid (kinds_any name (w.alloc (.cells #[.string (st name), .slice aoa ks.length capa, vd, .int .i64 at_] 34)) (tab_up htab (alb w _)))
  generalize hkn : kinds name = kn at *
  generalize hok : (kindOf name).isSome = ok at *
  clear hkn hok hn htab
  have hcase : ks = [] ∨ ∃ ks2 z, ks = ks2 ++ [z] := by
    rcases List.eq_nil_or_concat ks with h | ⟨a, b, h⟩
    · exact .inl h
    · exact .inr ⟨a, b, by rw [h]; simp⟩
  rcases hcase with h0 | ⟨ks2, z, hks⟩
  · subst h0
    have HF := hid (fitS_few (starL_nil) rfl)
    go_enter Tryz.func13, Tryz.ntmps13
    go_wp2_with (first | (go_at_call 10; refine hKI.out.mono ?_; rintro e w2 ⟨rfl, hb2⟩; have hO := (C5.new w _ rfl [.string (st name), .slice aoa ([] : List Int).length capa, vd, .int .i64 at_] 34).up hb2; have hB2 := below_then (alb w (.cells #[.string (st name), .slice aoa ([] : List Int).length capa, vd, .int .i64 at_] 34)) hb2; obtain ⟨oc, of_, os⟩ := id hO) | (go_at_call 38; refine (Tryz.strings_Repeat_zero _ _).mono ?_; rintro e w3 ⟨rfl, rfl⟩))
    go_ret
    exact ⟨by rw [HF.out]; rfl, hB2⟩
  have hkl : ks.length = ks2.length + 1 := by rw [hks]; simp
  have HKL := hid hkl
  have hn0 : (ks.length : Int) > 0 := by omega
  have hsub : IntKind.i64.wrap ((ks.length : Int) - 1) = (ks2.length : Int) := by rw [show (ks.length : Int) - 1 = (ks2.length : Int) by omega]; exact IntWalk.i64_in _ (by omega)
  have hx0 : (0 : Int) ≤ (ks2.length : Int) := by omega
  have hx1 : (ks2.length : Int) < (ks.length : Int) := by omega
  obtain ⟨g, off, rfl, hcell⟩ := hS.some (by omega)
  have hCi : ks2.length < C.length := by omega
  have hv5 := All2.at hC ks2.length hCi (by omega)
  have hcl := hcell ks2.length hCi 0
  obtain ⟨⟨p1, p2, p3, p4, p5, p6, p7, p8, p9, p10, p11, hce⟩, hkd⟩ := hv5
  have hp1 : p1 = z := by
    rw [hce] at hkd
    have h9 : ks[ks2.length]'(by omega) = z := by simp [hks]
    rw [h9] at hkd
    simpa using hkd
  subst hp1
  have c0 := hcl (.int .i64 p1) (by rw [hce]; rfl)
  rw [Nat.add_zero] at c0
  have C0 := hid c0
  clear hcl hce hkd hcell hCi c0
  by_cases z5 : p1 = 5
  · have HST := hid (show starL ks = ks2 from by rw [hks, z5]; exact starL_name ks2)
    subst z5
    obtain ⟨cap2, hS2, hrun⟩ := sliceE_to (e := 47) (t := 32) (P := Tryz.prog) (sz := 5) (by kernel_rfl) (fun w => by rfl) hS ks2.length (by omega)
    have hC2 : All2 (fun c k => V5 c ∧ c.head? = some (.int .i64 k)) (C.take ks2.length) ks2 := by
      have h9 := All2.take hC ks2.length
      rw [show ks.take ks2.length = ks2 by rw [hks]; simp] at h9
      exact h9
    clear hS hC
    have hCl := All2.len hC2
    generalize C.take ks2.length = C2 at *
    have hkb2 : ks2.length ≤ 1000 := by omega
    clear hks hkl
    go_enter Tryz.func13, Tryz.ntmps13
    go_upto_region 7 with (first | (go_at_call 10; refine hKI.out.mono ?_; rintro e w2 ⟨rfl, hb2⟩; have hO := (C5.new w _ rfl [.string (st name), .slice (some ⟨g, off, none⟩) ks.length capa, vd, .int .i64 at_] 34).up hb2; have hB2 := below_then (alb w (.cells #[.string (st name), .slice (some ⟨g, off, none⟩) ks.length capa, vd, .int .i64 at_] 34)) hb2; obtain ⟨oc, of_, os⟩ := id hO; have c0 := cell_up' hB2 C0.out))
    by_cases hm : (ks2.length : Int) ≤ 32
    · have hmin : min (ks2.length : Int) 32 = (ks2.length : Int) := by omega
      have hRP := hid (fun W => rep_any ks2.length W (by omega))
      obtain ⟨kn2, hkn2⟩ : ∃ l, l = List.replicate ks2.length (110 : UInt8) := ⟨_, rfl⟩
      rw [← hkn2] at hRP
      have hsz2 := st_size kn2
      have hkl2 : kn2.length = ks2.length := by rw [hkn2]; simp
      have HK2 := hid hkl2
      have HKV := hid (show ∀ i, i < ks2.length → kn2.getD i 0 = 110 from fun i hi => by rw [hkn2]; simp [List.getD, hi])
      have bl : ((ks2.length : Int) != (kn2.length : Int)) = false := by rw [hkl2]; simp
      clear hkn2 hkl2
      by_cases h0 : (ks2.length : Int) > 0
      · clear c0 oc of_ os hO
        go_wp2_with (first | (go_at_call 38; refine (hRP.out _).mono ?_; rintro e w3 ⟨rfl, hb3⟩; have hB3 := hB2.trans (hb3.mono hB2.size)))
        go_loopw [53, 7] (fun s53 _ wr => ∃ i : Nat, s53 = .int .i64 i ∧ i ≤ ks2.length ∧ (∀ j (h2 : j < ks2.length), j < i → fitK 110 ks2[j] = true) ∧ Below w.heap.size w wr) (fun s53 _ _ => ks2.length - (intOf s53).toNat)
        case atStart => exact ⟨0, rfl, Nat.zero_le _, fun j _ h => absurd h (Nat.not_lt_zero _), hB3⟩
        case round =>
          obtain ⟨i, rfl, hi, hbef, hB⟩ := hrel
          have HB := hid hbef
          clear hbef
          by_cases hlt : i < ks2.length
          · have hz : (i : Int) < (ks2.length : Int) := by omega
            have hSw := hS2.up hB
            obtain ⟨g', off', hao, hcell⟩ := hSw.some (by omega)
            injection hao with hao
            injection hao with e1 e2
            subst e1 e2
            have hCi : i < C2.length := by have := All2.len hC2; omega
            have l2 := hcell i hCi
            have hv5 := All2.at hC2 i hCi hlt
            generalize hce : C2[i]'hCi = ci at l2 hv5
            obtain ⟨⟨p1, p2, p3, p4, p5, p6, p7, p8, p9, p10, p11, rfl⟩, hkd⟩ := hv5
            have hkd : p1 = ks2[i] := by simpa using hkd
            have c0 := l2 0 _ rfl
            have c1 := l2 1 _ rfl
            have c2 := l2 2 _ rfl
            have c3 := l2 3 _ rfl
            have c4 := l2 4 _ rfl
            rw [Nat.add_zero] at c0
            have hkl : i < kn2.length := by have := HK2.out; omega
            have hidx := fun w => st_at kn2 i hkl Tryz.prog 9 Tryz.underlying9 w
            rw [HKV.out i hlt] at hidx
            have hFO := hid (fun W => fits_one 110 p1 p2 (.slice p3 p6 p7) (.slice p4 p8 p9) (.slice p5 p10 p11) W)
            have hFK := hid (show fitK 110 p1 = fitK 110 ks2[i] by rw [hkd])
            clear l2 hcell hce hkd hSw
            obtain ⟨cc, hcc⟩ : ∃ cc, cc = c8 110 := ⟨_, rfl⟩
            rw [← hcc] at hidx hFO
            clear hcc
            cases hfk : fitK 110 ks2[i] with
            | true =>
              rw [hfk] at hFK
              rw [hFK.out] at hFO
              have HFK := hid hfk
              clear hFK hfk
              go_upto_region 13 with fail
              have HSX := hid (show ∀ w', Below wr.heap.size wr w' → w'.cell? ⟨g, off + i * 5, none⟩ = some (.int .i64 p1) ∧ w'.cell? ⟨g, off + i * 5 + 1, none⟩ = some (.int .i64 p2) ∧ w'.cell? ⟨g, off + i * 5 + 2, none⟩ = some (.slice p3 p6 p7) ∧ w'.cell? ⟨g, off + i * 5 + 3, none⟩ = some (.slice p4 p8 p9) ∧ w'.cell? ⟨g, off + i * 5 + 4, none⟩ = some (.slice p5 p10 p11) from fun X hX => ⟨cell_up' hX c0, cell_up' hX c1, cell_up' hX c2, cell_up' hX c3, cell_up' hX c4⟩)
              go_region_held3 (fun w' => w'.cell? ⟨g, off + i * 5, none⟩ = some (.int .i64 p1) ∧ w'.cell? ⟨g, off + i * 5 + 1, none⟩ = some (.int .i64 p2) ∧ w'.cell? ⟨g, off + i * 5 + 2, none⟩ = some (.slice p3 p6 p7) ∧ w'.cell? ⟨g, off + i * 5 + 3, none⟩ = some (.slice p4 p8 p9) ∧ w'.cell? ⟨g, off + i * 5 + 4, none⟩ = some (.slice p5 p10 p11)) (first | go_keep | exact HSX.out _ (Below.refl _ _) | exact HSX.out _ (below_drewN (Below.refl _ _) 1) | exact HSX.out _ (by assumption) | skip) (first | (go_at_call 39; refine (hFO.out _).mono ?_; rintro e w5 ⟨rfl, hb5⟩; have hb6 : Below wr.heap.size wr w5 := ((below_drewN (Below.refl _ _) _).trans hb5)))
              all_goals
                go_wp2_with fail
                go_roundw
                case rel => exact ⟨i + 1, by go_num, by omega, fun j h2 h3 => by
                  rcases Nat.lt_or_ge j i with q | q
                  · exact HB.out j h2 q
                  · obtain rfl : j = i := by omega
                    exact HFK.out, hB.trans (hb6.mono hB.size)⟩
                case measure => simp [intOf]; omega
            | false =>
              rw [hfk] at hFK
              rw [hFK.out] at hFO
              have HFN := hid (fitS_no HST.out hlt hfk)
              clear hFK hfk
              go_upto_region 13 with fail
              have HSX := hid (show ∀ w', Below wr.heap.size wr w' → w'.cell? ⟨g, off + i * 5, none⟩ = some (.int .i64 p1) ∧ w'.cell? ⟨g, off + i * 5 + 1, none⟩ = some (.int .i64 p2) ∧ w'.cell? ⟨g, off + i * 5 + 2, none⟩ = some (.slice p3 p6 p7) ∧ w'.cell? ⟨g, off + i * 5 + 3, none⟩ = some (.slice p4 p8 p9) ∧ w'.cell? ⟨g, off + i * 5 + 4, none⟩ = some (.slice p5 p10 p11) from fun X hX => ⟨cell_up' hX c0, cell_up' hX c1, cell_up' hX c2, cell_up' hX c3, cell_up' hX c4⟩)
              go_region_held3 (fun w' => w'.cell? ⟨g, off + i * 5, none⟩ = some (.int .i64 p1) ∧ w'.cell? ⟨g, off + i * 5 + 1, none⟩ = some (.int .i64 p2) ∧ w'.cell? ⟨g, off + i * 5 + 2, none⟩ = some (.slice p3 p6 p7) ∧ w'.cell? ⟨g, off + i * 5 + 3, none⟩ = some (.slice p4 p8 p9) ∧ w'.cell? ⟨g, off + i * 5 + 4, none⟩ = some (.slice p5 p10 p11)) (first | go_keep | exact HSX.out _ (Below.refl _ _) | exact HSX.out _ (below_drewN (Below.refl _ _) 1) | exact HSX.out _ (by assumption) | skip) (first | (go_at_call 39; refine (hFO.out _).mono ?_; rintro e w5 ⟨rfl, hb5⟩; have hb6 : Below wr.heap.size wr w5 := ((below_drewN (Below.refl _ _) _).trans hb5)))
              all_goals
                go_wp2_with fail
                go_ret
                exact ⟨by rw [HFN.out]; rfl, hB.trans (hb6.mono hB.size)⟩
          · obtain rfl : i = ks2.length := by omega
            have hz : ¬ (ks2.length : Int) < (ks2.length : Int) := by omega
            have HF := hid (fitS_yes HST.out (by omega) (by omega) (fun j hj => HB.out j hj hj))
            go_wp2
            go_ret
            exact ⟨by rw [HF.out]; rfl, hB⟩
      · have HF := hid (fitS_few HST.out (by omega))
        go_wp2_with (first | (go_at_call 38; refine (hRP.out _).mono ?_; rintro e w3 ⟨rfl, hb3⟩; have hB3 := hB2.trans (hb3.mono hB2.size)))
        go_ret
        exact ⟨by rw [HF.out]; rfl, hB3⟩
    · have hmin : min (ks2.length : Int) 32 = 32 := by omega
      have HF := hid (fitS_many HST.out (by omega))
      have hRP := hid (fun W => rep_any 32 W (by omega))
      obtain ⟨kn2, hkn2⟩ : ∃ l, l = List.replicate 32 (110 : UInt8) := ⟨_, rfl⟩
      rw [← hkn2] at hRP
      have hsz2 := st_size kn2
      have hkl2 : kn2.length = 32 := by rw [hkn2]; simp
      have bl : ((ks2.length : Int) != (kn2.length : Int)) = true := by rw [hkl2]; simp; omega
      have h0 : (ks2.length : Int) > 0 := by omega
      clear hkn2 hkl2
      go_wp2_with (first | (go_at_call 38; refine (hRP.out _).mono ?_; rintro e w3 ⟨rfl, hb3⟩; have hB3 := hB2.trans (hb3.mono hB2.size)))
      go_ret
      exact ⟨by rw [HF.out]; rfl, hB3⟩
  · have HST := hid (show starL ks = ks from by rw [hks]; exact starL_else ks2 p1 z5)
    have b5 : (p1 == 5) = false := by simp [z5]
    clear hks hkl z5
    go_enter Tryz.func13, Tryz.ntmps13
    go_upto_region 7 with (first | (go_at_call 10; refine hKI.out.mono ?_; rintro e w2 ⟨rfl, hb2⟩; have hO := (C5.new w _ rfl [.string (st name), .slice (some ⟨g, off, none⟩) ks.length capa, vd, .int .i64 at_] 34).up hb2; have hB2 := below_then (alb w (.cells #[.string (st name), .slice (some ⟨g, off, none⟩) ks.length capa, vd, .int .i64 at_] 34)) hb2; obtain ⟨oc, of_, os⟩ := id hO; have c0 := cell_up' hB2 C0.out))
    by_cases hm : (ks.length : Int) ≤ 32
    · have hmin : min (ks.length : Int) 32 = (ks.length : Int) := by omega
      have hRP := hid (fun W => rep_any ks.length W (by omega))
      obtain ⟨kn2, hkn2⟩ : ∃ l, l = List.replicate ks.length (110 : UInt8) := ⟨_, rfl⟩
      rw [← hkn2] at hRP
      have hsz2 := st_size kn2
      have hkl2 : kn2.length = ks.length := by rw [hkn2]; simp
      have HK2 := hid hkl2
      have HKV := hid (show ∀ i, i < ks.length → kn2.getD i 0 = 110 from fun i hi => by rw [hkn2]; simp [List.getD, hi])
      have bl : ((ks.length : Int) != (kn2.length : Int)) = false := by rw [hkl2]; simp
      clear hkn2 hkl2
      by_cases h0 : (ks.length : Int) > 0
      · clear c0 oc of_ os hO
        go_wp2_with (first | (go_at_call 38; refine (hRP.out _).mono ?_; rintro e w3 ⟨rfl, hb3⟩; have hB3 := hB2.trans (hb3.mono hB2.size)))
        go_loopw [53, 7] (fun s53 _ wr => ∃ i : Nat, s53 = .int .i64 i ∧ i ≤ ks.length ∧ (∀ j (h2 : j < ks.length), j < i → fitK 110 ks[j] = true) ∧ Below w.heap.size w wr) (fun s53 _ _ => ks.length - (intOf s53).toNat)
        case atStart => exact ⟨0, rfl, Nat.zero_le _, fun j _ h => absurd h (Nat.not_lt_zero _), hB3⟩
        case round =>
          obtain ⟨i, rfl, hi, hbef, hB⟩ := hrel
          have HB := hid hbef
          clear hbef
          by_cases hlt : i < ks.length
          · have hz : (i : Int) < (ks.length : Int) := by omega
            have hSw := hS.up hB
            obtain ⟨g', off', hao, hcell⟩ := hSw.some (by omega)
            injection hao with hao
            injection hao with e1 e2
            subst e1 e2
            have hCi : i < C.length := by have := All2.len hC; omega
            have l2 := hcell i hCi
            have hv5 := All2.at hC i hCi hlt
            generalize hce : C[i]'hCi = ci at l2 hv5
            obtain ⟨⟨p1, p2, p3, p4, p5, p6, p7, p8, p9, p10, p11, rfl⟩, hkd⟩ := hv5
            have hkd : p1 = ks[i] := by simpa using hkd
            have c0 := l2 0 _ rfl
            have c1 := l2 1 _ rfl
            have c2 := l2 2 _ rfl
            have c3 := l2 3 _ rfl
            have c4 := l2 4 _ rfl
            rw [Nat.add_zero] at c0
            have hkl : i < kn2.length := by have := HK2.out; omega
            have hidx := fun w => st_at kn2 i hkl Tryz.prog 9 Tryz.underlying9 w
            rw [HKV.out i hlt] at hidx
            have hFO := hid (fun W => fits_one 110 p1 p2 (.slice p3 p6 p7) (.slice p4 p8 p9) (.slice p5 p10 p11) W)
            have hFK := hid (show fitK 110 p1 = fitK 110 ks[i] by rw [hkd])
            clear l2 hcell hce hkd hSw
            obtain ⟨cc, hcc⟩ : ∃ cc, cc = c8 110 := ⟨_, rfl⟩
            rw [← hcc] at hidx hFO
            clear hcc
            cases hfk : fitK 110 ks[i] with
            | true =>
              rw [hfk] at hFK
              rw [hFK.out] at hFO
              have HFK := hid hfk
              clear hFK hfk
              go_upto_region 13 with fail
              have HSX := hid (show ∀ w', Below wr.heap.size wr w' → w'.cell? ⟨g, off + i * 5, none⟩ = some (.int .i64 p1) ∧ w'.cell? ⟨g, off + i * 5 + 1, none⟩ = some (.int .i64 p2) ∧ w'.cell? ⟨g, off + i * 5 + 2, none⟩ = some (.slice p3 p6 p7) ∧ w'.cell? ⟨g, off + i * 5 + 3, none⟩ = some (.slice p4 p8 p9) ∧ w'.cell? ⟨g, off + i * 5 + 4, none⟩ = some (.slice p5 p10 p11) from fun X hX => ⟨cell_up' hX c0, cell_up' hX c1, cell_up' hX c2, cell_up' hX c3, cell_up' hX c4⟩)
              go_region_held3 (fun w' => w'.cell? ⟨g, off + i * 5, none⟩ = some (.int .i64 p1) ∧ w'.cell? ⟨g, off + i * 5 + 1, none⟩ = some (.int .i64 p2) ∧ w'.cell? ⟨g, off + i * 5 + 2, none⟩ = some (.slice p3 p6 p7) ∧ w'.cell? ⟨g, off + i * 5 + 3, none⟩ = some (.slice p4 p8 p9) ∧ w'.cell? ⟨g, off + i * 5 + 4, none⟩ = some (.slice p5 p10 p11)) (first | go_keep | exact HSX.out _ (Below.refl _ _) | exact HSX.out _ (below_drewN (Below.refl _ _) 1) | exact HSX.out _ (by assumption) | skip) (first | (go_at_call 39; refine (hFO.out _).mono ?_; rintro e w5 ⟨rfl, hb5⟩; have hb6 : Below wr.heap.size wr w5 := ((below_drewN (Below.refl _ _) _).trans hb5)))
              all_goals
                go_wp2_with fail
                go_roundw
                case rel => exact ⟨i + 1, by go_num, by omega, fun j h2 h3 => by
                  rcases Nat.lt_or_ge j i with q | q
                  · exact HB.out j h2 q
                  · obtain rfl : j = i := by omega
                    exact HFK.out, hB.trans (hb6.mono hB.size)⟩
                case measure => simp [intOf]; omega
            | false =>
              rw [hfk] at hFK
              rw [hFK.out] at hFO
              have HFN := hid (fitS_no HST.out hlt hfk)
              clear hFK hfk
              go_upto_region 13 with fail
              have HSX := hid (show ∀ w', Below wr.heap.size wr w' → w'.cell? ⟨g, off + i * 5, none⟩ = some (.int .i64 p1) ∧ w'.cell? ⟨g, off + i * 5 + 1, none⟩ = some (.int .i64 p2) ∧ w'.cell? ⟨g, off + i * 5 + 2, none⟩ = some (.slice p3 p6 p7) ∧ w'.cell? ⟨g, off + i * 5 + 3, none⟩ = some (.slice p4 p8 p9) ∧ w'.cell? ⟨g, off + i * 5 + 4, none⟩ = some (.slice p5 p10 p11) from fun X hX => ⟨cell_up' hX c0, cell_up' hX c1, cell_up' hX c2, cell_up' hX c3, cell_up' hX c4⟩)
              go_region_held3 (fun w' => w'.cell? ⟨g, off + i * 5, none⟩ = some (.int .i64 p1) ∧ w'.cell? ⟨g, off + i * 5 + 1, none⟩ = some (.int .i64 p2) ∧ w'.cell? ⟨g, off + i * 5 + 2, none⟩ = some (.slice p3 p6 p7) ∧ w'.cell? ⟨g, off + i * 5 + 3, none⟩ = some (.slice p4 p8 p9) ∧ w'.cell? ⟨g, off + i * 5 + 4, none⟩ = some (.slice p5 p10 p11)) (first | go_keep | exact HSX.out _ (Below.refl _ _) | exact HSX.out _ (below_drewN (Below.refl _ _) 1) | exact HSX.out _ (by assumption) | skip) (first | (go_at_call 39; refine (hFO.out _).mono ?_; rintro e w5 ⟨rfl, hb5⟩; have hb6 : Below wr.heap.size wr w5 := ((below_drewN (Below.refl _ _) _).trans hb5)))
              all_goals
                go_wp2_with fail
                go_ret
                exact ⟨by rw [HFN.out]; rfl, hB.trans (hb6.mono hB.size)⟩
          · obtain rfl : i = ks.length := by omega
            have hz : ¬ (ks.length : Int) < (ks.length : Int) := by omega
            have HF := hid (fitS_yes HST.out (by omega) (by omega) (fun j hj => HB.out j hj hj))
            go_wp2
            go_ret
            exact ⟨by rw [HF.out]; rfl, hB⟩
      · exact absurd hn0 h0
    · have hmin : min (ks.length : Int) 32 = 32 := by omega
      have HF := hid (fitS_many HST.out (by omega))
      have hRP := hid (fun W => rep_any 32 W (by omega))
      obtain ⟨kn2, hkn2⟩ : ∃ l, l = List.replicate 32 (110 : UInt8) := ⟨_, rfl⟩
      rw [← hkn2] at hRP
      have hsz2 := st_size kn2
      have hkl2 : kn2.length = 32 := by rw [hkn2]; simp
      have bl : ((ks.length : Int) != (kn2.length : Int)) = true := by rw [hkl2]; simp; omega
      have h0 : (ks.length : Int) > 0 := by omega
      clear hkn2 hkl2
      go_wp2_with (first | (go_at_call 38; refine (hRP.out _).mono ?_; rintro e w3 ⟨rfl, hb3⟩; have hB3 := hB2.trans (hb3.mono hB2.size)))
      go_ret
      exact ⟨by rw [HF.out]; rfl, hB3⟩
end Go.Proofs.YtlmgklebikcbjaaGreatDoor
