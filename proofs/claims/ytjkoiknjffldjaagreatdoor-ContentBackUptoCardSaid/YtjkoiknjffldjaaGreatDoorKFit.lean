/-
  The program's Fits: whether an operator has such operands as it asks for, where these are not of whatever kind. Condition: the table of white signs reads as the library lays it.
-/
import Derived.Test.YtjkoiknjffldjaaGreatDoorKKin
/-
  The program's Fits: whether an operator has such operands as it asks for, where these are not of whatever kind. Condition: the table of white signs reads as the library lays it.
-/
namespace Go.Proofs.YtjkoiknjffldjaaGreatDoor
open Go.RowKit
set_option linter.unusedVariables false

/-- is an operand of a kind? -/
def fitK (c : UInt8) (k : Int) : Bool :=
  if c = 110 then (k == 2) || (k == 3) else if c = 105 then k == 2 else if c = 78 then k == 5 else if c = 115 then k == 4 else if c = 97 then k == 6 else if c = 100 then (k == 7) || (k == 5) else k == 7
def fitL : List UInt8 → List Int → Bool
  | [], [] => true
  | c :: cs, k :: ks => fitK c k && fitL cs ks
  | _, _ => false
theorem fitL_all : ∀ (cs : List UInt8) (ks : List Int) (h : ks.length = cs.length), (∀ i (h1 : i < cs.length) (h2 : i < ks.length), fitK cs[i] ks[i] = true) → fitL cs ks = true
  | [], [], _, _ => rfl
  | c :: cs, k :: ks, h, q => by
    have q0 := q 0 (by simp) (by simp)
    have ih := fitL_all cs ks (by simpa using h) (fun i h1 h2 => q (i + 1) (by simpa using h1) (by simpa using h2))
    rw [fitL, ih]
    simpa using q0
  | [], k :: ks, h, _ => by simp at h
  | c :: cs, [], h, _ => by simp at h
theorem fitL_no : ∀ (cs : List UInt8) (ks : List Int) (i : Nat) (h1 : i < cs.length) (h2 : i < ks.length), fitK cs[i] ks[i] = false → fitL cs ks = false
  | [], _, i, h1, _, _ => by simp at h1
  | c :: cs, [], i, _, h2, _ => by simp at h2
  | c :: cs, k :: ks, 0, _, _, h => by
    rw [fitL]
    have h : fitK c k = false := h
    rw [h]; rfl
  | c :: cs, k :: ks, i + 1, h1, h2, h => by
    rw [fitL, fitL_no cs ks i (by simpa using h1) (by simpa using h2) (by simpa using h)]
    simp
theorem fitL_len : ∀ (cs : List UInt8) (ks : List Int), ¬ ks.length = cs.length → fitL cs ks = false
  | [], [], h => absurd rfl h
  | c :: cs, k :: ks, h => by
    rw [fitL, fitL_len cs ks (fun q => h (by simp [q]))]
    simp
  | [], k :: ks, _ => rfl
  | c :: cs, [], _ => rfl
/-- a row of objects of these kinds -/
def KR (w : World) (v : Value) (ks : List Int) : Prop := ∃ C : List (List Value), SlX 5 w v C ∧ All2 (fun c k => V5 c ∧ c.head? = some (.int .i64 k)) C ks
theorem KR.up {w w' : World} {v : Value} {ks : List Int} (h : KR w v ks) (hb : Below w.heap.size w w') : KR w' v ks := by
  obtain ⟨C, h1, h2⟩ := h
  exact ⟨C, h1.up hb, h2⟩
theorem OV.kind1 {A : Nat → Prop} {w : World} {c : List Value} {o : PO} (h : OV A w c o) : c.head? = some (.int .i64 o.kind) := by cases h; rfl
theorem AR.kr {A : Nat → Prop} {w : World} {v : Value} {l : List PO} (h : AR A w v l) : KR w v (l.map PO.kind) := by
  obtain ⟨C, h1, h2⟩ := h
  refine ⟨C, (h1.slx C (All2.len h2) (fun i hi => by simp [List.getD, hi])).1, ?_⟩
  clear h1
  unfold OVs at h2
  induction h2 with
  | nil => exact .nil
  | cons h _ ih => exact .cons ⟨h.v5, h.kind1⟩ ih

set_option maxHeartbeats 1600000 in
set_option maxRecDepth 100000 in
theorem fits_one (c : UInt8) (k n : Int) (vb vl vd : Value) (w : World) :
    Calls Tryz.prog 29 #[.int .u8 (c8 c), .agg #[.int .i64 k, .int .i64 n, vb, vl, vd]] w fun e w' => e = .returned (.bool (fitK c k)) ∧ Below w.heap.size w w' := by
  have hc : ∀ x : UInt8, (c8 c == c8 x) = decide (c = x) := fun x => by
    have h1 : (c8 c = c8 x) ↔ c = x := by
      constructor
      · intro h
        have h2 : (c.toNat : Int) = (x.toNat : Int) := h
        exact UInt8.toNat_inj.1 (by omega)
      · intro h; rw [h]
    by_cases q : c = x
    · rw [decide_eq_true q]; simp [h1.2 q]
    · rw [decide_eq_false q]; simp; exact fun z => q (h1.1 z)
  have p110 : (c8 c == 110) = decide (c = 110) := hc 110
  have p105 : (c8 c == 105) = decide (c = 105) := hc 105
  have p78 : (c8 c == 78) = decide (c = 78) := hc 78
  have p115 : (c8 c == 115) = decide (c = 115) := hc 115
  have p97 : (c8 c == 97) = decide (c = 97) := hc 97
  have p100 : (c8 c == 100) = decide (c = 100) := hc 100
  clear hc
  generalize hx : c8 c = x at *
  unfold fitK
  by_cases h1 : c = 110
  · rw [decide_eq_true h1] at p110
    rw [if_pos h1]
    clear p105 p78 p115 p97 p100
    cases b2 : (k == 2) <;> cases b3 : (k == 3)
    all_goals
      go_enter Tryz.func29, Tryz.ntmps29
      go_wp2
      go_ret
      exact ⟨rfl, alb _ _⟩
  rw [decide_eq_false h1] at p110
  rw [if_neg h1]
  by_cases h2 : c = 105
  · rw [decide_eq_true h2] at p105
    rw [if_pos h2]
    clear p78 p115 p97 p100
    go_enter Tryz.func29, Tryz.ntmps29
    go_wp2
    go_ret
    exact ⟨rfl, alb _ _⟩
  rw [decide_eq_false h2] at p105
  rw [if_neg h2]
  by_cases h3 : c = 78
  · rw [decide_eq_true h3] at p78
    rw [if_pos h3]
    clear p115 p97 p100
    go_enter Tryz.func29, Tryz.ntmps29
    go_wp2
    go_ret
    exact ⟨rfl, alb _ _⟩
  rw [decide_eq_false h3] at p78
  rw [if_neg h3]
  by_cases h4 : c = 115
  · rw [decide_eq_true h4] at p115
    rw [if_pos h4]
    clear p97 p100
    go_enter Tryz.func29, Tryz.ntmps29
    go_wp2
    go_ret
    exact ⟨rfl, alb _ _⟩
  rw [decide_eq_false h4] at p115
  rw [if_neg h4]
  by_cases h5 : c = 97
  · rw [decide_eq_true h5] at p97
    rw [if_pos h5]
    clear p100
    go_enter Tryz.func29, Tryz.ntmps29
    go_wp2
    go_ret
    exact ⟨rfl, alb _ _⟩
  rw [decide_eq_false h5] at p97
  rw [if_neg h5]
  by_cases h6 : c = 100
  · rw [decide_eq_true h6] at p100
    rw [if_pos h6]
    cases b2 : (k == 7) <;> cases b3 : (k == 5)
    all_goals
      go_enter Tryz.func29, Tryz.ntmps29
      go_wp2
      go_ret
      exact ⟨rfl, alb _ _⟩
  rw [decide_eq_false h6] at p100
  rw [if_neg h6]
  go_enter Tryz.func29, Tryz.ntmps29
  go_wp2
  go_ret
  exact ⟨rfl, alb _ _⟩

set_option maxHeartbeats 3200000 in
set_option maxRecDepth 100000 in
theorem fits_plain (name : List UInt8) (va vd : Value) (at_ : Int) (ks : List Int) (w : World) (htab : Lib.TabIs Tryz.prog w "strings.asciiSpace" .u8 Lib.asciiSpaceTab) (hK : KR w va ks) (hn : ¬ kinds name = [42]) :
    Calls Tryz.prog 16 #[.agg #[.string (st name), va, vd, .int .i64 at_]] w fun e w' => e = .returned (.bool ((kindOf name).isSome && fitL (kinds name) ks)) ∧ Below w.heap.size w w' := by
  obtain ⟨C, hS, hC⟩ := hK
  have hCl := All2.len hC
  obtain ⟨aoa, capa, rfl, hle, hmx, -⟩ := id hS
  have hkb : ks.length ≤ 9223372036854775807 := by unfold maxLen at hmx; omega
  clear hle hmx
  rw [hCl] at hS ⊢
  have hq : (kinds name == [42]) = false := by simp only [beq_eq_false_iff_ne]; exact hn
  have hst := st_toList (kinds name)
  have hKI := hid (kinds_any name (w.alloc (.cells #[.string (st name), .slice aoa ks.length capa, vd, .int .i64 at_] 51)) (tab_up htab (alb w _)))
  have hsz := st_size (kinds name)
  generalize hkn : kinds name = kn at *
  generalize hok : (kindOf name).isSome = ok at *
  go_enter Tryz.func16, Tryz.ntmps16
  cases ok with
  | false =>
    go_wp2_with (go_at_call 27; refine hKI.out.mono ?_; rintro e w2 ⟨rfl, hb2⟩; have hO := (C5.new w _ rfl [.string (st name), .slice aoa ks.length capa, vd, .int .i64 at_] 51).up hb2; have hB2 := below_then (alb w (.cells #[.string (st name), .slice aoa ks.length capa, vd, .int .i64 at_] 51)) hb2; obtain ⟨oc, of_, os⟩ := id hO)
    go_ret
    exact ⟨rfl, hB2⟩
  | true =>
    by_cases hl : ks.length = kn.length
    · have bl : ((ks.length : Int) != (kn.length : Int)) = false := by rw [hl]; simp
      have HL := hid hl
      clear hl
      go_wp2_with (go_at_call 27; refine hKI.out.mono ?_; rintro e w2 ⟨rfl, hb2⟩; have hO := (C5.new w _ rfl [.string (st name), .slice aoa ks.length capa, vd, .int .i64 at_] 51).up hb2; have hB2 := below_then (alb w (.cells #[.string (st name), .slice aoa ks.length capa, vd, .int .i64 at_] 51)) hb2; obtain ⟨oc, of_, os⟩ := id hO)
      go_loopw [53, 7] (fun s53 _ wr => ∃ i : Nat, s53 = .int .i64 i ∧ i ≤ ks.length ∧ (∀ j (h1 : j < kn.length) (h2 : j < ks.length), j < i → fitK kn[j] ks[j] = true) ∧ Below w.heap.size w wr) (fun s53 _ _ => ks.length - (intOf s53).toNat)
      case atStart => exact ⟨0, rfl, Nat.zero_le _, fun j _ _ h => absurd h (Nat.not_lt_zero _), hB2⟩
      case round =>
        obtain ⟨i, rfl, hi, hbef, hB⟩ := hrel
        have HB := hid hbef
        clear hbef
        by_cases hlt : i < ks.length
        · have hz : (i : Int) < (ks.length : Int) := by omega
          have hSw := hS.up hB
          obtain ⟨g, off, rfl, hcell⟩ := hSw.some (by omega)
          have hCi : i < C.length := by omega
          have l2 := hcell i hCi
          have hv5 := All2.at hC i hCi hlt
          generalize hce : C[i]'hCi = ci at l2 hv5
          obtain ⟨⟨p1, p2, p3, p4, p5, p6, p7, p8, p9, p10, p11, rfl⟩, hkd⟩ := hv5
          have hkd : p1 = ks[i] := by simpa using hkd
          have c0 := l2 0 _ rfl
          have c1 := l2 1 _ rfl
          have c2 := l2 2 _ rfl
          have c3 := l2 3 _ rfl
          have c4 := l2 4 _ rfl
          rw [Nat.add_zero] at c0
          have hkl : i < kn.length := by have := HL.out; omega
          have hidx := fun w => st_at kn i hkl Tryz.prog 9 Tryz.underlying9 w
          have hgd : kn.getD i 0 = kn[i] := by simp [List.getD, hkl]
          rw [hgd] at hidx
          have hFO := hid (fun W => fits_one kn[i] p1 p2 (.slice p3 p6 p7) (.slice p4 p8 p9) (.slice p5 p10 p11) W)
          have hFK := hid (show fitK kn[i] p1 = fitK kn[i] ks[i] by rw [hkd])
          clear l2 hcell hce hkd hgd hSw
          obtain ⟨cc, hcc⟩ : ∃ cc, cc = c8 kn[i] := ⟨_, rfl⟩
          rw [← hcc] at hidx hFO
          clear hcc
          cases hfk : fitK kn[i] ks[i] with
          | true =>
            rw [hfk] at hFK
            rw [hFK.out] at hFO
            have HFK := hid hfk
            clear hFK hfk
            go_upto_region 13 with fail
            have HS := hid (show ∀ w', Below wr.heap.size wr w' → w'.cell? ⟨g, off + i * 5, none⟩ = some (.int .i64 p1) ∧ w'.cell? ⟨g, off + i * 5 + 1, none⟩ = some (.int .i64 p2) ∧ w'.cell? ⟨g, off + i * 5 + 2, none⟩ = some (.slice p3 p6 p7) ∧ w'.cell? ⟨g, off + i * 5 + 3, none⟩ = some (.slice p4 p8 p9) ∧ w'.cell? ⟨g, off + i * 5 + 4, none⟩ = some (.slice p5 p10 p11) from fun X hX => ⟨cell_up' hX c0, cell_up' hX c1, cell_up' hX c2, cell_up' hX c3, cell_up' hX c4⟩)
            go_region_held3 (fun w' => w'.cell? ⟨g, off + i * 5, none⟩ = some (.int .i64 p1) ∧ w'.cell? ⟨g, off + i * 5 + 1, none⟩ = some (.int .i64 p2) ∧ w'.cell? ⟨g, off + i * 5 + 2, none⟩ = some (.slice p3 p6 p7) ∧ w'.cell? ⟨g, off + i * 5 + 3, none⟩ = some (.slice p4 p8 p9) ∧ w'.cell? ⟨g, off + i * 5 + 4, none⟩ = some (.slice p5 p10 p11)) (first | go_keep | exact HS.out _ (Below.refl _ _) | exact HS.out _ (below_drewN (Below.refl _ _) 1) | exact HS.out _ (by assumption) | skip) (first | (go_at_call 29; refine (hFO.out _).mono ?_; rintro e w5 ⟨rfl, hb5⟩; have hb6 : Below wr.heap.size wr w5 := ((below_drewN (Below.refl _ _) _).trans hb5)))
            all_goals
              go_wp2_with fail
              go_roundw
              case rel => exact ⟨i + 1, by go_num, by omega, fun j h1 h2 h3 => by
                rcases Nat.lt_or_ge j i with q | q
                · exact HB.out j h1 h2 q
                · obtain rfl : j = i := by omega
                  exact HFK.out, hB.trans (hb6.mono hB.size)⟩
              case measure => simp [intOf]; omega
          | false =>
            rw [hfk] at hFK
            rw [hFK.out] at hFO
            have HFN := hid (fitL_no kn ks i hkl hlt hfk)
            clear hFK hfk
            go_upto_region 13 with fail
            have HS := hid (show ∀ w', Below wr.heap.size wr w' → w'.cell? ⟨g, off + i * 5, none⟩ = some (.int .i64 p1) ∧ w'.cell? ⟨g, off + i * 5 + 1, none⟩ = some (.int .i64 p2) ∧ w'.cell? ⟨g, off + i * 5 + 2, none⟩ = some (.slice p3 p6 p7) ∧ w'.cell? ⟨g, off + i * 5 + 3, none⟩ = some (.slice p4 p8 p9) ∧ w'.cell? ⟨g, off + i * 5 + 4, none⟩ = some (.slice p5 p10 p11) from fun X hX => ⟨cell_up' hX c0, cell_up' hX c1, cell_up' hX c2, cell_up' hX c3, cell_up' hX c4⟩)
            go_region_held3 (fun w' => w'.cell? ⟨g, off + i * 5, none⟩ = some (.int .i64 p1) ∧ w'.cell? ⟨g, off + i * 5 + 1, none⟩ = some (.int .i64 p2) ∧ w'.cell? ⟨g, off + i * 5 + 2, none⟩ = some (.slice p3 p6 p7) ∧ w'.cell? ⟨g, off + i * 5 + 3, none⟩ = some (.slice p4 p8 p9) ∧ w'.cell? ⟨g, off + i * 5 + 4, none⟩ = some (.slice p5 p10 p11)) (first | go_keep | exact HS.out _ (Below.refl _ _) | exact HS.out _ (below_drewN (Below.refl _ _) 1) | exact HS.out _ (by assumption) | skip) (first | (go_at_call 29; refine (hFO.out _).mono ?_; rintro e w5 ⟨rfl, hb5⟩; have hb6 : Below wr.heap.size wr w5 := ((below_drewN (Below.refl _ _) _).trans hb5)))
            all_goals
              go_wp2_with fail
              go_ret
              exact ⟨by rw [HFN.out]; rfl, hB.trans (hb6.mono hB.size)⟩
        · obtain rfl : i = ks.length := by omega
          have hz : ¬ (ks.length : Int) < (ks.length : Int) := by omega
          have HF := hid (fitL_all kn ks HL.out (fun j h1 h2 => HB.out j h1 h2 h2))
          go_wp2
          go_ret
          exact ⟨by rw [HF.out]; rfl, hB⟩
    · have bl : ((ks.length : Int) != (kn.length : Int)) = true := by simp; omega
      have HF := hid (fitL_len kn ks hl)
      clear hl
      go_wp2_with (go_at_call 27; refine hKI.out.mono ?_; rintro e w2 ⟨rfl, hb2⟩; have hO := (C5.new w _ rfl [.string (st name), .slice aoa ks.length capa, vd, .int .i64 at_] 51).up hb2; have hB2 := below_then (alb w (.cells #[.string (st name), .slice aoa ks.length capa, vd, .int .i64 at_] 51)) hb2; obtain ⟨oc, of_, os⟩ := id hO)
      go_ret
      exact ⟨by rw [HF.out]; rfl, hB2⟩
end Go.Proofs.YtjkoiknjffldjaaGreatDoor
