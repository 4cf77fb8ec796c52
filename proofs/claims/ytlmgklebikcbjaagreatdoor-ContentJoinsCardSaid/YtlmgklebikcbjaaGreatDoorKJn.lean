/-
  ContentJoins: two contents with an end of line between have the operators of both; the walk. Condition: the table of white signs reads as the library lays it.
-/
import Derived.Test.YtlmgklebikcbjaaGreatDoorKCrd
import Derived.Test.YtlmgklebikcbjaaGreatDoorKJnL
/-
  ContentJoins: two contents with an end of line between have the operators of both; the walk. Condition: the table of white signs reads as the library lays it.
-/
namespace Go.Proofs.YtlmgklebikcbjaaGreatDoor
open Go.RowKit
set_option linter.unusedVariables false

theorem flatX_put {sz : Nat} (j : Nat) (hj : j < sz) (u : Value) : ∀ (C : List (List Value)) (i : Nat), (∀ c ∈ C, c.length = sz) → (hi : i < C.length) → (flatX C).set (i * sz + j) u = flatX (C.set i ((C[i]).set j u))
  | [], i, _, hi => absurd hi (by simp)
  | c :: C, 0, h, hi => by
    have hc := h c (List.mem_cons_self ..)
    show (c ++ flatX C).set (0 * sz + j) u = c.set j u ++ flatX C
    rw [Nat.zero_mul, Nat.zero_add, List.set_append_left _ _ (by omega)]
  | c :: C, i + 1, h, hi => by
    have hc := h c (List.mem_cons_self ..)
    have ih := flatX_put j hj u C i (fun x hx => h x (List.mem_cons_of_mem _ hx)) (by simpa using hi)
    show (c ++ flatX C).set ((i + 1) * sz + j) u = c ++ flatX (C.set i ((C[i]'(by simpa using hi)).set j u))
    rw [← ih, List.set_append_right _ _ (by rw [hc, Nat.add_mul]; omega), hc]
    congr 2
    rw [Nat.add_mul]; omega
theorem OwX.put {sz : Nat} {T : TypeId} {w : World} {B g n cap : Nat} {C : List (List Value)} (h : OwX sz T w B (.slice (some ⟨g, 0, none⟩) n cap) C) {i j : Nat} (hi : i < C.length) (hj : j < sz) (u : Value) :
    OwX sz T (w.setCell ⟨g, i * sz + j, none⟩ u) B (.slice (some ⟨g, 0, none⟩) n cap) (C.set i ((C[i]).set j u)) := by
  have hn : n = C.length := by
    rcases h.form with ⟨q, -⟩ | ⟨g2, cap2, q, -⟩
    · cases q
    · injection q
  subst hn
  refine ⟨?_, fun c hc => ?_⟩
  · rw [← flatX_put j hj u C i h.2 hi, List.length_set]
    exact (World.ownsRow.stored h.1 (i * sz + j) u).1
  · rcases List.mem_or_eq_of_mem_set hc with q | q
    · exact h.2 _ q
    · rw [q, List.length_set]; exact h.2 _ (List.getElem_mem hi)
/-- an operator's cells, so many places on -/
def shC (k : Nat) : List Value → List Value
  | [a, b, c, .int .i64 x] => [a, b, c, .int .i64 (x + k)]
  | c => c
theorem OpV.to {A : Nat → Prop} {w : World} {c : List Value} {o : CO} (h : OpV A w c o) (k : Nat) : OpV A w (shC k c) (o.to k) := by
  obtain ⟨va, vd, rfl, h1, h2⟩ := h
  exact ⟨va, vd, rfl, h1, h2⟩
theorem All2.to {A : Nat → Prop} {w : World} {C : List (List Value)} {l : List CO} (h : All2 (OpV A w) C l) (k : Nat) : All2 (OpV A w) (C.map (shC k)) (l.map (CO.to k)) := by
  induction h with
  | nil => exact .nil
  | cons h _ ih => exact .cons (h.to k) ih
/-- the first i are so many places on -/
def shN (k i : Nat) (C : List (List Value)) : List (List Value) := (C.take i).map (shC k) ++ C.drop i
theorem shN_len (k i : Nat) (C : List (List Value)) : (shN k i C).length = C.length := by
  unfold shN; rw [List.length_append, List.length_map, ← List.length_append, List.take_append_drop]
theorem shN_zero (k : Nat) (C : List (List Value)) : shN k 0 C = C := by unfold shN; simp
theorem shN_all (k : Nat) (C : List (List Value)) : shN k C.length C = C.map (shC k) := by unfold shN; simp
theorem shN_at (k i : Nat) (C : List (List Value)) (h : i < C.length) (h2 : i < (shN k i C).length) : (shN k i C)[i] = C[i] := by
  have h3 : i < ((C.take i).map (shC k) ++ C.drop i).length := h2
  have h4 : ((C.take i).map (shC k) ++ C.drop i)[i]'h3 = C[i] := by
    rw [List.getElem_append_right (by rw [List.length_map, List.length_take]; omega)]
    simp only [List.length_map, List.length_take, List.getElem_drop]
    congr 1
    omega
  exact h4
theorem shN_succ (k i : Nat) (C : List (List Value)) (h : i < C.length) : shN k (i + 1) C = (shN k i C).set i (shC k C[i]) := by
  have hl : ((C.take i).map (shC k)).length = i := by rw [List.length_map, List.length_take]; omega
  unfold shN
  rw [List.set_append_right _ _ (by omega), hl, Nat.sub_self, List.take_succ_eq_append_getElem h, List.map_append, List.append_assoc]
  congr 1
  rw [List.drop_eq_getElem_cons h, List.set_cons_zero]
  rfl
theorem OP.at_ok {N : Nat} {args : List PO} {s : List UInt8} {res : ORes} (h : OP N args s res) : ∀ o r, res = .op o r → s.length ≤ N → 0 ≤ o.at_ ∧ o.at_ ≤ N := by
  have hp : ∀ s : List UInt8, s.length ≤ N → 0 ≤ plc N s ∧ plc N s ≤ N := fun s hs => by
    unfold plc
    rw [List.length_drop]
    omega
  induction h with
  | err hT => intro o r q; cases q
  | fin hT => intro o r q; cases q
  | eof hT _ => intro o r q; cases q
  | word hT _ _ => intro o r q hs; injection q with q; subst q; exact hp _ hs
  | @img args s n r res hT hd =>
    intro o r2 q hs
    cases res with
    | bad e t => cases q
    | ok d t =>
      unfold bik at q
      simp only [] at q
      cases hF : imgF t with
      | inl e => rw [hF] at q; cases q
      | inr y =>
        obtain ⟨z, r3⟩ := y
        rw [hF] at q
        simp only [] at q
        split at q
        · injection q with q; subst q; exact hp _ hs
        · cases q
  | stop _ _ _ _ => intro o r q; cases q
  | much _ _ _ _ _ => intro o r q; cases q
  | step _ _ _ hv _ _ ih =>
    intro o r q hs
    have h3 := hv.fit
    simp only [PRes.fit] at h3
    exact ih o r q (by omega)
theorem AL.at_ok {N : Nat} {l : List CO} {s : List UInt8} {res : LRes} (h : AL N l s res) : s.length ≤ N → (∀ o ∈ l, 0 ≤ o.at_ ∧ o.at_ ≤ N) → ∀ o ∈ res.l, 0 ≤ o.at_ ∧ o.at_ ≤ N := by
  induction h with
  | bad _ => intro _ _ o ho; cases ho
  | fin _ => intro _ h o ho; exact h o ho
  | lim _ _ => intro _ _ o ho; cases ho
  | @step l s o r res h _ _ ih =>
    intro hs hl
    have h1 := h.fit _ _ rfl
    refine ih (by omega) fun x hx => ?_
    rcases List.mem_append.1 hx with q | q
    · exact hl x q
    · rw [List.mem_singleton] at q; subst q; exact h.at_ok _ _ rfl hs
theorem AL.ne {N : Nat} {l : List CO} {s : List UInt8} {res : LRes} (h : AL N l s res) : res.code = 0 → ∃ q, res = .ok q := by
  induction h with
  | @bad l s e h => intro q; have h1 := h.ne _ rfl; have q2 : e = (0 : Int) := q; rw [q2] at h1; cases h1
  | fin _ => intro _; exact ⟨_, rfl⟩
  | lim _ _ => intro q; cases q
  | step _ _ _ ih => exact ih
theorem AlQ.codeQ {w w' : World} {res : LRes} {e : Ending} (h : AlQ w res e w') : ∃ vo c, e = .returned (.tuple #[vo, .int .i64 c]) ∧ Hid (c = res.code) ∧ AO (fun g => w.heap.size ≤ g ∧ g < w'.heap.size) w' vo res.l ∧ Below w.heap.size w w' := by
  obtain ⟨vo, h1, h2, h3⟩ := h.both
  exact ⟨vo, _, h1, hid rfl, h2, h3⟩
theorem AO.one {A : Nat → Prop} {w : World} {v : Value} {l : List CO} (h : AO A w v l) : ∃ C : List (List Value), ∃ ao cap, v = .slice ao l.length cap ∧ SlX 4 w v C ∧ All2 (OpV (fun _ => True) w) C l ∧ C.length = l.length ∧ ∀ c ∈ C, ∀ u ∈ c, u.oneCell' = true := by
  obtain ⟨C, ao, cap, h1, h2, h3⟩ := h.any
  refine ⟨C, ao, cap, h1, h2, h3, All2.len h3, ?_⟩
  clear h h1 h2
  induction h3 with
  | nil => intro c hc; cases hc
  | cons h _ ih =>
    intro c hc
    rcases List.mem_cons.1 hc with q | q
    · subst q
      obtain ⟨aoa, capa, aod, capd, hf⟩ := h.form
      rw [hf]
      intro u hu; simp at hu; rcases hu with rfl | rfl | rfl | rfl <;> rfl
    · exact ih c q
theorem shC_one {k : Nat} {c : List Value} (h : ∀ u ∈ c, u.oneCell' = true) : ∀ u ∈ shC k c, u.oneCell' = true := by
  unfold shC
  split
  · intro u hu
    rename_i a b c x
    simp at hu
    rcases hu with rfl | rfl | rfl | rfl
    · exact h _ (by simp)
    · exact h _ (by simp)
    · exact h _ (by simp)
    · rfl
  · exact h

theorem wpList_want {P : Program} {w : World} {ops : Array Oper} {rest : List Oper} {o : Oper} {a : Act} {Q : Exit → Act → World → Prop} (hw : Region.wanted o (yielded ops a.tmps) = true) (h : ∀ K : Act → World → Prop, (∀ a' w', wpList P ops Q rest a' w' → K a' w') → o.wp P a w K Q) : wpList P ops Q (o :: rest) a w := by
  rw [wpList, if_pos hw]
  exact .inl (h _ fun _ _ h => h)

set_option maxHeartbeats 6400000 in
set_option maxRecDepth 100000 in
theorem jn_any (v1 : Value) (a : List UInt8) (v2 : Value) (b : List UInt8) (w : World) (htab : Lib.TabIs Tryz.prog w "strings.asciiSpace" .u8 Lib.asciiSpaceTab) (h1 : Sl w v1 a) (h2 : Sl w v2 b) :
    Calls Tryz.prog 7 #[v1, v2] w fun e w' => e = .returned (.bool true) ∧ Below w.heap.size w w' := by
  obtain ⟨ao, cap, rfl, -, -, han, har⟩ := id h1
  obtain ⟨bo, capb, rfl, -, -, hbn, hbr⟩ := id h2
  by_cases hla : (a.length : Int) > 600
  · go_enter Tryz.func7, Tryz.ntmps7
    go_wp2_with (go_at_call 8; refine (awake22_any _ htab).mono ?_; rintro e w1 ⟨rfl, hb1⟩)
    go_ret
    exact ⟨rfl, hb1⟩
  by_cases hlb : (b.length : Int) > 600
  · go_enter Tryz.func7, Tryz.ntmps7
    go_wp2_with (go_at_call 8; refine (awake22_any _ htab).mono ?_; rintro e w1 ⟨rfl, hb1⟩)
    go_ret
    exact ⟨rfl, hb1⟩
  have hl1 : a.length ≤ 600 := by omega
  have hl2 : b.length ≤ 600 := by omega
  go_enter Tryz.func7, Tryz.ntmps7
  go_upto_region 5 with (first | (go_at_call 8; refine (awake22_any _ htab).mono ?_; rintro e w1 ⟨rfl, hb1⟩))
  go_upto_region 6 with (go_at_call 9; refine (all_any _ a _ (h1.up hb1) (by omega)).mono ?_; rintro e w2 ⟨res1, hal1, hq1⟩; obtain ⟨vx, c1, rfl, hc1, hao1, hb2⟩ := hq1.codeQ; obtain ⟨Cx, aox, capx, rfl, hSx, hCx, hNx, hOx⟩ := hao1.one)
  have hB2 := hb1.trans (hb2.mono hb1.size)
  have hnx := hal1.len
  rw [List.length_nil] at hnx
  have HA1 := hid hal1
  have HC1 := hc1
  clear hq1 hao1 hal1 hc1
  go_upto_region 7 with (go_at_call 9; refine (all_any _ b _ (h2.up hB2) (by omega)).mono ?_; rintro e w3 ⟨res2, hal2, hq2⟩; obtain ⟨vy, c2, rfl, hc2, hao2, hb3⟩ := hq2.codeQ; obtain ⟨Cy, aoy, capy, rfl, hSy, hCy, hNy, hOy⟩ := hao2.one)
  have hB3 := hB2.trans (hb3.mono hB2.size)
  have hny := hal2.len
  rw [List.length_nil] at hny
  have HA2 := hid hal2
  have HC2 := hc2
  clear hq2 hao2 hal2 hc2
  by_cases z1 : c1 = 0
  rotate_left
  · have n1 : (c1 != 0) = true := by simp [z1]
    clear z1
    go_wp2
    go_ret
    exact ⟨rfl, hB3⟩
  by_cases z2 : c2 = 0
  rotate_left
  · have n2 : (c2 != 0) = true := by simp [z2]
    subst z1
    clear z2
    go_wp2
    go_ret
    exact ⟨rfl, hB3⟩
  subst z1
  subst z2
  obtain ⟨lx, rfl⟩ := HA1.out.ne HC1.out.symm
  obtain ⟨ly, rfl⟩ := HA2.out.ne HC2.out.symm
  simp only [LRes.l] at *
  have hnx' : lx.length ≤ 600 := by omega
  have hny' : ly.length ≤ 600 := by omega
  have HAB := hid (AL.both HA1.out HA2.out (by omega))
  have HAT := hid (HA2.out.at_ok (Nat.le_refl _) (fun o ho => by cases ho))
  clear HA1 HC1 HC2 hnx hny
  have hq9 := OwnB.lit0 w3 5 w3.heap.size (Nat.le_refl _)
  have hz9 : (w3.alloc (.cells #[] 5)).heap.size = w3.heap.size + 1 := by simp
  go_upto_region 9 with fail
  go_upto_region 10 with (first
    | (go_at_call 9; refine (all_any _ (([] ++ a) ++ [byteOf 10] ++ b) _ (Sl.own s1) (by simp; omega)).mono ?_; rintro e w4 ⟨res3, hal3, hq3⟩; obtain ⟨vz, c3, rfl, hc3, hao3, hb4⟩ := hq3.codeQ; obtain ⟨Cz, aoz, capz, rfl, hSz, hCz, hNz, hOz⟩ := hao3.one)
    | (at_builtin; refine wpList_append_bytes bytesTy rfl _ _ rfl w3.heap.size _ (([] ++ a) ++ [byteOf 10]) b rfl r1 bo b.length capb rfl rfl hbn (hbr.up (hB3.trans (hbR.mono hB3.size))) (by simp; omega) (by have := hbR.size; omega) ?_; intro v9 w9 s1 s2 s3; have hbS := below_append hbR r1 s2 (Nat.le_refl _) hbR.size)
    | (at_builtin; refine wpList_append_bytes bytesTy rfl _ _ rfl w3.heap.size _ ([] ++ a) [byteOf 10] rfl (q1.alloc _) _ 1 1 rfl rfl (fun q => by cases q) (Rd.byteM _ _ _ _ rfl (by omega) (by omega)) (by simp; omega) (by have := hbQ.size; simp; omega) ?_; intro v8 w8 r1 r2 r3; have hbR := below_append (below_then hbQ (alb _ _)) (q1.alloc _) r2 (Nat.le_refl _) (by have := hbQ.size; simp; omega))
    | (at_builtin; refine wpList_append_bytes bytesTy rfl _ _ rfl w3.heap.size _ [] a rfl hq9 ao a.length cap rfl rfl han (har.up (below_then hB3 (alb _ _))) (by simp; omega) (by simp) ?_; intro v7 w7 q1 q2 q3; have hbQ := below_append (alb w3 (.cells #[] 5)) hq9 q2 (Nat.le_refl _) (by simp)))
  have h34 := hbS.trans (hb4.mono hbS.size)
  have hB4 := hB3.trans (h34.mono hB3.size)
  have hB24 := hb3.trans (h34.mono hb3.size)
  rw [show (([] : List UInt8) ++ a) ++ [byteOf 10] ++ b = a ++ 10 :: b from by simp [byteOf], show (a ++ 10 :: b).length = a.length + (1 + b.length) from by simp; omega] at hal3
  obtain rfl := AL.one hal3 HAB.out
  have hc3 : c3 = 0 := hc3.out
  subst hc3
  simp only [LRes.l] at *
  have hL : (lx ++ ly.map (CO.to (a.length + 1))).length ≤ 1200 := by rw [List.length_append, List.length_map]; omega
  have HLL := hid (show (lx ++ ly.map (CO.to (a.length + 1))).length = lx.length + ly.length from by rw [List.length_append, List.length_map])
  obtain ⟨L, hLd⟩ : ∃ L, L = lx ++ ly.map (CO.to (a.length + 1)) := ⟨_, rfl⟩
  rw [← hLd] at hSz hCz hNz hL HLL ⊢
  have HLD := hid hLd
  clear hLd hal3 HAB hq3 hao3 q1 q2 q3 r1 r2 r3 s1 s2 s3 hbQ hbR hbS hq9 hz9 hb4
  have hCx4 : All2 (OpV (fun _ => True) w4) Cx lx := hCx.mono fun _ _ q => q.keep (fun _ _ => trivial) (fun g _ hlt => hB24.block g hlt)
  have hCy4 : All2 (OpV (fun _ => True) w4) Cy ly := hCy.mono fun _ _ q => q.keep (fun _ _ => trivial) (fun g _ hlt => h34.block g hlt)
  go_upto_region 11 with (go_at_call 16; refine (ops_cells _ lx Cx w4 (hSx.up hB24) hCx4 (by omega)).mono ?_; rintro e w5 ⟨vw, rfl, hrw, hb5⟩)
  have hB5 := hB4.trans (hb5.mono hB4.size)
  go_wp2_with (go_at_call 16; refine (ops_cells _ ly Cy w5 (hSy.up (h34.trans (hb5.mono h34.size))) (hCy4.mono fun _ _ q => q.keep (fun _ _ => trivial) (fun g _ hlt => hb5.block g hlt)) (by omega)).mono ?_; rintro e w6 ⟨vk, rfl, hrk, hb6⟩)
  obtain ⟨aok, capk, hvk⟩ := hrk.lin
  rw [hNy] at hvk
  subst hvk
  have HAL := hid (show a.length ≤ 600 from hl1)
  have hrwl := hrw.lt
  obtain ⟨aow, capw, hvw⟩ := hrw.lin
  rw [hNx] at hvw
  subst hvw
  go_loopw [13] (fun s13 wr => ∃ i : Nat, s13 = .int .i64 i ∧ i ≤ ly.length ∧ OwX 4 49 wr w5.heap.size (.slice aok ly.length capk) (shN (a.length + 1) i Cy) ∧ Below w5.heap.size w5 wr) (fun s13 _ => ly.length - (intOf s13).toNat)
  case atStart => exact ⟨0, rfl, Nat.zero_le _, by rw [shN_zero]; exact hrk, hb6⟩
  case round =>
    obtain ⟨i, rfl, hi, hrow, hB⟩ := hrel
    by_cases hlt : i < ly.length
    · have hz : (i : Int) < (ly.length : Int) := by omega
      have hCi : i < Cy.length := by omega
      have hCs : i < (shN (a.length + 1) i Cy).length := by rw [shN_len]; exact hCi
      obtain ⟨g, rfl, hg1, hg2, hcell, hfr⟩ : ∃ g, aok = some ⟨g, 0, none⟩ ∧ w5.heap.size ≤ g ∧ g < wr.heap.size ∧ (∀ (j : Nat) (u : Value), ((shN (a.length + 1) i Cy)[i])[j]? = some u → wr.cell? ⟨g, i * 4 + j, none⟩ = some u) ∧ ∀ k, wr.frozen? ⟨g, k, none⟩ = false := by
        rcases hrow.form with ⟨-, q⟩ | ⟨g, cap, q, -, -, x1, x2, x3, x4⟩
        · rw [q] at hCs; exact absurd hCs (by simp)
        · injection q with q1 q2 q3
          exact ⟨g, q1, x1, x2, fun j u hj => x3 i hCs j u hj, x4⟩
      obtain ⟨aoa, capa, aod, capd, hform⟩ := (All2.at hCy i hCi hlt).form
      obtain ⟨ha0, ha1⟩ := HAT.out ly[i] (List.getElem_mem hlt)
      rw [shN_at (a.length + 1) i Cy hCi hCs] at hcell
      have HP := hid (fun u => hrow.put hCs (j := 3) (by decide) u)
      rw [shN_at (a.length + 1) i Cy hCi hCs] at HP
      have HSU := hid (shN_succ (a.length + 1) i Cy hCi)
      rw [hform] at hcell HP HSU
      generalize ly[i] = o at *
      obtain ⟨onm, oas, odd, oat⟩ := o
      simp only [] at hcell HP HSU ha0 ha1
      have c3 := hcell 3 _ rfl
      have hfz := hfr (i * 4 + 3)
      have hbz := World.block_lt_of_cell? _ _ c3
      have hai : (a.length : Int) ≤ 600 := by omega
      have hbi : (b.length : Int) ≤ 600 := by omega
      have hat : oat ≤ 600 := by omega
      clear hcell hfr ha1 hrow
      have w1 : IntKind.i64.wrap (oat + (a.length : Int)) = oat + (a.length : Int) := IntWalk.i64_in _ (by omega)
      have w2' : IntKind.i64.wrap (oat + (a.length : Int) + 1) = oat + (a.length : Int) + 1 := IntWalk.i64_in _ (by omega)
      go_wp2
      go_roundw
      case rel => exact ⟨i + 1, by go_num, by omega, by
        have h9 := HP.out (.int .i64 (oat + (a.length : Int) + 1))
        rw [HSU.out]
        have e9 : shC (a.length + 1) [.string (st onm), .slice aoa oas.length capa, .slice aod odd.length capd, .int .i64 oat] = ([.string (st onm), .slice aoa oas.length capa, .slice aod odd.length capd, .int .i64 oat] : List Value).set 3 (.int .i64 (oat + (a.length : Int) + 1)) := by
          show [_, _, _, Value.int .i64 (oat + ((a.length + 1 : Nat) : Int))] = [_, _, _, _]
          rw [show oat + ((a.length + 1 : Nat) : Int) = oat + (a.length : Int) + 1 by omega]
        rw [e9]; exact h9, hB.trans ((Held.set (B := w5.heap.size) (p := g) (q := g) wr ⟨g, i * 4 + 3, none⟩ (.int .i64 (oat + (a.length : Int) + 1)) (.inl rfl)).below (Nat.le_refl _) hg1 hg1)⟩
      case measure => simp [intOf]; omega
    · obtain rfl : i = ly.length := by omega
      have hz : ¬ (ly.length : Int) < (ly.length : Int) := by omega
      rw [← hNy, shN_all, hNy] at hrow
      obtain ⟨w7, rfl⟩ : ∃ x : World, x = wr := ⟨_, rfl⟩
      have hB47 := hb5.trans (hB.mono hb5.size)
      have hrw7 := hrw.up hB
      have hs47 := hB47.size
      have hs57 := hB.size
      have hOy' : ∀ c ∈ Cy.map (shC (a.length + 1)), ∀ u ∈ c, u.oneCell' = true := fun c hc => by
        obtain ⟨d, hd, rfl⟩ := List.mem_map.1 hc
        exact shC_one (hOy d hd)
      have hOPz := hid (ops_cells _ L Cz w7 (hSz.up hB47) (hCz.mono fun _ _ q => q.keep (fun _ _ => trivial) (fun g _ hlt => hB47.block g hlt)) (by omega))
      have HCD := hid (show ∀ X, Below w4.heap.size w4 X → All2 (OpV (fun _ => True) X) (Cx ++ Cy.map (shC (a.length + 1))) L from fun X hX => by
        rw [HLD.out]
        exact All2.app (hCx4.mono fun _ _ q => q.keep (fun _ _ => trivial) (fun g _ hlt => hX.block g hlt)) (All2.to (hCy4.mono fun _ _ q => q.keep (fun _ _ => trivial) (fun g _ hlt => hX.block g hlt)) _))
      have HCZ := hid (show ∀ X, Below w4.heap.size w4 X → All2 (OpV (fun _ => True) X) Cz L from fun X hX => hCz.mono fun _ _ q => q.keep (fun _ _ => trivial) (fun g _ hlt => hX.block g hlt))
      have hmx : (Cx ++ Cy.map (shC (a.length + 1))).length = lx.length + ly.length := by rw [List.length_append, List.length_map]; omega
      go_wp2_with (first
        | (go_at_call 15; refine (sameops_any _ _ L Cz (Cx ++ Cy.map (shC (a.length + 1))) _ (SlX.keep hr8.sl (fun g hg hlt => t2.block g hlt (fun q => by have := (hr8.lt g hg).1; have := hrwl g q.symm; omega))) (HCZ.out _ hB49) t1.sl (HCD.out _ hB49)).mono ?_; rintro e w10 ⟨rfl, hb10⟩)
        | (at_builtin; refine wpList_want rfl fun K hK => wp_append_slx _ _ 38 rfl w4.heap.size 49 zRop 4 72 ropTy' ropIn rfl (by decide) (.slice aow lx.length capw) Cx rfl (hrw7.up hb8) _ (Cy.map (shC (a.length + 1))) rfl (hrow.up hb8).sl hOy' (by rw [List.length_map]; omega) (by decide) (by have := hb8.size; omega) ?_; intro v9 w9 t1 t2 t3; refine hK _ _ ?_; have hB49 := (hB47.trans (hb8.mono hs47)).grown t2 (by have := hb8.size; omega) (fun k hk => (hrwl k hk).1))
        | (go_at_call 16; refine hOPz.out.mono ?_; rintro e w8 ⟨v8, rfl, hr8, hb8⟩))
      go_ret
      exact ⟨rfl, (hB4.trans (hB49.mono hB4.size)).trans (hb10.mono (Nat.le_trans hB4.size hB49.size))⟩
end Go.Proofs.YtlmgklebikcbjaaGreatDoor
