/-
  The walk of PredictTags: it returns true and writes nothing that was there. Conditions: what a reading gives.
-/
import Derived.Test.YtmlaakadjkmphaaMem4
import Derived.Test.YtmlaakadjkmphaaTagsLaw
import Derived.Test.YtmlaakadjkmphaaFlat
namespace Go.Proofs.Ytmlaakadjkmphaa
open Go.ChangeShapes Go.WideShapes Go.ChangeAt Go.RowKit
set_option linter.unusedVariables false

/-- what is known when i rows are done -/
def TagInv (C N i : Nat) (A plain last : List UInt8) : Prop :=
  decTo 1 C N A i = some (plain, last) ∧ A.length = i * (1 + N) ∧ (i = 0 → last = []) ∧ (0 < i → last.length = N) ∧ plain.length = i * N

theorem TagInv.step {C M i : Nat} {A plain last rw_ : List UInt8} (h : TagInv C (C * M) i A plain last) (hr : rw_.length = 1 + C * M) (ht : ¬ 4 < b8 rw_ 0) :
    TagInv C (C * M) (i + 1) (A ++ rw_) (plain ++ newRow C (C * M) last rw_) (newRow C (C * M) last rw_) := by
  obtain ⟨h1, h2, h3, h4, h5⟩ := h
  refine ⟨decTo_more h1 h2 hr ht, ?_, by omega, fun _ => newRow_length _ _ _ _, ?_⟩
  · rw [List.length_append, h2, hr, Nat.succ_mul]
  · rw [List.length_append, h5, newRow_length, Nat.succ_mul]

set_option maxRecDepth 100000 in
set_option maxHeartbeats 2000000 in
theorem tags_many (n0 n1 : Int) (v : Value) (ao : Option Addr) (L cap : Nat) (w : World) (hn0 : 0 ≤ n0) (hn0' : n0 ≤ 255) (hn1 : 0 ≤ n1) (hn1' : n1 ≤ 255) (hL : ¬ L ≤ 20) (hLm : L ≤ maxLen) :
    Calls Try.prog 3 #[.int .u8 n0, .int .u8 n1, .slice ao L cap] w fun e w' => e = .returned (.bool true) ∧ Below w.heap.size w w' := by
  unfold maxLen at hLm
  obtain ⟨C, hC⟩ := Int.eq_ofNat_of_zero_le (show 0 ≤ 1 + n0 % 4 by omega)
  obtain ⟨M, hM⟩ := Int.eq_ofNat_of_zero_le (show 0 ≤ 1 + n1 % 9 by omega)
  have hC1 : 1 ≤ C := by omega
  have hC4 : C ≤ 4 := by omega
  have hM1 : 1 ≤ M := by omega
  have hM4 : M ≤ 9 := by omega
  have hcm : (C : Int) * (M : Int) = ((C * M : Nat) : Int) := by simp
  have hN4 : C * M ≤ 36 := Nat.mul_le_mul hC4 hM4
  obtain ⟨N, hN⟩ : ∃ N, N = C * M := ⟨_, rfl⟩
  rw [← hN] at hcm hN4
  have hlt : (20 : Int) < (L : Int) := by omega
  clear hN
  go_enter Try.func3, Try.ntmps3
  go_wp2_with (go_at_call 8; refine (awake_any _).mono ?_; rintro e w1 ⟨rfl, hb⟩)
  go_ret
  exact ⟨rfl, below_then hb (Below.alloc (Below.refl _ _) (Nat.le_refl _) _)⟩

theorem row_store {w : World} {base g n : Nat} {e : TypeId} {RW : List UInt8} (h : OwnB w base e (.slice (some ⟨g, 0, none⟩) n n) RW) (hl : RW.length = n) (hn : 0 < n) :
    ∃ rw_ : List UInt8, rw_.length = n ∧ ¬ 4 < b8 rw_ 0 ∧ OwnB (w.setCell ⟨g, 0, none⟩ (.int .u8 (b8 RW 0 % 5))) base e (.slice (some ⟨g, 0, none⟩) n n) rw_ := by
  have r0 := b8_ge RW 0
  refine ⟨RW.set 0 (byteOf (b8 RW 0 % 5)), by simp [hl], ?_, ?_⟩
  · rw [b8_set_same (by omega), byteOf_nat]; omega
  · have := OwnB.stored h hl.symm 0 (byteOf (b8 RW 0 % 5))
    rw [bv_byteOf, Int.emod_eq_of_lt (by omega) (by omega)] at this
    exact this

theorem same_yes {aa ab : Option Addr} {na nb ca cb : Nat} {la : List UInt8} (w : World) (hna : na = la.length) (hnb : nb = la.length) (ha : Rd w aa la) (hb : Rd w ab la) (hla : la.length ≤ 100000) :
    Calls Try.prog 11 #[.slice aa na ca, .slice ab nb cb] w fun e w' => e = .returned (.bool true) ∧ ∃ n, w' = w.drewN n := by
  have := same_n aa ab na nb ca cb la la w hna hnb ha hb (by unfold maxLen; omega) (by unfold maxLen; omega)
  rwa [decide_eq_true rfl] at this
theorem Sl.rd {w : World} {ao : Option Addr} {n cap : Nat} {l : List UInt8} (h : Sl w (.slice ao n cap) l) : Rd w ao l := by
  obtain ⟨_, _, q1, _, _, _, q5⟩ := h
  injection q1 with e1 e2 e3
  rw [e1]; exact q5
theorem rd_drop1 {w : World} {b off : Nat} {l : List UInt8} (h : Rd w (some ⟨b, off, none⟩) l) (n : Nat) : Rd w (some ⟨b, off + n, none⟩) (l.drop n) := by
  have := h.drop n
  have e1 : (some (⟨b, off, none⟩ : Addr)).map (·.add n) = some ⟨b, off + n, none⟩ := by cases n <;> simp [Addr.add]
  rwa [e1] at this
theorem copy_n (aa : Option Addr) (na ca : Nat) (la : List UInt8) (w : World) (hna : na = la.length) (ha : Rd w aa la) (hla : la.length ≤ 100000) :
    Calls Try.prog 12 #[.slice aa na ca] w fun e w' => ∃ v, e = .returned v ∧ OwnB w' w.heap.size 5 v la ∧ Below w.heap.size w w' := by
  subst hna; exact copy_any aa ca la w ha (by omega)

theorem Rd.drewN {w : World} {ao : Option Addr} {l : List UInt8} (h : Rd w ao l) (n : Nat) : Rd (w.drewN n) ao l := h.up (below_drewN (Below.refl _ _) n)

set_option maxRecDepth 100000 in
set_option maxHeartbeats 8000000 in
theorem tags_few (n0 n1 : Int) (ao : Option Addr) (L cap : Nat) (w : World) (hn0 : 0 ≤ n0) (hn0' : n0 ≤ 255) (hn1 : 0 ≤ n1) (hn1' : n1 ≤ 255) (hL : L ≤ 20)
    (hrows : ∀ r, r < L → ∃ g off x l, ao = some ⟨g, off, none⟩ ∧ w.cell? ⟨g, off + r, none⟩ = some x ∧ Sl w x l) :
    Calls Try.prog 3 #[.int .u8 n0, .int .u8 n1, .slice ao L cap] w fun e w' => e = .returned (.bool true) ∧ Below w.heap.size w w' := by
  obtain ⟨C, hC⟩ := Int.eq_ofNat_of_zero_le (show 0 ≤ 1 + n0 % 4 by omega)
  obtain ⟨M, hM⟩ := Int.eq_ofNat_of_zero_le (show 0 ≤ 1 + n1 % 9 by omega)
  have hC1 : 1 ≤ C := by omega
  have hC4 : C ≤ 4 := by omega
  have hM1 : 1 ≤ M := by omega
  have hM4 : M ≤ 9 := by omega
  have hcm : (C : Int) * (M : Int) = ((C * M : Nat) : Int) := by simp
  have hN4 : C * M ≤ 36 := Nat.mul_le_mul hC4 hM4
  have hN1 : 1 ≤ C * M := Nat.mul_pos hC1 hM1
  obtain ⟨N, hN⟩ : ∃ N, N = C * M := ⟨_, rfl⟩
  rw [← hN] at hcm hN4 hN1
  have HN := hid hN
  obtain ⟨N1, hNN⟩ : ∃ N1, N1 = N + 1 := ⟨_, rfl⟩
  have hn1i : (N : Int) + 1 = (N1 : Int) := by omega
  have HNN := hid hNN
  have hN1b : N1 ≤ 40 := by omega
  have HROWS := hid hrows
  clear hN hNN hrows
  go_enter Try.func3, Try.ntmps3
  go_wp2_with (go_at_call 8; refine (awake_any _).mono ?_; rintro e w1 ⟨rfl, hb⟩)
  obtain ⟨wS, hwS⟩ : ∃ wS, wS = w1.alloc (.cells #[.int .i64 15, .int .i64 C, .int .i64 M] 25) := ⟨_, rfl⟩
  rw [← hwS]
  have s0 : wS.cell? ⟨w1.heap.size, 0, none⟩ = some (.int .i64 15) := by rw [hwS, World.cell?_alloc_at _ _ _ _ rfl]; rfl
  have s1 : wS.cell? ⟨w1.heap.size, 1, none⟩ = some (.int .i64 C) := by rw [hwS, World.cell?_alloc_at _ _ _ _ rfl]; rfl
  have s2 : wS.cell? ⟨w1.heap.size, 2, none⟩ = some (.int .i64 M) := by rw [hwS, World.cell?_alloc_at _ _ _ _ rfl]; rfl
  have hbS : Below w.heap.size w wS := by rw [hwS]; exact below_then hb (Below.alloc (Below.refl _ _) (Nat.le_refl _) _)
  clear hwS hb
  go_loopw [12, 9, 10, 11] (fun vi v9 v10 v11 wr => ∃ i : Nat, i ≤ L ∧ vi = .int .i64 i ∧ ∃ A plain last, TagInv C N i A plain last ∧ OwnB wr wS.heap.size 5 v9 A ∧ Sl wr v10 last ∧ Sl wr v11 plain ∧ Apart wr v9 v10 ∧ Apart wr v9 v11 ∧ Below wS.heap.size wS wr) (fun vi _ _ _ _ => L - (intOf vi).toNat)
  case atStart => exact ⟨0, by omega, rfl, [], [], [], ⟨rfl, by simp, fun _ => rfl, by omega, by simp⟩, OwnB.nil _ _ _, Sl.nil _, Sl.nil _, fun g hg => by simp [Value.ownBlock] at hg, fun g hg => by simp [Value.ownBlock] at hg, Below.refl _ _⟩
  case round =>
    obtain ⟨i, hi, rfl, A, plain, last, hinv, hown, hsl, hsp, hap1, hap2, hbel⟩ := hrel
    obtain ⟨wo, rfl⟩ : ∃ wo : World, wo = wr := ⟨_, rfl⟩
    have HINV := hid hinv
    by_cases hlt : i < L
    · obtain ⟨g2, o2, x2, l2, rfl, hx1, hx2⟩ := HROWS.out i hlt
      obtain ⟨a2, c2, rfl, -, -, -, -⟩ := id hx2
      have hWo : Below w.heap.size w wo := hbS.trans (hbel.mono hbS.size)
      have hil : (i : Int) < (L : Int) := by omega
      have hAb : A.length ≤ 900 := by
        rw [hinv.2.1]; exact Nat.le_trans (Nat.mul_le_mul (show i ≤ 20 by omega) (show 1 + N ≤ 37 by omega)) (by omega)
      have hlo := World.ownsRow.lt hown
      obtain ⟨al, cl, rfl, la1, la2, la3, la4⟩ := id hsl
      obtain ⟨ap, cp, rfl, pa1, pa2, pa3, pa4⟩ := id hsp
      have hlast : last.length ≤ 40 := by
        by_cases h0 : i = 0
        · rw [hinv.2.2.1 h0]; simp
        · rw [hinv.2.2.2.1 (by omega)]; omega
      have hplen := hinv.2.2.2.2
      have hplb : plain.length ≤ 800 := by rw [hplen]; exact Nat.le_trans (Nat.mul_le_mul (show i ≤ 20 by omega) hN4) (by omega)
      have HPLEN := hid hplen
      clear hinv hplen la1 la2 la3 la4 pa1 pa2 pa3 pa4
      go_wp2_with (first
        | (at_make; refine wpList_make_bytes by26 rfl _ _ rfl wo.heap.size _ _ N1 rfl rfl (by omega) (Nat.le_refl _) ?_; rintro w2 hrow2 hbel2; have f3 := cell_up' hbel2 (cell_up' hWo hx1))
        | (refine wpList_copy_bytes by26 rfl _ _ rfl wo.heap.size wo.heap.size N1 rfl _ (by simp) hrow2 _ rfl _ (hx2.up (hWo.trans (hbel2.mono hWo.size))) ?_; rintro w3 RW kk hRW hrow3 hbel3; have f4 := OwnB.cell hrow3 hRW.symm 0 (by omega); have f5 := OwnB.free hrow3 hRW.symm 0; have r0 := b8_ge RW 0; have r1 := b8_le RW 0; obtain ⟨rw_, hrwl, hrw0, hrow4⟩ := row_store hrow3 hRW (by omega); have hB4 : Below wo.heap.size wo (w3.setCell ⟨wo.heap.size, 0, none⟩ (.int .u8 (b8 RW 0 % 5))) := (hbel2.trans hbel3).setCell (Nat.le_refl _) _)
        | (at_builtin; refine wpList_append_bytes by26 rfl (.tmp 59) (.tmp 60) rfl wS.heap.size u9 A rw_ rfl (hown.up hB4) (some ⟨wo.heap.size, 0, none⟩) N1 N1 rfl hrwl.symm (fun q => by cases q) (OwnB.rd hrow4) (by omega) (by have := hB4.size; have := hbel.size; omega) ?_; rintro v5 w5 hown5 hg5 hmv5; have hbel5 : Below wS.heap.size wS w5 := below_append (hbel.trans (hB4.mono hbel.size)) (hown.up hB4) hg5 (Nat.le_refl _) (by have := hB4.size; have := hbel.size; omega); have k0 := cell_up' hbel5 s0; have k1 := cell_up' hbel5 s1; have k2 := cell_up' hbel5 s2))
      have hsl5 := (hsl.up hB4).kept hg5 (Apart.ne hap1)
      have hsp5 := (hsp.up hB4).kept hg5 (Apart.ne hap2)
      have hsr5 : Sl w5 (.slice (some ⟨wo.heap.size, 0, none⟩) N1 N1) rw_ := (Sl.own hrow4).kept hg5 (by
        cases hu : u9.ownBlock with
        | none => right; simp [Value.ownBlock]
        | some q => right; have := hlo q hu; simp only [Value.ownBlock, ne_eq, Option.some.injEq]; omega)
      have hap5 := (hap1.up hB4.size).moved hmv5 hg5.size
      have hap6 := (hap2.up hB4.size).moved hmv5 hg5.size
      have hlo5 := World.ownsRow.lt hown5
      have hW5 : Below w.heap.size w w5 := hbS.trans (hbel5.mono hbS.size)
      have hinv2 : TagInv C N (i + 1) (A ++ rw_) (plain ++ newRow C N last rw_) (newRow C N last rw_) := by
        have h1 := HINV.out
        rw [HN.out] at h1 ⊢
        exact h1.step (by rw [hrwl, HNN.out, HN.out]; omega) (by omega)
      have HINV2 := hid hinv2
      have hd1 : decode 15 C M (A ++ rw_) = (plain ++ newRow C N last rw_, 0) := by
        rw [HN.out] at hinv2 ⊢
        exact decode_of hC1 hC4 hM1 (by omega) hinv2.2.1 hinv2.1
      have HD1 := hid hd1
      have hnl : (newRow C N last rw_).length = N := newRow_length _ _ _ _
      have HNL := hid hnl
      have hxl : (plain ++ newRow C N last rw_).length = (i + 1) * N := by rw [List.length_append, HPLEN.out, hnl, Nat.succ_mul]
      have HXL := hid hxl
      obtain ⟨I, hI⟩ : ∃ I, I = i * N := ⟨_, rfl⟩
      obtain ⟨I1, hI1⟩ : ∃ I1, I1 = (i + 1) * N := ⟨_, rfl⟩
      have hII : I + N = I1 := by rw [hI, hI1, Nat.succ_mul]
      have hIm : (i : Int) * (N : Int) = (I : Int) := by rw [hI]; simp
      have hIm1 : ((i : Int) + 1) * (N : Int) = (I1 : Int) := by rw [hI1]; simp
      have hIb : I1 ≤ 800 := by rw [hI1]; exact Nat.le_trans (Nat.mul_le_mul (show i + 1 ≤ 20 by omega) hN4) (by omega)
      have HI := hid hI
      have HI1 := hid hI1
      have hAr : (A ++ rw_).length ≤ 1000 := by rw [List.length_append, hrwl]; omega
      clear hinv2 hd1 hnl hxl hI hI1 hB4 hbel2 hbel3 hrow2 hrow3 hrow4 hg5 hmv5 f3 f4 f5 hx1 hx2 hown hsl hsp hap1 hap2 hlo s0 s1 s2 HROWS
      by_cases h0 : i = 0
      · have hi0 : ((i : Int) == 0) = true := by simp [h0]
        have hdy : decode 15 C M rw_ = ((newRow C N last rw_), 0) := by
          rw [HN.out]
          have hl := HINV.out.2.2.1 h0
          rw [hl]
          exact tags_one hC1 hC4 hM1 (by omega) (by rw [hrwl, HNN.out, HN.out]; omega) (by omega)
        have HDY := hid hdy
        have hyl : ((newRow C N last rw_)).length = N := by exact HNL.out
        obtain ⟨YL, hYL⟩ : ∃ YL, YL = (newRow C N last rw_) := ⟨_, rfl⟩
        rw [← hYL] at HDY hyl
        obtain ⟨yn, hyn⟩ : ∃ yn, yn = N := ⟨_, rfl⟩
        rw [← hyn] at hyl
        have hynN : N ≤ yn := by omega
        have hyn2 : yn ≤ 100 := by omega
        have HYL := hid hyl
        have HYE := hid hYL
        have HYD := hid (show YL.drop (yn - N) = newRow C N last rw_ by rw [hyn, Nat.sub_self, hYL]; rfl)
        have hcur := Below.refl w5.heap.size w5
        have HT := hid h0
        clear h0 hdy hyl hYL hyn
        go_wp2_with (first
          | (go_at_call 10; refine (shape_any 15 C M _).mono ?_; rintro e wt ⟨rfl, hbt⟩; have hcur := below_then hcur hbt; (try have hcur7 := below_then hcur7 hbt); have k0 := cell_up' hbt k0; have k1 := cell_up' hbt k1; have k2 := cell_up' hbt k2)
          | (go_at_call_of 9 v5; refine (decode_any 15 C M _ (A ++ rw_) _ ((Sl.own hown5).up hcur) (by omega)).mono ?_; rintro e w7 ⟨u1, rfl, ho7, hbt⟩; rw [HD1.out] at ho7 ⊢; have hsx := Sl.own ho7; obtain ⟨ax, cx, hux, y1, y2, y3, y4⟩ := id hsx; rw [HXL.out, ← HI1.out] at hux; subst hux; have hcur := below_then hcur hbt; have k0 := cell_up' hbt k0; have k1 := cell_up' hbt k1; have k2 := cell_up' hbt k2; have hcur7 := Below.refl w7.heap.size w7)
          | (at_builtin; refine wpList_append_bytes by26 rfl (.tmp 69) (.tmp 70) rfl w7.heap.size (.slice (some ⟨w7.heap.size, 0, none⟩) 1 1) [0] last rfl (by exact OwnB.lit1 w7 0 5 _ (Nat.le_refl _)) _ _ _ rfl rfl (by obtain ⟨_, _, q1, _, _, q4, _⟩ := hsl5; injection q1 with e1 e2 e3; subst e1; subst e3; exact q4) (by obtain ⟨_, _, q1, _, _, _, q5⟩ := hsl5; injection q1 with e1 e2 e3; subst e1; exact q5.up (below_then hcur (Below.alloc (Below.refl _ _) (Nat.le_refl _) _))) (by simp; omega) (by simp) ?_; rintro v8 w8 hown8 hg8 -; have hcur7 : Below w7.heap.size w7 w8 := below_append (Below.alloc (Below.refl _ _) (Nat.le_refl _) _) (by exact OwnB.lit1 w7 0 5 _ (Nat.le_refl _)) hg8 (Nat.le_refl _) (by simp))
          | (at_builtin; refine wpList_append_bytes by26 rfl (.tmp 71) (.tmp 72) rfl w7.heap.size v8 ([0] ++ last) rw_ rfl hown8 (some ⟨wo.heap.size, 0, none⟩) N1 N1 rfl hrwl.symm (fun q => by cases q) (by obtain ⟨_, _, q1, _, _, _, q5⟩ := hsr5; injection q1 with e1 e2 e3; rw [e1]; exact q5.up (below_then hcur hcur7)) (by simp; omega) (by exact hcur7.size) ?_; rintro v9 w9 hown9 hg9 -; have hcur7 : Below w7.heap.size w7 w9 := below_append hcur7 hown8 hg9 (Nat.le_refl _) hcur7.size; have hcur := below_then hcur hcur7; have k0 := cell_up' hcur7 k0; have k1 := cell_up' hcur7 k1; have k2 := cell_up' hcur7 k2)
          | (go_at_call 9; refine (decode_any 15 C M _ rw_ _ (hsr5.up hcur) (by rw [hrwl]; omega)).mono ?_; rintro e w11 ⟨u2, rfl, ho11, hbt⟩; rw [HDY.out] at ho11 ⊢; have hsy := Sl.own ho11; obtain ⟨ay, cy, huy, z1, z2, z3, z4⟩ := id hsy; rw [HYL.out] at huy; subst huy; have hcur := below_then hcur hbt; have hcur7 := below_then hcur7 hbt; have hsx := hsx.up hcur7; have k0 := cell_up' hbt k0))
        obtain ⟨bx, ox, rfl, hbx, -⟩ := y4.some (by rw [HXL.out, ← HI1.out]; omega)
        obtain ⟨bY, oy, rfl, hby, -⟩ := z4.some (by rw [HYL.out]; omega)
        have hIc : I1 ≤ cx := by rw [HI1.out, ← HXL.out]; exact y1
        have hyc : yn ≤ cy := by rw [← HYL.out]; exact z1
        obtain ⟨D, hD⟩ : ∃ D, D = yn - N := ⟨_, rfl⟩
        have rx : Rd w11 (some ⟨bx, ox, none⟩) (plain ++ newRow C N last rw_) := Sl.rd hsx
        have rx1 : Rd w11 (some ⟨bx, ox + I, none⟩) (newRow C N last rw_) := by
          have := rd_drop1 rx I
          rwa [List.drop_left' (by rw [HPLEN.out, HI.out])] at this
        have rx2 : Rd w11 (some ⟨bx, ox, none⟩) plain := by
          have := rx.take I
          rwa [List.take_left' (by rw [HPLEN.out, HI.out])] at this
        have ry : Rd w11 (some ⟨bY, oy + D, none⟩) (newRow C N last rw_) := by
          have := rd_drop1 (Sl.rd hsy) D
          rwa [hD, HYD.out, ← hD] at this
        have rp : Rd w11 ap plain := Sl.rd (hsp5.up hcur)
        have HDD := hid hD
        have d1 : (yn : Int) - (N : Int) = (D : Int) := by omega
        have d2 : IntKind.i64.wrap (D : Int) = (D : Int) := IntWalk.i64_in _ (by omega)
        have d3 : IntKind.i64.wrap (I : Int) = (I : Int) := IntWalk.i64_in _ (by omega)
        have d4 : IntKind.i64.wrap (I1 : Int) = (I1 : Int) := IntWalk.i64_in _ (by omega)
        have d5 : IntKind.i64.wrap ((i : Int) + 1) = (i : Int) + 1 := IntWalk.i64_in _ (by omega)
        have d6 : decide (yn < N) = false := by simp; omega
        have d7 : ¬ cx = I := by omega
        have d8 : ¬ cy = D := by omega
        have d9 : ¬ cx = 0 := by omega
        have d10 : I ≤ I1 := by omega
        have d11 : D ≤ yn := by omega
        have d12 : I ≤ cx := by omega
        have g1 : I1 - I = (newRow C N last rw_).length := by rw [HNL.out]; omega
        have g2 : yn - D = (newRow C N last rw_).length := by rw [HNL.out]; omega
        have g3 : I = plain.length := by rw [HPLEN.out, HI.out]
        have g4 : (newRow C N last rw_).length ≤ 100000 := by rw [HNL.out]; omega
        have g5 : plain.length ≤ 100000 := by omega
        have G1 := hid g1
        have G2 := hid g2
        have G3 := hid g3
        have G4 := hid g4
        have hWB : Below wS.heap.size wS w11 := hbel5.trans (hcur.mono hbel5.size)
        have howA := hown5.up hcur
        clear g1 g2 g3 g4 hD k0 k1 k2 y1 y2 y3 y4 z1 z2 z3 z4 hsx hsy ho7 ho11 hsl5 hsp5 hsr5
        go_quiet ((first
          | (go_at_call_of 11 (Value.slice ap plain.length cp); exact Calls.quiet_of (same_yes _ G3.out rfl (rx2.drewN _) (rp.drewN _) g5))
          | (go_at_call 11; exact Calls.quiet_of (same_yes _ G1.out G2.out (rx1.drewN _) (ry.drewN _) G4.out))))
        clear d2 d3 d4 d5
        go_wp2_with (first
          | (go_at_call_of 12 (Value.slice (some ⟨bx, ox, none⟩) I1 cx); refine (copy_n _ _ _ (plain ++ newRow C N last rw_) _ (by rw [HXL.out, HI1.out]) (rx.drewN _) (by rw [HXL.out, ← HI1.out]; omega)).mono ?_; rintro e w12 ⟨u3, rfl, ho12, hb12⟩)
          | (go_at_call 12; refine (copy_n _ _ _ (newRow C N last rw_) _ G1.out (rx1.up (below_then (below_drewN (Below.refl _ _) _) hb12)) G4.out).mono ?_; rintro e w13 ⟨u4, rfl, ho13, hb13⟩))
        have hD0 := below_drewN (Below.refl w11.heap.size w11)
        have hcD := below_then (below_then (hD0 _) hb12) hb13
        have hs12 := hb12.size
        have hs5 := hcur.size
        refine ⟨⟨i + 1, by omega, by go_num, A ++ rw_, plain ++ newRow C N last rw_, newRow C N last rw_, HINV2.out, howA.up hcD, Sl.own ho13, (Sl.own ho12).up hb13, ?_, ?_, hWB.trans (hcD.mono hWB.size)⟩, by simp [intOf]; omega⟩
        · exact Apart.later (l := []) (base := 0) (fun q hq => by have := (hlo5 q hq).2; exact Nat.lt_of_lt_of_le this (Nat.le_trans hs5 hs12)) ho13
        · exact (Apart.later (l := []) (base := 0) (fun q hq => by have := (hlo5 q hq).2; exact Nat.lt_of_lt_of_le this hs5) ho12).up hb13.size
      · have hi0 : ((i : Int) == 0) = false := by simp [h0]
        have hdy : decode 15 C M ([0] ++ last ++ rw_) = ((last ++ newRow C N last rw_), 0) := by
          rw [HN.out]
          have hl := HINV.out.2.2.2.1 (by omega)
          exact tags_two hC1 hC4 hM1 (by omega) (by rw [hl, HN.out]) (by rw [hrwl, HNN.out, HN.out]; omega) (by omega)
        have HDY := hid hdy
        have hyl : ((last ++ newRow C N last rw_)).length = (N + N) := by rw [List.length_append, HNL.out, HINV.out.2.2.2.1 (by omega)]
        obtain ⟨YL, hYL⟩ : ∃ YL, YL = (last ++ newRow C N last rw_) := ⟨_, rfl⟩
        rw [← hYL] at HDY hyl
        obtain ⟨yn, hyn⟩ : ∃ yn, yn = (N + N) := ⟨_, rfl⟩
        rw [← hyn] at hyl
        have hynN : N ≤ yn := by omega
        have hyn2 : yn ≤ 100 := by omega
        have HYL := hid hyl
        have HYE := hid hYL
        have HYD := hid (show YL.drop (yn - N) = newRow C N last rw_ by rw [hyn, Nat.add_sub_cancel, hYL, ← HINV.out.2.2.2.1 (by omega)]; exact List.drop_left' rfl)
        have hcur := Below.refl w5.heap.size w5
        have HT := hid h0
        clear h0 hdy hyl hYL hyn
        go_wp2_with (first
          | (go_at_call 10; refine (shape_any 15 C M _).mono ?_; rintro e wt ⟨rfl, hbt⟩; have hcur := below_then hcur hbt; (try have hcur7 := below_then hcur7 hbt); have k0 := cell_up' hbt k0; have k1 := cell_up' hbt k1; have k2 := cell_up' hbt k2)
          | (go_at_call_of 9 v5; refine (decode_any 15 C M _ (A ++ rw_) _ ((Sl.own hown5).up hcur) (by omega)).mono ?_; rintro e w7 ⟨u1, rfl, ho7, hbt⟩; rw [HD1.out] at ho7 ⊢; have hsx := Sl.own ho7; obtain ⟨ax, cx, hux, y1, y2, y3, y4⟩ := id hsx; rw [HXL.out, ← HI1.out] at hux; subst hux; have hcur := below_then hcur hbt; have k0 := cell_up' hbt k0; have k1 := cell_up' hbt k1; have k2 := cell_up' hbt k2; have hcur7 := Below.refl w7.heap.size w7)
          | (at_builtin; refine wpList_append_bytes by26 rfl (.tmp 69) (.tmp 70) rfl w7.heap.size (.slice (some ⟨w7.heap.size, 0, none⟩) 1 1) [0] last rfl (by exact OwnB.lit1 w7 0 5 _ (Nat.le_refl _)) _ _ _ rfl rfl (by obtain ⟨_, _, q1, _, _, q4, _⟩ := hsl5; injection q1 with e1 e2 e3; subst e1; subst e3; exact q4) (by obtain ⟨_, _, q1, _, _, _, q5⟩ := hsl5; injection q1 with e1 e2 e3; subst e1; exact q5.up (below_then hcur (Below.alloc (Below.refl _ _) (Nat.le_refl _) _))) (by simp; omega) (by simp) ?_; rintro v8 w8 hown8 hg8 -; have hcur7 : Below w7.heap.size w7 w8 := below_append (Below.alloc (Below.refl _ _) (Nat.le_refl _) _) (by exact OwnB.lit1 w7 0 5 _ (Nat.le_refl _)) hg8 (Nat.le_refl _) (by simp))
          | (at_builtin; refine wpList_append_bytes by26 rfl (.tmp 71) (.tmp 72) rfl w7.heap.size v8 ([0] ++ last) rw_ rfl hown8 (some ⟨wo.heap.size, 0, none⟩) N1 N1 rfl hrwl.symm (fun q => by cases q) (by obtain ⟨_, _, q1, _, _, _, q5⟩ := hsr5; injection q1 with e1 e2 e3; rw [e1]; exact q5.up (below_then hcur hcur7)) (by simp; omega) (by exact hcur7.size) ?_; rintro v9 w9 hown9 hg9 -; have hcur7 : Below w7.heap.size w7 w9 := below_append hcur7 hown8 hg9 (Nat.le_refl _) hcur7.size; have hcur := below_then hcur hcur7; have k0 := cell_up' hcur7 k0; have k1 := cell_up' hcur7 k1; have k2 := cell_up' hcur7 k2)
          | (go_at_call 9; refine (decode_any 15 C M _ ([0] ++ last ++ rw_) _ ((Sl.own hown9).up (by assumption)) (by simp [hrwl]; omega)).mono ?_; rintro e w11 ⟨u2, rfl, ho11, hbt⟩; rw [HDY.out] at ho11 ⊢; have hsy := Sl.own ho11; obtain ⟨ay, cy, huy, z1, z2, z3, z4⟩ := id hsy; rw [HYL.out] at huy; subst huy; have hcur := below_then hcur hbt; have hcur7 := below_then hcur7 hbt; have hsx := hsx.up hcur7; have k0 := cell_up' hbt k0))
        obtain ⟨bx, ox, rfl, hbx, -⟩ := y4.some (by rw [HXL.out, ← HI1.out]; omega)
        obtain ⟨bY, oy, rfl, hby, -⟩ := z4.some (by rw [HYL.out]; omega)
        have hIc : I1 ≤ cx := by rw [HI1.out, ← HXL.out]; exact y1
        have hyc : yn ≤ cy := by rw [← HYL.out]; exact z1
        obtain ⟨D, hD⟩ : ∃ D, D = yn - N := ⟨_, rfl⟩
        have rx : Rd w11 (some ⟨bx, ox, none⟩) (plain ++ newRow C N last rw_) := Sl.rd hsx
        have rx1 : Rd w11 (some ⟨bx, ox + I, none⟩) (newRow C N last rw_) := by
          have := rd_drop1 rx I
          rwa [List.drop_left' (by rw [HPLEN.out, HI.out])] at this
        have rx2 : Rd w11 (some ⟨bx, ox, none⟩) plain := by
          have := rx.take I
          rwa [List.take_left' (by rw [HPLEN.out, HI.out])] at this
        have ry : Rd w11 (some ⟨bY, oy + D, none⟩) (newRow C N last rw_) := by
          have := rd_drop1 (Sl.rd hsy) D
          rwa [hD, HYD.out, ← hD] at this
        have rp : Rd w11 ap plain := Sl.rd (hsp5.up hcur)
        have HDD := hid hD
        have d1 : (yn : Int) - (N : Int) = (D : Int) := by omega
        have d2 : IntKind.i64.wrap (D : Int) = (D : Int) := IntWalk.i64_in _ (by omega)
        have d3 : IntKind.i64.wrap (I : Int) = (I : Int) := IntWalk.i64_in _ (by omega)
        have d4 : IntKind.i64.wrap (I1 : Int) = (I1 : Int) := IntWalk.i64_in _ (by omega)
        have d5 : IntKind.i64.wrap ((i : Int) + 1) = (i : Int) + 1 := IntWalk.i64_in _ (by omega)
        have d6 : decide (yn < N) = false := by simp; omega
        have d7 : ¬ cx = I := by omega
        have d8 : ¬ cy = D := by omega
        have d9 : ¬ cx = 0 := by omega
        have d10 : I ≤ I1 := by omega
        have d11 : D ≤ yn := by omega
        have d12 : I ≤ cx := by omega
        have g1 : I1 - I = (newRow C N last rw_).length := by rw [HNL.out]; omega
        have g2 : yn - D = (newRow C N last rw_).length := by rw [HNL.out]; omega
        have g3 : I = plain.length := by rw [HPLEN.out, HI.out]
        have g4 : (newRow C N last rw_).length ≤ 100000 := by rw [HNL.out]; omega
        have g5 : plain.length ≤ 100000 := by omega
        have G1 := hid g1
        have G2 := hid g2
        have G3 := hid g3
        have G4 := hid g4
        have hWB : Below wS.heap.size wS w11 := hbel5.trans (hcur.mono hbel5.size)
        have howA := hown5.up hcur
        clear g1 g2 g3 g4 hD k0 k1 k2 y1 y2 y3 y4 z1 z2 z3 z4 hsx hsy ho7 ho11 hsl5 hsp5 hsr5
        go_quiet ((first
          | (go_at_call_of 11 (Value.slice ap plain.length cp); exact Calls.quiet_of (same_yes _ G3.out rfl (rx2.drewN _) (rp.drewN _) g5))
          | (go_at_call 11; exact Calls.quiet_of (same_yes _ G1.out G2.out (rx1.drewN _) (ry.drewN _) G4.out))))
        clear d2 d3 d4 d5
        go_wp2_with (first
          | (go_at_call_of 12 (Value.slice (some ⟨bx, ox, none⟩) I1 cx); refine (copy_n _ _ _ (plain ++ newRow C N last rw_) _ (by rw [HXL.out, HI1.out]) (rx.drewN _) (by rw [HXL.out, ← HI1.out]; omega)).mono ?_; rintro e w12 ⟨u3, rfl, ho12, hb12⟩)
          | (go_at_call 12; refine (copy_n _ _ _ (newRow C N last rw_) _ G1.out (rx1.up (below_then (below_drewN (Below.refl _ _) _) hb12)) G4.out).mono ?_; rintro e w13 ⟨u4, rfl, ho13, hb13⟩))
        have hD0 := below_drewN (Below.refl w11.heap.size w11)
        have hcD := below_then (below_then (hD0 _) hb12) hb13
        have hs12 := hb12.size
        have hs5 := hcur.size
        refine ⟨⟨i + 1, by omega, by go_num, A ++ rw_, plain ++ newRow C N last rw_, newRow C N last rw_, HINV2.out, howA.up hcD, Sl.own ho13, (Sl.own ho12).up hb13, ?_, ?_, hWB.trans (hcD.mono hWB.size)⟩, by simp [intOf]; omega⟩
        · exact Apart.later (l := []) (base := 0) (fun q hq => by have := (hlo5 q hq).2; exact Nat.lt_of_lt_of_le this (Nat.le_trans hs5 hs12)) ho13
        · exact (Apart.later (l := []) (base := 0) (fun q hq => by have := (hlo5 q hq).2; exact Nat.lt_of_lt_of_le this hs5) ho12).up hb13.size
    · have hLi : L = i := by omega
      subst hLi
      go_wp2
      go_ret
      exact ⟨rfl, hbS.trans (hbel.mono hbS.size)⟩
end Go.Proofs.Ytmlaakadjkmphaa
