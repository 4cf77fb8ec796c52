/-
  ParseShifts: ParseShifts: blanks ahead of a text change nothing of what is read, but move each place by so many. No condition. No condition.
-/
import Derived.Test.YtlmgklebikcbjaaMem
import Derived.Test.YtlmgklebikcbjaaRows
import Derived.ProofKit
import Derived.OpenShut
import Derived.ShutString
import Derived.Lib.SmallJoins
import Derived.Test.YtlmgklebikcbjaaHn
import Derived.Test.YtlmgklebikcbjaaHh
import Derived.WalkKit
/-
  From the row's reading of an argument to the words of the walks: a slice of bytes that came in.
-/
namespace Go.Proofs.Ytlmgklebikcbjaa
open Go.ChangeShapes Go.WideShapes Go.ChangeAt Go.RowKit
set_option linter.unusedVariables false

set_option maxRecDepth 100000 in
theorem own9 : ownKnob Try.prog.godebug = none := by kernel_rfl
set_option maxRecDepth 100000 in
theorem laidOut9 : laidOutB Try.prog = true := by kernel_rfl

theorem u8_wf {n : Int} (h : (Lit.int .u8 n).wf = true) : 0 ≤ n ∧ n ≤ 255 := by
  have := bounds_u8 h; omega

theorem sl_of_ints {W : World} {a : Addr} {len cap : Nat} {zs : List Int} (hl : len ≤ cap) (hm : cap ≤ maxLen) (hz : len ≤ zs.length) (hcell : ∀ i, i < zs.length → W.cell? (a.add i) = some (.int .u8 (zs.getD i 0))) (hw : ∀ n ∈ zs, (Lit.int .u8 n).wf = true) :
    ∃ l : List UInt8, l.length = len ∧ Sl W (.slice (some a) len cap) l := by
  refine ⟨(zs.take len).map (fun n => UInt8.ofNat n.toNat), by simp; omega, some a, cap, by simp; omega, by simp; omega, hm, (fun h => by cases h), ?_⟩
  by_cases h0 : len = 0
  · left; subst h0; simp
  · right
    obtain ⟨b, off, spot⟩ := a
    have hspot : spot = none := by
      have := hcell 0 (by omega)
      simpa [Addr.add] using World.cell?_spot this
    subst hspot
    refine ⟨b, off, rfl, fun j hj => ?_⟩
    have hj' : j < len := by simp at hj; omega
    have h1 := hcell j (by omega)
    have e1 : (⟨b, off, none⟩ : Addr).add j = ⟨b, off + j, none⟩ := by cases j <;> simp [Addr.add]
    rw [e1] at h1
    rw [h1]
    have hmem : zs[j]'(by omega) ∈ zs := List.getElem_mem _
    have hb := u8_wf (hw _ hmem)
    have e2 : zs.getD j 0 = zs[j]'(by omega) := by simp [List.getD, List.getElem?_eq_getElem (show j < zs.length by omega)]
    rw [e2]
    congr 2
    have hj2 : j < (List.map (fun n : Int => UInt8.ofNat n.toNat) (List.take len zs)).length := hj
    simp only [b8, List.getD, List.getElem?_eq_getElem hj2, Option.getD_some, List.getElem_map, List.getElem_take]
    rw [UInt8.toNat_ofNat', Nat.mod_eq_of_lt (by omega)]
    omega

variable {H : Type} {enc : TypeId × Value → H}

set_option maxRecDepth 100000 in
/-- a slice of bytes that came in -/
theorem sl_open {W : World} {v : Value} {d : DataW H} {p : List MemPlace} {base : Nat} (hk : Value.okWide Try.prog W .any base 25 v) (h : DataW.Trod enc Try.prog W 0 (fun _ => true) true 25 v d p) : ∃ l, Sl W v l := by
  obtain ⟨a0, len, cap, rfl⟩ := okWide_slice Try.underlying25 hk
  obtain ⟨fuel, hf⟩ := h
  rcases open_ints Try.underlying25 Try.underlying5 (by kernel_rfl) hf with ⟨hcs, _⟩ | ⟨x, l, c, zs, hcs, _, hl, hm, hz, _, hcell, hwz⟩
  · simp [Value.cells] at hcs
    obtain ⟨rfl, rfl, rfl⟩ := hcs
    exact ⟨[], Sl.nil W⟩
  · simp [Value.cells] at hcs
    obtain ⟨rfl, rfl, rfl⟩ := hcs
    simp only [if_true] at hz
    obtain ⟨l, _, h2⟩ := sl_of_ints hl hm (by omega) hcell hwz
    exact ⟨l, h2⟩

theorem trod_lt {W : World} {t : TypeId} {v : Value} {d : DataW H} {p : List MemPlace} {P : Program} (h : DataW.Trod enc P W 0 (fun _ => true) true t v d p) : ∀ x ∈ p, x.block < W.heap.size := by
  obtain ⟨m, hm⟩ := h; exact DataW.trod_lt m _ _ _ hm
end Go.Proofs.Ytlmgklebikcbjaa

/-
  ParseShifts: blanks ahead of a text change nothing of what is read, but move each place by so many; the walk. Condition: none but what its arguments read as.
-/
namespace Go.Proofs.Ytlmgklebikcbjaa
open Go.RowKit
set_option linter.unusedVariables false

def bk (k : Nat) : UInt8 := if k % 4 = 0 then 32 else if k % 4 = 1 then 10 else if k % 4 = 2 then 0 else 9
def bks (n : Nat) : List UInt8 := (List.range n).map bk
theorem bks_succ (n : Nat) : bks (n + 1) = bks n ++ [bk n] := by unfold bks; rw [List.range_succ, List.map_append]; rfl
theorem bks_len (n : Nat) : (bks n).length = n := by unfold bks; simp
theorem bks_white (n : Nat) : ∀ x ∈ bks n, wh (c8 x) = true := by
  intro x hx
  unfold bks at hx
  rw [List.mem_map] at hx
  obtain ⟨k, -, rfl⟩ := hx
  unfold bk
  split
  · decide
  · split
    · decide
    · split
      · decide
      · decide
theorem OV.side {B C x y : Nat} {w w' : World} {vs : List Value} {q : PO} (h : OV (fun g => B ≤ g ∧ g < C) w vs q) (hh : Held w.heap.size x y w w') (hx : x < B) (hy : y < B) : OV (fun g => B ≤ g ∧ g < C) w' vs q :=
  h.keep (fun _ h => h) (fun g hg hlt => hh.block g hlt (by have := hg.1; omega) (by have := hg.1; omega))
theorem held_grow {w w' : World} {row : Option Nat} (hg : w.grownBy w' row) (g : Nat) (hr : ∀ k, row = some k → k = g) : Held w.heap.size g g w w' :=
  ⟨hg.os, hg.tape, hg.output, hg.size, fun k hk h1 _ => hg.block k hk (fun q => h1 (hr k q.symm))⟩

set_option maxHeartbeats 3200000 in
set_option maxRecDepth 100000 in
theorem shifts_any (v : Value) (b : List UInt8) (n k : Int) (w : World) (h : Sl w v b) (hn : (Lit.int .i64 n).wf = true) (hk : (Lit.int .u8 k).wf = true) :
    Calls Try.prog 14 #[v, .int .i64 n, .int .u8 k] w fun e w' => e = .returned (.bool true) ∧ Below w.heap.size w w' := by
  obtain ⟨ao, cap, rfl, c1, c2, c3, c4⟩ := id h
  by_cases hl : (b.length : Int) > 600
  · go_enter Try.func14, Try.ntmps14
    go_wp2_with (go_at_call 36; refine (awake12_any _).mono ?_; rintro e w1 ⟨rfl, hb1⟩)
    go_ret
    exact ⟨rfl, hb1⟩
  · have hl2 : b.length ≤ 600 := by omega
    have hk2 : 0 ≤ k ∧ k ≤ 255 := u8_wf hk
    obtain ⟨hk3, hk4⟩ := hk2
    obtain ⟨m, hm⟩ : ∃ m : Nat, k % 20 = (m : Int) := ⟨(k % 20).toNat, by omega⟩
    have hm20 : m < 20 := by omega
    have HM := hid hm
    clear hm
    have hw600 : decide ((600 : Int) < (b.length : Int)) = false := decide_eq_false (by omega)
    go_enter Try.func14, Try.ntmps14
    go_wp2_with (go_at_call 36; refine (awake12_any _).mono ?_; rintro e w1 ⟨rfl, hb1⟩)
    have hbs1 := hb1.size
    clear hk3 hk4 hk hw600 hl
    go_loopw [8, 9] (fun s8 s9 wr => ∃ i : Nat, i ≤ m ∧ s9 = .int .i64 i ∧ OwnB wr w1.heap.size 5 s8 (bks i) ∧ Below w1.heap.size w1 wr) (fun _ s9 _ => m - (intOf s9).toNat)
    case atStart => exact ⟨0, Nat.zero_le _, rfl, OwnB.nil _ _ _, Below.refl _ _⟩
    case round =>
      obtain ⟨i, hi, rfl, hown, hbel⟩ := hrel
      by_cases hlt : i < m
      · have hiz : (i : Int) < k % 20 := by rw [HM.out]; omega
        have hbs := bks_succ i
        have hln := bks_len i
        have h4 : i % 4 = 0 ∨ i % 4 = 1 ∨ i % 4 = 2 ∨ i % 4 = 3 := by omega
        have hzz := hbel.size
        generalize bks i = o at *
        rcases h4 with h4 | h4 | h4 | h4
        · have hb9 : bk i = byteOf 32 := by unfold bk; rw [h4]; rfl
          have e4 : (i : Int) % 4 = 0 := by omega
          clear h4
          go_wp2_with (at_builtin; refine wpList_append_bytes (t := 25) (e := 5) bytesTy rfl _ _ rfl w1.heap.size _ o [byteOf 32] rfl ((hown.alloc _).alloc _) _ 1 1 rfl rfl (fun q => by cases q) (Rd.byteM _ _ _ _ (by simp) (by omega) (by omega)) (by simp; omega) (by simp; omega) ?_; intro v1 w2 q1 q2 q3)
          have hb2 := below_append (below_then (below_then hbel (alb wr (.cells #[.int .u8 32, .int .u8 10, .int .u8 0, .int .u8 9] 5))) (alb _ (.cells #[.int .u8 32] 5))) ((hown.alloc _).alloc _) q2 (Nat.le_refl _) (by simp; omega)
          go_roundw
          case rel => exact ⟨i + 1, by omega, by go_num, by rw [hbs, hb9]; exact q1, hb2⟩
          case measure => simp [intOf]; omega
        · have hb9 : bk i = byteOf 10 := by unfold bk; rw [h4]; rfl
          have e4 : (i : Int) % 4 = 1 := by omega
          clear h4
          go_wp2_with (at_builtin; refine wpList_append_bytes (t := 25) (e := 5) bytesTy rfl _ _ rfl w1.heap.size _ o [byteOf 10] rfl ((hown.alloc _).alloc _) _ 1 1 rfl rfl (fun q => by cases q) (Rd.byteM _ _ _ _ (by simp) (by omega) (by omega)) (by simp; omega) (by simp; omega) ?_; intro v1 w2 q1 q2 q3)
          have hb2 := below_append (below_then (below_then hbel (alb wr (.cells #[.int .u8 32, .int .u8 10, .int .u8 0, .int .u8 9] 5))) (alb _ (.cells #[.int .u8 10] 5))) ((hown.alloc _).alloc _) q2 (Nat.le_refl _) (by simp; omega)
          go_roundw
          case rel => exact ⟨i + 1, by omega, by go_num, by rw [hbs, hb9]; exact q1, hb2⟩
          case measure => simp [intOf]; omega
        · have hb9 : bk i = byteOf 0 := by unfold bk; rw [h4]; rfl
          have e4 : (i : Int) % 4 = 2 := by omega
          clear h4
          go_wp2_with (at_builtin; refine wpList_append_bytes (t := 25) (e := 5) bytesTy rfl _ _ rfl w1.heap.size _ o [byteOf 0] rfl ((hown.alloc _).alloc _) _ 1 1 rfl rfl (fun q => by cases q) (Rd.byteM _ _ _ _ (by simp) (by omega) (by omega)) (by simp; omega) (by simp; omega) ?_; intro v1 w2 q1 q2 q3)
          have hb2 := below_append (below_then (below_then hbel (alb wr (.cells #[.int .u8 32, .int .u8 10, .int .u8 0, .int .u8 9] 5))) (alb _ (.cells #[.int .u8 0] 5))) ((hown.alloc _).alloc _) q2 (Nat.le_refl _) (by simp; omega)
          go_roundw
          case rel => exact ⟨i + 1, by omega, by go_num, by rw [hbs, hb9]; exact q1, hb2⟩
          case measure => simp [intOf]; omega
        · have hb9 : bk i = byteOf 9 := by unfold bk; rw [h4]; rfl
          have e4 : (i : Int) % 4 = 3 := by omega
          clear h4
          go_wp2_with (at_builtin; refine wpList_append_bytes (t := 25) (e := 5) bytesTy rfl _ _ rfl w1.heap.size _ o [byteOf 9] rfl ((hown.alloc _).alloc _) _ 1 1 rfl rfl (fun q => by cases q) (Rd.byteM _ _ _ _ (by simp) (by omega) (by omega)) (by simp; omega) (by simp; omega) ?_; intro v1 w2 q1 q2 q3)
          have hb2 := below_append (below_then (below_then hbel (alb wr (.cells #[.int .u8 32, .int .u8 10, .int .u8 0, .int .u8 9] 5))) (alb _ (.cells #[.int .u8 9] 5))) ((hown.alloc _).alloc _) q2 (Nat.le_refl _) (by simp; omega)
          go_roundw
          case rel => exact ⟨i + 1, by omega, by go_num, by rw [hbs, hb9]; exact q1, hb2⟩
          case measure => simp [intOf]; omega
      · obtain rfl : i = m := by omega
        have hiz : ¬ (i : Int) < k % 20 := by rw [HM.out]; omega
        have hbw := below_then hb1 hbel
        have hbl := bks_len i
        have hwh := bks_white i
        have hlt1 := World.ownsRow.lt hown
        have hsb := Nat.le_trans hb1.size hbel.size
        have hcb : 0 < b.length → ∀ a, ao = some a → a.block < w.heap.size := fun h0 a ha => by
          obtain ⟨g, off, q1, q2, -⟩ := c4.some h0
          rw [q1] at ha; injection ha with ha; subst ha; exact q2
        have HWH := hid hwh
        have HBL := hid hbl
        have HCB := hid hcb
        clear hbl hwh hcb
        generalize bks i = bb at *
        go_upto_region 12 with (first | (go_at_call 42; (with_reducible refine (parse_new_row v3 (bb ++ b) n _ (Sl.own q1) (by rw [List.length_append, HBL.out]; omega)).mono ?_); rintro e w4 ⟨pq, lq, cq, rfl, hpq, hlq, hcq, hQ, hdq, hb4, hRq⟩) | (at_builtin; refine wpList_append_bytes (t := 25) (e := 5) bytesTy rfl _ _ rfl w1.heap.size _ bb b rfl (OwnB.up hown hb2) ao b.length cap rfl rfl c3 (c4.up (below_then hbw hb2)) (by rw [HBL.out]; omega) (by have := hb2.size; have := hbel.size; omega) ?_; intro v3 w3 q1 q2 q3) | (go_at_call 42; (with_reducible refine (parse_new_row (.slice ao b.length cap) b n _ (h.up hbw) (by omega)).mono ?_); rintro e w2 ⟨pp, lp, cp, rfl, hpp, hlp, hcp, hP, hdc, hb2, hR⟩))
        have hbl := HBL.out
        -- both parsers, in one world
        have z0 : pp < w2.heap.size := World.block_lt_of_cell? _ _ hP.p0
        have z1 : lp < w2.heap.size := World.block_lt_of_cell? _ _ hP.l0
        have z2 : cp < w2.heap.size := by obtain ⟨a9, c9, r1, -⟩ := hR; exact World.block_lt_of_cell? _ _ r1
        have hs3 := q2.size
        have hs2 := hb2.size
        obtain ⟨g, hg1, hg2⟩ : ∃ g, (∀ k, u8.ownBlock = some k → k = g) ∧ ((w1.heap.size ≤ g ∧ g < wr.heap.size) ∨ g = w2.heap.size) := by
          cases ho : u8.ownBlock with
          | none => exact ⟨w2.heap.size, (fun k q => by cases q), .inr rfl⟩
          | some g => exact ⟨g, (fun k q => by injection q with q; exact q.symm), .inl (hlt1 g ho)⟩
        have hG := held_grow q2 g hg1
        have hr0 : RowAt w2 cp b (fun k => k < w.heap.size) := by
          obtain ⟨a9, c9, r1, r2⟩ := hR
          exact ⟨a9, c9, r1, fun h0 a ha => by
            have h1 := r2 h0 a ha
            cases ao with
            | none => cases h1
            | some aa => injection h1 with h1; rw [← h1]; exact HCB.out h0 aa rfl⟩
        have hP3 := hP.side (hr0.imp fun k q => by omega) hG (by omega) (by omega) (by omega)
        have hr3 := hr0.held hG (by omega)
        have hdc3 := hG.cell' (a := ⟨pp, 1, none⟩) hdc (by show pp ≠ g; omega) (by show pp ≠ g; omega)
        have hrq : RowAt w4 cq (bb ++ b) (fun k => k ≠ lp ∧ k ≠ cp) := hRq.imp fun k q => by
          rcases q3 with q3 | q3
          · rw [q3] at q
            have h1 := hg1 k q
            have h2 := hlt1 k q
            omega
          · rw [q3] at q; injection q with q; omega
        rw [← dep_cast] at hdc3 hdq
        have hB3 : Below w.heap.size w w3 := below_append (below_then hbw hb2) (OwnB.up hown hb2) q2 hb1.size (by omega)
        have hT : Two (dep n) w w4 pp lp cp pq lq cq b (bb ++ b) 0 0 := ⟨(hP3.below hb4).fresh, hQ, cell_up' hb4 hdc3, hdq, (hr3.up hb4).imp fun k q => by omega, hrq, by omega, by omega, hB3.trans (hb4.mono hB3.size), by omega⟩
        have hbel4 : Below w.heap.size w w4 := hT.bel
        obtain ⟨cc, hcc⟩ : ∃ cc, cc = bb ++ b := ⟨_, rfl⟩
        have HWV := hid (show ∀ (d : Nat) (res : PRes), PV false (.v d) cc res → PV false (.v d) b res from fun d res q => PV.whites (a := bb) (HWH.out) (hcc ▸ q))
        have HCL := hid (show cc.length = i + b.length by rw [hcc, List.length_append, HBL.out])
        rw [← hcc] at hT
        clear hcc hP hP3 hQ hdc hb2 hR hr0 hr3 hdc3 hdq hb4 hRq hrq hB3 hG q1 q2 q3 hown hbel hbw hlt1 hbl hg1 hg2
        clear hpp hlp hcp hpq hlq hcq z0 z1 z2 hs3 hs2 hsb hbs1
        have hl9 := hT.p.lo
        have hl8 := hT.q.lo
        have hn1 := hT.p.nl
        have hbc : b.length ≤ 600 ∧ cc.length ≤ 620 := by rw [HCL.out]; omega
        go_upto_region 13 with (go_at_call 44; refine (value_top hT.p hT.dp (value_all (by omega) _ (dep_le n))).mono ?_; rintro e v5 ⟨res, hpv, hvq⟩; obtain ⟨vs1, rfl, hov1, j5, hP5⟩ := hvq.both; have hV := hov1.v5; have hov1 := hid hov1; obtain ⟨y1, y2, y3, y4, y5, y6, y7, y8, y9, y10, y11, rfl⟩ := hV)
        have hs5 := hP5.size
        have hT := (hT.stepP hP5).below (alb v5 (.cells #[.int .i64 y1, .int .i64 y2, .slice y3 y6 y7, .slice y4 y8 y9, .slice y5 y10 y11] 61))
        have hX1 := C5.new v5 _ rfl [.int .i64 y1, .int .i64 y2, .slice y3 y6 y7, .slice y4 y8 y9, .slice y5 y10 y11] 61
        have HO1 := hid (hov1.out.up (alb v5 (.cells #[.int .i64 y1, .int .i64 y2, .slice y3 y6 y7, .slice y4 y8 y9, .slice y5 y10 y11] 61)))
        have hD5 := hid hP5.drp
        have HPV := hid hpv
        have ha5 := (alb v5 (.cells #[.int .i64 y1, .int .i64 y2, .slice y3 y6 y7, .slice y4 y8 y9, .slice y5 y10 y11] 61)).size
        clear hP5 hpv hvq
        generalize v5.alloc (.cells #[.int .i64 y1, .int .i64 y2, .slice y3 y6 y7, .slice y4 y8 y9, .slice y5 y10 y11] 61) = W5 at *
        generalize v5.heap.size = g5 at *
        go_upto_region 14 with (go_at_call 44; refine (value_top hT.q hT.dq (value_all (by omega) _ (dep_le n))).mono ?_; rintro e v6 ⟨res2, hpv2, hvq2⟩; obtain ⟨vs2, rfl, hov2, j6, hP6⟩ := hvq2.both; have hV := hov2.v5; have hov2 := hid hov2; obtain ⟨z1, z2, z3, z4, z5, z6, z7, z8, z9, z10, z11, rfl⟩ := hV)
        obtain rfl : res2 = res := PV.one (HWV.out _ _ hpv2) HPV.out
        have hs6 := hP6.size
        have hT := (hT.stepQ hP6).below (alb v6 (.cells #[.int .i64 z1, .int .i64 z2, .slice z3 z6 z7, .slice z4 z8 z9, .slice z5 z10 z11] 61))
        have hX1 := (hX1.held hP6.held (by omega) (by omega)).up (alb v6 (.cells #[.int .i64 z1, .int .i64 z2, .slice z3 z6 z7, .slice z4 z8 z9, .slice z5 z10 z11] 61))
        have hX2 := C5.new v6 _ rfl [.int .i64 z1, .int .i64 z2, .slice z3 z6 z7, .slice z4 z8 z9, .slice z5 z10 z11] 61
        have HO1 := hid ((HO1.out.side hP6.held (by omega) (by omega)).up (alb v6 (.cells #[.int .i64 z1, .int .i64 z2, .slice z3 z6 z7, .slice z4 z8 z9, .slice z5 z10 z11] 61)))
        have HO2 := hid (hov2.out.up (alb v6 (.cells #[.int .i64 z1, .int .i64 z2, .slice z3 z6 z7, .slice z4 z8 z9, .slice z5 z10 z11] 61)))
        have hD6 := hid hP6.drp
        have ha6 := (alb v6 (.cells #[.int .i64 z1, .int .i64 z2, .slice z3 z6 z7, .slice z4 z8 z9, .slice z5 z10 z11] 61)).size
        clear hP6 hpv2 hvq2
        generalize v6.alloc (.cells #[.int .i64 z1, .int .i64 z2, .slice z3 z6 z7, .slice z4 z8 z9, .slice z5 z10 z11] 61) = W6 at *
        generalize v6.heap.size = g6 at *
        go_upto_region 15 with (go_at_call 49; refine (item_any hT.p hT.dp (value_all (by omega) _ (dep_le n)) (by omega)).mono ?_; rintro e v7 ⟨r, hit, hq⟩; obtain ⟨vs3, rfl, hov3, j7, hP7⟩ := hq; have hV := hov3.v5; have hov3 := hid hov3; obtain ⟨x1, x2, x3, x4, x5, x6, x7, x8, x9, x10, x11, rfl⟩ := hV)
        have hs7 := hP7.size
        have hT := (hT.stepP hP7).below (alb v7 (.cells #[.int .i64 r.n, .int .i64 x1, .int .i64 x2, .slice x3 x6 x7, .slice x4 x8 x9, .slice x5 x10 x11] 86))
        have hX1 := (hX1.held hP7.held (by omega) (by omega)).up (alb v7 (.cells #[.int .i64 r.n, .int .i64 x1, .int .i64 x2, .slice x3 x6 x7, .slice x4 x8 x9, .slice x5 x10 x11] 86))
        have hX2 := (hX2.held hP7.held (by omega) (by omega)).up (alb v7 (.cells #[.int .i64 r.n, .int .i64 x1, .int .i64 x2, .slice x3 x6 x7, .slice x4 x8 x9, .slice x5 x10 x11] 86))
        have hX3 := C5.new v7 _ rfl [.int .i64 r.n, .int .i64 x1, .int .i64 x2, .slice x3 x6 x7, .slice x4 x8 x9, .slice x5 x10 x11] 86
        have HO1 := hid ((HO1.out.side hP7.held (by omega) (by omega)).up (alb v7 (.cells #[.int .i64 r.n, .int .i64 x1, .int .i64 x2, .slice x3 x6 x7, .slice x4 x8 x9, .slice x5 x10 x11] 86)))
        have HO2 := hid ((HO2.out.side hP7.held (by omega) (by omega)).up (alb v7 (.cells #[.int .i64 r.n, .int .i64 x1, .int .i64 x2, .slice x3 x6 x7, .slice x4 x8 x9, .slice x5 x10 x11] 86)))
        have HO3 := hid (hov3.out.up (alb v7 (.cells #[.int .i64 r.n, .int .i64 x1, .int .i64 x2, .slice x3 x6 x7, .slice x4 x8 x9, .slice x5 x10 x11] 86)))
        have hD7 := hid hP7.drp
        have HIT := hid (show IT false (dep n) res2.rest r from by rw [← hD5.out]; exact hit)
        have ha7 := (alb v7 (.cells #[.int .i64 r.n, .int .i64 x1, .int .i64 x2, .slice x3 x6 x7, .slice x4 x8 x9, .slice x5 x10 x11] 86)).size
        clear hP7 hit
        generalize v7.alloc (.cells #[.int .i64 r.n, .int .i64 x1, .int .i64 x2, .slice x3 x6 x7, .slice x4 x8 x9, .slice x5 x10 x11] 86) = W7 at *
        generalize v7.heap.size = g7 at *
        go_upto_region 16 with (go_at_call 49; refine (item_any hT.q hT.dq (value_all (by omega) _ (dep_le n)) (by omega)).mono ?_; rintro e v8 ⟨r2, hit2, hq2⟩; obtain ⟨vs4, rfl, hov4, j8, hP8⟩ := hq2; have hV := hov4.v5; have hov4 := hid hov4; obtain ⟨t1, t2, t3, t4, t5, t6, t7, t8, t9, t10, t11, rfl⟩ := hV)
        obtain rfl : r2 = r := IT.one (show IT false (dep n) res2.rest r2 from by rw [← hD6.out]; exact hit2) HIT.out
        have hs8 := hP8.size
        have hT := (hT.stepQ hP8).below (alb v8 (.cells #[.int .i64 r2.n, .int .i64 t1, .int .i64 t2, .slice t3 t6 t7, .slice t4 t8 t9, .slice t5 t10 t11] 86))
        have hX1 := (hX1.held hP8.held (by omega) (by omega)).up (alb v8 (.cells #[.int .i64 r2.n, .int .i64 t1, .int .i64 t2, .slice t3 t6 t7, .slice t4 t8 t9, .slice t5 t10 t11] 86))
        have hX2 := (hX2.held hP8.held (by omega) (by omega)).up (alb v8 (.cells #[.int .i64 r2.n, .int .i64 t1, .int .i64 t2, .slice t3 t6 t7, .slice t4 t8 t9, .slice t5 t10 t11] 86))
        have hX3 := (hX3.held hP8.held (by omega) (by omega)).up (alb v8 (.cells #[.int .i64 r2.n, .int .i64 t1, .int .i64 t2, .slice t3 t6 t7, .slice t4 t8 t9, .slice t5 t10 t11] 86))
        have hX4 := C5.new v8 _ rfl [.int .i64 r2.n, .int .i64 t1, .int .i64 t2, .slice t3 t6 t7, .slice t4 t8 t9, .slice t5 t10 t11] 86
        have HO1 := hid ((HO1.out.side hP8.held (by omega) (by omega)).up (alb v8 (.cells #[.int .i64 r2.n, .int .i64 t1, .int .i64 t2, .slice t3 t6 t7, .slice t4 t8 t9, .slice t5 t10 t11] 86)))
        have HO2 := hid ((HO2.out.side hP8.held (by omega) (by omega)).up (alb v8 (.cells #[.int .i64 r2.n, .int .i64 t1, .int .i64 t2, .slice t3 t6 t7, .slice t4 t8 t9, .slice t5 t10 t11] 86)))
        have HO3 := hid ((HO3.out.side hP8.held (by omega) (by omega)).up (alb v8 (.cells #[.int .i64 r2.n, .int .i64 t1, .int .i64 t2, .slice t3 t6 t7, .slice t4 t8 t9, .slice t5 t10 t11] 86)))
        have HO4 := hid (hov4.out.up (alb v8 (.cells #[.int .i64 r2.n, .int .i64 t1, .int .i64 t2, .slice t3 t6 t7, .slice t4 t8 t9, .slice t5 t10 t11] 86)))
        have hD8 := hid hP8.drp
        clear hP8 hit2
        generalize v8.alloc (.cells #[.int .i64 r2.n, .int .i64 t1, .int .i64 t2, .slice t3 t6 t7, .slice t4 t8 t9, .slice t5 t10 t11] 86) = W8 at *
        generalize v8.heap.size = g8 at *
        have HS1 := hid (fun (W : World) (hW : Below W8.heap.size W8 W) => same_of HO1.out _ _ HO2.out W hW)
        have HS2 := hid (fun (W : World) (hW : Below W8.heap.size W8 W) => same_of HO3.out _ _ HO4.out W hW)
        have hat : ((j8 : Int) == (j7 : Int) + k % 20) = true := by
          have e1 := hT.p.at_
          have e2 := hT.q.at_
          rw [hD7.out] at e1
          rw [hD8.out] at e2
          have e3 := HCL.out
          have e4 := HM.out
          have : (j8 : Int) = (j7 : Int) + k % 20 := by rw [e4]; omega
          rw [this]; simp
        have hw1 : IntKind.i64.wrap ((j7 : Int) + k % 20) = (j7 : Int) + k % 20 := by
          have e1 := hT.p.at_
          have e4 := HM.out
          exact IntWalk.i64_in _ (by omega)
        have HBEL := hid hT.bel
        generalize r2.n = rn at *
        generalize r2.code = rc9 at *
        generalize res2.code = rc8 at *
        clear HO1 HO2 HO3 HO4 hD5 hD6 hD7 hD8 HPV HIT HWV hs5 hs6 hs7 hs8 ha5 ha6 ha7
        obtain ⟨xa, xb, xc⟩ := id hX1
        obtain ⟨ya, yb, yc⟩ := id hX2
        obtain ⟨za, zb, zc⟩ := id hX3
        obtain ⟨ta, tb, tc⟩ := id hX4
        go_wp2_with (first | (go_at_call 46; (with_reducible refine (at_p hT10.p).mono ?_); rintro e w11 ⟨rfl, rfl⟩) | (go_at_call 46; (with_reducible refine (at_p hT10.q).mono ?_); rintro e w11 ⟨rfl, rfl⟩) | (go_at_call 41; (with_reducible refine (HS2.out w9 hb9).mono ?_); rintro e w10 ⟨rfl, hb10⟩; have hT10 := (hT.below hb9).below hb10) | (go_at_call 41; (with_reducible refine (HS1.out W8 (Below.refl _ _)).mono ?_); rintro e w9 ⟨rfl, hb9⟩; obtain ⟨xa, xb, xc⟩ := id (hX1.up hb9); obtain ⟨ya, yb, yc⟩ := id (hX2.up hb9); obtain ⟨za, zb, zc⟩ := id (hX3.up hb9); obtain ⟨ta, tb, tc⟩ := id (hX4.up hb9)))
        go_ret
        exact ⟨rfl, (HBEL.out.trans (hb9.mono HBEL.out.size)).trans (hb10.mono (HBEL.out.trans (hb9.mono HBEL.out.size)).size)⟩
end Go.Proofs.Ytlmgklebikcbjaa

/-
  ParseShifts: ParseShifts: blanks ahead of a text change nothing of what is read, but move each place by so many. No condition. No condition.
-/
namespace Go.Proofs.Ytlmgklebikcbjaa
open Go.ChangeShapes Go.WideShapes Go.ChangeAt Go.RowKit
open Go.ChangeMaps (open_string shut_string)
set_option linter.unusedVariables false

set_option maxRecDepth 100000 in
theorem shifts_lifted (os : Os) (started : os.Started) (H : Type) (enc : TypeId × Value → H) :
    ReturnsInHanded {} Try.checked os 14 .any (Rows.parseShiftsSpec.pre6 enc Try.prog Try.f14 Rows.parseShiftsRow.domain false) (Rows.parseShiftsSpec.post enc Try.prog Try.f14 false true false false) := by
  refine returnsInHanded_of_change (C := Try.checked) own9 started (by kernel_rfl) Try.func14
    (ChangeSpec.witness6 (enc := enc) (C := Try.checked) false ⟨#[], #[.slice none 0 0, .int .i64 0, .int .u8 0], []⟩ 8 (by kernel_rfl) (by kernel_rfl) (by kernel_rfl) (by kernel_rfl)) ?_
  intro W base args ds gs before hval0 hW hcnd _
  have hval : ∀ (j : Nat) t v, Try.f14.params[j]? = some t → args[j]? = some v → Value.okWide Try.prog W .any base t v := hval0
  have hW' := hW
  obtain ⟨p, q, hA0, hV, rfl, hfz, hnd⟩ := hW
  have hA : DataW.TrodAll enc Try.prog W 0 (fun _ => true) true Try.f14.params.toList args.toList ds p := hA0
  rw [Try.params14] at hA hval
  obtain ⟨v0, v1, v2, d0, d1, d2, p0, p1, p2, rfl, rfl, rfl, h0, h1, h2⟩ := trodAll_three hA
  obtain ⟨rfl, rfl⟩ := trodVars_none hV
  obtain ⟨l0, hl0⟩ := sl_open (hval 0 25 v0 rfl rfl) h0
  obtain ⟨n1, rfl, rfl, rfl, hn1⟩ := open_int Try.underlying3 (hval 1 3 v1 rfl rfl) h1
  obtain ⟨n2, rfl, rfl, rfl, hn2⟩ := open_int Try.underlying5 (hval 2 5 v2 rfl rfl) h2
  clear hA0 hval0
  refine (shifts_any v0 l0 n1 n2 W hl0 hn1 hn2).mono fun e W' ⟨he, bel⟩ => ?_
  subst he
  exact ⟨_, rfl, _, _, _, [], _, [], hW', trodAll_mk1 (shut_bool Try.underlying4 _), trodAll_mk3 (Below.trod laidOut9 (by kernel_rfl) (of_decide_eq_true (by kernel_rfl)) h0 bel (trod_lt h0)) (shut_int Try.underlying3 hn1) (shut_int Try.underlying5 hn2), rfl, bel.frame _, fun h => by cases h⟩

set_option maxRecDepth 100000 in
theorem shifts_holds : Rows.ParseShiftsSaid :=
  OpenClaim.holds_of_wide 14 Try.f14 rfl rfl rfl rfl rfl rfl rfl ⟨rfl, rfl, rfl, rfl, rfl⟩ rfl rfl rfl rfl rfl (by kernel_rfl) Try.func14 (by kernel_rfl)
    (of_decide_eq_true (by kernel_rfl)) (by unfold Func.isWrapper; first | (rw [if_pos (by decide +kernel)]; kernel_rfl) | (rw [if_neg (by decide +kernel)]; exact ⟨rfl, rfl⟩))
    (fun os started H enc _ => shifts_lifted os started H enc)
#print axioms shifts_holds
end Go.Proofs.Ytlmgklebikcbjaa
