/-
  ParseKnown: chapter 12's examples, and what is refused: it returns true. No condition.
-/
import Derived.Test.YtlmgklebikcbjaaMem
import Derived.Test.YtlmgklebikcbjaaRows
import Derived.ProofKit
import Derived.OpenShut
import Derived.ShutString
import Derived.Lib.SmallJoins
import Derived.Test.YtlmgklebikcbjaaHm
import Derived.Test.YtlmgklebikcbjaaHh
import Derived.WalkKit
/-
  From the row's reading of an argument to the words of the walks: a slice of bytes that came in.
-/
namespace Go.Proofs.Ytlmgklebikcbjaa
open Go.ChangeShapes Go.WideShapes Go.ChangeAt Go.RowKit
set_option linter.unusedVariables false

set_option maxRecDepth 100000 in
theorem own9 : ownKnob Try.prog.godebug = none := by kernel_rfl
set_option maxRecDepth 100000 in
theorem laidOut9 : laidOutB Try.prog = true := by kernel_rfl

theorem u8_wf {n : Int} (h : (Lit.int .u8 n).wf = true) : 0 ≤ n ∧ n ≤ 255 := by
  have := bounds_u8 h; omega

theorem sl_of_ints {W : World} {a : Addr} {len cap : Nat} {zs : List Int} (hl : len ≤ cap) (hm : cap ≤ maxLen) (hz : len ≤ zs.length) (hcell : ∀ i, i < zs.length → W.cell? (a.add i) = some (.int .u8 (zs.getD i 0))) (hw : ∀ n ∈ zs, (Lit.int .u8 n).wf = true) :
    ∃ l : List UInt8, l.length = len ∧ Sl W (.slice (some a) len cap) l := by
  refine ⟨(zs.take len).map (fun n => UInt8.ofNat n.toNat), by simp; omega, some a, cap, by simp; omega, by simp; omega, hm, (fun h => by cases h), ?_⟩
  by_cases h0 : len = 0
  · left; subst h0; simp
  · right
    obtain ⟨b, off, spot⟩ := a
    have hspot : spot = none := by
      have := hcell 0 (by omega)
      simpa [Addr.add] using World.cell?_spot this
    subst hspot
    refine ⟨b, off, rfl, fun j hj => ?_⟩
    have hj' : j < len := by simp at hj; omega
    have h1 := hcell j (by omega)
    have e1 : (⟨b, off, none⟩ : Addr).add j = ⟨b, off + j, none⟩ := by cases j <;> simp [Addr.add]
    rw [e1] at h1
    rw [h1]
    have hmem : zs[j]'(by omega) ∈ zs := List.getElem_mem _
    have hb := u8_wf (hw _ hmem)
    have e2 : zs.getD j 0 = zs[j]'(by omega) := by simp [List.getD, List.getElem?_eq_getElem (show j < zs.length by omega)]
    rw [e2]
    congr 2
    have hj2 : j < (List.map (fun n : Int => UInt8.ofNat n.toNat) (List.take len zs)).length := hj
    simp only [b8, List.getD, List.getElem?_eq_getElem hj2, Option.getD_some, List.getElem_map, List.getElem_take]
    rw [UInt8.toNat_ofNat', Nat.mod_eq_of_lt (by omega)]
    omega

variable {H : Type} {enc : TypeId × Value → H}

set_option maxRecDepth 100000 in
/-- a slice of bytes that came in -/
theorem sl_open {W : World} {v : Value} {d : DataW H} {p : List MemPlace} {base : Nat} (hk : Value.okWide Try.prog W .any base 25 v) (h : DataW.Trod enc Try.prog W 0 (fun _ => true) true 25 v d p) : ∃ l, Sl W v l := by
  obtain ⟨a0, len, cap, rfl⟩ := okWide_slice Try.underlying25 hk
  obtain ⟨fuel, hf⟩ := h
  rcases open_ints Try.underlying25 Try.underlying5 (by kernel_rfl) hf with ⟨hcs, _⟩ | ⟨x, l, c, zs, hcs, _, hl, hm, hz, _, hcell, hwz⟩
  · simp [Value.cells] at hcs
    obtain ⟨rfl, rfl, rfl⟩ := hcs
    exact ⟨[], Sl.nil W⟩
  · simp [Value.cells] at hcs
    obtain ⟨rfl, rfl, rfl⟩ := hcs
    simp only [if_true] at hz
    obtain ⟨l, _, h2⟩ := sl_of_ints hl hm (by omega) hcell hwz
    exact ⟨l, h2⟩

theorem trod_lt {W : World} {t : TypeId} {v : Value} {d : DataW H} {p : List MemPlace} {P : Program} (h : DataW.Trod enc P W 0 (fun _ => true) true t v d p) : ∀ x ∈ p, x.block < W.heap.size := by
  obtain ⟨m, hm⟩ := h; exact DataW.trod_lt m _ _ _ hm
end Go.Proofs.Ytlmgklebikcbjaa

/-
  ParseKnown: chapter 12's examples, and what is refused. No condition.
-/
namespace Go.Proofs.Ytlmgklebikcbjaa
open Go.RowKit
set_option linter.unusedVariables false

def k1B : List UInt8 := [60, 60, 47, 66, 32, 49, 47, 65, 32, 110, 117, 108, 108, 62, 62]
def k2B : List UInt8 := [91, 91, 49, 93, 93]
def k3B : List UInt8 := [60, 60, 47, 65, 32, 49, 47, 65, 32, 110, 117, 108, 108, 62, 62]
def k4B : List UInt8 := [49, 32, 50]
def k5B : List UInt8 := [91, 49]
def kiB : List UInt8 := [51, 32, 48, 32, 111, 98, 106, 32, 60, 60, 47, 76, 101, 110, 103, 116, 104, 32, 50, 62, 62, 32, 115, 116, 114, 101, 97, 109, 10, 97, 98, 10, 101, 110, 100, 115, 116, 114, 101, 97, 109, 32, 101, 110, 100, 111, 98, 106]
set_option maxRecDepth 100000 in
theorem k1_pv : PV false (.v (dep 9)) k1B (.ok (poDict [([66], poInt 1)]) []) := ⟨40, by kernel_rfl⟩
set_option maxRecDepth 100000 in
theorem k2_pv : PV false (.v (dep 1)) k2B (.bad 6 [91, 49, 93, 93]) := ⟨40, by kernel_rfl⟩
set_option maxRecDepth 100000 in
theorem k3_pv : PV false (.v (dep 9)) k3B (.bad 4 [47, 65, 32, 110, 117, 108, 108, 62, 62]) := ⟨40, by kernel_rfl⟩
set_option maxRecDepth 100000 in
theorem k4_pv : PV false (.v (dep 9)) k4B (.ok (poInt 1) [32, 50]) := ⟨40, by kernel_rfl⟩
set_option maxRecDepth 100000 in
theorem k5_pv : PV false (.v (dep 9)) k5B (.bad 2 []) := ⟨40, by kernel_rfl⟩
set_option maxRecDepth 100000 in
theorem ki_1 : wantN 1 8388607 kiB = .ok 3 [32, 48, 32, 111, 98, 106, 32, 60, 60, 47, 76, 101, 110, 103, 116, 104, 32, 50, 62, 62, 32, 115, 116, 114, 101, 97, 109, 10, 97, 98, 10, 101, 110, 100, 115, 116, 114, 101, 97, 109, 32, 101, 110, 100, 111, 98, 106] := by kernel_rfl
set_option maxRecDepth 100000 in
theorem ki_2 : wantN 0 0 [32, 48, 32, 111, 98, 106, 32, 60, 60, 47, 76, 101, 110, 103, 116, 104, 32, 50, 62, 62, 32, 115, 116, 114, 101, 97, 109, 10, 97, 98, 10, 101, 110, 100, 115, 116, 114, 101, 97, 109, 32, 101, 110, 100, 111, 98, 106] = .ok 0 [32, 111, 98, 106, 32, 60, 60, 47, 76, 101, 110, 103, 116, 104, 32, 50, 62, 62, 32, 115, 116, 114, 101, 97, 109, 10, 97, 98, 10, 101, 110, 100, 115, 116, 114, 101, 97, 109, 32, 101, 110, 100, 111, 98, 106] := by kernel_rfl
set_option maxRecDepth 100000 in
theorem ki_3 : wantS bObj [32, 111, 98, 106, 32, 60, 60, 47, 76, 101, 110, 103, 116, 104, 32, 50, 62, 62, 32, 115, 116, 114, 101, 97, 109, 10, 97, 98, 10, 101, 110, 100, 115, 116, 114, 101, 97, 109, 32, 101, 110, 100, 111, 98, 106] = .ok 0 [32, 60, 60, 47, 76, 101, 110, 103, 116, 104, 32, 50, 62, 62, 32, 115, 116, 114, 101, 97, 109, 10, 97, 98, 10, 101, 110, 100, 115, 116, 114, 101, 97, 109, 32, 101, 110, 100, 111, 98, 106] := by kernel_rfl
set_option maxRecDepth 100000 in
theorem ki_4 : PV false (.v (dep 9)) [32, 60, 60, 47, 76, 101, 110, 103, 116, 104, 32, 50, 62, 62, 32, 115, 116, 114, 101, 97, 109, 10, 97, 98, 10, 101, 110, 100, 115, 116, 114, 101, 97, 109, 32, 101, 110, 100, 111, 98, 106] (.ok (poDict [(bLength, poInt 2)]) [32, 115, 116, 114, 101, 97, 109, 10, 97, 98, 10, 101, 110, 100, 115, 116, 114, 101, 97, 109, 32, 101, 110, 100, 111, 98, 106]) := ⟨40, by kernel_rfl⟩
set_option maxRecDepth 100000 in
theorem ki_5 : aft 3 (.ok (poDict [(bLength, poInt 2)]) [32, 115, 116, 114, 101, 97, 109, 10, 97, 98, 10, 101, 110, 100, 115, 116, 114, 101, 97, 109, 32, 101, 110, 100, 111, 98, 106]) = .ok 3 (.mk 8 0 [97, 98] [] []) [] := by kernel_rfl
theorem ki_it : IT false (dep 9) kiB (.ok 3 (.mk 8 0 [97, 98] [] []) []) := by rw [← ki_5]; exact IT.go ki_1 ki_2 ki_3 ki_4

theorem ItQ.ok' {q : Bool} {w w' : World} {pp lp cp : Nat} {b : List UInt8} {n : Int} {o : PO} {r : List UInt8} {e : Ending} (h : ItQ q w pp lp cp b (.ok n o r) e w') : ∃ vs : List Value, e = .returned (.tuple #[.agg (.int .i64 n :: vs).toArray, .int .i64 0]) ∧ OV (fun g => w.heap.size ≤ g ∧ g < w'.heap.size) w' vs o ∧ ∃ j, Ps q w w' pp lp cp b j r := h
theorem key7 {w : World} {g off : Nat} {k : List UInt8} (h : w.cell? ⟨g, off + 0 * 6 + 0, none⟩ = some (.string (st k))) (e : k = [66]) : w.cell? ⟨g, off, none⟩ = some (.string ⟨#[66]⟩) := by
  subst e
  have h2 : w.cell? ⟨g, off, none⟩ = some (.string (st [66])) := by simpa using h
  exact h2
theorem OV.bytes {A : Nat → Prop} {w : World} {k n : Int} {vb vl vd : Value} {k2 n2 : Int} {b : List UInt8} {l : List PO} {d : List (List UInt8 × PO)} (h : OV A w [.int .i64 k, .int .i64 n, vb, vl, vd] (.mk k2 n2 b l d)) : Sl w vb b := by
  cases h with
  | mk _ _ _ _ _ _ _ _ _ _ hb => exact hb.1
theorem AQ.long {w w' : World} {o : PO} {r : List UInt8} {e : Ending} (h : AQ w (.ok o r) e w') (hr : r.drop (bl r false) ≠ []) : e = .returned (.tuple #[.agg #[.int .i64 0, .int .i64 0, .slice none 0 0, .slice none 0 0, .slice none 0 0], .int .i64 3]) ∧ Below w.heap.size w w' := by
  have h2 : (if r.drop (bl r false) = [] then (∃ vs : List Value, e = .returned (.tuple #[.agg vs.toArray, .int .i64 0]) ∧ OV (fun g => w.heap.size ≤ g ∧ g < w'.heap.size) w' vs o ∧ Below w.heap.size w w') else (e = .returned (.tuple #[ob 0 0 (.slice none 0 0), .int .i64 3]) ∧ Below w.heap.size w w')) := h
  rw [if_neg hr] at h2
  exact h2
theorem AQ.no {w w' : World} {x : Int} {t : List UInt8} {e : Ending} (h : AQ w (.bad x t) e w') : e = .returned (.tuple #[.agg #[.int .i64 0, .int .i64 0, .slice none 0 0, .slice none 0 0, .slice none 0 0], .int .i64 x]) ∧ Below w.heap.size w w' := h
set_option maxRecDepth 100000 in
theorem k4_long : ([32, 50] : List UInt8).drop (bl [32, 50] false) ≠ [] := by decide

set_option maxHeartbeats 3200000 in
set_option maxRecDepth 100000 in
theorem pkn_any (w : World) : Calls Try.prog 13 #[] w fun e w' => e = .returned (.bool true) ∧ Below w.heap.size w w' := by
  have kc := fun (w : World) (C : Array Value) (n c : Nat) => Lib.run_convert_bytes_const (P := Try.prog) w 25 5 C n c Try.underlying25 Try.underlying5
  go_enter Try.func13, Try.ntmps13
  go_upto_region 3 with (go_at_call 36; refine (awake12_any _).mono ?_; rintro e w1 ⟨rfl, hb1⟩)
  go_upto_region 4 with (go_at_call 40; refine (pall_any _ k1B 9 _ (Sl.litM _ _ _ _ _ _ rfl rfl (by decide)) (by decide)).mono ?_; rintro e v1 ⟨res, hpv, hq⟩; obtain rfl := PV.one hpv k1_pv; obtain ⟨vs, rfl, hov, hb2⟩ := hq.ok; obtain ⟨c1, c3, c4, c6, c7, c9, rfl⟩ := OV.shape (k := 7) (n := 0) (b := []) (l := []) (d := [([66], poInt 1)]) hov; obtain ⟨D, hD, hS⟩ := OV.ents (k := 7) (n := 0) (b := []) (l := []) (d := [([66], poInt 1)]) hov; obtain ⟨e0, D, rfl, y0, hD⟩ := All2.inv hD; obtain ⟨g7, off7, rfl, hc7⟩ := hS.some (by simp); have hk7 := hid (key7 (hc7 0 (by simp) 0 _ rfl) y0.1))
  have hB := below_then (below_then (below_then hb1 (alb w1 _)) hb2) (alb v1 (.cells #[.int .i64 7, .int .i64 0, .slice c1 0 c3, .slice c4 0 c6, .slice (some ⟨g7, off7, none⟩) 1 c9] 61))
  have hX1 := C5.new v1 _ rfl [.int .i64 7, .int .i64 0, .slice c1 0 c3, .slice c4 0 c6, .slice (some ⟨g7, off7, none⟩) 1 c9] 61
  have hk7 := hid (cell_up' (alb v1 (.cells #[.int .i64 7, .int .i64 0, .slice c1 0 c3, .slice c4 0 c6, .slice (some ⟨g7, off7, none⟩) 1 c9] 61)) hk7.out)
  clear hov hD hS hc7 y0 hb1 hb2
  generalize v1.alloc (.cells #[.int .i64 7, .int .i64 0, .slice c1 0 c3, .slice c4 0 c6, .slice (some ⟨g7, off7, none⟩) 1 c9] 61) = W1 at *
  generalize v1.heap.size = g1 at *
  go_upto_region 5 with (go_at_call 40; refine (pall_any _ k2B 1 _ (Sl.litM _ _ _ _ _ _ rfl rfl (by decide)) (by decide)).mono ?_; rintro e v2 ⟨res, hpv, hq⟩; obtain rfl := PV.one hpv k2_pv; obtain ⟨rfl, hb2⟩ := hq.no)
  have hX1 := ((hX1.up (alb W1 _)).up hb2).up (alb v2 (.cells #[.int .i64 0, .int .i64 0, .slice none 0 0, .slice none 0 0, .slice none 0 0] 61))
  have hk7 := hid (cell_up' (alb v2 (.cells #[.int .i64 0, .int .i64 0, .slice none 0 0, .slice none 0 0, .slice none 0 0] 61)) (cell_up' hb2 (cell_up' (alb W1 _) hk7.out)))
  have hB := below_then (below_then (below_then hB (alb W1 _)) hb2) (alb v2 (.cells #[.int .i64 0, .int .i64 0, .slice none 0 0, .slice none 0 0, .slice none 0 0] 61))
  clear hb2
  generalize v2.alloc (.cells #[.int .i64 0, .int .i64 0, .slice none 0 0, .slice none 0 0, .slice none 0 0] 61) = W2 at *
  go_upto_region 6 with (go_at_call 40; refine (pall_any _ k3B 9 _ (Sl.litM _ _ _ _ _ _ rfl rfl (by decide)) (by decide)).mono ?_; rintro e v3 ⟨res, hpv, hq⟩; obtain rfl := PV.one hpv k3_pv; obtain ⟨rfl, hb2⟩ := hq.no)
  have hX1 := ((hX1.up (alb W2 _)).up hb2).up (alb v3 (.cells #[.int .i64 0, .int .i64 0, .slice none 0 0, .slice none 0 0, .slice none 0 0] 61))
  have hk7 := hid (cell_up' (alb v3 (.cells #[.int .i64 0, .int .i64 0, .slice none 0 0, .slice none 0 0, .slice none 0 0] 61)) (cell_up' hb2 (cell_up' (alb W2 _) hk7.out)))
  have hB := below_then (below_then (below_then hB (alb W2 _)) hb2) (alb v3 (.cells #[.int .i64 0, .int .i64 0, .slice none 0 0, .slice none 0 0, .slice none 0 0] 61))
  clear hb2
  generalize v3.alloc (.cells #[.int .i64 0, .int .i64 0, .slice none 0 0, .slice none 0 0, .slice none 0 0] 61) = W3 at *
  go_upto_region 7 with (go_at_call 40; refine (pall_any _ k4B 9 _ (Sl.litM _ _ _ _ _ _ rfl rfl (by decide)) (by decide)).mono ?_; rintro e v4 ⟨res, hpv, hq⟩; obtain rfl := PV.one hpv k4_pv; obtain ⟨rfl, hb2⟩ := hq.long k4_long)
  have hX1 := ((hX1.up (alb W3 _)).up hb2).up (alb v4 (.cells #[.int .i64 0, .int .i64 0, .slice none 0 0, .slice none 0 0, .slice none 0 0] 61))
  have hk7 := hid (cell_up' (alb v4 (.cells #[.int .i64 0, .int .i64 0, .slice none 0 0, .slice none 0 0, .slice none 0 0] 61)) (cell_up' hb2 (cell_up' (alb W3 _) hk7.out)))
  have hB := below_then (below_then (below_then hB (alb W3 _)) hb2) (alb v4 (.cells #[.int .i64 0, .int .i64 0, .slice none 0 0, .slice none 0 0, .slice none 0 0] 61))
  clear hb2
  generalize v4.alloc (.cells #[.int .i64 0, .int .i64 0, .slice none 0 0, .slice none 0 0, .slice none 0 0] 61) = W4 at *
  go_upto_region 8 with (go_at_call 40; refine (pall_any _ k5B 9 _ (Sl.litM _ _ _ _ _ _ rfl rfl (by decide)) (by decide)).mono ?_; rintro e v5 ⟨res, hpv, hq⟩; obtain rfl := PV.one hpv k5_pv; obtain ⟨rfl, hb2⟩ := hq.no)
  have hX1 := ((hX1.up (alb W4 _)).up hb2).up (alb v5 (.cells #[.int .i64 0, .int .i64 0, .slice none 0 0, .slice none 0 0, .slice none 0 0] 61))
  have hk7 := hid (cell_up' (alb v5 (.cells #[.int .i64 0, .int .i64 0, .slice none 0 0, .slice none 0 0, .slice none 0 0] 61)) (cell_up' hb2 (cell_up' (alb W4 _) hk7.out)))
  have hB := below_then (below_then (below_then hB (alb W4 _)) hb2) (alb v5 (.cells #[.int .i64 0, .int .i64 0, .slice none 0 0, .slice none 0 0, .slice none 0 0] 61))
  clear hb2
  generalize v5.alloc (.cells #[.int .i64 0, .int .i64 0, .slice none 0 0, .slice none 0 0, .slice none 0 0] 61) = W5 at *
  go_upto_region 10 with (first | (go_at_call 42; refine (parse_new _ kiB 9 _ (Sl.litM _ _ _ _ _ _ rfl rfl (by decide)) (by decide)).mono ?_; rintro e v6 ⟨pp, lp, cp, rfl, hpp, hlp, hcp, hP, hdc, hb2⟩) | (go_at_call 49; refine (item_any (d := dep 9) hP (by rw [dep_cast]; exact hdc) (value_all (by decide) _ (dep_le 9)) (by decide)).mono ?_; rintro e v7 ⟨r, hit, hq⟩; obtain rfl := IT.one hit ki_it; obtain ⟨vs, rfl, hov, j5, hPs⟩ := hq.ok'; obtain ⟨d1, d3, d4, d6, d7, d9, rfl⟩ := OV.shape (k := 8) (n := 0) (b := [97, 98]) (l := []) (d := []) hov))
  have hb7 := hb2.trans (hPs.bel hb2.size hlp hcp)
  have hk7 := cell_up' (alb v7 (.cells #[.int .i64 3, .int .i64 8, .int .i64 0, .slice d1 2 d3, .slice d4 0 d6, .slice d7 0 d9] 86)) (cell_up' hb7 (cell_up' (alb W5 _) hk7.out))
  have hX1 := ((hX1.up (alb W5 _)).up hb7).up (alb v7 (.cells #[.int .i64 3, .int .i64 8, .int .i64 0, .slice d1 2 d3, .slice d4 0 d6, .slice d7 0 d9] 86))
  have hX2 := C5.new v7 _ rfl [.int .i64 3, .int .i64 8, .int .i64 0, .slice d1 2 d3, .slice d4 0 d6, .slice d7 0 d9] 86
  have hS2 := (OV.bytes hov).up (alb v7 (.cells #[.int .i64 3, .int .i64 8, .int .i64 0, .slice d1 2 d3, .slice d4 0 d6, .slice d7 0 d9] 86))
  have hB := below_then (below_then (below_then hB (alb W5 _)) hb7) (alb v7 (.cells #[.int .i64 3, .int .i64 8, .int .i64 0, .slice d1 2 d3, .slice d4 0 d6, .slice d7 0 d9] 86))
  clear hP hdc hb2 hpp hlp hcp hb7 hPs hov hit
  generalize v7.alloc (.cells #[.int .i64 3, .int .i64 8, .int .i64 0, .slice d1 2 d3, .slice d4 0 d6, .slice d7 0 d9] 86) = W7 at *
  generalize v7.heap.size = g8 at *
  have hcv : (convert 25 9 (.slice d1 2 d3)).run Try.prog W7 = .ok (.string ⟨#[97, 98]⟩) W7 := sl_string (P := Try.prog) W7 25 9 5 Try.underlying25 (by kernel_rfl) (by kernel_rfl) _ _ hS2
  obtain ⟨xc, xf, xs⟩ := id hX1
  obtain ⟨yc, yf, ys⟩ := id hX2
  have HB := hid hB
  clear hB
  go_wp2
  go_ret
  exact ⟨rfl, HB.out⟩
end Go.Proofs.Ytlmgklebikcbjaa

/-
  ParseKnown: chapter 12's examples, and what is refused: it returns true. No condition.
-/
namespace Go.Proofs.Ytlmgklebikcbjaa
open Go.ChangeShapes Go.WideShapes Go.ChangeAt Go.RowKit
open Go.ChangeMaps (open_string shut_string)
set_option linter.unusedVariables false

set_option maxRecDepth 100000 in
theorem pkn_lifted (os : Os) (started : os.Started) (H : Type) (enc : TypeId × Value → H) :
    ReturnsInHanded {} Try.checked os 13 .any (Rows.parseKnownSpec.pre6 enc Try.prog Try.f13 Rows.parseKnownRow.domain false) (Rows.parseKnownSpec.post enc Try.prog Try.f13 false true false false) := by
  refine returnsInHanded_of_change (C := Try.checked) own9 started (by kernel_rfl) Try.func13
    (ChangeSpec.witness6 (enc := enc) (C := Try.checked) false ⟨#[], #[], []⟩ 8 (by kernel_rfl) (by kernel_rfl) (by kernel_rfl) (by kernel_rfl)) ?_
  intro W base args ds gs before hval0 hW hcnd _
  have hval : ∀ (j : Nat) t v, Try.f13.params[j]? = some t → args[j]? = some v → Value.okWide Try.prog W .any base t v := hval0
  have hW' := hW
  obtain ⟨p, q, hA0, hV, rfl, hfz, hnd⟩ := hW
  have hA : DataW.TrodAll enc Try.prog W 0 (fun _ => true) true Try.f13.params.toList args.toList ds p := hA0
  rw [Try.params13] at hA hval
  obtain ⟨rfl, rfl, rfl⟩ := trodAll_none hA
  obtain ⟨rfl, rfl⟩ := trodVars_none hV

  clear hA0 hval0
  refine (pkn_any  W ).mono fun e W' ⟨he, bel⟩ => ?_
  subst he
  exact ⟨_, rfl, _, _, _, [], _, [], hW', trodAll_mk1 (shut_bool Try.underlying4 _), trodAll_mk0 , rfl, bel.frame _, fun h => by cases h⟩

set_option maxRecDepth 100000 in
theorem pkn_holds : Rows.ParseKnownSaid :=
  OpenClaim.holds_of_wide 13 Try.f13 rfl rfl rfl rfl rfl rfl rfl ⟨rfl, rfl, rfl, rfl, rfl⟩ rfl rfl rfl rfl rfl (by kernel_rfl) Try.func13 (by kernel_rfl)
    (of_decide_eq_true (by kernel_rfl)) (by unfold Func.isWrapper; first | (rw [if_pos (by decide +kernel)]; kernel_rfl) | (rw [if_neg (by decide +kernel)]; exact ⟨rfl, rfl⟩))
    (fun os started H enc _ => pkn_lifted os started H enc)
#print axioms pkn_holds
end Go.Proofs.Ytlmgklebikcbjaa
