/-
  The document's value, by the contracts of array and dict. Condition: the parser stands in its bytes.
-/
import Derived.Test.YtlmgklebikcbjaaGreatDoorJe
import Derived.Test.YtlmgklebikcbjaaGreatDoorHe
import Derived.Test.YtlmgklebikcbjaaGreatDoorHc
/-
  The document's parser: its state; NewParser; stop. Condition: it stands in its bytes.
-/
namespace Go.Proofs.YtlmgklebikcbjaaGreatDoor
open Go.RowKit
set_option linter.unusedVariables false

/-- block pp is the document's parser: a lexer at place i of b, s stands from there on; dp deep; q: no references -/
structure Pd (q : Bool) (dp : Nat) (w0 w : World) (pp : Nat) (b : List UInt8) (i : Nat) (s : List UInt8) : Prop where
  cx : Cx w0 w pp b i s (.slice none 0 0) []
  d2 : w.cell? ⟨pp, 2, none⟩ = some (.int .i64 dp)
  d3 : w.cell? ⟨pp, 3, none⟩ = some (.bool q)
section
variable {q : Bool} {dp : Nat} {w0 w w' : World} {pp : Nat} {b : List UInt8} {i : Nat} {s : List UInt8}
theorem Pd.low (h : Pd q dp w0 w pp b i s) : pp < w0.heap.size ∧ pp < w.heap.size := by
  obtain ⟨ao, cap, h1, h2⟩ := h.cx.cur
  exact ⟨h2.cp, World.block_lt_of_cell? _ _ h1.c0⟩
theorem Pd.fresh (h : Pd q dp w0 w pp b i s) : Pd q dp w w pp b i s := ⟨h.cx.fresh, h.d2, h.d3⟩
theorem Pd.step (h : Pd q dp w0 w pp b i s) {j : Nat} {t : List UInt8} {u : Value} {out : List UInt8} (k : Cx w w' pp b j t u out) : Pd q dp w0 w' pp b j t :=
  ⟨(h.cx.join k).bare, (k.off 2 (Nat.le_refl _)).trans h.d2, (k.off 3 (by omega)).trans h.d3⟩
theorem Pd.join (h : Pd q dp w0 w pp b i s) {j : Nat} {t : List UInt8} (k : Pd q dp w w' pp b j t) : Pd q dp w0 w' pp b j t := h.step k.cx
/-- what lies behind w0 may change -/
theorem Pd.under (h : Pd q dp w0 w pp b i s) (hb : Below w0.heap.size w w') : Pd q dp w0 w' pp b i s :=
  ⟨h.cx.grow hb (OwnB.nil _ _ _), by rw [hb.cell (p := ⟨pp, 2, none⟩) h.low.1]; exact h.d2, by rw [hb.cell (p := ⟨pp, 3, none⟩) h.low.1]; exact h.d3⟩
theorem Pd.below (h : Pd q dp w0 w pp b i s) (hb : Below w.heap.size w w') : Pd q dp w0 w' pp b i s := h.under (hb.mono h.cx.held.size)
theorem Pd.off (h : Pd q dp w0 w pp b i s) {B r : Nat} (hh : Held B r r w w') (hB : w0.heap.size ≤ B) (hr : w0.heap.size ≤ r) : Pd q dp w0 w' pp b i s := h.under (hh.below hB hr hr)
theorem Pd.to (h : Pd q dp w0 w pp b i s) (j : Nat) (n : Int) (hn : n = j) (hj : j ≤ b.length) : Pd q dp w0 (w.setCell ⟨pp, 1, none⟩ (.int .i64 n)) pp b j (b.drop j) :=
  ⟨h.cx.to j n hn hj, by rw [cset_ne (fun q => by injection q with _ q2; omega)]; exact h.d2, by rw [cset_ne (fun q => by injection q with _ q2; omega)]; exact h.d3⟩
theorem Pd.bel (h : Pd q dp w0 w pp b i s) {B : Nat} (hB : B ≤ w0.heap.size) (hp : B ≤ pp) : Below B w0 w := h.cx.held.below hB hp hp
end

set_option maxHeartbeats 800000 in
set_option maxRecDepth 100000 in
theorem rstop_any {q : Bool} {dp : Nat} {w : World} {pp : Nat} {b s : List UInt8} {i : Nat} (h : Pd q dp w w pp b i s) (k : Nat) (n : Int) (hn : n = k) (hk : k ≤ b.length) (x : Int) :
    Calls Tryz.prog 140 #[.pointer (some ⟨pp, 0, none⟩), .int .i64 n, .int .i64 x] w fun e w' => e = .returned (.tuple #[ob 0 0 (.slice none 0 0), .int .i64 x]) ∧ Pd q dp w w' pp b k (b.drop k) := by
  subst hn
  have HP2 := hid ((h.to k _ rfl hk).below (alb _ (.cells #[.int .i64 0, .int .i64 0, .slice none 0 0, .slice none 0 0, .slice none 0 0] 47)))
  have hc1 := h.cx.c1
  have hf1 := h.cx.f1
  have hlow := h.low.1
  clear h
  go_enter Tryz.func140, Tryz.ntmps140
  go_wp2
  exact bodyPost_ret (v := .tuple #[ob 0 0 (.slice none 0 0), .int .i64 x]) (by simp [results, Tryz.results140, go_sem]) rfl ⟨rfl, HP2.out⟩

set_option maxHeartbeats 800000 in
set_option maxRecDepth 100000 in
/-- NewParser -/
theorem rnew_any (v : Value) (b : List UInt8) (n : Int) (w : World) (h : Sl w v b) (hl : b.length ≤ 3600000) :
    Calls Tryz.prog 40 #[v, .int .i64 n] w fun e w' => e = .returned (.pointer (some ⟨w.heap.size, 0, none⟩)) ∧ w' = w.alloc (.cells #[v, .int .i64 0, .int .i64 (min (max n 0) 28), .bool false] 98) := by
  obtain ⟨ao, cap, rfl, c1, c2, c3, c4⟩ := h
  go_enter Tryz.func40, Tryz.ntmps40
  go_wp2
  go_ret
  exact ⟨rfl, rfl⟩
end Go.Proofs.YtlmgklebikcbjaaGreatDoor

/-
  The document's whole: a number, or the object that it names. Condition: the parser stands in its bytes.
-/
namespace Go.Proofs.YtlmgklebikcbjaaGreatDoor
open Go.RowKit
set_option linter.unusedVariables false

/-- what the document's whole gives -/
def RWholeQ (q : Bool) (dp : Nat) (w : World) (pp : Nat) (b : List UInt8) : PRes → Ending → World → Prop
  | .bad _ _, _, _ => False
  | .ok (.mk k n _ _ _) r, e, w' => e = .returned (ob k n (.slice none 0 0)) ∧ ∃ j, Pd q dp w w' pp b j r

set_option maxHeartbeats 800000 in
set_option maxRecDepth 100000 in
theorem rwhole_no {q : Bool} {dp : Nat} {w : World} {pp : Nat} {b s : List UInt8} {i : Nat} (h : Pd q dp w w pp b i s) (n a : Int) (v : Value) (out : List UInt8) (hv : Sl w v out) (hn : ¬ (1 ≤ n ∧ n ≤ 8388607 ∧ q = false)) :
    Calls Tryz.prog 141 #[.pointer (some ⟨pp, 0, none⟩), .agg #[.int .i64 1, .int .i64 a, .int .i64 n, v]] w fun e w' => RWholeQ q dp w pp b (.ok (poInt n) s) e w' := by
  obtain ⟨ao, cap, rfl, -, -, -, -⟩ := hv
  have hat := h.cx.at_
  have HP2 := hid (((h.to i _ rfl (by omega)).below (alb _ (.cells #[.int .i64 1, .int .i64 a, .int .i64 n, .slice ao out.length cap] 130))).below (alb _ (.cells #[.int .i64 2, .int .i64 n, .slice none 0 0, .slice none 0 0, .slice none 0 0] 47)))
  have hD := hid h.cx.drp
  have hc1 := h.cx.c1
  have hf1 := h.cx.f1
  have d3 := h.d3
  have hlow := h.low.1
  have hne : w.heap.size ≠ pp := by omega
  clear h hat
  rcases (by omega : n < 1 ∨ (1 ≤ n ∧ 8388607 < n) ∨ (1 ≤ n ∧ n ≤ 8388607)) with c | c | c
  · have t1 : decide (1 ≤ n) = false := decide_eq_false (by omega)
    clear hn c
    go_enter Tryz.func141, Tryz.ntmps141
    go_wp2
    exact bodyPost_ret (v := ob 2 n (.slice none 0 0)) (by simp [results, Tryz.results141, go_sem]) rfl ⟨rfl, i, by rw [← hD.out]; exact HP2.out⟩
  · have t1 : decide (1 ≤ n) = true := decide_eq_true c.1
    have t2 : decide (n ≤ 8388607) = false := decide_eq_false (by omega)
    clear hn c
    go_enter Tryz.func141, Tryz.ntmps141
    go_wp2
    exact bodyPost_ret (v := ob 2 n (.slice none 0 0)) (by simp [results, Tryz.results141, go_sem]) rfl ⟨rfl, i, by rw [← hD.out]; exact HP2.out⟩
  · have t1 : decide (1 ≤ n) = true := decide_eq_true c.1
    have t2 : decide (n ≤ 8388607) = true := decide_eq_true c.2
    obtain rfl : q = true := by
      cases q with
      | true => rfl
      | false => exact absurd ⟨c.1, c.2, rfl⟩ hn
    clear hn c
    go_enter Tryz.func141, Tryz.ntmps141
    go_wp2
    exact bodyPost_ret (v := ob 2 n (.slice none 0 0)) (by simp [results, Tryz.results141, go_sem]) rfl ⟨rfl, i, by rw [← hD.out]; exact HP2.out⟩
end Go.Proofs.YtlmgklebikcbjaaGreatDoor

/-
  The document's whole, behind a token that is wrong: a number, or the object that it names. Condition: the parser stands in its bytes.
-/
namespace Go.Proofs.YtlmgklebikcbjaaGreatDoor
open Go.RowKit
set_option linter.unusedVariables false

set_option maxHeartbeats 800000 in
set_option maxRecDepth 100000 in
theorem rwhole_bad {dp : Nat} {w : World} {pp : Nat} {b s : List UInt8} {i : Nat} (h : Pd false dp w w pp b i s) (n a : Int) (v : Value) (out : List UInt8) (hv : Sl w v out) (hn : 1 ≤ n ∧ n ≤ 8388607) (x : Int) (hT : TK s = .bad x) :
    Calls Tryz.prog 141 #[.pointer (some ⟨pp, 0, none⟩), .agg #[.int .i64 1, .int .i64 a, .int .i64 n, v]] w fun e w' => RWholeQ false dp w pp b (.ok (poInt n) s) e w' := by
  obtain ⟨ao, cap, rfl, -, -, -, -⟩ := hv
  have bx := TK_err hT
  have hat := h.cx.at_
  have hz1 := alb w (.cells #[.int .i64 1, .int .i64 a, .int .i64 n, .slice ao out.length cap] 130)
  have hZ := Z5.new (w.alloc (.cells #[.int .i64 1, .int .i64 a, .int .i64 n, .slice ao out.length cap] 130)) 47
  have hC := C5.new w _ rfl [.int .i64 1, .int .i64 a, .int .i64 n, .slice ao out.length cap] 130
  have hP := (h.below hz1).below (alb _ (.cells #[.int .i64 0, .int .i64 0, .slice none 0 0, .slice none 0 0, .slice none 0 0] 47))
  have hC := hC.up (alb _ (.cells #[.int .i64 0, .int .i64 0, .slice none 0 0, .slice none 0 0, .slice none 0 0] 47))
  have hD := hid h.cx.drp
  have T1 := hid hT
  have hc1 := h.cx.c1
  have hf1 := h.cx.f1
  have d3 := h.d3
  have hlow := h.low.1
  have hne : w.heap.size ≠ pp := by omega
  have hne2 : ¬ pp = w.heap.size := by omega
  have hne3 : ¬ w.heap.size = pp := by omega
  have t1 : decide (1 ≤ n) = true := decide_eq_true hn.1
  have t2 : decide (n ≤ 8388607) = true := decide_eq_true hn.2
  rw [show (w.alloc (.cells #[.int .i64 1, .int .i64 a, .int .i64 n, .slice ao out.length cap] 130)).heap.size = w.heap.size + 1 by simp] at hZ
  clear h hn hT
  go_enter Tryz.func141, Tryz.ntmps141
  go_wp2_with (go_at_call 68; (with_reducible refine (rtoken_q (TK_good _) hP.cx.fresh).mono ?_); rw [T1.out]; rintro e w3 ⟨rfl, hC3⟩; have hP := hP.step hC3; have hlo3 := hP.low.2; have hZ := hZ.held hC3.held (by omega) (by omega); have hC := hC.held hC3.held hne hne; obtain ⟨rc, rf, rs⟩ := id hZ; obtain ⟨oc, of_, os⟩ := id hC; have o2 : w3.cell? ⟨w.heap.size, 2, none⟩ = some (.int .i64 n) := oc 2; have hc1 := hP.cx.c1; have hf1 := hP.cx.f1; have d3 := hP.d3)
  have hP3 := hP.to i _ rfl (by omega)
  have hZ3 := hZ.held (Held.set (B := w3.heap.size) (p := pp) (q := pp) w3 ⟨pp, 1, none⟩ (.int .i64 (i : Int)) (.inl rfl)) (by omega) (by omega)
  obtain ⟨k0, k1, k2, k3, k4⟩ := set5_cells (a := .int .i64 2) (b := .int .i64 n) (c := .slice none 0 0) (d := .slice none 0 0) (e := .slice none 0 0) hZ3.five
  have hh := fun B => set5_held (w3.setCell ⟨pp, 1, none⟩ (.int .i64 (i : Int))) B (w.heap.size + 1) (.int .i64 2) (.int .i64 n) (.slice none 0 0) (.slice none 0 0) (.slice none 0 0)
  have k0 := cell_up' (alb _ (.cells #[.int .i64 0, .int .i64 ((i : Int) + (bl s false : Int)), .int .i64 0, .slice none 0 0] 130)) k0
  have k1 := cell_up' (alb _ (.cells #[.int .i64 0, .int .i64 ((i : Int) + (bl s false : Int)), .int .i64 0, .slice none 0 0] 130)) k1
  have k2 := cell_up' (alb _ (.cells #[.int .i64 0, .int .i64 ((i : Int) + (bl s false : Int)), .int .i64 0, .slice none 0 0] 130)) k2
  have k3 := cell_up' (alb _ (.cells #[.int .i64 0, .int .i64 ((i : Int) + (bl s false : Int)), .int .i64 0, .slice none 0 0] 130)) k3
  have k4 := cell_up' (alb _ (.cells #[.int .i64 0, .int .i64 ((i : Int) + (bl s false : Int)), .int .i64 0, .slice none 0 0] 130)) k4
  have hPe := (hP3.off (hh (w.heap.size + 1)) (by omega) (by omega)).below (alb _ (.cells #[.int .i64 0, .int .i64 ((i : Int) + (bl s false : Int)), .int .i64 0, .slice none 0 0] 130))
  rw [hD.out] at hPe
  exact bodyPost_ret (v := ob 2 n (.slice none 0 0)) (by simp [results, Tryz.results141, go_sem, k0, k1, k2, k3, k4]) rfl ⟨rfl, i, hPe⟩
end Go.Proofs.YtlmgklebikcbjaaGreatDoor

/-
  The document's whole, the other cases; whole. Condition: the parser stands in its bytes.
-/
namespace Go.Proofs.YtlmgklebikcbjaaGreatDoor
open Go.RowKit
set_option linter.unusedVariables false

set_option maxHeartbeats 1600000 in
set_option maxRecDepth 100000 in
theorem rwhole_t1 {dp : Nat} {w : World} {pp : Nat} {b s out1 r1 : List UInt8} {i : Nat} (h : Pd false dp w w pp b i s) (n a ka n1 : Int) (v : Value) (out : List UInt8) (hv : Sl w v out) (hn : 1 ≤ n ∧ n ≤ 8388607) (hT : TK s = .tok ka n1 out1 r1) (hk : ¬ (ka = 1 ∧ n1 = 0)) :
    Calls Tryz.prog 141 #[.pointer (some ⟨pp, 0, none⟩), .agg #[.int .i64 1, .int .i64 a, .int .i64 n, v]] w fun e w' => RWholeQ false dp w pp b (.ok (poInt n) s) e w' := by
  obtain ⟨ao, cap, rfl, -, -, -, -⟩ := hv
  have hat := h.cx.at_
  have hz1 := alb w (.cells #[.int .i64 1, .int .i64 a, .int .i64 n, .slice ao out.length cap] 130)
  have hZ := Z5.new (w.alloc (.cells #[.int .i64 1, .int .i64 a, .int .i64 n, .slice ao out.length cap] 130)) 47
  have hC := C5.new w _ rfl [.int .i64 1, .int .i64 a, .int .i64 n, .slice ao out.length cap] 130
  have hP := (h.below hz1).below (alb _ (.cells #[.int .i64 0, .int .i64 0, .slice none 0 0, .slice none 0 0, .slice none 0 0] 47))
  have hC := hC.up (alb _ (.cells #[.int .i64 0, .int .i64 0, .slice none 0 0, .slice none 0 0, .slice none 0 0] 47))
  have hD := hid h.cx.drp
  have hc1 := h.cx.c1
  have hf1 := h.cx.f1
  have d3 := h.d3
  have hlow := h.low.1
  have hne : w.heap.size ≠ pp := by omega
  have hne2 : ¬ pp = w.heap.size := by omega
  have hne3 : ¬ w.heap.size = pp := by omega
  have t1 : decide (1 ≤ n) = true := decide_eq_true hn.1
  have t2 : decide (n ≤ 8388607) = true := decide_eq_true hn.2
  rw [show (w.alloc (.cells #[.int .i64 1, .int .i64 a, .int .i64 n, .slice ao out.length cap] 130)).heap.size = w.heap.size + 1 by simp] at hZ
  clear h hn
  have T1 := hid hT
  clear hT
  have hk : (ka == 1) = false ∨ ((ka == 1) = true ∧ (n1 == 0) = false) := by
    by_cases z : ka = 1
    · exact .inr ⟨by simp [z], by simp; exact fun y => hk ⟨z, y⟩⟩
    · exact .inl (by simp [z])
  rcases hk with bk | ⟨bk, bn⟩
  · go_enter Tryz.func141, Tryz.ntmps141
    go_wp2_with (first | (go_at_call 68; (with_reducible refine (rtoken_q (TK_good _) hP.cx.fresh).mono ?_); rw [T1.out]; rintro e w3 ⟨u3, rfl, j3, hC3⟩; obtain ⟨ao3, cap3, rfl, -, -, -⟩ := Rd.own hC3.row; have hP := hP.step hC3; have hlo3 := hP.low.2; have hZ := hZ.held hC3.held (by omega) (by omega); have hC := hC.held hC3.held hne hne; obtain ⟨rc, rf, rs⟩ := id hZ; obtain ⟨oc, of_, os⟩ := id hC; have o2 : w3.cell? ⟨w.heap.size, 2, none⟩ = some (.int .i64 n) := oc 2; have hc1 := hP.cx.c1; have hf1 := hP.cx.f1; have d3 := hP.d3))
    have hP3 := hP.to i _ rfl (by omega)
    have hZ3 := hZ.held (Held.set (B := w3.heap.size) (p := pp) (q := pp) w3 ⟨pp, 1, none⟩ (.int .i64 (i : Int)) (.inl rfl)) (by omega) (by omega)
    obtain ⟨k0, k1, k2, k3, k4⟩ := set5_cells (a := .int .i64 2) (b := .int .i64 n) (c := .slice none 0 0) (d := .slice none 0 0) (e := .slice none 0 0) hZ3.five
    have hh := fun B => set5_held (w3.setCell ⟨pp, 1, none⟩ (.int .i64 (i : Int))) B (w.heap.size + 1) (.int .i64 2) (.int .i64 n) (.slice none 0 0) (.slice none 0 0) (.slice none 0 0)
    have k0 := cell_up' (alb _ (.cells #[.int .i64 ka, .int .i64 ((i : Int) + (bl s false : Int)), .int .i64 n1, .slice ao3 out1.length cap3] 130)) k0
    have k1 := cell_up' (alb _ (.cells #[.int .i64 ka, .int .i64 ((i : Int) + (bl s false : Int)), .int .i64 n1, .slice ao3 out1.length cap3] 130)) k1
    have k2 := cell_up' (alb _ (.cells #[.int .i64 ka, .int .i64 ((i : Int) + (bl s false : Int)), .int .i64 n1, .slice ao3 out1.length cap3] 130)) k2
    have k3 := cell_up' (alb _ (.cells #[.int .i64 ka, .int .i64 ((i : Int) + (bl s false : Int)), .int .i64 n1, .slice ao3 out1.length cap3] 130)) k3
    have k4 := cell_up' (alb _ (.cells #[.int .i64 ka, .int .i64 ((i : Int) + (bl s false : Int)), .int .i64 n1, .slice ao3 out1.length cap3] 130)) k4
    have hPe := (hP3.off (hh (w.heap.size + 1)) (by omega) (by omega)).below (alb _ (.cells #[.int .i64 ka, .int .i64 ((i : Int) + (bl s false : Int)), .int .i64 n1, .slice ao3 out1.length cap3] 130))
    rw [hD.out] at hPe
    exact bodyPost_ret (v := ob 2 n (.slice none 0 0)) (by simp [results, Tryz.results141, go_sem, k0, k1, k2, k3, k4]) rfl ⟨rfl, i, hPe⟩
  · go_enter Tryz.func141, Tryz.ntmps141
    go_wp2_with (first | (go_at_call 68; (with_reducible refine (rtoken_q (TK_good _) hP.cx.fresh).mono ?_); rw [T1.out]; rintro e w3 ⟨u3, rfl, j3, hC3⟩; obtain ⟨ao3, cap3, rfl, -, -, -⟩ := Rd.own hC3.row; have hP := hP.step hC3; have hlo3 := hP.low.2; have hZ := hZ.held hC3.held (by omega) (by omega); have hC := hC.held hC3.held hne hne; obtain ⟨rc, rf, rs⟩ := id hZ; obtain ⟨oc, of_, os⟩ := id hC; have o2 : w3.cell? ⟨w.heap.size, 2, none⟩ = some (.int .i64 n) := oc 2; have hc1 := hP.cx.c1; have hf1 := hP.cx.f1; have d3 := hP.d3))
    have hP3 := hP.to i _ rfl (by omega)
    have hZ3 := hZ.held (Held.set (B := w3.heap.size) (p := pp) (q := pp) w3 ⟨pp, 1, none⟩ (.int .i64 (i : Int)) (.inl rfl)) (by omega) (by omega)
    obtain ⟨k0, k1, k2, k3, k4⟩ := set5_cells (a := .int .i64 2) (b := .int .i64 n) (c := .slice none 0 0) (d := .slice none 0 0) (e := .slice none 0 0) hZ3.five
    have hh := fun B => set5_held (w3.setCell ⟨pp, 1, none⟩ (.int .i64 (i : Int))) B (w.heap.size + 1) (.int .i64 2) (.int .i64 n) (.slice none 0 0) (.slice none 0 0) (.slice none 0 0)
    have k0 := cell_up' (alb _ (.cells #[.int .i64 ka, .int .i64 ((i : Int) + (bl s false : Int)), .int .i64 n1, .slice ao3 out1.length cap3] 130)) k0
    have k1 := cell_up' (alb _ (.cells #[.int .i64 ka, .int .i64 ((i : Int) + (bl s false : Int)), .int .i64 n1, .slice ao3 out1.length cap3] 130)) k1
    have k2 := cell_up' (alb _ (.cells #[.int .i64 ka, .int .i64 ((i : Int) + (bl s false : Int)), .int .i64 n1, .slice ao3 out1.length cap3] 130)) k2
    have k3 := cell_up' (alb _ (.cells #[.int .i64 ka, .int .i64 ((i : Int) + (bl s false : Int)), .int .i64 n1, .slice ao3 out1.length cap3] 130)) k3
    have k4 := cell_up' (alb _ (.cells #[.int .i64 ka, .int .i64 ((i : Int) + (bl s false : Int)), .int .i64 n1, .slice ao3 out1.length cap3] 130)) k4
    have hPe := (hP3.off (hh (w.heap.size + 1)) (by omega) (by omega)).below (alb _ (.cells #[.int .i64 ka, .int .i64 ((i : Int) + (bl s false : Int)), .int .i64 n1, .slice ao3 out1.length cap3] 130))
    rw [hD.out] at hPe
    exact bodyPost_ret (v := ob 2 n (.slice none 0 0)) (by simp [results, Tryz.results141, go_sem, k0, k1, k2, k3, k4]) rfl ⟨rfl, i, hPe⟩

set_option maxHeartbeats 1600000 in
set_option maxRecDepth 100000 in
theorem rwhole_b2 {dp : Nat} {w : World} {pp : Nat} {b s out1 r1 : List UInt8} {i : Nat} (h : Pd false dp w w pp b i s) (n a x : Int) (v : Value) (out : List UInt8) (hv : Sl w v out) (hn : 1 ≤ n ∧ n ≤ 8388607) (hT : TK s = .tok 1 0 out1 r1) (hT2 : TK r1 = .bad x) :
    Calls Tryz.prog 141 #[.pointer (some ⟨pp, 0, none⟩), .agg #[.int .i64 1, .int .i64 a, .int .i64 n, v]] w fun e w' => RWholeQ false dp w pp b (.ok (poInt n) s) e w' := by
  obtain ⟨ao, cap, rfl, -, -, -, -⟩ := hv
  have hat := h.cx.at_
  have hz1 := alb w (.cells #[.int .i64 1, .int .i64 a, .int .i64 n, .slice ao out.length cap] 130)
  have hZ := Z5.new (w.alloc (.cells #[.int .i64 1, .int .i64 a, .int .i64 n, .slice ao out.length cap] 130)) 47
  have hC := C5.new w _ rfl [.int .i64 1, .int .i64 a, .int .i64 n, .slice ao out.length cap] 130
  have hP := (h.below hz1).below (alb _ (.cells #[.int .i64 0, .int .i64 0, .slice none 0 0, .slice none 0 0, .slice none 0 0] 47))
  have hC := hC.up (alb _ (.cells #[.int .i64 0, .int .i64 0, .slice none 0 0, .slice none 0 0, .slice none 0 0] 47))
  have hD := hid h.cx.drp
  have hc1 := h.cx.c1
  have hf1 := h.cx.f1
  have d3 := h.d3
  have hlow := h.low.1
  have hne : w.heap.size ≠ pp := by omega
  have hne2 : ¬ pp = w.heap.size := by omega
  have hne3 : ¬ w.heap.size = pp := by omega
  have t1 : decide (1 ≤ n) = true := decide_eq_true hn.1
  have t2 : decide (n ≤ 8388607) = true := decide_eq_true hn.2
  rw [show (w.alloc (.cells #[.int .i64 1, .int .i64 a, .int .i64 n, .slice ao out.length cap] 130)).heap.size = w.heap.size + 1 by simp] at hZ
  clear h hn
  have bx := TK_err hT2
  have T1 := hid hT
  have T2 := hid hT2
  clear hT hT2
  go_enter Tryz.func141, Tryz.ntmps141
  go_wp2_with (first | (go_at_call 68; have hG := hC3; (with_reducible refine (rtoken_q (TK_good _) (hP.below (alb _ _)).cx.fresh).mono ?_); rw [T2.out]; rintro e w4 ⟨rfl, hC4⟩; have hP := (hP.below (alb _ _)).step hC4; have hlo4 := hP.low.2; have hZ := (hZ.up (alb _ _)).held hC4.held (by omega) (by omega); have hC := (hC.up (alb _ _)).held hC4.held hne hne; obtain ⟨rc, rf, rs⟩ := id hZ; obtain ⟨oc, of_, os⟩ := id hC; have o2 : w4.cell? ⟨w.heap.size, 2, none⟩ = some (.int .i64 n) := oc 2; have hc1 := hP.cx.c1; have hf1 := hP.cx.f1; have d3 := hP.d3) | (go_at_call 68; (with_reducible refine (rtoken_q (TK_good _) hP.cx.fresh).mono ?_); rw [T1.out]; rintro e w3 ⟨u3, rfl, j3, hC3⟩; obtain ⟨ao3, cap3, rfl, -, -, -⟩ := Rd.own hC3.row; have hP := hP.step hC3; have hlo3 := hP.low.2; have hZ := hZ.held hC3.held (by omega) (by omega); have hC := hC.held hC3.held hne hne; obtain ⟨rc, rf, rs⟩ := id hZ; obtain ⟨oc, of_, os⟩ := id hC; have o2 : w3.cell? ⟨w.heap.size, 2, none⟩ = some (.int .i64 n) := oc 2; have hc1 := hP.cx.c1; have hf1 := hP.cx.f1; have d3 := hP.d3))
  have hP3 := hP.to i _ rfl (by omega)
  have hZ3 := hZ.held (Held.set (B := w4.heap.size) (p := pp) (q := pp) w4 ⟨pp, 1, none⟩ (.int .i64 (i : Int)) (.inl rfl)) (by omega) (by omega)
  obtain ⟨k0, k1, k2, k3, k4⟩ := set5_cells (a := .int .i64 2) (b := .int .i64 n) (c := .slice none 0 0) (d := .slice none 0 0) (e := .slice none 0 0) hZ3.five
  have hh := fun B => set5_held (w4.setCell ⟨pp, 1, none⟩ (.int .i64 (i : Int))) B (w.heap.size + 1) (.int .i64 2) (.int .i64 n) (.slice none 0 0) (.slice none 0 0) (.slice none 0 0)
  have k0 := cell_up' (alb _ (.cells #[.int .i64 0, .int .i64 ((j3 : Int) + (bl r1 false : Int)), .int .i64 0, .slice none 0 0] 130)) k0
  have k1 := cell_up' (alb _ (.cells #[.int .i64 0, .int .i64 ((j3 : Int) + (bl r1 false : Int)), .int .i64 0, .slice none 0 0] 130)) k1
  have k2 := cell_up' (alb _ (.cells #[.int .i64 0, .int .i64 ((j3 : Int) + (bl r1 false : Int)), .int .i64 0, .slice none 0 0] 130)) k2
  have k3 := cell_up' (alb _ (.cells #[.int .i64 0, .int .i64 ((j3 : Int) + (bl r1 false : Int)), .int .i64 0, .slice none 0 0] 130)) k3
  have k4 := cell_up' (alb _ (.cells #[.int .i64 0, .int .i64 ((j3 : Int) + (bl r1 false : Int)), .int .i64 0, .slice none 0 0] 130)) k4
  have hPe := (hP3.off (hh (w.heap.size + 1)) (by omega) (by omega)).below (alb _ (.cells #[.int .i64 0, .int .i64 ((j3 : Int) + (bl r1 false : Int)), .int .i64 0, .slice none 0 0] 130))
  rw [hD.out] at hPe
  exact bodyPost_ret (v := ob 2 n (.slice none 0 0)) (by simp [results, Tryz.results141, go_sem, k0, k1, k2, k3, k4]) rfl ⟨rfl, i, hPe⟩

set_option maxHeartbeats 1600000 in
set_option maxRecDepth 100000 in
theorem rwhole_t2 {dp : Nat} {w : World} {pp : Nat} {b s out1 r1 out2 r2 : List UInt8} {i : Nat} (h : Pd false dp w w pp b i s) (n a kb n2 : Int) (v : Value) (out : List UInt8) (hv : Sl w v out) (hn : 1 ≤ n ∧ n ≤ 8388607) (hT : TK s = .tok 1 0 out1 r1) (hT2 : TK r1 = .tok kb n2 out2 r2) (hk : ¬ (kb = 9 ∧ out2 = [82])) :
    Calls Tryz.prog 141 #[.pointer (some ⟨pp, 0, none⟩), .agg #[.int .i64 1, .int .i64 a, .int .i64 n, v]] w fun e w' => RWholeQ false dp w pp b (.ok (poInt n) s) e w' := by
  obtain ⟨ao, cap, rfl, -, -, -, -⟩ := hv
  have hat := h.cx.at_
  have hz1 := alb w (.cells #[.int .i64 1, .int .i64 a, .int .i64 n, .slice ao out.length cap] 130)
  have hZ := Z5.new (w.alloc (.cells #[.int .i64 1, .int .i64 a, .int .i64 n, .slice ao out.length cap] 130)) 47
  have hC := C5.new w _ rfl [.int .i64 1, .int .i64 a, .int .i64 n, .slice ao out.length cap] 130
  have hP := (h.below hz1).below (alb _ (.cells #[.int .i64 0, .int .i64 0, .slice none 0 0, .slice none 0 0, .slice none 0 0] 47))
  have hC := hC.up (alb _ (.cells #[.int .i64 0, .int .i64 0, .slice none 0 0, .slice none 0 0, .slice none 0 0] 47))
  have hD := hid h.cx.drp
  have hc1 := h.cx.c1
  have hf1 := h.cx.f1
  have d3 := h.d3
  have hlow := h.low.1
  have hne : w.heap.size ≠ pp := by omega
  have hne2 : ¬ pp = w.heap.size := by omega
  have hne3 : ¬ w.heap.size = pp := by omega
  have t1 : decide (1 ≤ n) = true := decide_eq_true hn.1
  have t2 : decide (n ≤ 8388607) = true := decide_eq_true hn.2
  rw [show (w.alloc (.cells #[.int .i64 1, .int .i64 a, .int .i64 n, .slice ao out.length cap] 130)).heap.size = w.heap.size + 1 by simp] at hZ
  clear h hn
  have T1 := hid hT
  have T2 := hid hT2
  clear hT hT2
  have hst := st_toList out2
  have hk : (kb == 9) = false ∨ ((kb == 9) = true ∧ (out2 == [82]) = false) := by
    by_cases z : kb = 9
    · exact .inr ⟨by simp [z], beq_eq_false_iff_ne.2 (fun y => hk ⟨z, y⟩)⟩
    · exact .inl (by simp [z])
  rcases hk with bk | ⟨bk, bn⟩
  · go_enter Tryz.func141, Tryz.ntmps141
    go_wp2_with (first | (go_at_call 68; have hG := hC3; (with_reducible refine (rtoken_q (TK_good _) (hP.below (alb _ _)).cx.fresh).mono ?_); rw [T2.out]; rintro e w4 ⟨u4, rfl, j4, hC4⟩; obtain ⟨ao4, cap4, rfl, -, -, -⟩ := Rd.own hC4.row; have hP := (hP.below (alb _ _)).step hC4; have hlo4 := hP.low.2; have hZ := (hZ.up (alb _ _)).held hC4.held (by omega) (by omega); have hC := (hC.up (alb _ _)).held hC4.held hne hne; obtain ⟨rc, rf, rs⟩ := id hZ; obtain ⟨oc, of_, os⟩ := id hC; have o2 : w4.cell? ⟨w.heap.size, 2, none⟩ = some (.int .i64 n) := oc 2; have hc1 := hP.cx.c1; have hf1 := hP.cx.f1; have d3 := hP.d3; have hS := Sl.own hC4.row; have hcv : ∀ o : Obj, (convert 27 9 (.slice ao4 out2.length cap4)).run Tryz.prog (w4.alloc o) = .ok (.string (st out2)) (w4.alloc o) := fun o => sl_string (P := Tryz.prog) (w4.alloc o) 27 9 5 Tryz.underlying27 (by kernel_rfl) (by kernel_rfl) _ _ (hS.up (alb _ _))) | (go_at_call 68; (with_reducible refine (rtoken_q (TK_good _) hP.cx.fresh).mono ?_); rw [T1.out]; rintro e w3 ⟨u3, rfl, j3, hC3⟩; obtain ⟨ao3, cap3, rfl, -, -, -⟩ := Rd.own hC3.row; have hP := hP.step hC3; have hlo3 := hP.low.2; have hZ := hZ.held hC3.held (by omega) (by omega); have hC := hC.held hC3.held hne hne; obtain ⟨rc, rf, rs⟩ := id hZ; obtain ⟨oc, of_, os⟩ := id hC; have o2 : w3.cell? ⟨w.heap.size, 2, none⟩ = some (.int .i64 n) := oc 2; have hc1 := hP.cx.c1; have hf1 := hP.cx.f1; have d3 := hP.d3))
    have hP3 := hP.to i _ rfl (by omega)
    have hZ3 := hZ.held (Held.set (B := w4.heap.size) (p := pp) (q := pp) w4 ⟨pp, 1, none⟩ (.int .i64 (i : Int)) (.inl rfl)) (by omega) (by omega)
    obtain ⟨k0, k1, k2, k3, k4⟩ := set5_cells (a := .int .i64 2) (b := .int .i64 n) (c := .slice none 0 0) (d := .slice none 0 0) (e := .slice none 0 0) hZ3.five
    have hh := fun B => set5_held (w4.setCell ⟨pp, 1, none⟩ (.int .i64 (i : Int))) B (w.heap.size + 1) (.int .i64 2) (.int .i64 n) (.slice none 0 0) (.slice none 0 0) (.slice none 0 0)
    have k0 := cell_up' (alb _ (.cells #[.int .i64 kb, .int .i64 ((j3 : Int) + (bl r1 false : Int)), .int .i64 n2, .slice ao4 out2.length cap4] 130)) k0
    have k1 := cell_up' (alb _ (.cells #[.int .i64 kb, .int .i64 ((j3 : Int) + (bl r1 false : Int)), .int .i64 n2, .slice ao4 out2.length cap4] 130)) k1
    have k2 := cell_up' (alb _ (.cells #[.int .i64 kb, .int .i64 ((j3 : Int) + (bl r1 false : Int)), .int .i64 n2, .slice ao4 out2.length cap4] 130)) k2
    have k3 := cell_up' (alb _ (.cells #[.int .i64 kb, .int .i64 ((j3 : Int) + (bl r1 false : Int)), .int .i64 n2, .slice ao4 out2.length cap4] 130)) k3
    have k4 := cell_up' (alb _ (.cells #[.int .i64 kb, .int .i64 ((j3 : Int) + (bl r1 false : Int)), .int .i64 n2, .slice ao4 out2.length cap4] 130)) k4
    have hPe := (hP3.off (hh (w.heap.size + 1)) (by omega) (by omega)).below (alb _ (.cells #[.int .i64 kb, .int .i64 ((j3 : Int) + (bl r1 false : Int)), .int .i64 n2, .slice ao4 out2.length cap4] 130))
    rw [hD.out] at hPe
    exact bodyPost_ret (v := ob 2 n (.slice none 0 0)) (by simp [results, Tryz.results141, go_sem, k0, k1, k2, k3, k4]) rfl ⟨rfl, i, hPe⟩
  · go_enter Tryz.func141, Tryz.ntmps141
    go_wp2_with (first | (go_at_call 68; have hG := hC3; (with_reducible refine (rtoken_q (TK_good _) (hP.below (alb _ _)).cx.fresh).mono ?_); rw [T2.out]; rintro e w4 ⟨u4, rfl, j4, hC4⟩; obtain ⟨ao4, cap4, rfl, -, -, -⟩ := Rd.own hC4.row; have hP := (hP.below (alb _ _)).step hC4; have hlo4 := hP.low.2; have hZ := (hZ.up (alb _ _)).held hC4.held (by omega) (by omega); have hC := (hC.up (alb _ _)).held hC4.held hne hne; obtain ⟨rc, rf, rs⟩ := id hZ; obtain ⟨oc, of_, os⟩ := id hC; have o2 : w4.cell? ⟨w.heap.size, 2, none⟩ = some (.int .i64 n) := oc 2; have hc1 := hP.cx.c1; have hf1 := hP.cx.f1; have d3 := hP.d3; have hS := Sl.own hC4.row; have hcv : ∀ o : Obj, (convert 27 9 (.slice ao4 out2.length cap4)).run Tryz.prog (w4.alloc o) = .ok (.string (st out2)) (w4.alloc o) := fun o => sl_string (P := Tryz.prog) (w4.alloc o) 27 9 5 Tryz.underlying27 (by kernel_rfl) (by kernel_rfl) _ _ (hS.up (alb _ _))) | (go_at_call 68; (with_reducible refine (rtoken_q (TK_good _) hP.cx.fresh).mono ?_); rw [T1.out]; rintro e w3 ⟨u3, rfl, j3, hC3⟩; obtain ⟨ao3, cap3, rfl, -, -, -⟩ := Rd.own hC3.row; have hP := hP.step hC3; have hlo3 := hP.low.2; have hZ := hZ.held hC3.held (by omega) (by omega); have hC := hC.held hC3.held hne hne; obtain ⟨rc, rf, rs⟩ := id hZ; obtain ⟨oc, of_, os⟩ := id hC; have o2 : w3.cell? ⟨w.heap.size, 2, none⟩ = some (.int .i64 n) := oc 2; have hc1 := hP.cx.c1; have hf1 := hP.cx.f1; have d3 := hP.d3))
    have hP3 := hP.to i _ rfl (by omega)
    have hZ3 := hZ.held (Held.set (B := w4.heap.size) (p := pp) (q := pp) w4 ⟨pp, 1, none⟩ (.int .i64 (i : Int)) (.inl rfl)) (by omega) (by omega)
    obtain ⟨k0, k1, k2, k3, k4⟩ := set5_cells (a := .int .i64 2) (b := .int .i64 n) (c := .slice none 0 0) (d := .slice none 0 0) (e := .slice none 0 0) hZ3.five
    have hh := fun B => set5_held (w4.setCell ⟨pp, 1, none⟩ (.int .i64 (i : Int))) B (w.heap.size + 1) (.int .i64 2) (.int .i64 n) (.slice none 0 0) (.slice none 0 0) (.slice none 0 0)
    have k0 := cell_up' (alb _ (.cells #[.int .i64 kb, .int .i64 ((j3 : Int) + (bl r1 false : Int)), .int .i64 n2, .slice ao4 out2.length cap4] 130)) k0
    have k1 := cell_up' (alb _ (.cells #[.int .i64 kb, .int .i64 ((j3 : Int) + (bl r1 false : Int)), .int .i64 n2, .slice ao4 out2.length cap4] 130)) k1
    have k2 := cell_up' (alb _ (.cells #[.int .i64 kb, .int .i64 ((j3 : Int) + (bl r1 false : Int)), .int .i64 n2, .slice ao4 out2.length cap4] 130)) k2
    have k3 := cell_up' (alb _ (.cells #[.int .i64 kb, .int .i64 ((j3 : Int) + (bl r1 false : Int)), .int .i64 n2, .slice ao4 out2.length cap4] 130)) k3
    have k4 := cell_up' (alb _ (.cells #[.int .i64 kb, .int .i64 ((j3 : Int) + (bl r1 false : Int)), .int .i64 n2, .slice ao4 out2.length cap4] 130)) k4
    have hPe := (hP3.off (hh (w.heap.size + 1)) (by omega) (by omega)).below (alb _ (.cells #[.int .i64 kb, .int .i64 ((j3 : Int) + (bl r1 false : Int)), .int .i64 n2, .slice ao4 out2.length cap4] 130))
    rw [hD.out] at hPe
    exact bodyPost_ret (v := ob 2 n (.slice none 0 0)) (by simp [results, Tryz.results141, go_sem, k0, k1, k2, k3, k4]) rfl ⟨rfl, i, hPe⟩

set_option maxHeartbeats 1600000 in
set_option maxRecDepth 100000 in
theorem rwhole_ref {dp : Nat} {w : World} {pp : Nat} {b s out1 r1 r2 : List UInt8} {i : Nat} (h : Pd false dp w w pp b i s) (n a n2 : Int) (v : Value) (out : List UInt8) (hv : Sl w v out) (hn : 1 ≤ n ∧ n ≤ 8388607) (hT : TK s = .tok 1 0 out1 r1) (hT2 : TK r1 = .tok 9 n2 [82] r2) :
    Calls Tryz.prog 141 #[.pointer (some ⟨pp, 0, none⟩), .agg #[.int .i64 1, .int .i64 a, .int .i64 n, v]] w fun e w' => RWholeQ false dp w pp b (.ok (poRef n) r2) e w' := by
  obtain ⟨ao, cap, rfl, -, -, -, -⟩ := hv
  have hat := h.cx.at_
  have hz1 := alb w (.cells #[.int .i64 1, .int .i64 a, .int .i64 n, .slice ao out.length cap] 130)
  have hZ := Z5.new (w.alloc (.cells #[.int .i64 1, .int .i64 a, .int .i64 n, .slice ao out.length cap] 130)) 47
  have hC := C5.new w _ rfl [.int .i64 1, .int .i64 a, .int .i64 n, .slice ao out.length cap] 130
  have hP := (h.below hz1).below (alb _ (.cells #[.int .i64 0, .int .i64 0, .slice none 0 0, .slice none 0 0, .slice none 0 0] 47))
  have hC := hC.up (alb _ (.cells #[.int .i64 0, .int .i64 0, .slice none 0 0, .slice none 0 0, .slice none 0 0] 47))
  have hD := hid h.cx.drp
  have hc1 := h.cx.c1
  have hf1 := h.cx.f1
  have d3 := h.d3
  have hlow := h.low.1
  have hne : w.heap.size ≠ pp := by omega
  have hne2 : ¬ pp = w.heap.size := by omega
  have hne3 : ¬ w.heap.size = pp := by omega
  have t1 : decide (1 ≤ n) = true := decide_eq_true hn.1
  have t2 : decide (n ≤ 8388607) = true := decide_eq_true hn.2
  rw [show (w.alloc (.cells #[.int .i64 1, .int .i64 a, .int .i64 n, .slice ao out.length cap] 130)).heap.size = w.heap.size + 1 by simp] at hZ
  clear h hn
  have T1 := hid hT
  have T2 := hid hT2
  clear hT hT2
  have hst := st_toList [82]
  go_enter Tryz.func141, Tryz.ntmps141
  go_wp2_with (first | (go_at_call 68; have hG := hC3; (with_reducible refine (rtoken_q (TK_good _) (hP.below (alb _ _)).cx.fresh).mono ?_); rw [T2.out]; rintro e w4 ⟨u4, rfl, j4, hC4⟩; obtain ⟨ao4, cap4, rfl, -, -, -⟩ := Rd.own hC4.row; have hP := (hP.below (alb _ _)).step hC4; have hlo4 := hP.low.2; have hZ := (hZ.up (alb _ _)).held hC4.held (by omega) (by omega); have hC := (hC.up (alb _ _)).held hC4.held hne hne; obtain ⟨rc, rf, rs⟩ := id hZ; obtain ⟨oc, of_, os⟩ := id hC; have o2 : w4.cell? ⟨w.heap.size, 2, none⟩ = some (.int .i64 n) := oc 2; have hc1 := hP.cx.c1; have hf1 := hP.cx.f1; have d3 := hP.d3; have hS := Sl.own hC4.row; have hcv : ∀ o : Obj, (convert 27 9 (.slice ao4 1 cap4)).run Tryz.prog (w4.alloc o) = .ok (.string (st [82])) (w4.alloc o) := fun o => sl_string (P := Tryz.prog) (w4.alloc o) 27 9 5 Tryz.underlying27 (by kernel_rfl) (by kernel_rfl) _ _ (hS.up (alb _ _))) | (go_at_call 68; (with_reducible refine (rtoken_q (TK_good _) hP.cx.fresh).mono ?_); rw [T1.out]; rintro e w3 ⟨u3, rfl, j3, hC3⟩; obtain ⟨ao3, cap3, rfl, -, -, -⟩ := Rd.own hC3.row; have hP := hP.step hC3; have hlo3 := hP.low.2; have hZ := hZ.held hC3.held (by omega) (by omega); have hC := hC.held hC3.held hne hne; obtain ⟨rc, rf, rs⟩ := id hZ; obtain ⟨oc, of_, os⟩ := id hC; have o2 : w3.cell? ⟨w.heap.size, 2, none⟩ = some (.int .i64 n) := oc 2; have hc1 := hP.cx.c1; have hf1 := hP.cx.f1; have d3 := hP.d3))
  obtain ⟨k0, k1, k2, k3, k4⟩ := set5_cells (a := .int .i64 9) (b := .int .i64 n) (c := .slice none 0 0) (d := .slice none 0 0) (e := .slice none 0 0) hZ.five
  have hh := fun B => set5_held w4 B (w.heap.size + 1) (.int .i64 9) (.int .i64 n) (.slice none 0 0) (.slice none 0 0) (.slice none 0 0)
  have k0 := cell_up' (alb _ (.cells #[.int .i64 9, .int .i64 ((j3 : Int) + (bl r1 false : Int)), .int .i64 n2, .slice ao4 1 cap4] 130)) k0
  have k1 := cell_up' (alb _ (.cells #[.int .i64 9, .int .i64 ((j3 : Int) + (bl r1 false : Int)), .int .i64 n2, .slice ao4 1 cap4] 130)) k1
  have k2 := cell_up' (alb _ (.cells #[.int .i64 9, .int .i64 ((j3 : Int) + (bl r1 false : Int)), .int .i64 n2, .slice ao4 1 cap4] 130)) k2
  have k3 := cell_up' (alb _ (.cells #[.int .i64 9, .int .i64 ((j3 : Int) + (bl r1 false : Int)), .int .i64 n2, .slice ao4 1 cap4] 130)) k3
  have k4 := cell_up' (alb _ (.cells #[.int .i64 9, .int .i64 ((j3 : Int) + (bl r1 false : Int)), .int .i64 n2, .slice ao4 1 cap4] 130)) k4
  exact bodyPost_ret (v := ob 9 n (.slice none 0 0)) (by simp [results, Tryz.results141, go_sem, k0, k1, k2, k3, k4]) rfl ⟨rfl, _, (hP.off (hh (w.heap.size + 1)) (by omega) (by omega)).below (alb _ (.cells #[.int .i64 9, .int .i64 ((j3 : Int) + (bl r1 false : Int)), .int .i64 n2, .slice ao4 1 cap4] 130))⟩

theorem rwhole_any {q : Bool} {dp : Nat} {w : World} {pp : Nat} {b s : List UInt8} {i : Nat} (h : Pd q dp w w pp b i s) (n a : Int) (v : Value) (out : List UInt8) (hv : Sl w v out) :
    Calls Tryz.prog 141 #[.pointer (some ⟨pp, 0, none⟩), .agg #[.int .i64 1, .int .i64 a, .int .i64 n, v]] w fun e w' => RWholeQ q dp w pp b (whole q n s) e w' := by
  by_cases hn : 1 ≤ n ∧ n ≤ 8388607 ∧ q = false
  · obtain ⟨c1, c2, rfl⟩ := id hn
    cases hT : TK s with
    | bad x =>
      have e1 : whole false n s = .ok (poInt n) s := by unfold whole; rw [if_pos hn, hT]
      rw [e1]
      exact rwhole_bad h n a v out hv ⟨c1, c2⟩ x hT
    | tok k1 n1 out1 r1 =>
      by_cases hk : k1 = 1 ∧ n1 = 0
      · obtain ⟨rfl, rfl⟩ := hk
        cases hT2 : TK r1 with
        | bad x =>
          have e1 : whole false n s = .ok (poInt n) s := by unfold whole; rw [if_pos hn, hT]; show (match TK r1 with | .tok 9 _ out r2 => if out = [82] then PRes.ok (poRef n) r2 else .ok (poInt n) s | _ => .ok (poInt n) s) = _; rw [hT2]
          rw [e1]
          exact rwhole_b2 h n a x v out hv ⟨c1, c2⟩ hT hT2
        | tok k2 n2 out2 r2 =>
          by_cases hk2 : k2 = 9
          · subst hk2
            have e0 : whole false n s = if out2 = [82] then PRes.ok (poRef n) r2 else .ok (poInt n) s := by unfold whole; rw [if_pos hn, hT]; show (match TK r1 with | .tok 9 _ out r2 => if out = [82] then PRes.ok (poRef n) r2 else .ok (poInt n) s | _ => .ok (poInt n) s) = _; rw [hT2]; rfl
            rw [e0]
            by_cases ho : out2 = [82]
            · subst ho
              rw [if_pos rfl]
              exact rwhole_ref h n a n2 v out hv ⟨c1, c2⟩ hT hT2
            · rw [if_neg ho]
              exact rwhole_t2 h n a 9 n2 v out hv ⟨c1, c2⟩ hT hT2 (fun z => ho z.2)
          · have e1 : whole false n s = .ok (poInt n) s := by
              unfold whole; rw [if_pos hn, hT]
              show (match TK r1 with | .tok 9 _ out r2 => if out = [82] then PRes.ok (poRef n) r2 else .ok (poInt n) s | _ => .ok (poInt n) s) = _
              rw [hT2]
              split
              · rename_i heq; injection heq with z _ _ _; exact absurd z hk2
              · rfl
            rw [e1]
            exact rwhole_t2 h n a k2 n2 v out hv ⟨c1, c2⟩ hT hT2 (fun z => hk2 z.1)
      · have e1 : whole false n s = .ok (poInt n) s := by
          unfold whole; rw [if_pos hn, hT]
          split
          · rename_i heq; injection heq with z1 z2 _ _; exact absurd ⟨z1, z2⟩ hk
          · rfl
        rw [e1]
        exact rwhole_t1 h n a k1 n1 v out hv ⟨c1, c2⟩ hT hk
  · have e1 : whole q n s = .ok (poInt n) s := by unfold whole; rw [if_neg hn]
    rw [e1]
    exact rwhole_no h n a v out hv hn
end Go.Proofs.YtlmgklebikcbjaaGreatDoor

/-
  The document's value, whatever stands there but arrays and dictionaries. Condition: the parser stands in its bytes.
-/
namespace Go.Proofs.YtlmgklebikcbjaaGreatDoor
open Go.RowKit
set_option linter.unusedVariables false

/-- what a reader of the document gives -/
def RVQ (q : Bool) (dp : Nat) (w : World) (pp : Nat) (b : List UInt8) : PRes → Ending → World → Prop
  | .bad x t, e, w' => e = .returned (.tuple #[ob 0 0 (.slice none 0 0), .int .i64 x]) ∧ ∃ j, Pd q dp w w' pp b j t
  | .ok o r, e, w' => ∃ vs : List Value, e = .returned (.tuple #[.agg vs.toArray, .int .i64 0]) ∧ OV (fun g => w.heap.size ≤ g ∧ g < w'.heap.size) w' vs o ∧ ∃ j, Pd q dp w w' pp b j r

set_option maxHeartbeats 1600000 in
set_option maxRecDepth 100000 in
theorem rvalue_bad (q : Bool) (dp : Nat) (w : World) (pp : Nat) (b s : List UInt8) (i d : Nat) (x : Int) (hT : TK s = .bad x) (h : Pd q dp w w pp b i s) :
    Calls Tryz.prog 113 #[.pointer (some ⟨pp, 0, none⟩), .int .i64 (d : Int)] w fun e w' => RVQ q dp w pp b (.bad x (s.drop (bl s false))) e w' := by
  have hat := hid h.cx.at_
  have hP := h.below (alb w (.cells #[.int .i64 0, .int .i64 0, .slice none 0 0, .slice none 0 0, .slice none 0 0] 47))
  have hZ := Z5.new w 47
  have hlow := h.low.1
  have hbl := bl_le s false
  have hpl : i + bl s false ≤ b.length := by have := hat.out; omega
  have hdp : b.drop (i + bl s false) = s.drop (bl s false) := by rw [← h.cx.drp, List.drop_drop]
  have T1 := hid hT
  clear hT h
  have bx := TK_err T1.out
  generalize hpa : i + bl s false = pa at hpl hdp
  have HPA := hid hpa
  have HD := hid hdp
  clear hpa hdp hbl
  go_enter Tryz.func113, Tryz.ntmps113
  go_wp2_with (first | (go_at_call 68; (with_reducible refine (rtoken_q (TK_good _) hP.cx.fresh).mono ?_); rw [T1.out, HPA.out]; rintro e w3 ⟨rfl, hC3⟩; have hP := hP.step hC3; have hlo3 := hP.low.2; have hwy := hC3.size; have hZ := hZ.held hC3.held (by omega) (by omega); have hc1 := hP.cx.c1; have hf1 := hP.cx.f1; obtain ⟨rc, rf, rs⟩ := id hZ))
  obtain ⟨k0, k1, k2, k3, k4⟩ := set5_cells (a := .int .i64 0) (b := .int .i64 0) (c := .slice none 0 0) (d := .slice none 0 0) (e := .slice none 0 0) hZ.five
  have hh := fun B => set5_held w3 B w.heap.size (.int .i64 0) (.int .i64 0) (.slice none 0 0) (.slice none 0 0) (.slice none 0 0)
  have hP5 := hP.off (hh (w.heap.size)) (Nat.le_refl _) (Nat.le_refl _)
  have k0 := cell_up' (alb _ (.cells #[.int .i64 0, .int .i64 pa, .int .i64 0, .slice none 0 0] 130)) k0
  have k1 := cell_up' (alb _ (.cells #[.int .i64 0, .int .i64 pa, .int .i64 0, .slice none 0 0] 130)) k1
  have k2 := cell_up' (alb _ (.cells #[.int .i64 0, .int .i64 pa, .int .i64 0, .slice none 0 0] 130)) k2
  have k3 := cell_up' (alb _ (.cells #[.int .i64 0, .int .i64 pa, .int .i64 0, .slice none 0 0] 130)) k3
  have k4 := cell_up' (alb _ (.cells #[.int .i64 0, .int .i64 pa, .int .i64 0, .slice none 0 0] 130)) k4
  have hP5 := hP5.below (alb _ (.cells #[.int .i64 0, .int .i64 pa, .int .i64 0, .slice none 0 0] 130))
  rw [HD.out] at hP5
  exact bodyPost_ret (v := .tuple #[ob 0 0 (.slice none 0 0), .int .i64 x]) (by simp [results, Tryz.results113, go_sem, k0, k1, k2, k3, k4]) rfl ⟨rfl, _, hP5⟩

set_option maxHeartbeats 1600000 in
set_option maxRecDepth 100000 in
theorem rvalue_end (q : Bool) (dp : Nat) (w : World) (pp : Nat) (b s out r : List UInt8) (i d : Nat) (n : Int) (hT : TK s = .tok 0 n out r) (h : Pd q dp w w pp b i s) :
    Calls Tryz.prog 113 #[.pointer (some ⟨pp, 0, none⟩), .int .i64 (d : Int)] w fun e w' => RVQ q dp w pp b (.bad 2 (s.drop (bl s false))) e w' := by
  have hat := hid h.cx.at_
  have hP := h.below (alb w (.cells #[.int .i64 0, .int .i64 0, .slice none 0 0, .slice none 0 0, .slice none 0 0] 47))
  have hZ := Z5.new w 47
  have hlow := h.low.1
  have hbl := bl_le s false
  have hpl : i + bl s false ≤ b.length := by have := hat.out; omega
  have hdp : b.drop (i + bl s false) = s.drop (bl s false) := by rw [← h.cx.drp, List.drop_drop]
  have T1 := hid hT
  clear hT h
  generalize hpa : i + bl s false = pa at hpl hdp
  have HPA := hid hpa
  have HD := hid hdp
  clear hpa hdp hbl
  go_enter Tryz.func113, Tryz.ntmps113
  go_wp2_with (first | (go_at_call 68; (with_reducible refine (rtoken_q (TK_good _) hP.cx.fresh).mono ?_); rw [T1.out, HPA.out]; rintro e w3 ⟨u3, rfl, j3, hC3⟩; obtain ⟨ao3, cap3, rfl, -, -, -⟩ := Rd.own hC3.row; have hP := hP.step hC3; have hlo3 := hP.low.2; have hwy := hC3.size; have hZ := hZ.held hC3.held (by omega) (by omega); have hc1 := hP.cx.c1; have hf1 := hP.cx.f1; obtain ⟨rc, rf, rs⟩ := id hZ) | (go_at_call 140; refine (rstop_any (hP.below (alb _ _)).fresh pa _ rfl hpl 2).mono ?_; rw [HD.out]; rintro e w9 ⟨rfl, hPs⟩; have hP := (hP.below (alb _ _)).join hPs; have hZ := (hZ.up (alb _ _)).held hPs.cx.held (by omega) (by omega); have hc1 := hP.cx.c1; have hf1 := hP.cx.f1; obtain ⟨rc, rf, rs⟩ := id hZ))
  obtain ⟨k0, k1, k2, k3, k4⟩ := set5_cells (a := .int .i64 0) (b := .int .i64 0) (c := .slice none 0 0) (d := .slice none 0 0) (e := .slice none 0 0) hZ.five
  have hh := fun B => set5_held w9 B w.heap.size (.int .i64 0) (.int .i64 0) (.slice none 0 0) (.slice none 0 0) (.slice none 0 0)
  have hP5 := hP.off (hh (w.heap.size)) (Nat.le_refl _) (Nat.le_refl _)
  exact bodyPost_ret (v := .tuple #[ob 0 0 (.slice none 0 0), .int .i64 2]) (by simp [results, Tryz.results113, go_sem, k0, k1, k2, k3, k4]) rfl ⟨rfl, _, hP5⟩

set_option maxHeartbeats 1600000 in
set_option maxRecDepth 100000 in
theorem rvalue_deep (q : Bool) (dp : Nat) (w : World) (pp : Nat) (b s out r : List UInt8) (i d : Nat) (k n : Int) (hd : d = 0) (hk : k = 5 ∨ k = 7) (hT : TK s = .tok k n out r) (h : Pd q dp w w pp b i s) :
    Calls Tryz.prog 113 #[.pointer (some ⟨pp, 0, none⟩), .int .i64 (d : Int)] w fun e w' => RVQ q dp w pp b (.bad 6 (s.drop (bl s false))) e w' := by
  have hat := hid h.cx.at_
  have hP := h.below (alb w (.cells #[.int .i64 0, .int .i64 0, .slice none 0 0, .slice none 0 0, .slice none 0 0] 47))
  have hZ := Z5.new w 47
  have hlow := h.low.1
  have hbl := bl_le s false
  have hpl : i + bl s false ≤ b.length := by have := hat.out; omega
  have hdp : b.drop (i + bl s false) = s.drop (bl s false) := by rw [← h.cx.drp, List.drop_drop]
  have T1 := hid hT
  clear hT h
  subst hd
  generalize hpa : i + bl s false = pa at hpl hdp
  have HPA := hid hpa
  have HD := hid hdp
  clear hpa hdp hbl
  go_enter Tryz.func113, Tryz.ntmps113
  rcases hk with rfl | rfl
  · go_wp2_with (first | (go_at_call 68; (with_reducible refine (rtoken_q (TK_good _) hP.cx.fresh).mono ?_); rw [T1.out, HPA.out]; rintro e w3 ⟨u3, rfl, j3, hC3⟩; obtain ⟨ao3, cap3, rfl, -, -, -⟩ := Rd.own hC3.row; have hP := hP.step hC3; have hlo3 := hP.low.2; have hwy := hC3.size; have hZ := hZ.held hC3.held (by omega) (by omega); have hc1 := hP.cx.c1; have hf1 := hP.cx.f1; obtain ⟨rc, rf, rs⟩ := id hZ) | (go_at_call 140; refine (rstop_any (hP.below (alb _ _)).fresh pa _ rfl hpl 6).mono ?_; rw [HD.out]; rintro e w9 ⟨rfl, hPs⟩; have hP := (hP.below (alb _ _)).join hPs; have hZ := (hZ.up (alb _ _)).held hPs.cx.held (by omega) (by omega); have hc1 := hP.cx.c1; have hf1 := hP.cx.f1; obtain ⟨rc, rf, rs⟩ := id hZ))
    obtain ⟨k0, k1, k2, k3, k4⟩ := set5_cells (a := .int .i64 0) (b := .int .i64 0) (c := .slice none 0 0) (d := .slice none 0 0) (e := .slice none 0 0) hZ.five
    have hh := fun B => set5_held w9 B w.heap.size (.int .i64 0) (.int .i64 0) (.slice none 0 0) (.slice none 0 0) (.slice none 0 0)
    have hP5 := hP.off (hh (w.heap.size)) (Nat.le_refl _) (Nat.le_refl _)
    exact bodyPost_ret (v := .tuple #[ob 0 0 (.slice none 0 0), .int .i64 6]) (by simp [results, Tryz.results113, go_sem, k0, k1, k2, k3, k4]) rfl ⟨rfl, _, hP5⟩
  · go_wp2_with (first | (go_at_call 68; (with_reducible refine (rtoken_q (TK_good _) hP.cx.fresh).mono ?_); rw [T1.out, HPA.out]; rintro e w3 ⟨u3, rfl, j3, hC3⟩; obtain ⟨ao3, cap3, rfl, -, -, -⟩ := Rd.own hC3.row; have hP := hP.step hC3; have hlo3 := hP.low.2; have hwy := hC3.size; have hZ := hZ.held hC3.held (by omega) (by omega); have hc1 := hP.cx.c1; have hf1 := hP.cx.f1; obtain ⟨rc, rf, rs⟩ := id hZ) | (go_at_call 140; refine (rstop_any (hP.below (alb _ _)).fresh pa _ rfl hpl 6).mono ?_; rw [HD.out]; rintro e w9 ⟨rfl, hPs⟩; have hP := (hP.below (alb _ _)).join hPs; have hZ := (hZ.up (alb _ _)).held hPs.cx.held (by omega) (by omega); have hc1 := hP.cx.c1; have hf1 := hP.cx.f1; obtain ⟨rc, rf, rs⟩ := id hZ))
    obtain ⟨k0, k1, k2, k3, k4⟩ := set5_cells (a := .int .i64 0) (b := .int .i64 0) (c := .slice none 0 0) (d := .slice none 0 0) (e := .slice none 0 0) hZ.five
    have hh := fun B => set5_held w9 B w.heap.size (.int .i64 0) (.int .i64 0) (.slice none 0 0) (.slice none 0 0) (.slice none 0 0)
    have hP5 := hP.off (hh (w.heap.size)) (Nat.le_refl _) (Nat.le_refl _)
    exact bodyPost_ret (v := .tuple #[ob 0 0 (.slice none 0 0), .int .i64 6]) (by simp [results, Tryz.results113, go_sem, k0, k1, k2, k3, k4]) rfl ⟨rfl, _, hP5⟩

set_option maxHeartbeats 1600000 in
set_option maxRecDepth 100000 in
theorem rvalue_form (q : Bool) (dp : Nat) (w : World) (pp : Nat) (b s out r : List UInt8) (i d : Nat) (k n : Int) (h0 : ¬ k = 0) (h1 : ¬ k = 1) (h2 : ¬ k = 2) (h3 : ¬ k = 3) (h4 : ¬ k = 4) (h5 : ¬ k = 5) (h7 : ¬ k = 7) (h9 : ¬ k = 9) (hT : TK s = .tok k n out r) (h : Pd q dp w w pp b i s) :
    Calls Tryz.prog 113 #[.pointer (some ⟨pp, 0, none⟩), .int .i64 (d : Int)] w fun e w' => RVQ q dp w pp b (.bad 4 (s.drop (bl s false))) e w' := by
  have hat := hid h.cx.at_
  have hP := h.below (alb w (.cells #[.int .i64 0, .int .i64 0, .slice none 0 0, .slice none 0 0, .slice none 0 0] 47))
  have hZ := Z5.new w 47
  have hlow := h.low.1
  have hbl := bl_le s false
  have hpl : i + bl s false ≤ b.length := by have := hat.out; omega
  have hdp : b.drop (i + bl s false) = s.drop (bl s false) := by rw [← h.cx.drp, List.drop_drop]
  have T1 := hid hT
  clear hT h
  have b0 : (k == 0) = false := by simp [h0]
  have b1 : (k == 1) = false := by simp [h1]
  have b2 : (k == 2) = false := by simp [h2]
  have b3 : (k == 3) = false := by simp [h3]
  have b4 : (k == 4) = false := by simp [h4]
  have b5 : (k == 5) = false := by simp [h5]
  have b7 : (k == 7) = false := by simp [h7]
  have b9 : (k == 9) = false := by simp [h9]
  clear h0 h1 h2 h3 h4 h5 h7 h9
  generalize hpa : i + bl s false = pa at hpl hdp
  have HPA := hid hpa
  have HD := hid hdp
  clear hpa hdp hbl
  go_enter Tryz.func113, Tryz.ntmps113
  go_wp2_with (first | (go_at_call 68; (with_reducible refine (rtoken_q (TK_good _) hP.cx.fresh).mono ?_); rw [T1.out, HPA.out]; rintro e w3 ⟨u3, rfl, j3, hC3⟩; obtain ⟨ao3, cap3, rfl, -, -, -⟩ := Rd.own hC3.row; have hP := hP.step hC3; have hlo3 := hP.low.2; have hwy := hC3.size; have hZ := hZ.held hC3.held (by omega) (by omega); have hc1 := hP.cx.c1; have hf1 := hP.cx.f1; obtain ⟨rc, rf, rs⟩ := id hZ) | (go_at_call 140; refine (rstop_any (hP.below (alb _ _)).fresh pa _ rfl hpl 4).mono ?_; rw [HD.out]; rintro e w9 ⟨rfl, hPs⟩; have hP := (hP.below (alb _ _)).join hPs; have hZ := (hZ.up (alb _ _)).held hPs.cx.held (by omega) (by omega); have hc1 := hP.cx.c1; have hf1 := hP.cx.f1; obtain ⟨rc, rf, rs⟩ := id hZ))
  obtain ⟨k0, k1, k2, k3, k4⟩ := set5_cells (a := .int .i64 0) (b := .int .i64 0) (c := .slice none 0 0) (d := .slice none 0 0) (e := .slice none 0 0) hZ.five
  have hh := fun B => set5_held w9 B w.heap.size (.int .i64 0) (.int .i64 0) (.slice none 0 0) (.slice none 0 0) (.slice none 0 0)
  have hP5 := hP.off (hh (w.heap.size)) (Nat.le_refl _) (Nat.le_refl _)
  exact bodyPost_ret (v := .tuple #[ob 0 0 (.slice none 0 0), .int .i64 4]) (by simp [results, Tryz.results113, go_sem, k0, k1, k2, k3, k4]) rfl ⟨rfl, _, hP5⟩

set_option maxHeartbeats 1600000 in
set_option maxRecDepth 100000 in
theorem rvalue_real (q : Bool) (dp : Nat) (w : World) (pp : Nat) (b s out r : List UInt8) (i d : Nat) (n : Int) (hT : TK s = .tok 2 n out r) (h : Pd q dp w w pp b i s) :
    Calls Tryz.prog 113 #[.pointer (some ⟨pp, 0, none⟩), .int .i64 (d : Int)] w fun e w' => RVQ q dp w pp b (.ok (poReal n) r) e w' := by
  have hat := hid h.cx.at_
  have hP := h.below (alb w (.cells #[.int .i64 0, .int .i64 0, .slice none 0 0, .slice none 0 0, .slice none 0 0] 47))
  have hZ := Z5.new w 47
  have hlow := h.low.1
  have hbl := bl_le s false
  have hpl : i + bl s false ≤ b.length := by have := hat.out; omega
  have hdp : b.drop (i + bl s false) = s.drop (bl s false) := by rw [← h.cx.drp, List.drop_drop]
  have T1 := hid hT
  clear hT h
  generalize hpa : i + bl s false = pa at hpl hdp
  have HPA := hid hpa
  have HD := hid hdp
  clear hpa hdp hbl
  go_enter Tryz.func113, Tryz.ntmps113
  go_wp2_with (first | (go_at_call 68; (with_reducible refine (rtoken_q (TK_good _) hP.cx.fresh).mono ?_); rw [T1.out, HPA.out]; rintro e w3 ⟨u3, rfl, j3, hC3⟩; obtain ⟨ao3, cap3, rfl, -, -, -⟩ := Rd.own hC3.row; have hP := hP.step hC3; have hlo3 := hP.low.2; have hwy := hC3.size; have hZ := hZ.held hC3.held (by omega) (by omega); have hc1 := hP.cx.c1; have hf1 := hP.cx.f1; obtain ⟨rc, rf, rs⟩ := id hZ))
  obtain ⟨k0, k1, k2, k3, k4⟩ := set5_cells (a := .int .i64 3) (b := .int .i64 n) (c := .slice none 0 0) (d := .slice none 0 0) (e := .slice none 0 0) hZ.five
  have hh := fun B => set5_held w3 B w.heap.size (.int .i64 3) (.int .i64 n) (.slice none 0 0) (.slice none 0 0) (.slice none 0 0)
  have hP5 := hP.off (hh (w.heap.size)) (Nat.le_refl _) (Nat.le_refl _)
  have k0 := cell_up' (alb _ (.cells #[.int .i64 2, .int .i64 pa, .int .i64 n, .slice ao3 out.length cap3] 130)) k0
  have k1 := cell_up' (alb _ (.cells #[.int .i64 2, .int .i64 pa, .int .i64 n, .slice ao3 out.length cap3] 130)) k1
  have k2 := cell_up' (alb _ (.cells #[.int .i64 2, .int .i64 pa, .int .i64 n, .slice ao3 out.length cap3] 130)) k2
  have k3 := cell_up' (alb _ (.cells #[.int .i64 2, .int .i64 pa, .int .i64 n, .slice ao3 out.length cap3] 130)) k3
  have k4 := cell_up' (alb _ (.cells #[.int .i64 2, .int .i64 pa, .int .i64 n, .slice ao3 out.length cap3] 130)) k4
  have hP5 := hP5.below (alb _ (.cells #[.int .i64 2, .int .i64 pa, .int .i64 n, .slice ao3 out.length cap3] 130))
  exact bodyPost_ret (v := .tuple #[ob 3 n (.slice none 0 0), .int .i64 0]) (by simp [results, Tryz.results113, go_sem, k0, k1, k2, k3, k4]) rfl ⟨_, rfl, OV.num 3 n, _, hP5⟩

set_option maxHeartbeats 1600000 in
set_option maxRecDepth 100000 in
theorem rvalue_wint (q : Bool) (dp : Nat) (w : World) (pp : Nat) (b s out r r9 : List UInt8) (i d : Nat) (n : Int) (hT : TK s = .tok 1 n out r) (hW : whole q n r = .ok (poInt n) r9) (h : Pd q dp w w pp b i s) :
    Calls Tryz.prog 113 #[.pointer (some ⟨pp, 0, none⟩), .int .i64 (d : Int)] w fun e w' => RVQ q dp w pp b (.ok (poInt n) r9) e w' := by
  have hat := hid h.cx.at_
  have hP := h.below (alb w (.cells #[.int .i64 0, .int .i64 0, .slice none 0 0, .slice none 0 0, .slice none 0 0] 47))
  have hZ := Z5.new w 47
  have hlow := h.low.1
  have hbl := bl_le s false
  have hpl : i + bl s false ≤ b.length := by have := hat.out; omega
  have hdp : b.drop (i + bl s false) = s.drop (bl s false) := by rw [← h.cx.drp, List.drop_drop]
  have T1 := hid hT
  clear hT h
  have HW := hid hW
  clear hW
  generalize hpa : i + bl s false = pa at hpl hdp
  have HPA := hid hpa
  have HD := hid hdp
  clear hpa hdp hbl
  go_enter Tryz.func113, Tryz.ntmps113
  go_wp2_with (first | (go_at_call 68; (with_reducible refine (rtoken_q (TK_good _) hP.cx.fresh).mono ?_); rw [T1.out, HPA.out]; rintro e w3 ⟨u3, rfl, j3, hC3⟩; obtain ⟨ao3, cap3, rfl, -, -, -⟩ := Rd.own hC3.row; have hP := hP.step hC3; have hlo3 := hP.low.2; have hwy := hC3.size; have hZ := hZ.held hC3.held (by omega) (by omega); have hc1 := hP.cx.c1; have hf1 := hP.cx.f1; obtain ⟨rc, rf, rs⟩ := id hZ) | (go_at_call 141; refine (rwhole_any (hP.below (alb _ _)).fresh n pa _ out ((Sl.own hC3.row).up (alb _ _))).mono ?_; rw [HW.out]; rintro e w9 ⟨rfl, j9, hPs⟩; have hP := (hP.below (alb _ _)).join hPs; have hZ := (hZ.up (alb _ _)).held hPs.cx.held (by omega) (by omega); have hc1 := hP.cx.c1; have hf1 := hP.cx.f1; obtain ⟨rc, rf, rs⟩ := id hZ))
  obtain ⟨k0, k1, k2, k3, k4⟩ := set5_cells (a := .int .i64 2) (b := .int .i64 n) (c := .slice none 0 0) (d := .slice none 0 0) (e := .slice none 0 0) hZ.five
  have hh := fun B => set5_held w9 B w.heap.size (.int .i64 2) (.int .i64 n) (.slice none 0 0) (.slice none 0 0) (.slice none 0 0)
  have hP5 := hP.off (hh (w.heap.size)) (Nat.le_refl _) (Nat.le_refl _)
  exact bodyPost_ret (v := .tuple #[ob 2 n (.slice none 0 0), .int .i64 0]) (by simp [results, Tryz.results113, go_sem, k0, k1, k2, k3, k4]) rfl ⟨_, rfl, OV.num 2 n, _, hP5⟩

set_option maxHeartbeats 1600000 in
set_option maxRecDepth 100000 in
theorem rvalue_wref (q : Bool) (dp : Nat) (w : World) (pp : Nat) (b s out r r9 : List UInt8) (i d : Nat) (n : Int) (hT : TK s = .tok 1 n out r) (hW : whole q n r = .ok (poRef n) r9) (h : Pd q dp w w pp b i s) :
    Calls Tryz.prog 113 #[.pointer (some ⟨pp, 0, none⟩), .int .i64 (d : Int)] w fun e w' => RVQ q dp w pp b (.ok (poRef n) r9) e w' := by
  have hat := hid h.cx.at_
  have hP := h.below (alb w (.cells #[.int .i64 0, .int .i64 0, .slice none 0 0, .slice none 0 0, .slice none 0 0] 47))
  have hZ := Z5.new w 47
  have hlow := h.low.1
  have hbl := bl_le s false
  have hpl : i + bl s false ≤ b.length := by have := hat.out; omega
  have hdp : b.drop (i + bl s false) = s.drop (bl s false) := by rw [← h.cx.drp, List.drop_drop]
  have T1 := hid hT
  clear hT h
  have HW := hid hW
  clear hW
  generalize hpa : i + bl s false = pa at hpl hdp
  have HPA := hid hpa
  have HD := hid hdp
  clear hpa hdp hbl
  go_enter Tryz.func113, Tryz.ntmps113
  go_wp2_with (first | (go_at_call 68; (with_reducible refine (rtoken_q (TK_good _) hP.cx.fresh).mono ?_); rw [T1.out, HPA.out]; rintro e w3 ⟨u3, rfl, j3, hC3⟩; obtain ⟨ao3, cap3, rfl, -, -, -⟩ := Rd.own hC3.row; have hP := hP.step hC3; have hlo3 := hP.low.2; have hwy := hC3.size; have hZ := hZ.held hC3.held (by omega) (by omega); have hc1 := hP.cx.c1; have hf1 := hP.cx.f1; obtain ⟨rc, rf, rs⟩ := id hZ) | (go_at_call 141; refine (rwhole_any (hP.below (alb _ _)).fresh n pa _ out ((Sl.own hC3.row).up (alb _ _))).mono ?_; rw [HW.out]; rintro e w9 ⟨rfl, j9, hPs⟩; have hP := (hP.below (alb _ _)).join hPs; have hZ := (hZ.up (alb _ _)).held hPs.cx.held (by omega) (by omega); have hc1 := hP.cx.c1; have hf1 := hP.cx.f1; obtain ⟨rc, rf, rs⟩ := id hZ))
  obtain ⟨k0, k1, k2, k3, k4⟩ := set5_cells (a := .int .i64 9) (b := .int .i64 n) (c := .slice none 0 0) (d := .slice none 0 0) (e := .slice none 0 0) hZ.five
  have hh := fun B => set5_held w9 B w.heap.size (.int .i64 9) (.int .i64 n) (.slice none 0 0) (.slice none 0 0) (.slice none 0 0)
  have hP5 := hP.off (hh (w.heap.size)) (Nat.le_refl _) (Nat.le_refl _)
  exact bodyPost_ret (v := .tuple #[ob 9 n (.slice none 0 0), .int .i64 0]) (by simp [results, Tryz.results113, go_sem, k0, k1, k2, k3, k4]) rfl ⟨_, rfl, OV.num 9 n, _, hP5⟩

set_option maxHeartbeats 1600000 in
set_option maxRecDepth 100000 in
theorem rvalue_str (q : Bool) (dp : Nat) (w : World) (pp : Nat) (b s out r : List UInt8) (i d : Nat) (n : Int) (hT : TK s = .tok 3 n out r) (hob : out.length ≤ 4000000) (h : Pd q dp w w pp b i s) :
    Calls Tryz.prog 113 #[.pointer (some ⟨pp, 0, none⟩), .int .i64 (d : Int)] w fun e w' => RVQ q dp w pp b (.ok (poStr out) r) e w' := by
  have hat := hid h.cx.at_
  have hP := h.below (alb w (.cells #[.int .i64 0, .int .i64 0, .slice none 0 0, .slice none 0 0, .slice none 0 0] 47))
  have hZ := Z5.new w 47
  have hlow := h.low.1
  have hbl := bl_le s false
  have hpl : i + bl s false ≤ b.length := by have := hat.out; omega
  have hdp : b.drop (i + bl s false) = s.drop (bl s false) := by rw [← h.cx.drp, List.drop_drop]
  have T1 := hid hT
  clear hT h
  generalize hpa : i + bl s false = pa at hpl hdp
  have HPA := hid hpa
  have HD := hid hdp
  clear hpa hdp hbl
  go_enter Tryz.func113, Tryz.ntmps113
  go_wp2_with (first | (go_at_call 68; (with_reducible refine (rtoken_q (TK_good _) hP.cx.fresh).mono ?_); rw [T1.out, HPA.out]; rintro e w3 ⟨u3, rfl, j3, hC3⟩; obtain ⟨ao3, cap3, rfl, -, -, -⟩ := Rd.own hC3.row; have hP := hP.step hC3; have hlo3 := hP.low.2; have hwy := hC3.size; have hZ := hZ.held hC3.held (by omega) (by omega); have hc1 := hP.cx.c1; have hf1 := hP.cx.f1; obtain ⟨rc, rf, rs⟩ := id hZ))
  obtain ⟨k0, k1, k2, k3, k4⟩ := set5_cells (a := .int .i64 4) (b := .int .i64 0) (c := .slice ao3 out.length cap3) (d := .slice none 0 0) (e := .slice none 0 0) hZ.five
  have hh := fun B => set5_held w3 B w.heap.size (.int .i64 4) (.int .i64 0) (.slice ao3 out.length cap3) (.slice none 0 0) (.slice none 0 0)
  have hP5 := hP.off (hh (w.heap.size)) (Nat.le_refl _) (Nat.le_refl _)
  have k0 := cell_up' (alb _ (.cells #[.int .i64 3, .int .i64 pa, .int .i64 n, .slice ao3 out.length cap3] 130)) k0
  have k1 := cell_up' (alb _ (.cells #[.int .i64 3, .int .i64 pa, .int .i64 n, .slice ao3 out.length cap3] 130)) k1
  have k2 := cell_up' (alb _ (.cells #[.int .i64 3, .int .i64 pa, .int .i64 n, .slice ao3 out.length cap3] 130)) k2
  have k3 := cell_up' (alb _ (.cells #[.int .i64 3, .int .i64 pa, .int .i64 n, .slice ao3 out.length cap3] 130)) k3
  have k4 := cell_up' (alb _ (.cells #[.int .i64 3, .int .i64 pa, .int .i64 n, .slice ao3 out.length cap3] 130)) k4
  have hP5 := hP5.below (alb _ (.cells #[.int .i64 3, .int .i64 pa, .int .i64 n, .slice ao3 out.length cap3] 130))
  have hlt := World.ownsRow.lt hC3.row
  have hov := (OV.flat (A := fun g => w.heap.size + 1 ≤ g ∧ g < w3.heap.size) 4 0 _ out ⟨Sl.own hC3.row, fun g hg => by have := hlt g hg; simp at this; exact ⟨by omega, by omega⟩⟩ hob).keep (B := fun g => w.heap.size ≤ g ∧ g < ((set5 w3 w.heap.size (.int .i64 4) (.int .i64 0) (.slice ao3 out.length cap3) (.slice none 0 0) (.slice none 0 0)).alloc (.cells #[.int .i64 3, .int .i64 pa, .int .i64 n, .slice ao3 out.length cap3] 130)).heap.size) (w' := (set5 w3 w.heap.size (.int .i64 4) (.int .i64 0) (.slice ao3 out.length cap3) (.slice none 0 0) (.slice none 0 0)).alloc (.cells #[.int .i64 3, .int .i64 pa, .int .i64 n, .slice ao3 out.length cap3] 130)) (fun g hg => ⟨by omega, Nat.lt_of_lt_of_le hg.2 (Nat.le_trans (hh 0).size (alb _ _).size)⟩) (fun g hg hlt => ((alb _ (.cells #[.int .i64 3, .int .i64 pa, .int .i64 n, .slice ao3 out.length cap3] 130)).block g (Nat.lt_of_lt_of_le hlt (hh 0).size)).trans ((hh w3.heap.size).block g hlt (by omega) (by omega)))
  exact bodyPost_ret (v := .tuple #[ob 4 0 (.slice ao3 out.length cap3), .int .i64 0]) (by simp [results, Tryz.results113, go_sem, k0, k1, k2, k3, k4]) rfl ⟨_, rfl, hov, _, hP5⟩

set_option maxHeartbeats 1600000 in
set_option maxRecDepth 100000 in
theorem rvalue_name (q : Bool) (dp : Nat) (w : World) (pp : Nat) (b s out r : List UInt8) (i d : Nat) (n : Int) (hT : TK s = .tok 4 n out r) (hob : out.length ≤ 4000000) (h : Pd q dp w w pp b i s) :
    Calls Tryz.prog 113 #[.pointer (some ⟨pp, 0, none⟩), .int .i64 (d : Int)] w fun e w' => RVQ q dp w pp b (.ok (poName out) r) e w' := by
  have hat := hid h.cx.at_
  have hP := h.below (alb w (.cells #[.int .i64 0, .int .i64 0, .slice none 0 0, .slice none 0 0, .slice none 0 0] 47))
  have hZ := Z5.new w 47
  have hlow := h.low.1
  have hbl := bl_le s false
  have hpl : i + bl s false ≤ b.length := by have := hat.out; omega
  have hdp : b.drop (i + bl s false) = s.drop (bl s false) := by rw [← h.cx.drp, List.drop_drop]
  have T1 := hid hT
  clear hT h
  generalize hpa : i + bl s false = pa at hpl hdp
  have HPA := hid hpa
  have HD := hid hdp
  clear hpa hdp hbl
  go_enter Tryz.func113, Tryz.ntmps113
  go_wp2_with (first | (go_at_call 68; (with_reducible refine (rtoken_q (TK_good _) hP.cx.fresh).mono ?_); rw [T1.out, HPA.out]; rintro e w3 ⟨u3, rfl, j3, hC3⟩; obtain ⟨ao3, cap3, rfl, -, -, -⟩ := Rd.own hC3.row; have hP := hP.step hC3; have hlo3 := hP.low.2; have hwy := hC3.size; have hZ := hZ.held hC3.held (by omega) (by omega); have hc1 := hP.cx.c1; have hf1 := hP.cx.f1; obtain ⟨rc, rf, rs⟩ := id hZ))
  obtain ⟨k0, k1, k2, k3, k4⟩ := set5_cells (a := .int .i64 5) (b := .int .i64 0) (c := .slice ao3 out.length cap3) (d := .slice none 0 0) (e := .slice none 0 0) hZ.five
  have hh := fun B => set5_held w3 B w.heap.size (.int .i64 5) (.int .i64 0) (.slice ao3 out.length cap3) (.slice none 0 0) (.slice none 0 0)
  have hP5 := hP.off (hh (w.heap.size)) (Nat.le_refl _) (Nat.le_refl _)
  have k0 := cell_up' (alb _ (.cells #[.int .i64 4, .int .i64 pa, .int .i64 n, .slice ao3 out.length cap3] 130)) k0
  have k1 := cell_up' (alb _ (.cells #[.int .i64 4, .int .i64 pa, .int .i64 n, .slice ao3 out.length cap3] 130)) k1
  have k2 := cell_up' (alb _ (.cells #[.int .i64 4, .int .i64 pa, .int .i64 n, .slice ao3 out.length cap3] 130)) k2
  have k3 := cell_up' (alb _ (.cells #[.int .i64 4, .int .i64 pa, .int .i64 n, .slice ao3 out.length cap3] 130)) k3
  have k4 := cell_up' (alb _ (.cells #[.int .i64 4, .int .i64 pa, .int .i64 n, .slice ao3 out.length cap3] 130)) k4
  have hP5 := hP5.below (alb _ (.cells #[.int .i64 4, .int .i64 pa, .int .i64 n, .slice ao3 out.length cap3] 130))
  have hlt := World.ownsRow.lt hC3.row
  have hov := (OV.flat (A := fun g => w.heap.size + 1 ≤ g ∧ g < w3.heap.size) 5 0 _ out ⟨Sl.own hC3.row, fun g hg => by have := hlt g hg; simp at this; exact ⟨by omega, by omega⟩⟩ hob).keep (B := fun g => w.heap.size ≤ g ∧ g < ((set5 w3 w.heap.size (.int .i64 5) (.int .i64 0) (.slice ao3 out.length cap3) (.slice none 0 0) (.slice none 0 0)).alloc (.cells #[.int .i64 4, .int .i64 pa, .int .i64 n, .slice ao3 out.length cap3] 130)).heap.size) (w' := (set5 w3 w.heap.size (.int .i64 5) (.int .i64 0) (.slice ao3 out.length cap3) (.slice none 0 0) (.slice none 0 0)).alloc (.cells #[.int .i64 4, .int .i64 pa, .int .i64 n, .slice ao3 out.length cap3] 130)) (fun g hg => ⟨by omega, Nat.lt_of_lt_of_le hg.2 (Nat.le_trans (hh 0).size (alb _ _).size)⟩) (fun g hg hlt => ((alb _ (.cells #[.int .i64 4, .int .i64 pa, .int .i64 n, .slice ao3 out.length cap3] 130)).block g (Nat.lt_of_lt_of_le hlt (hh 0).size)).trans ((hh w3.heap.size).block g hlt (by omega) (by omega)))
  exact bodyPost_ret (v := .tuple #[ob 5 0 (.slice ao3 out.length cap3), .int .i64 0]) (by simp [results, Tryz.results113, go_sem, k0, k1, k2, k3, k4]) rfl ⟨_, rfl, hov, _, hP5⟩

set_option maxHeartbeats 1600000 in
set_option maxRecDepth 100000 in
theorem rvalue_true (q : Bool) (dp : Nat) (w : World) (pp : Nat) (b s r : List UInt8) (i d : Nat) (n : Int) (hT : TK s = .tok 9 n [116, 114, 117, 101] r) (h : Pd q dp w w pp b i s) :
    Calls Tryz.prog 113 #[.pointer (some ⟨pp, 0, none⟩), .int .i64 (d : Int)] w fun e w' => RVQ q dp w pp b (.ok (poBool 1) r) e w' := by
  have hat := hid h.cx.at_
  have hP := h.below (alb w (.cells #[.int .i64 0, .int .i64 0, .slice none 0 0, .slice none 0 0, .slice none 0 0] 47))
  have hZ := Z5.new w 47
  have hlow := h.low.1
  have hbl := bl_le s false
  have hpl : i + bl s false ≤ b.length := by have := hat.out; omega
  have hdp : b.drop (i + bl s false) = s.drop (bl s false) := by rw [← h.cx.drp, List.drop_drop]
  have T1 := hid hT
  clear hT h
  have hst := st_toList [116, 114, 117, 101]
  generalize hpa : i + bl s false = pa at hpl hdp
  have HPA := hid hpa
  have HD := hid hdp
  clear hpa hdp hbl
  go_enter Tryz.func113, Tryz.ntmps113
  go_wp2_with (first | (go_at_call 68; (with_reducible refine (rtoken_q (TK_good _) hP.cx.fresh).mono ?_); rw [T1.out, HPA.out]; rintro e w3 ⟨u3, rfl, j3, hC3⟩; obtain ⟨ao3, cap3, rfl, -, -, -⟩ := Rd.own hC3.row; have hP := hP.step hC3; have hlo3 := hP.low.2; have hwy := hC3.size; have hZ := hZ.held hC3.held (by omega) (by omega); have hc1 := hP.cx.c1; have hf1 := hP.cx.f1; obtain ⟨rc, rf, rs⟩ := id hZ; have hS3 := Sl.own hC3.row; have hcv : ∀ o : Obj, (convert 27 9 (.slice ao3 4 cap3)).run Tryz.prog (w3.alloc o) = .ok (.string (st [116, 114, 117, 101])) (w3.alloc o) := fun o => sl_string (P := Tryz.prog) (w3.alloc o) 27 9 5 Tryz.underlying27 (by kernel_rfl) (by kernel_rfl) _ _ (hS3.up (alb _ _))))
  obtain ⟨k0, k1, k2, k3, k4⟩ := set5_cells (a := .int .i64 1) (b := .int .i64 1) (c := .slice none 0 0) (d := .slice none 0 0) (e := .slice none 0 0) hZ.five
  have hh := fun B => set5_held w3 B w.heap.size (.int .i64 1) (.int .i64 1) (.slice none 0 0) (.slice none 0 0) (.slice none 0 0)
  have hP5 := hP.off (hh (w.heap.size)) (Nat.le_refl _) (Nat.le_refl _)
  have k0 := cell_up' (alb _ (.cells #[.int .i64 9, .int .i64 pa, .int .i64 n, .slice ao3 4 cap3] 130)) k0
  have k1 := cell_up' (alb _ (.cells #[.int .i64 9, .int .i64 pa, .int .i64 n, .slice ao3 4 cap3] 130)) k1
  have k2 := cell_up' (alb _ (.cells #[.int .i64 9, .int .i64 pa, .int .i64 n, .slice ao3 4 cap3] 130)) k2
  have k3 := cell_up' (alb _ (.cells #[.int .i64 9, .int .i64 pa, .int .i64 n, .slice ao3 4 cap3] 130)) k3
  have k4 := cell_up' (alb _ (.cells #[.int .i64 9, .int .i64 pa, .int .i64 n, .slice ao3 4 cap3] 130)) k4
  have hP5 := hP5.below (alb _ (.cells #[.int .i64 9, .int .i64 pa, .int .i64 n, .slice ao3 4 cap3] 130))
  exact bodyPost_ret (v := .tuple #[ob 1 1 (.slice none 0 0), .int .i64 0]) (by simp [results, Tryz.results113, go_sem, k0, k1, k2, k3, k4]) rfl ⟨_, rfl, OV.num 1 1, _, hP5⟩

set_option maxHeartbeats 1600000 in
set_option maxRecDepth 100000 in
theorem rvalue_false (q : Bool) (dp : Nat) (w : World) (pp : Nat) (b s r : List UInt8) (i d : Nat) (n : Int) (hT : TK s = .tok 9 n [102, 97, 108, 115, 101] r) (h : Pd q dp w w pp b i s) :
    Calls Tryz.prog 113 #[.pointer (some ⟨pp, 0, none⟩), .int .i64 (d : Int)] w fun e w' => RVQ q dp w pp b (.ok (poBool 0) r) e w' := by
  have hat := hid h.cx.at_
  have hP := h.below (alb w (.cells #[.int .i64 0, .int .i64 0, .slice none 0 0, .slice none 0 0, .slice none 0 0] 47))
  have hZ := Z5.new w 47
  have hlow := h.low.1
  have hbl := bl_le s false
  have hpl : i + bl s false ≤ b.length := by have := hat.out; omega
  have hdp : b.drop (i + bl s false) = s.drop (bl s false) := by rw [← h.cx.drp, List.drop_drop]
  have T1 := hid hT
  clear hT h
  have hst := st_toList [102, 97, 108, 115, 101]
  generalize hpa : i + bl s false = pa at hpl hdp
  have HPA := hid hpa
  have HD := hid hdp
  clear hpa hdp hbl
  go_enter Tryz.func113, Tryz.ntmps113
  go_wp2_with (first | (go_at_call 68; (with_reducible refine (rtoken_q (TK_good _) hP.cx.fresh).mono ?_); rw [T1.out, HPA.out]; rintro e w3 ⟨u3, rfl, j3, hC3⟩; obtain ⟨ao3, cap3, rfl, -, -, -⟩ := Rd.own hC3.row; have hP := hP.step hC3; have hlo3 := hP.low.2; have hwy := hC3.size; have hZ := hZ.held hC3.held (by omega) (by omega); have hc1 := hP.cx.c1; have hf1 := hP.cx.f1; obtain ⟨rc, rf, rs⟩ := id hZ; have hS3 := Sl.own hC3.row; have hcv : ∀ o : Obj, (convert 27 9 (.slice ao3 5 cap3)).run Tryz.prog (w3.alloc o) = .ok (.string (st [102, 97, 108, 115, 101])) (w3.alloc o) := fun o => sl_string (P := Tryz.prog) (w3.alloc o) 27 9 5 Tryz.underlying27 (by kernel_rfl) (by kernel_rfl) _ _ (hS3.up (alb _ _))))
  obtain ⟨k0, k1, k2, k3, k4⟩ := set5_cells (a := .int .i64 1) (b := .int .i64 0) (c := .slice none 0 0) (d := .slice none 0 0) (e := .slice none 0 0) hZ.five
  have hh := fun B => set5_held w3 B w.heap.size (.int .i64 1) (.int .i64 0) (.slice none 0 0) (.slice none 0 0) (.slice none 0 0)
  have hP5 := hP.off (hh (w.heap.size)) (Nat.le_refl _) (Nat.le_refl _)
  have k0 := cell_up' (alb _ (.cells #[.int .i64 9, .int .i64 pa, .int .i64 n, .slice ao3 5 cap3] 130)) k0
  have k1 := cell_up' (alb _ (.cells #[.int .i64 9, .int .i64 pa, .int .i64 n, .slice ao3 5 cap3] 130)) k1
  have k2 := cell_up' (alb _ (.cells #[.int .i64 9, .int .i64 pa, .int .i64 n, .slice ao3 5 cap3] 130)) k2
  have k3 := cell_up' (alb _ (.cells #[.int .i64 9, .int .i64 pa, .int .i64 n, .slice ao3 5 cap3] 130)) k3
  have k4 := cell_up' (alb _ (.cells #[.int .i64 9, .int .i64 pa, .int .i64 n, .slice ao3 5 cap3] 130)) k4
  have hP5 := hP5.below (alb _ (.cells #[.int .i64 9, .int .i64 pa, .int .i64 n, .slice ao3 5 cap3] 130))
  exact bodyPost_ret (v := .tuple #[ob 1 0 (.slice none 0 0), .int .i64 0]) (by simp [results, Tryz.results113, go_sem, k0, k1, k2, k3, k4]) rfl ⟨_, rfl, OV.num 1 0, _, hP5⟩

set_option maxHeartbeats 1600000 in
set_option maxRecDepth 100000 in
theorem rvalue_null (q : Bool) (dp : Nat) (w : World) (pp : Nat) (b s r : List UInt8) (i d : Nat) (n : Int) (hT : TK s = .tok 9 n [110, 117, 108, 108] r) (h : Pd q dp w w pp b i s) :
    Calls Tryz.prog 113 #[.pointer (some ⟨pp, 0, none⟩), .int .i64 (d : Int)] w fun e w' => RVQ q dp w pp b (.ok (poNull) r) e w' := by
  have hat := hid h.cx.at_
  have hP := h.below (alb w (.cells #[.int .i64 0, .int .i64 0, .slice none 0 0, .slice none 0 0, .slice none 0 0] 47))
  have hZ := Z5.new w 47
  have hlow := h.low.1
  have hbl := bl_le s false
  have hpl : i + bl s false ≤ b.length := by have := hat.out; omega
  have hdp : b.drop (i + bl s false) = s.drop (bl s false) := by rw [← h.cx.drp, List.drop_drop]
  have T1 := hid hT
  clear hT h
  have hst := st_toList [110, 117, 108, 108]
  generalize hpa : i + bl s false = pa at hpl hdp
  have HPA := hid hpa
  have HD := hid hdp
  clear hpa hdp hbl
  go_enter Tryz.func113, Tryz.ntmps113
  go_wp2_with (first | (go_at_call 68; (with_reducible refine (rtoken_q (TK_good _) hP.cx.fresh).mono ?_); rw [T1.out, HPA.out]; rintro e w3 ⟨u3, rfl, j3, hC3⟩; obtain ⟨ao3, cap3, rfl, -, -, -⟩ := Rd.own hC3.row; have hP := hP.step hC3; have hlo3 := hP.low.2; have hwy := hC3.size; have hZ := hZ.held hC3.held (by omega) (by omega); have hc1 := hP.cx.c1; have hf1 := hP.cx.f1; obtain ⟨rc, rf, rs⟩ := id hZ; have hS3 := Sl.own hC3.row; have hcv : ∀ o : Obj, (convert 27 9 (.slice ao3 4 cap3)).run Tryz.prog (w3.alloc o) = .ok (.string (st [110, 117, 108, 108])) (w3.alloc o) := fun o => sl_string (P := Tryz.prog) (w3.alloc o) 27 9 5 Tryz.underlying27 (by kernel_rfl) (by kernel_rfl) _ _ (hS3.up (alb _ _))))
  obtain ⟨k0, k1, k2, k3, k4⟩ := set5_cells (a := .int .i64 0) (b := .int .i64 0) (c := .slice none 0 0) (d := .slice none 0 0) (e := .slice none 0 0) hZ.five
  have hh := fun B => set5_held w3 B w.heap.size (.int .i64 0) (.int .i64 0) (.slice none 0 0) (.slice none 0 0) (.slice none 0 0)
  have hP5 := hP.off (hh (w.heap.size)) (Nat.le_refl _) (Nat.le_refl _)
  have k0 := cell_up' (alb _ (.cells #[.int .i64 9, .int .i64 pa, .int .i64 n, .slice ao3 4 cap3] 130)) k0
  have k1 := cell_up' (alb _ (.cells #[.int .i64 9, .int .i64 pa, .int .i64 n, .slice ao3 4 cap3] 130)) k1
  have k2 := cell_up' (alb _ (.cells #[.int .i64 9, .int .i64 pa, .int .i64 n, .slice ao3 4 cap3] 130)) k2
  have k3 := cell_up' (alb _ (.cells #[.int .i64 9, .int .i64 pa, .int .i64 n, .slice ao3 4 cap3] 130)) k3
  have k4 := cell_up' (alb _ (.cells #[.int .i64 9, .int .i64 pa, .int .i64 n, .slice ao3 4 cap3] 130)) k4
  have hP5 := hP5.below (alb _ (.cells #[.int .i64 9, .int .i64 pa, .int .i64 n, .slice ao3 4 cap3] 130))
  exact bodyPost_ret (v := .tuple #[ob 0 0 (.slice none 0 0), .int .i64 0]) (by simp [results, Tryz.results113, go_sem, k0, k1, k2, k3, k4]) rfl ⟨_, rfl, OV.num 0 0, _, hP5⟩

set_option maxHeartbeats 1600000 in
set_option maxRecDepth 100000 in
theorem rvalue_noword (q : Bool) (dp : Nat) (w : World) (pp : Nat) (b s out r : List UInt8) (i d : Nat) (n : Int) (q1 : (out == [116, 114, 117, 101]) = false) (q2 : (out == [102, 97, 108, 115, 101]) = false) (q3 : (out == [110, 117, 108, 108]) = false) (hT : TK s = .tok 9 n out r) (h : Pd q dp w w pp b i s) :
    Calls Tryz.prog 113 #[.pointer (some ⟨pp, 0, none⟩), .int .i64 (d : Int)] w fun e w' => RVQ q dp w pp b (.bad 4 (s.drop (bl s false))) e w' := by
  have hat := hid h.cx.at_
  have hP := h.below (alb w (.cells #[.int .i64 0, .int .i64 0, .slice none 0 0, .slice none 0 0, .slice none 0 0] 47))
  have hZ := Z5.new w 47
  have hlow := h.low.1
  have hbl := bl_le s false
  have hpl : i + bl s false ≤ b.length := by have := hat.out; omega
  have hdp : b.drop (i + bl s false) = s.drop (bl s false) := by rw [← h.cx.drp, List.drop_drop]
  have T1 := hid hT
  clear hT h
  have hst := st_toList out
  generalize hpa : i + bl s false = pa at hpl hdp
  have HPA := hid hpa
  have HD := hid hdp
  clear hpa hdp hbl
  go_enter Tryz.func113, Tryz.ntmps113
  go_wp2_with (first | (go_at_call 68; (with_reducible refine (rtoken_q (TK_good _) hP.cx.fresh).mono ?_); rw [T1.out, HPA.out]; rintro e w3 ⟨u3, rfl, j3, hC3⟩; obtain ⟨ao3, cap3, rfl, -, -, -⟩ := Rd.own hC3.row; have hP := hP.step hC3; have hlo3 := hP.low.2; have hwy := hC3.size; have hZ := hZ.held hC3.held (by omega) (by omega); have hc1 := hP.cx.c1; have hf1 := hP.cx.f1; obtain ⟨rc, rf, rs⟩ := id hZ; have hS3 := Sl.own hC3.row; have hcv : ∀ o : Obj, (convert 27 9 (.slice ao3 out.length cap3)).run Tryz.prog (w3.alloc o) = .ok (.string (st out)) (w3.alloc o) := fun o => sl_string (P := Tryz.prog) (w3.alloc o) 27 9 5 Tryz.underlying27 (by kernel_rfl) (by kernel_rfl) _ _ (hS3.up (alb _ _))) | (go_at_call 140; refine (rstop_any (hP.below (alb _ _)).fresh pa _ rfl hpl 4).mono ?_; rw [HD.out]; rintro e w9 ⟨rfl, hPs⟩; have hP := (hP.below (alb _ _)).join hPs; have hZ := (hZ.up (alb _ _)).held hPs.cx.held (by omega) (by omega); have hc1 := hP.cx.c1; have hf1 := hP.cx.f1; obtain ⟨rc, rf, rs⟩ := id hZ))
  obtain ⟨k0, k1, k2, k3, k4⟩ := set5_cells (a := .int .i64 0) (b := .int .i64 0) (c := .slice none 0 0) (d := .slice none 0 0) (e := .slice none 0 0) hZ.five
  have hh := fun B => set5_held w9 B w.heap.size (.int .i64 0) (.int .i64 0) (.slice none 0 0) (.slice none 0 0) (.slice none 0 0)
  have hP5 := hP.off (hh (w.heap.size)) (Nat.le_refl _) (Nat.le_refl _)
  exact bodyPost_ret (v := .tuple #[ob 0 0 (.slice none 0 0), .int .i64 4]) (by simp [results, Tryz.results113, go_sem, k0, k1, k2, k3, k4]) rfl ⟨rfl, _, hP5⟩
end Go.Proofs.YtlmgklebikcbjaaGreatDoor

/-
  The document's value, by the contracts of array and dict. Condition: the parser stands in its bytes.
-/
namespace Go.Proofs.YtlmgklebikcbjaaGreatDoor
open Go.RowKit
set_option linter.unusedVariables false

def RValueC (q : Bool) (dp pp : Nat) (b : List UInt8) (d : Nat) : Prop := ∀ (w : World) (i : Nat) (s : List UInt8), Pd q dp w w pp b i s →
  Calls Tryz.prog 113 #[.pointer (some ⟨pp, 0, none⟩), .int .i64 (d : Int)] w fun e w' => ∃ res, PV q (.v d) s res ∧ RVQ q dp w pp b res e w'
def RArrayC (q : Bool) (dp pp : Nat) (b : List UInt8) (d : Nat) : Prop := ∀ (w : World) (i : Nat) (s : List UInt8), Pd q dp w w pp b i s →
  Calls Tryz.prog 142 #[.pointer (some ⟨pp, 0, none⟩), .int .i64 (d : Int)] w fun e w' => ∃ res, PV q (.a d []) s res ∧ RVQ q dp w pp b res e w'
def RDictC (q : Bool) (dp pp : Nat) (b : List UInt8) (d : Nat) : Prop := ∀ (w : World) (i : Nat) (s : List UInt8), Pd q dp w w pp b i s →
  Calls Tryz.prog 143 #[.pointer (some ⟨pp, 0, none⟩), .int .i64 (d : Int)] w fun e w' => ∃ res, PV q (.m d [] []) s res ∧ RVQ q dp w pp b res e w'

set_option maxHeartbeats 1600000 in
set_option maxRecDepth 100000 in
theorem rvalue_open (q : Bool) (dp : Nat) (w : World) (pp : Nat) (b s out r : List UInt8) (i d : Nat) (n : Int) (hd28 : d ≤ 28) (hT : TK s = .tok 5 n out r) (ha : RArrayC q dp pp b d) (h : Pd q dp w w pp b i s) :
    Calls Tryz.prog 113 #[.pointer (some ⟨pp, 0, none⟩), .int .i64 ((d : Int) + 1)] w fun e w' => ∃ res, PV q (.v (d + 1)) s res ∧ RVQ q dp w pp b res e w' := by
  have hat := hid h.cx.at_
  have hP := h.below (alb w (.cells #[.int .i64 0, .int .i64 0, .slice none 0 0, .slice none 0 0, .slice none 0 0] 47))
  have hZ := Z5.new w 47
  have hlow := h.low.1
  have hbl := bl_le s false
  have hpl : i + bl s false ≤ b.length := by have := hat.out; omega
  have hdp : b.drop (i + bl s false) = s.drop (bl s false) := by rw [← h.cx.drp, List.drop_drop]
  have T1 := hid hT
  clear hT h
  have b0 : decide ((d : Int) + 1 < 1) = false := decide_eq_false (by omega)
  have b1 : ¬ ((d : Int) < 0) := by omega
  generalize hpa : i + bl s false = pa at hpl hdp
  have HPA := hid hpa
  have HD := hid hdp
  clear hpa hdp hbl
  go_enter Tryz.func113, Tryz.ntmps113
  go_wp2_with (first | (go_at_call 68; (with_reducible refine (rtoken_q (TK_good _) hP.cx.fresh).mono ?_); rw [T1.out, HPA.out]; rintro e w3 ⟨u3, rfl, j3, hC3⟩; obtain ⟨ao3, cap3, rfl, -, -, -⟩ := Rd.own hC3.row; have hP := hP.step hC3; have hlo3 := hP.low.2; have hwy := hC3.size; have hZ := hZ.held hC3.held (by omega) (by omega); have hc1 := hP.cx.c1; have hf1 := hP.cx.f1; obtain ⟨rc, rf, rs⟩ := id hZ) | (go_at_call 142; refine (ha _ _ r (hP.below (alb _ _)).fresh).mono ?_; rintro e w9 ⟨res, hpv, hvq⟩; rcases res with ⟨x9, t9⟩ | ⟨o9, t9⟩; rotate_left; (obtain ⟨vs, rfl, hov, j9, hPs⟩ := hvq; have hP := (hP.below (alb _ _)).join hPs; have hZ := (hZ.up (alb _ _)).held hPs.cx.held (by omega) (by omega); obtain ⟨rc, rf, rs⟩ := id hZ; have hov2 := hov; obtain ⟨k9, n9, vb, vl, vd, b9, l9, d9, cl, cd, hb, hl, hl9, hd, hk9, hd9⟩ := hov; obtain ⟨⟨aob, capb, rfl, -, -, -, -⟩, -⟩ := id hb; obtain ⟨aol, capl, rfl, -⟩ := id hl; obtain ⟨aod, capd, rfl, -⟩ := id hd); rotate_left; (obtain ⟨rfl, j9, hPs⟩ := hvq; have hP := (hP.below (alb _ _)).join hPs; have hZ := (hZ.up (alb _ _)).held hPs.cx.held (by omega) (by omega); obtain ⟨rc, rf, rs⟩ := id hZ)))
  · obtain ⟨k0, k1, k2, k3, k4⟩ := set5_cells (a := .int .i64 0) (b := .int .i64 0) (c := .slice none 0 0) (d := .slice none 0 0) (e := .slice none 0 0) hZ.five
    have hh := fun B => set5_held w9 B w.heap.size (.int .i64 0) (.int .i64 0) (.slice none 0 0) (.slice none 0 0) (.slice none 0 0)
    have hP5 := hP.off (hh (w.heap.size)) (Nat.le_refl _) (Nat.le_refl _)
    exact bodyPost_ret (v := .tuple #[ob 0 0 (.slice none 0 0), .int .i64 x9]) (by simp [results, Tryz.results113, go_sem, k0, k1, k2, k3, k4]) rfl ⟨.bad x9 t9, PV.v_open T1.out hpv, rfl, _, hP5⟩
  · obtain ⟨k0, k1, k2, k3, k4⟩ := set5_cells (a := .int .i64 k9) (b := .int .i64 n9) (c := .slice aob b9.length capb) (d := .slice aol l9.length capl) (e := .slice aod d9.length capd) hZ.five
    have hh := fun B => set5_held w9 B w.heap.size (.int .i64 k9) (.int .i64 n9) (.slice aob b9.length capb) (.slice aol l9.length capl) (.slice aod d9.length capd)
    have hov := hov2.keep (A := fun g => (w3.alloc (.cells #[.int .i64 5, .int .i64 pa, .int .i64 n, .slice ao3 out.length cap3] 130)).heap.size ≤ g ∧ g < w9.heap.size) (B := fun g => w.heap.size ≤ g ∧ g < (set5 w9 w.heap.size (.int .i64 k9) (.int .i64 n9) (.slice aob b9.length capb) (.slice aol l9.length capl) (.slice aod d9.length capd)).heap.size) (fun g hg => ⟨by have := hg.1; simp at this; omega, Nat.lt_of_lt_of_le hg.2 (hh 0).size⟩) (fun g hg hlt => (hh w9.heap.size).block g hlt (by have := hg.1; simp at this; omega) (by have := hg.1; simp at this; omega))
    exact bodyPost_ret (v := .tuple #[.agg #[.int .i64 k9, .int .i64 n9, .slice aob b9.length capb, .slice aol l9.length capl, .slice aod d9.length capd], .int .i64 0]) (by simp [results, Tryz.results113, go_sem, k0, k1, k2, k3, k4]) rfl ⟨.ok _ t9, PV.v_open T1.out hpv, [.int .i64 k9, .int .i64 n9, .slice aob b9.length capb, .slice aol l9.length capl, .slice aod d9.length capd], rfl, hov, _, hP.off (hh w.heap.size) (Nat.le_refl _) (Nat.le_refl _)⟩

set_option maxHeartbeats 1600000 in
set_option maxRecDepth 100000 in
theorem rvalue_left (q : Bool) (dp : Nat) (w : World) (pp : Nat) (b s out r : List UInt8) (i d : Nat) (n : Int) (hd28 : d ≤ 28) (hT : TK s = .tok 7 n out r) (ha : RDictC q dp pp b d) (h : Pd q dp w w pp b i s) :
    Calls Tryz.prog 113 #[.pointer (some ⟨pp, 0, none⟩), .int .i64 ((d : Int) + 1)] w fun e w' => ∃ res, PV q (.v (d + 1)) s res ∧ RVQ q dp w pp b res e w' := by
  have hat := hid h.cx.at_
  have hP := h.below (alb w (.cells #[.int .i64 0, .int .i64 0, .slice none 0 0, .slice none 0 0, .slice none 0 0] 47))
  have hZ := Z5.new w 47
  have hlow := h.low.1
  have hbl := bl_le s false
  have hpl : i + bl s false ≤ b.length := by have := hat.out; omega
  have hdp : b.drop (i + bl s false) = s.drop (bl s false) := by rw [← h.cx.drp, List.drop_drop]
  have T1 := hid hT
  clear hT h
  have b0 : decide ((d : Int) + 1 < 1) = false := decide_eq_false (by omega)
  have b1 : ¬ ((d : Int) < 0) := by omega
  generalize hpa : i + bl s false = pa at hpl hdp
  have HPA := hid hpa
  have HD := hid hdp
  clear hpa hdp hbl
  go_enter Tryz.func113, Tryz.ntmps113
  go_wp2_with (first | (go_at_call 68; (with_reducible refine (rtoken_q (TK_good _) hP.cx.fresh).mono ?_); rw [T1.out, HPA.out]; rintro e w3 ⟨u3, rfl, j3, hC3⟩; obtain ⟨ao3, cap3, rfl, -, -, -⟩ := Rd.own hC3.row; have hP := hP.step hC3; have hlo3 := hP.low.2; have hwy := hC3.size; have hZ := hZ.held hC3.held (by omega) (by omega); have hc1 := hP.cx.c1; have hf1 := hP.cx.f1; obtain ⟨rc, rf, rs⟩ := id hZ) | (go_at_call 143; refine (ha _ _ r (hP.below (alb _ _)).fresh).mono ?_; rintro e w9 ⟨res, hpv, hvq⟩; rcases res with ⟨x9, t9⟩ | ⟨o9, t9⟩; rotate_left; (obtain ⟨vs, rfl, hov, j9, hPs⟩ := hvq; have hP := (hP.below (alb _ _)).join hPs; have hZ := (hZ.up (alb _ _)).held hPs.cx.held (by omega) (by omega); obtain ⟨rc, rf, rs⟩ := id hZ; have hov2 := hov; obtain ⟨k9, n9, vb, vl, vd, b9, l9, d9, cl, cd, hb, hl, hl9, hd, hk9, hd9⟩ := hov; obtain ⟨⟨aob, capb, rfl, -, -, -, -⟩, -⟩ := id hb; obtain ⟨aol, capl, rfl, -⟩ := id hl; obtain ⟨aod, capd, rfl, -⟩ := id hd); rotate_left; (obtain ⟨rfl, j9, hPs⟩ := hvq; have hP := (hP.below (alb _ _)).join hPs; have hZ := (hZ.up (alb _ _)).held hPs.cx.held (by omega) (by omega); obtain ⟨rc, rf, rs⟩ := id hZ)))
  · obtain ⟨k0, k1, k2, k3, k4⟩ := set5_cells (a := .int .i64 0) (b := .int .i64 0) (c := .slice none 0 0) (d := .slice none 0 0) (e := .slice none 0 0) hZ.five
    have hh := fun B => set5_held w9 B w.heap.size (.int .i64 0) (.int .i64 0) (.slice none 0 0) (.slice none 0 0) (.slice none 0 0)
    have hP5 := hP.off (hh (w.heap.size)) (Nat.le_refl _) (Nat.le_refl _)
    exact bodyPost_ret (v := .tuple #[ob 0 0 (.slice none 0 0), .int .i64 x9]) (by simp [results, Tryz.results113, go_sem, k0, k1, k2, k3, k4]) rfl ⟨.bad x9 t9, PV.v_left T1.out hpv, rfl, _, hP5⟩
  · obtain ⟨k0, k1, k2, k3, k4⟩ := set5_cells (a := .int .i64 k9) (b := .int .i64 n9) (c := .slice aob b9.length capb) (d := .slice aol l9.length capl) (e := .slice aod d9.length capd) hZ.five
    have hh := fun B => set5_held w9 B w.heap.size (.int .i64 k9) (.int .i64 n9) (.slice aob b9.length capb) (.slice aol l9.length capl) (.slice aod d9.length capd)
    have hov := hov2.keep (A := fun g => (w3.alloc (.cells #[.int .i64 7, .int .i64 pa, .int .i64 n, .slice ao3 out.length cap3] 130)).heap.size ≤ g ∧ g < w9.heap.size) (B := fun g => w.heap.size ≤ g ∧ g < (set5 w9 w.heap.size (.int .i64 k9) (.int .i64 n9) (.slice aob b9.length capb) (.slice aol l9.length capl) (.slice aod d9.length capd)).heap.size) (fun g hg => ⟨by have := hg.1; simp at this; omega, Nat.lt_of_lt_of_le hg.2 (hh 0).size⟩) (fun g hg hlt => (hh w9.heap.size).block g hlt (by have := hg.1; simp at this; omega) (by have := hg.1; simp at this; omega))
    exact bodyPost_ret (v := .tuple #[.agg #[.int .i64 k9, .int .i64 n9, .slice aob b9.length capb, .slice aol l9.length capl, .slice aod d9.length capd], .int .i64 0]) (by simp [results, Tryz.results113, go_sem, k0, k1, k2, k3, k4]) rfl ⟨.ok _ t9, PV.v_left T1.out hpv, [.int .i64 k9, .int .i64 n9, .slice aob b9.length capb, .slice aol l9.length capl, .slice aod d9.length capd], rfl, hov, _, hP.off (hh w.heap.size) (Nat.le_refl _) (Nat.le_refl _)⟩

theorem rvalue_of {q : Bool} {dp pp : Nat} {b : List UInt8} {d : Nat} (hd : d ≤ 28) (ha : ∀ d', d = d' + 1 → RArrayC q dp pp b d') (hm : ∀ d', d = d' + 1 → RDictC q dp pp b d') : RValueC q dp pp b d := by
  intro w i s h
  have hsl : s.length ≤ 4000000 := by have := h.cx.at_; have := h.cx.sm; omega
  cases hT : TK s with
  | bad x => exact (rvalue_bad q dp w pp b s i d x hT h).mono fun e w' hq => ⟨_, ⟨1, by rw [pF, hT]⟩, hq⟩
  | tok k n out r =>
    have hob : out.length ≤ 4000000 := Nat.le_trans (TK_ol hT) hsl
    by_cases h0 : k = 0
    · subst h0
      exact (rvalue_end q dp w pp b s out r i d n hT h).mono fun e w' hq => ⟨_, ⟨1, by rw [pF, hT]; simp⟩, hq⟩
    by_cases h1 : k = 1
    · subst h1
      rcases whole_shape q n r with hW | ⟨r9, hW⟩
      · exact (rvalue_wint q dp w pp b s out r r i d n hT hW h).mono fun e w' hq => ⟨_, ⟨1, by rw [pF, hT]; simp [hW]⟩, hq⟩
      · exact (rvalue_wref q dp w pp b s out r r9 i d n hT hW h).mono fun e w' hq => ⟨_, ⟨1, by rw [pF, hT]; simp [hW]⟩, hq⟩
    by_cases h2 : k = 2
    · subst h2
      exact (rvalue_real q dp w pp b s out r i d n hT h).mono fun e w' hq => ⟨_, ⟨1, by rw [pF, hT]; simp⟩, hq⟩
    by_cases h3 : k = 3
    · subst h3
      exact (rvalue_str q dp w pp b s out r i d n hT hob h).mono fun e w' hq => ⟨_, ⟨1, by rw [pF, hT]; simp⟩, hq⟩
    by_cases h4 : k = 4
    · subst h4
      exact (rvalue_name q dp w pp b s out r i d n hT hob h).mono fun e w' hq => ⟨_, ⟨1, by rw [pF, hT]; simp⟩, hq⟩
    by_cases h9 : k = 9
    · subst h9
      rcases wordO_cases out with ⟨rfl, hO⟩ | ⟨rfl, hO⟩ | ⟨rfl, hO⟩ | ⟨q1, q2, q3, hO⟩
      · exact (rvalue_true q dp w pp b s r i d n hT h).mono fun e w' hq => ⟨_, ⟨1, by rw [pF, hT]; simp [hO]⟩, hq⟩
      · exact (rvalue_false q dp w pp b s r i d n hT h).mono fun e w' hq => ⟨_, ⟨1, by rw [pF, hT]; simp [hO]⟩, hq⟩
      · exact (rvalue_null q dp w pp b s r i d n hT h).mono fun e w' hq => ⟨_, ⟨1, by rw [pF, hT]; simp [hO]⟩, hq⟩
      · exact (rvalue_noword q dp w pp b s out r i d n q1 q2 q3 hT h).mono fun e w' hq => ⟨_, ⟨1, by rw [pF, hT]; simp [hO]⟩, hq⟩
    by_cases h5 : k = 5
    · subst h5
      cases d with
      | zero => exact (rvalue_deep q dp w pp b s out r i 0 5 n rfl (.inl rfl) hT h).mono fun e w' hq => ⟨_, ⟨1, by rw [pF, hT]; simp⟩, hq⟩
      | succ d => exact rvalue_open q dp w pp b s out r i d n (by omega) hT (ha d rfl) h
    by_cases h7 : k = 7
    · subst h7
      cases d with
      | zero => exact (rvalue_deep q dp w pp b s out r i 0 7 n rfl (.inr rfl) hT h).mono fun e w' hq => ⟨_, ⟨1, by rw [pF, hT]; simp⟩, hq⟩
      | succ d => exact rvalue_left q dp w pp b s out r i d n (by omega) hT (hm d rfl) h
    exact (rvalue_form q dp w pp b s out r i d k n h0 h1 h2 h3 h4 h5 h7 h9 hT h).mono fun e w' hq => ⟨_, ⟨1, by rw [pF, hT]; simp [h0, h1, h2, h3, h4, h5, h7, h9]⟩, hq⟩
end Go.Proofs.YtlmgklebikcbjaaGreatDoor
