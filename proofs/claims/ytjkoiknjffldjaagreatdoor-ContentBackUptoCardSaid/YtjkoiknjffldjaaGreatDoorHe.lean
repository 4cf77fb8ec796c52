/-
  The program's array, by value's contract. Condition: the parser stands in its bytes; at most 28 deep.
-/
import Derived.Test.YtjkoiknjffldjaaGreatDoorJc
import Derived.Test.YtjkoiknjffldjaaGreatDoorHa
/-
  Plain: a token's bytes are no more than the bytes that are read. No program here.
-/
namespace Go.Proofs.YtjkoiknjffldjaaGreatDoor
set_option linter.unusedVariables false

/-- what is handed back is no longer than n -/
def Res.ol (n : Nat) : Res → Prop
  | .bad x => True
  | .ok out rest => out.length ≤ n
theorem Res.ol_up {r : Res} {n m : Nat} (h : r.ol n) (hm : n ≤ m) : r.ol m := by
  cases r with
  | bad x => exact h
  | ok out rest => exact Nat.le_trans h hm
theorem ol_ite {c : Prop} [Decidable c] {a b : Res} {n : Nat} (ha : a.ol n) (hb : b.ol n) : (if c then a else b).ol n := by split <;> assumption

theorem nm_ol : ∀ (k : Nat) (s out : List UInt8), s.length ≤ k → (nm s out).ol (out.length + s.length)
  | k, [], out, _ => Nat.le_refl _
  | 0, x :: s, out, h => by simp at h
  | k + 1, x :: s, out, h => by
    rw [List.length_cons] at h
    rw [nm_cons]
    refine ol_ite (ol_ite (ol_ite trivial (ol_ite trivial ?_)) (ol_ite trivial ?_)) (Nat.le_add_right _ _)
    · exact Res.ol_up (nm_ol k (s.drop 2) _ (by rw [List.length_drop]; omega)) (by rw [List.length_drop, List.length_append, List.length_cons, List.length_cons, List.length_nil]; omega)
    · exact Res.ol_up (nm_ol k s _ (by omega)) (by rw [List.length_append, List.length_cons, List.length_cons, List.length_nil]; omega)

theorem TX_ol : ∀ (k : Nat) (s : List UInt8) (o : Nat) (out : List UInt8), s.length ≤ k → (TX s o out).ol (out.length + s.length)
  | k, [], o, out, _ => trivial
  | 0, x :: s, o, out, h => by simp at h
  | k + 1, x :: s, o, out, h => by
    rw [List.length_cons] at h
    have h1 := sk_len s
    have h2 := es_len (hd s) s.tail
    rw [List.length_tail] at h2
    have ih := fun s' o' out' (hs : List.length s' ≤ s.length) (ho : List.length out' ≤ out.length + 1) => Res.ol_up (m := out.length + (x :: s).length) (TX_ol k s' o' out' (by omega)) (by rw [List.length_cons]; omega)
    rw [TX_cons]
    refine ol_ite (ol_ite trivial (ol_ite (ih _ _ _ (by omega) (by omega)) (ol_ite trivial (ih _ _ _ (by omega) (by simp))))) (ol_ite (Nat.le_add_right _ _) (ol_ite trivial (ol_ite (ih _ _ _ (Nat.le_refl _) (by simp)) (ol_ite (ih _ _ _ (by omega) (by simp)) (ih _ _ _ (Nat.le_refl _) (by simp))))))

theorem hx_ol : ∀ (s : List UInt8) (g : Int) (out : List UInt8), (hx s g out).ol (out.length + s.length)
  | [], g, out => trivial
  | x :: s, g, out => by
    have ih := fun g' out' (ho : List.length out' ≤ out.length + 1) => Res.ol_up (m := out.length + (x :: s).length) (hx_ol s g' out') (by rw [List.length_cons]; omega)
    rw [hx]
    refine ol_ite (ih _ _ (by omega)) (ol_ite (ol_ite (Nat.le_add_right _ _) (ol_ite trivial ?_)) (ol_ite trivial (ol_ite (ih _ _ (by omega)) (ol_ite trivial (ih _ _ (by simp))))))
    show (out ++ _).length ≤ _
    simp

/-- a token's bytes -/
def TRes.ol (n : Nat) : TRes → Prop
  | .bad x => True
  | .tok _ _ out _ => out.length ≤ n
theorem tol_ite {c : Prop} [Decidable c] {a b : TRes} {n : Nat} (ha : a.ol n) (hb : b.ol n) : (if c then a else b).ol n := by split <;> assumption
theorem wrp_ol {k : Int} {r : Res} {n : Nat} (h : r.ol n) : (wrp k r).ol n := by
  cases r with
  | bad x => trivial
  | ok out rest => exact h
theorem tk_ol (s : List UInt8) : (tk s).ol s.length := by
  cases s with
  | nil => exact Nat.le_refl _
  | cons x t =>
    have hn := nm_ol _ t [] (Nat.le_refl _)
    have ht := TX_ol _ t 1 [] (Nat.le_refl _)
    have hh := hx_ol t (-1) []
    have up : ∀ {r : Res}, r.ol (([] : List UInt8).length + t.length) → r.ol (x :: t).length := fun h => Res.ol_up h (by simp)
    rw [tk]
    refine tol_ite (Nat.zero_le _) (tol_ite (Nat.zero_le _) (tol_ite (Nat.zero_le _) (tol_ite (Nat.zero_le _) (tol_ite (wrp_ol (up hn)) (tol_ite (wrp_ol (up ht)) (tol_ite (wrp_ol (up hh)) (tol_ite ?_ (tol_ite (tol_ite trivial ?_) trivial))))))))
    · unfold numT; exact tol_ite (Nat.zero_le _) trivial
    · show (List.take _ _).length ≤ _
      rw [List.length_take]; omega
theorem TK_ol {s out r : List UInt8} {k n : Int} (h : TK s = .tok k n out r) : out.length ≤ s.length := by
  have h1 := tk_ol (s.drop (bl s false))
  unfold TK at h
  rw [h] at h1
  have h2 : out.length ≤ (s.drop (bl s false)).length := h1
  rw [List.length_drop] at h2
  omega
end Go.Proofs.YtjkoiknjffldjaaGreatDoor

/-
  The program's whole: a number, or the object that it names. Condition: the parser stands in its bytes.
-/
namespace Go.Proofs.YtjkoiknjffldjaaGreatDoor
open Go.RowKit
set_option linter.unusedVariables false

/-- block g is a new object's five cells -/
def Z5 (w : World) (g : Nat) : Prop := (∀ k, w.cell? ⟨g, k, none⟩ = (#[.int .i64 0, .int .i64 0, .slice none 0 0, .slice none 0 0, .slice none 0 0] : Array Value)[k]?) ∧ (∀ k, w.frozen? ⟨g, k, none⟩ = false) ∧ g < w.heap.size
theorem Z5.new (w : World) (e : TypeId) : Z5 (w.alloc (.cells #[.int .i64 0, .int .i64 0, .slice none 0 0, .slice none 0 0, .slice none 0 0] e)) w.heap.size := by
  refine ⟨fun k => by rw [World.cell?_alloc_at _ _ _ _ rfl], fun k => ?_, by simp⟩
  simp
theorem Z5.held {w w' : World} {g p r : Nat} (h : Z5 w g) (hb : Held w.heap.size p r w w') (h1 : g ≠ p) (h2 : g ≠ r) : Z5 w' g :=
  ⟨fun k => by rw [hb.cell (a := ⟨g, k, none⟩) h.2.2 h1 h2]; exact h.1 k, fun k => by rw [hb.frozen (a := ⟨g, k, none⟩) h.2.2 h1 h2]; exact h.2.1 k, Nat.lt_of_lt_of_le h.2.2 hb.size⟩
theorem Z5.up {w w' : World} {g : Nat} (h : Z5 w g) (hb : Below w.heap.size w w') : Z5 w' g :=
  ⟨fun k => by rw [hb.cell (p := ⟨g, k, none⟩) h.2.2]; exact h.1 k, fun k => by rw [hb.frozen (p := ⟨g, k, none⟩) h.2.2]; exact h.2.1 k, Nat.lt_of_lt_of_le h.2.2 hb.size⟩
theorem Z5.five {w : World} {g : Nat} (h : Z5 w g) : ∀ k, k < 5 → ∃ u, w.cell? ⟨g, k, none⟩ = some u := by
  intro k hk
  rw [h.1 k]
  obtain rfl | rfl | rfl | rfl | rfl : k = 0 ∨ k = 1 ∨ k = 2 ∨ k = 3 ∨ k = 4 := by omega
  all_goals exact ⟨_, rfl⟩

/-- what whole gives -/
def WholeQ (q : Bool) (w : World) (pp lp cp : Nat) (b : List UInt8) : PRes → Ending → World → Prop
  | .bad _ _, _, _ => False
  | .ok (.mk k n _ _ _) r, e, w' => e = .returned (ob k n (.slice none 0 0)) ∧ ∃ j, Ps q w w' pp lp cp b j r

set_option maxHeartbeats 1600000 in
set_option maxRecDepth 100000 in
theorem whole_no (w : World) (pp lp cp : Nat) (b s : List UInt8) (i : Nat) (n : Int) (q : Bool) (hn : ¬ (1 ≤ n ∧ n ≤ 8388607 ∧ q = false)) (h : Ps q w w pp lp cp b i s) :
    Calls Tryz.prog 92 #[.pointer (some ⟨pp, 0, none⟩), .int .i64 n] w fun e w' => WholeQ q w pp lp cp b (.ok (poInt n) s) e w' := by
  have hat := h.at_
  have hdr : b.drop i = s := by obtain ⟨m, v, hL⟩ := h.lx; exact hL.drp
  have hP := h.below (alb w (.cells #[.int .i64 0, .int .i64 0, .slice none 0 0, .slice none 0 0, .slice none 0 0] 34))
  have hZ := Z5.new w 34
  have hlo : lp < w.heap.size ∧ cp < w.heap.size := by
    obtain ⟨m, v, hL⟩ := h.lx
    obtain ⟨ao, cap, h1, h2⟩ := hL.lex
    exact ⟨h2.lp, h2.cp⟩
  have p0 := hP.p0
  have l0 := hP.l0
  have p2 := hP.p2
  have hA := hid hat
  have hD := hid hdr
  clear hat hdr
  rcases (by omega : n < 1 ∨ (1 ≤ n ∧ 8388607 < n) ∨ (1 ≤ n ∧ n ≤ 8388607)) with c | c | c
  · have t1 : decide (1 ≤ n) = false := decide_eq_false (by omega)
    clear hn c
    go_enter Tryz.func92, Tryz.ntmps92
    go_wp2_with (first | (go_at_call 38; obtain ⟨m0, v0, hL⟩ := hP.lx; refine (pos_l hL).mono ?_; rintro e w1 ⟨rfl, rfl⟩) | (go_at_call 42; obtain ⟨m0, v0, hL⟩ := hP.lx; refine (seek_l i _ rfl (by have := hA.out; omega) hL.fresh).mono ?_; rw [hD.out]; rintro e w2 ⟨rfl, hL2⟩; have hP := hP.step hL2; have hZ := hZ.held hL2.held (by omega) (by omega)) | (go_at_call 112; refine (int_any n _).mono ?_; rintro e w9 ⟨rfl, hb3⟩; have hP := hP.below hb3; have hZ := hZ.up hb3; obtain ⟨rc, rf, rs⟩ := id hZ))
    obtain ⟨k0, k1, k2, k3, k4⟩ := set5_cells (a := .int .i64 2) (b := .int .i64 n) (c := .slice none 0 0) (d := .slice none 0 0) (e := .slice none 0 0) hZ.five
    have hh := set5_held w9 w9.heap.size w.heap.size (.int .i64 2) (.int .i64 n) (.slice none 0 0) (.slice none 0 0) (.slice none 0 0)
    exact bodyPost_ret (v := ob 2 n (.slice none 0 0)) (by simp [results, Tryz.results92, go_sem, k0, k1, k2, k3, k4]) rfl ⟨rfl, _, hP.off hh (Nat.le_refl _)⟩
  · have t1 : decide (1 ≤ n) = true := decide_eq_true c.1
    have t2 : decide (n ≤ 8388607) = false := decide_eq_false (by omega)
    clear hn c
    go_enter Tryz.func92, Tryz.ntmps92
    go_wp2_with (first | (go_at_call 38; obtain ⟨m0, v0, hL⟩ := hP.lx; refine (pos_l hL).mono ?_; rintro e w1 ⟨rfl, rfl⟩) | (go_at_call 42; obtain ⟨m0, v0, hL⟩ := hP.lx; refine (seek_l i _ rfl (by have := hA.out; omega) hL.fresh).mono ?_; rw [hD.out]; rintro e w2 ⟨rfl, hL2⟩; have hP := hP.step hL2; have hZ := hZ.held hL2.held (by omega) (by omega)) | (go_at_call 112; refine (int_any n _).mono ?_; rintro e w9 ⟨rfl, hb3⟩; have hP := hP.below hb3; have hZ := hZ.up hb3; obtain ⟨rc, rf, rs⟩ := id hZ))
    obtain ⟨k0, k1, k2, k3, k4⟩ := set5_cells (a := .int .i64 2) (b := .int .i64 n) (c := .slice none 0 0) (d := .slice none 0 0) (e := .slice none 0 0) hZ.five
    have hh := set5_held w9 w9.heap.size w.heap.size (.int .i64 2) (.int .i64 n) (.slice none 0 0) (.slice none 0 0) (.slice none 0 0)
    exact bodyPost_ret (v := ob 2 n (.slice none 0 0)) (by simp [results, Tryz.results92, go_sem, k0, k1, k2, k3, k4]) rfl ⟨rfl, _, hP.off hh (Nat.le_refl _)⟩
  · obtain rfl : q = true := by cases q; exact absurd ⟨c.1, c.2, rfl⟩ hn; rfl
    have t1 : decide (1 ≤ n) = true := decide_eq_true c.1
    have t2 : decide (n ≤ 8388607) = true := decide_eq_true c.2
    clear hn c
    go_enter Tryz.func92, Tryz.ntmps92
    go_wp2_with (first | (go_at_call 38; obtain ⟨m0, v0, hL⟩ := hP.lx; refine (pos_l hL).mono ?_; rintro e w1 ⟨rfl, rfl⟩) | (go_at_call 42; obtain ⟨m0, v0, hL⟩ := hP.lx; refine (seek_l i _ rfl (by have := hA.out; omega) hL.fresh).mono ?_; rw [hD.out]; rintro e w2 ⟨rfl, hL2⟩; have hP := hP.step hL2; have hZ := hZ.held hL2.held (by omega) (by omega)) | (go_at_call 112; refine (int_any n _).mono ?_; rintro e w9 ⟨rfl, hb3⟩; have hP := hP.below hb3; have hZ := hZ.up hb3; obtain ⟨rc, rf, rs⟩ := id hZ))
    obtain ⟨k0, k1, k2, k3, k4⟩ := set5_cells (a := .int .i64 2) (b := .int .i64 n) (c := .slice none 0 0) (d := .slice none 0 0) (e := .slice none 0 0) hZ.five
    have hh := set5_held w9 w9.heap.size w.heap.size (.int .i64 2) (.int .i64 n) (.slice none 0 0) (.slice none 0 0) (.slice none 0 0)
    exact bodyPost_ret (v := ob 2 n (.slice none 0 0)) (by simp [results, Tryz.results92, go_sem, k0, k1, k2, k3, k4]) rfl ⟨rfl, _, hP.off hh (Nat.le_refl _)⟩

set_option maxHeartbeats 1600000 in
set_option maxRecDepth 100000 in
theorem whole_b1 (w : World) (pp lp cp : Nat) (b s : List UInt8) (i : Nat) (n x : Int) (q : Bool) (hq : q = false) (c1 : 1 ≤ n) (c2 : n ≤ 8388607) (hT : TK s = .bad x) (h : Ps q w w pp lp cp b i s) :
    Calls Tryz.prog 92 #[.pointer (some ⟨pp, 0, none⟩), .int .i64 n] w fun e w' => WholeQ q w pp lp cp b (.ok (poInt n) s) e w' := by
  have hat := h.at_
  have hdr : b.drop i = s := by obtain ⟨m, v, hL⟩ := h.lx; exact hL.drp
  have hP := h.below (alb w (.cells #[.int .i64 0, .int .i64 0, .slice none 0 0, .slice none 0 0, .slice none 0 0] 34))
  have hZ := Z5.new w 34
  have hlo : lp < w.heap.size ∧ cp < w.heap.size := by
    obtain ⟨m, v, hL⟩ := h.lx
    obtain ⟨ao, cap, h1, h2⟩ := hL.lex
    exact ⟨h2.lp, h2.cp⟩
  have p0 := hP.p0
  have l0 := hP.l0
  have p2 := hP.p2
  have hA := hid hat
  have hD := hid hdr
  clear hat hdr
  subst hq
  have t1 : decide (1 ≤ n) = true := decide_eq_true c1
  have t2 : decide (n ≤ 8388607) = true := decide_eq_true c2
  have hx := TK_good s
  rw [hT] at hx
  have bx := hx.1
  have T1 := hid hT
  clear hT hx
  go_enter Tryz.func92, Tryz.ntmps92
  go_wp2_with (first | (go_at_call 38; obtain ⟨m0, v0, hL⟩ := hP.lx; refine (pos_l hL).mono ?_; rintro e w1 ⟨rfl, rfl⟩) | (go_at_call 39; obtain ⟨m0, v0, hL⟩ := hP.lx; (with_reducible refine (token_q (TK_good _) hL.fresh).mono ?_); rw [T1.out]; rintro e w3 ⟨rfl, mx1, vx1, ux1, ox1, hL3⟩; have hG1 := True.intro; have hP := hP.step hL3; have hZ := hZ.held hL3.held (by omega) (by omega); have p0 := hP.p0; have l0 := hP.l0; have zp := World.block_lt_of_cell? _ _ p0; have zl := World.block_lt_of_cell? _ _ l0) | (go_at_call 42; obtain ⟨m0, v0, hL⟩ := hP.lx; refine (seek_l i _ rfl (by have := hA.out; omega) (hL.below (alb _ _)).fresh).mono ?_; rw [hD.out]; rintro e w2 ⟨rfl, hL2⟩; have hP := (hP.below (alb _ _)).step hL2; have hZ := (hZ.up (alb _ _)).held hL2.held (by omega) (by omega)) | (go_at_call 112; refine (int_any n _).mono ?_; rintro e w9 ⟨rfl, hb3⟩; have hP := hP.below hb3; have hZ := hZ.up hb3; obtain ⟨rc, rf, rs⟩ := id hZ))
  obtain ⟨k0, k1, k2, k3, k4⟩ := set5_cells (a := .int .i64 2) (b := .int .i64 n) (c := .slice none 0 0) (d := .slice none 0 0) (e := .slice none 0 0) hZ.five
  have hh := set5_held w9 w9.heap.size w.heap.size (.int .i64 2) (.int .i64 n) (.slice none 0 0) (.slice none 0 0) (.slice none 0 0)
  exact bodyPost_ret (v := ob 2 n (.slice none 0 0)) (by simp [results, Tryz.results92, go_sem, k0, k1, k2, k3, k4]) rfl ⟨rfl, _, hP.off hh (Nat.le_refl _)⟩

set_option maxHeartbeats 1600000 in
set_option maxRecDepth 100000 in
theorem whole_t1 (w : World) (pp lp cp : Nat) (b s out1 r1 : List UInt8) (i : Nat) (n k1 n1 : Int) (q : Bool) (hq : q = false) (c1 : 1 ≤ n) (c2 : n ≤ 8388607) (hT : TK s = .tok k1 n1 out1 r1) (hk : ¬ (k1 = 1 ∧ n1 = 0)) (h : Ps q w w pp lp cp b i s) :
    Calls Tryz.prog 92 #[.pointer (some ⟨pp, 0, none⟩), .int .i64 n] w fun e w' => WholeQ q w pp lp cp b (.ok (poInt n) s) e w' := by
  have hat := h.at_
  have hdr : b.drop i = s := by obtain ⟨m, v, hL⟩ := h.lx; exact hL.drp
  have hP := h.below (alb w (.cells #[.int .i64 0, .int .i64 0, .slice none 0 0, .slice none 0 0, .slice none 0 0] 34))
  have hZ := Z5.new w 34
  have hlo : lp < w.heap.size ∧ cp < w.heap.size := by
    obtain ⟨m, v, hL⟩ := h.lx
    obtain ⟨ao, cap, h1, h2⟩ := hL.lex
    exact ⟨h2.lp, h2.cp⟩
  have p0 := hP.p0
  have l0 := hP.l0
  have p2 := hP.p2
  have hA := hid hat
  have hD := hid hdr
  clear hat hdr
  subst hq
  have t1 : decide (1 ≤ n) = true := decide_eq_true c1
  have t2 : decide (n ≤ 8388607) = true := decide_eq_true c2
  have T1 := hid hT
  clear hT
  have hk : (k1 == 1) = false ∨ ((k1 == 1) = true ∧ (n1 == 0) = false) := by
    by_cases z : k1 = 1
    · exact .inr ⟨by simp [z], by simp; exact fun y => hk ⟨z, y⟩⟩
    · exact .inl (by simp [z])
  rcases hk with bk | ⟨bk, bn⟩
  · go_enter Tryz.func92, Tryz.ntmps92
    go_wp2_with (first | (go_at_call 38; obtain ⟨m0, v0, hL⟩ := hP.lx; refine (pos_l hL).mono ?_; rintro e w1 ⟨rfl, rfl⟩) | (go_at_call 39; obtain ⟨m0, v0, hL⟩ := hP.lx; (with_reducible refine (token_q (TK_good _) hL.fresh).mono ?_); rw [T1.out]; rintro e w3 ⟨uu1, rfl, jx1, mx1, vx1, hL3⟩; obtain ⟨aa1, cc1, rfl, -, -, -⟩ := Rd.own hL3.row; have hG1 := True.intro; have hP := hP.step hL3; have hZ := hZ.held hL3.held (by omega) (by omega); have p0 := hP.p0; have l0 := hP.l0; have zp := World.block_lt_of_cell? _ _ p0; have zl := World.block_lt_of_cell? _ _ l0) | (go_at_call 42; obtain ⟨m0, v0, hL⟩ := hP.lx; refine (seek_l i _ rfl (by have := hA.out; omega) (hL.below (alb _ _)).fresh).mono ?_; rw [hD.out]; rintro e w2 ⟨rfl, hL2⟩; have hP := (hP.below (alb _ _)).step hL2; have hZ := (hZ.up (alb _ _)).held hL2.held (by omega) (by omega)) | (go_at_call 112; refine (int_any n _).mono ?_; rintro e w9 ⟨rfl, hb3⟩; have hP := hP.below hb3; have hZ := hZ.up hb3; obtain ⟨rc, rf, rs⟩ := id hZ))
    obtain ⟨k0, k1, k2, k3, k4⟩ := set5_cells (a := .int .i64 2) (b := .int .i64 n) (c := .slice none 0 0) (d := .slice none 0 0) (e := .slice none 0 0) hZ.five
    have hh := set5_held w9 w9.heap.size w.heap.size (.int .i64 2) (.int .i64 n) (.slice none 0 0) (.slice none 0 0) (.slice none 0 0)
    exact bodyPost_ret (v := ob 2 n (.slice none 0 0)) (by simp [results, Tryz.results92, go_sem, k0, k1, k2, k3, k4]) rfl ⟨rfl, _, hP.off hh (Nat.le_refl _)⟩
  · go_enter Tryz.func92, Tryz.ntmps92
    go_wp2_with (first | (go_at_call 38; obtain ⟨m0, v0, hL⟩ := hP.lx; refine (pos_l hL).mono ?_; rintro e w1 ⟨rfl, rfl⟩) | (go_at_call 39; obtain ⟨m0, v0, hL⟩ := hP.lx; (with_reducible refine (token_q (TK_good _) hL.fresh).mono ?_); rw [T1.out]; rintro e w3 ⟨uu1, rfl, jx1, mx1, vx1, hL3⟩; obtain ⟨aa1, cc1, rfl, -, -, -⟩ := Rd.own hL3.row; have hG1 := True.intro; have hP := hP.step hL3; have hZ := hZ.held hL3.held (by omega) (by omega); have p0 := hP.p0; have l0 := hP.l0; have zp := World.block_lt_of_cell? _ _ p0; have zl := World.block_lt_of_cell? _ _ l0) | (go_at_call 42; obtain ⟨m0, v0, hL⟩ := hP.lx; refine (seek_l i _ rfl (by have := hA.out; omega) (hL.below (alb _ _)).fresh).mono ?_; rw [hD.out]; rintro e w2 ⟨rfl, hL2⟩; have hP := (hP.below (alb _ _)).step hL2; have hZ := (hZ.up (alb _ _)).held hL2.held (by omega) (by omega)) | (go_at_call 112; refine (int_any n _).mono ?_; rintro e w9 ⟨rfl, hb3⟩; have hP := hP.below hb3; have hZ := hZ.up hb3; obtain ⟨rc, rf, rs⟩ := id hZ))
    obtain ⟨k0, k1, k2, k3, k4⟩ := set5_cells (a := .int .i64 2) (b := .int .i64 n) (c := .slice none 0 0) (d := .slice none 0 0) (e := .slice none 0 0) hZ.five
    have hh := set5_held w9 w9.heap.size w.heap.size (.int .i64 2) (.int .i64 n) (.slice none 0 0) (.slice none 0 0) (.slice none 0 0)
    exact bodyPost_ret (v := ob 2 n (.slice none 0 0)) (by simp [results, Tryz.results92, go_sem, k0, k1, k2, k3, k4]) rfl ⟨rfl, _, hP.off hh (Nat.le_refl _)⟩

set_option maxHeartbeats 1600000 in
set_option maxRecDepth 100000 in
theorem whole_b2 (w : World) (pp lp cp : Nat) (b s out1 r1 : List UInt8) (i : Nat) (n x : Int) (q : Bool) (hq : q = false) (c1 : 1 ≤ n) (c2 : n ≤ 8388607) (hT : TK s = .tok 1 0 out1 r1) (hT2 : TK r1 = .bad x) (h : Ps q w w pp lp cp b i s) :
    Calls Tryz.prog 92 #[.pointer (some ⟨pp, 0, none⟩), .int .i64 n] w fun e w' => WholeQ q w pp lp cp b (.ok (poInt n) s) e w' := by
  have hat := h.at_
  have hdr : b.drop i = s := by obtain ⟨m, v, hL⟩ := h.lx; exact hL.drp
  have hP := h.below (alb w (.cells #[.int .i64 0, .int .i64 0, .slice none 0 0, .slice none 0 0, .slice none 0 0] 34))
  have hZ := Z5.new w 34
  have hlo : lp < w.heap.size ∧ cp < w.heap.size := by
    obtain ⟨m, v, hL⟩ := h.lx
    obtain ⟨ao, cap, h1, h2⟩ := hL.lex
    exact ⟨h2.lp, h2.cp⟩
  have p0 := hP.p0
  have l0 := hP.l0
  have p2 := hP.p2
  have hA := hid hat
  have hD := hid hdr
  clear hat hdr
  subst hq
  have t1 : decide (1 ≤ n) = true := decide_eq_true c1
  have t2 : decide (n ≤ 8388607) = true := decide_eq_true c2
  have hx := TK_good r1
  rw [hT2] at hx
  have bx := hx.1
  have T1 := hid hT
  have T2 := hid hT2
  clear hT hT2 hx
  go_enter Tryz.func92, Tryz.ntmps92
  go_wp2_with (first | (go_at_call 38; obtain ⟨m0, v0, hL⟩ := hP.lx; refine (pos_l hL).mono ?_; rintro e w1 ⟨rfl, rfl⟩) | (go_at_call 39; have hG0 := hG1; obtain ⟨m0, v0, hL⟩ := hP.lx; (with_reducible refine (token_q (TK_good _) (hL.below (alb _ _)).fresh).mono ?_); rw [T2.out]; rintro e w4 ⟨rfl, mx2, vx2, ux2, ox2, hL4⟩; have hP := (hP.below (alb _ _)).step hL4; have hZ := (hZ.up (alb _ _)).held hL4.held (by omega) (by omega); have p0 := hP.p0; have l0 := hP.l0; have zp := World.block_lt_of_cell? _ _ p0; have zl := World.block_lt_of_cell? _ _ l0) | (go_at_call 39; obtain ⟨m0, v0, hL⟩ := hP.lx; (with_reducible refine (token_q (TK_good _) hL.fresh).mono ?_); rw [T1.out]; rintro e w3 ⟨uu1, rfl, jx1, mx1, vx1, hL3⟩; obtain ⟨aa1, cc1, rfl, -, -, -⟩ := Rd.own hL3.row; have hG1 := True.intro; have hP := hP.step hL3; have hZ := hZ.held hL3.held (by omega) (by omega); have p0 := hP.p0; have l0 := hP.l0; have zp := World.block_lt_of_cell? _ _ p0; have zl := World.block_lt_of_cell? _ _ l0) | (go_at_call 42; obtain ⟨m0, v0, hL⟩ := hP.lx; refine (seek_l i _ rfl (by have := hA.out; omega) (hL.below (alb _ _)).fresh).mono ?_; rw [hD.out]; rintro e w2 ⟨rfl, hL2⟩; have hP := (hP.below (alb _ _)).step hL2; have hZ := (hZ.up (alb _ _)).held hL2.held (by omega) (by omega)) | (go_at_call 112; refine (int_any n _).mono ?_; rintro e w9 ⟨rfl, hb3⟩; have hP := hP.below hb3; have hZ := hZ.up hb3; obtain ⟨rc, rf, rs⟩ := id hZ))
  obtain ⟨k0, k1, k2, k3, k4⟩ := set5_cells (a := .int .i64 2) (b := .int .i64 n) (c := .slice none 0 0) (d := .slice none 0 0) (e := .slice none 0 0) hZ.five
  have hh := set5_held w9 w9.heap.size w.heap.size (.int .i64 2) (.int .i64 n) (.slice none 0 0) (.slice none 0 0) (.slice none 0 0)
  exact bodyPost_ret (v := ob 2 n (.slice none 0 0)) (by simp [results, Tryz.results92, go_sem, k0, k1, k2, k3, k4]) rfl ⟨rfl, _, hP.off hh (Nat.le_refl _)⟩

set_option maxHeartbeats 1600000 in
set_option maxRecDepth 100000 in
theorem whole_t2 (w : World) (pp lp cp : Nat) (b s out1 r1 out2 r2 : List UInt8) (i : Nat) (n k2 n2 : Int) (q : Bool) (hq : q = false) (c1 : 1 ≤ n) (c2 : n ≤ 8388607) (hT : TK s = .tok 1 0 out1 r1) (hT2 : TK r1 = .tok k2 n2 out2 r2) (hk : ¬ (k2 = 9 ∧ out2 = [82])) (h : Ps q w w pp lp cp b i s) :
    Calls Tryz.prog 92 #[.pointer (some ⟨pp, 0, none⟩), .int .i64 n] w fun e w' => WholeQ q w pp lp cp b (.ok (poInt n) s) e w' := by
  have hat := h.at_
  have hdr : b.drop i = s := by obtain ⟨m, v, hL⟩ := h.lx; exact hL.drp
  have hP := h.below (alb w (.cells #[.int .i64 0, .int .i64 0, .slice none 0 0, .slice none 0 0, .slice none 0 0] 34))
  have hZ := Z5.new w 34
  have hlo : lp < w.heap.size ∧ cp < w.heap.size := by
    obtain ⟨m, v, hL⟩ := h.lx
    obtain ⟨ao, cap, h1, h2⟩ := hL.lex
    exact ⟨h2.lp, h2.cp⟩
  have p0 := hP.p0
  have l0 := hP.l0
  have p2 := hP.p2
  have hA := hid hat
  have hD := hid hdr
  clear hat hdr
  subst hq
  have t1 : decide (1 ≤ n) = true := decide_eq_true c1
  have t2 : decide (n ≤ 8388607) = true := decide_eq_true c2
  have T1 := hid hT
  have T2 := hid hT2
  clear hT hT2
  have hst := st_toList out2
  have hk : (k2 == 9) = false ∨ ((k2 == 9) = true ∧ (out2 == [82]) = false) := by
    by_cases z : k2 = 9
    · exact .inr ⟨by simp [z], beq_eq_false_iff_ne.2 (fun y => hk ⟨z, y⟩)⟩
    · exact .inl (by simp [z])
  rcases hk with bk | ⟨bk, bn⟩
  · go_enter Tryz.func92, Tryz.ntmps92
    go_wp2_with (first | (go_at_call 38; obtain ⟨m0, v0, hL⟩ := hP.lx; refine (pos_l hL).mono ?_; rintro e w1 ⟨rfl, rfl⟩) | (go_at_call 39; have hG0 := hG1; obtain ⟨m0, v0, hL⟩ := hP.lx; (with_reducible refine (token_q (TK_good _) (hL.below (alb _ _)).fresh).mono ?_); rw [T2.out]; rintro e w4 ⟨uu2, rfl, jx2, mx2, vx2, hL4⟩; obtain ⟨aa2, cc2, rfl, -, -, -⟩ := Rd.own hL4.row; have hP := (hP.below (alb _ _)).step hL4; have hZ := (hZ.up (alb _ _)).held hL4.held (by omega) (by omega); have p0 := hP.p0; have l0 := hP.l0; have zp := World.block_lt_of_cell? _ _ p0; have zl := World.block_lt_of_cell? _ _ l0; have hS := Sl.own hL4.row; have hcv : ∀ o : Obj, (convert 24 9 (.slice aa2 out2.length cc2)).run Tryz.prog (w4.alloc o) = .ok (.string (st out2)) (w4.alloc o) := fun o => sl_string (P := Tryz.prog) (w4.alloc o) 24 9 5 Tryz.underlying24 (by kernel_rfl) (by kernel_rfl) _ _ (hS.up (alb _ _))) | (go_at_call 39; obtain ⟨m0, v0, hL⟩ := hP.lx; (with_reducible refine (token_q (TK_good _) hL.fresh).mono ?_); rw [T1.out]; rintro e w3 ⟨uu1, rfl, jx1, mx1, vx1, hL3⟩; obtain ⟨aa1, cc1, rfl, -, -, -⟩ := Rd.own hL3.row; have hG1 := True.intro; have hP := hP.step hL3; have hZ := hZ.held hL3.held (by omega) (by omega); have p0 := hP.p0; have l0 := hP.l0; have zp := World.block_lt_of_cell? _ _ p0; have zl := World.block_lt_of_cell? _ _ l0) | (go_at_call 42; obtain ⟨m0, v0, hL⟩ := hP.lx; refine (seek_l i _ rfl (by have := hA.out; omega) (hL.below (alb _ _)).fresh).mono ?_; rw [hD.out]; rintro e w2 ⟨rfl, hL2⟩; have hP := (hP.below (alb _ _)).step hL2; have hZ := (hZ.up (alb _ _)).held hL2.held (by omega) (by omega)) | (go_at_call 112; refine (int_any n _).mono ?_; rintro e w9 ⟨rfl, hb3⟩; have hP := hP.below hb3; have hZ := hZ.up hb3; obtain ⟨rc, rf, rs⟩ := id hZ))
    obtain ⟨k0, k1, k2, k3, k4⟩ := set5_cells (a := .int .i64 2) (b := .int .i64 n) (c := .slice none 0 0) (d := .slice none 0 0) (e := .slice none 0 0) hZ.five
    have hh := set5_held w9 w9.heap.size w.heap.size (.int .i64 2) (.int .i64 n) (.slice none 0 0) (.slice none 0 0) (.slice none 0 0)
    exact bodyPost_ret (v := ob 2 n (.slice none 0 0)) (by simp [results, Tryz.results92, go_sem, k0, k1, k2, k3, k4]) rfl ⟨rfl, _, hP.off hh (Nat.le_refl _)⟩
  · go_enter Tryz.func92, Tryz.ntmps92
    go_wp2_with (first | (go_at_call 38; obtain ⟨m0, v0, hL⟩ := hP.lx; refine (pos_l hL).mono ?_; rintro e w1 ⟨rfl, rfl⟩) | (go_at_call 39; have hG0 := hG1; obtain ⟨m0, v0, hL⟩ := hP.lx; (with_reducible refine (token_q (TK_good _) (hL.below (alb _ _)).fresh).mono ?_); rw [T2.out]; rintro e w4 ⟨uu2, rfl, jx2, mx2, vx2, hL4⟩; obtain ⟨aa2, cc2, rfl, -, -, -⟩ := Rd.own hL4.row; have hP := (hP.below (alb _ _)).step hL4; have hZ := (hZ.up (alb _ _)).held hL4.held (by omega) (by omega); have p0 := hP.p0; have l0 := hP.l0; have zp := World.block_lt_of_cell? _ _ p0; have zl := World.block_lt_of_cell? _ _ l0; have hS := Sl.own hL4.row; have hcv : ∀ o : Obj, (convert 24 9 (.slice aa2 out2.length cc2)).run Tryz.prog (w4.alloc o) = .ok (.string (st out2)) (w4.alloc o) := fun o => sl_string (P := Tryz.prog) (w4.alloc o) 24 9 5 Tryz.underlying24 (by kernel_rfl) (by kernel_rfl) _ _ (hS.up (alb _ _))) | (go_at_call 39; obtain ⟨m0, v0, hL⟩ := hP.lx; (with_reducible refine (token_q (TK_good _) hL.fresh).mono ?_); rw [T1.out]; rintro e w3 ⟨uu1, rfl, jx1, mx1, vx1, hL3⟩; obtain ⟨aa1, cc1, rfl, -, -, -⟩ := Rd.own hL3.row; have hG1 := True.intro; have hP := hP.step hL3; have hZ := hZ.held hL3.held (by omega) (by omega); have p0 := hP.p0; have l0 := hP.l0; have zp := World.block_lt_of_cell? _ _ p0; have zl := World.block_lt_of_cell? _ _ l0) | (go_at_call 42; obtain ⟨m0, v0, hL⟩ := hP.lx; refine (seek_l i _ rfl (by have := hA.out; omega) (hL.below (alb _ _)).fresh).mono ?_; rw [hD.out]; rintro e w2 ⟨rfl, hL2⟩; have hP := (hP.below (alb _ _)).step hL2; have hZ := (hZ.up (alb _ _)).held hL2.held (by omega) (by omega)) | (go_at_call 112; refine (int_any n _).mono ?_; rintro e w9 ⟨rfl, hb3⟩; have hP := hP.below hb3; have hZ := hZ.up hb3; obtain ⟨rc, rf, rs⟩ := id hZ))
    obtain ⟨k0, k1, k2, k3, k4⟩ := set5_cells (a := .int .i64 2) (b := .int .i64 n) (c := .slice none 0 0) (d := .slice none 0 0) (e := .slice none 0 0) hZ.five
    have hh := set5_held w9 w9.heap.size w.heap.size (.int .i64 2) (.int .i64 n) (.slice none 0 0) (.slice none 0 0) (.slice none 0 0)
    exact bodyPost_ret (v := ob 2 n (.slice none 0 0)) (by simp [results, Tryz.results92, go_sem, k0, k1, k2, k3, k4]) rfl ⟨rfl, _, hP.off hh (Nat.le_refl _)⟩

set_option maxHeartbeats 1600000 in
set_option maxRecDepth 100000 in
theorem whole_ref (w : World) (pp lp cp : Nat) (b s out1 r1 r2 : List UInt8) (i : Nat) (n n2 : Int) (q : Bool) (hq : q = false) (c1 : 1 ≤ n) (c2 : n ≤ 8388607) (hT : TK s = .tok 1 0 out1 r1) (hT2 : TK r1 = .tok 9 n2 [82] r2) (h : Ps q w w pp lp cp b i s) :
    Calls Tryz.prog 92 #[.pointer (some ⟨pp, 0, none⟩), .int .i64 n] w fun e w' => WholeQ q w pp lp cp b (.ok (poRef n) r2) e w' := by
  have hat := h.at_
  have hdr : b.drop i = s := by obtain ⟨m, v, hL⟩ := h.lx; exact hL.drp
  have hP := h.below (alb w (.cells #[.int .i64 0, .int .i64 0, .slice none 0 0, .slice none 0 0, .slice none 0 0] 34))
  have hZ := Z5.new w 34
  have hlo : lp < w.heap.size ∧ cp < w.heap.size := by
    obtain ⟨m, v, hL⟩ := h.lx
    obtain ⟨ao, cap, h1, h2⟩ := hL.lex
    exact ⟨h2.lp, h2.cp⟩
  have p0 := hP.p0
  have l0 := hP.l0
  have p2 := hP.p2
  have hA := hid hat
  have hD := hid hdr
  clear hat hdr
  subst hq
  have t1 : decide (1 ≤ n) = true := decide_eq_true c1
  have t2 : decide (n ≤ 8388607) = true := decide_eq_true c2
  have T1 := hid hT
  have T2 := hid hT2
  clear hT hT2
  have hst := st_toList [82]
  go_enter Tryz.func92, Tryz.ntmps92
  go_wp2_with (first | (go_at_call 38; obtain ⟨m0, v0, hL⟩ := hP.lx; refine (pos_l hL).mono ?_; rintro e w1 ⟨rfl, rfl⟩) | (go_at_call 39; have hG0 := hG1; obtain ⟨m0, v0, hL⟩ := hP.lx; (with_reducible refine (token_q (TK_good _) (hL.below (alb _ _)).fresh).mono ?_); rw [T2.out]; rintro e w4 ⟨uu2, rfl, jx2, mx2, vx2, hL4⟩; obtain ⟨aa2, cc2, rfl, -, -, -⟩ := Rd.own hL4.row; have hP := (hP.below (alb _ _)).step hL4; have hZ := (hZ.up (alb _ _)).held hL4.held (by omega) (by omega); have p0 := hP.p0; have l0 := hP.l0; have zp := World.block_lt_of_cell? _ _ p0; have zl := World.block_lt_of_cell? _ _ l0; have hS := Sl.own hL4.row; have hcv : ∀ o : Obj, (convert 24 9 (.slice aa2 1 cc2)).run Tryz.prog (w4.alloc o) = .ok (.string (st [82])) (w4.alloc o) := fun o => sl_string (P := Tryz.prog) (w4.alloc o) 24 9 5 Tryz.underlying24 (by kernel_rfl) (by kernel_rfl) _ _ (hS.up (alb _ _))) | (go_at_call 39; obtain ⟨m0, v0, hL⟩ := hP.lx; (with_reducible refine (token_q (TK_good _) hL.fresh).mono ?_); rw [T1.out]; rintro e w3 ⟨uu1, rfl, jx1, mx1, vx1, hL3⟩; obtain ⟨aa1, cc1, rfl, -, -, -⟩ := Rd.own hL3.row; have hG1 := True.intro; have hP := hP.step hL3; have hZ := hZ.held hL3.held (by omega) (by omega); have p0 := hP.p0; have l0 := hP.l0; have zp := World.block_lt_of_cell? _ _ p0; have zl := World.block_lt_of_cell? _ _ l0) | (go_at_call 111; refine (ref_any n _).mono ?_; rintro e w9 ⟨rfl, hb3⟩; have hP := (hP.below (alb _ _)).below hb3; have hZ := (hZ.up (alb _ _)).up hb3; obtain ⟨rc, rf, rs⟩ := id hZ))
  obtain ⟨k0, k1, k2, k3, k4⟩ := set5_cells (a := .int .i64 9) (b := .int .i64 n) (c := .slice none 0 0) (d := .slice none 0 0) (e := .slice none 0 0) hZ.five
  have hh := set5_held w9 w9.heap.size w.heap.size (.int .i64 9) (.int .i64 n) (.slice none 0 0) (.slice none 0 0) (.slice none 0 0)
  exact bodyPost_ret (v := ob 9 n (.slice none 0 0)) (by simp [results, Tryz.results92, go_sem, k0, k1, k2, k3, k4]) rfl ⟨rfl, _, hP.off hh (Nat.le_refl _)⟩

theorem whole_any (w : World) (pp lp cp : Nat) (b s : List UInt8) (i : Nat) (n : Int) (q : Bool) (h : Ps q w w pp lp cp b i s) :
    Calls Tryz.prog 92 #[.pointer (some ⟨pp, 0, none⟩), .int .i64 n] w fun e w' => WholeQ q w pp lp cp b (whole q n s) e w' := by
  by_cases hn : 1 ≤ n ∧ n ≤ 8388607 ∧ q = false
  · obtain ⟨c1, c2, c3⟩ := id hn
    cases hT : TK s with
    | bad x =>
      have e1 : whole q n s = .ok (poInt n) s := by unfold whole; rw [if_pos hn, hT]
      rw [e1]
      exact whole_b1 w pp lp cp b s i n x q c3 c1 c2 hT h
    | tok k1 n1 out1 r1 =>
      by_cases hk : k1 = 1 ∧ n1 = 0
      · obtain ⟨rfl, rfl⟩ := hk
        cases hT2 : TK r1 with
        | bad x =>
          have e1 : whole q n s = .ok (poInt n) s := by unfold whole; rw [if_pos hn, hT]; show (match TK r1 with | .tok 9 _ out r2 => if out = [82] then PRes.ok (poRef n) r2 else .ok (poInt n) s | _ => .ok (poInt n) s) = _; rw [hT2]
          rw [e1]
          exact whole_b2 w pp lp cp b s out1 r1 i n x q c3 c1 c2 hT hT2 h
        | tok k2 n2 out2 r2 =>
          by_cases hk2 : k2 = 9
          · subst hk2
            have e0 : whole q n s = if out2 = [82] then PRes.ok (poRef n) r2 else .ok (poInt n) s := by unfold whole; rw [if_pos hn, hT]; show (match TK r1 with | .tok 9 _ out r2 => if out = [82] then PRes.ok (poRef n) r2 else .ok (poInt n) s | _ => .ok (poInt n) s) = _; rw [hT2]; rfl
            rw [e0]
            by_cases ho : out2 = [82]
            · subst ho
              rw [if_pos rfl]
              exact whole_ref w pp lp cp b s out1 r1 r2 i n n2 q c3 c1 c2 hT hT2 h
            · rw [if_neg ho]
              exact whole_t2 w pp lp cp b s out1 r1 out2 r2 i n 9 n2 q c3 c1 c2 hT hT2 (fun z => ho z.2) h
          · have e1 : whole q n s = .ok (poInt n) s := by
              unfold whole; rw [if_pos hn, hT]
              show (match TK r1 with | .tok 9 _ out r2 => if out = [82] then PRes.ok (poRef n) r2 else .ok (poInt n) s | _ => .ok (poInt n) s) = _
              rw [hT2]
              split
              · rename_i heq; injection heq with z _ _ _; exact absurd z hk2
              · rfl
            rw [e1]
            exact whole_t2 w pp lp cp b s out1 r1 out2 r2 i n k2 n2 q c3 c1 c2 hT hT2 (fun z => hk2 z.1) h
      · have e1 : whole q n s = .ok (poInt n) s := by
          unfold whole; rw [if_pos hn, hT]
          split
          · rename_i heq; injection heq with z1 z2 _ _; exact absurd ⟨z1, z2⟩ hk
          · rfl
        rw [e1]
        exact whole_t1 w pp lp cp b s out1 r1 i n k1 n1 q c3 c1 c2 hT hk h
  · have e1 : whole q n s = .ok (poInt n) s := by unfold whole; rw [if_neg hn]
    rw [e1]
    exact whole_no w pp lp cp b s i n q hn h
end Go.Proofs.YtjkoiknjffldjaaGreatDoor

/-
  The program's value, whatever stands there but arrays and dictionaries. Condition: the parser stands in its bytes.
-/
namespace Go.Proofs.YtjkoiknjffldjaaGreatDoor
open Go.RowKit
set_option linter.unusedVariables false

/-- what a reader gives -/
def VQ (q : Bool) (w : World) (pp lp cp : Nat) (b : List UInt8) : PRes → Ending → World → Prop
  | .bad x t, e, w' => e = .returned (.tuple #[ob 0 0 (.slice none 0 0), .int .i64 x]) ∧ ∃ j, Ps q w w' pp lp cp b j t
  | .ok o r, e, w' => ∃ vs : List Value, e = .returned (.tuple #[.agg vs.toArray, .int .i64 0]) ∧ OV (fun g => w.heap.size ≤ g ∧ g < w'.heap.size) w' vs o ∧ ∃ j, Ps q w w' pp lp cp b j r
theorem whole_shape (q : Bool) (n : Int) (s : List UInt8) : whole q n s = .ok (poInt n) s ∨ ∃ r, whole q n s = .ok (poRef n) r := by
  unfold whole
  split
  · split
    · split
      · split
        · exact .inr ⟨_, rfl⟩
        · exact .inl rfl
      · exact .inl rfl
    · exact .inl rfl
  · exact .inl rfl
theorem Ps.drp {q : Bool} {w0 w : World} {pp lp cp : Nat} {b s : List UInt8} {i : Nat} (h : Ps q w0 w pp lp cp b i s) : b.drop i = s := by
  obtain ⟨m, v, hL⟩ := h.lx; exact hL.drp

set_option maxHeartbeats 1600000 in
set_option maxRecDepth 100000 in
theorem value_bad (q : Bool) (w : World) (pp lp cp : Nat) (b s : List UInt8) (i d : Nat) (x : Int) (hT : TK s = .bad x) (h : Ps q w w pp lp cp b i s) :
    Calls Tryz.prog 66 #[.pointer (some ⟨pp, 0, none⟩), .int .i64 (d : Int)] w fun e w' => VQ q w pp lp cp b (.bad x (s.drop (bl s false))) e w' := by
  have hat := hid h.at_
  have hP := h.below (alb w (.cells #[.int .i64 0, .int .i64 0, .slice none 0 0, .slice none 0 0, .slice none 0 0] 34))
  have hZ := Z5.new w 34
  have hlo : lp < w.heap.size ∧ cp < w.heap.size := by
    obtain ⟨m, v, hL⟩ := h.lx
    obtain ⟨ao, cap, h1, h2⟩ := hL.lex
    exact ⟨h2.lp, h2.cp⟩
  have p0 := hP.p0
  have l0 := hP.l0
  have hbl := bl_le s false
  have hpl : i + bl s false ≤ b.length := by have := hat.out; omega
  have hdp : b.drop (i + bl s false) = s.drop (bl s false) := by rw [← h.drp, List.drop_drop]
  have T1 := hid hT
  clear hT
  have hx := TK_good s
  rw [T1.out] at hx
  have bx := hx.1
  clear hx
  generalize hpa : i + bl s false = pa at hpl hdp
  have HPA := hid hpa
  have HD := hid hdp
  clear hpa hdp hbl
  go_enter Tryz.func66, Tryz.ntmps66
  go_wp2_with (first | (go_at_call 39; obtain ⟨m0, v0, hL⟩ := hP.lx; (with_reducible refine (token_q (TK_good _) hL.fresh).mono ?_); rw [T1.out, HPA.out]; rintro e w3 ⟨rfl, m3, v3, u3, o3, hL3⟩; have hP := hP.step hL3; have hZ := hZ.held hL3.held (by omega) (by omega); have p0 := hP.p0; have l0 := hP.l0; have zp := World.block_lt_of_cell? _ _ p0; have zl := World.block_lt_of_cell? _ _ l0; obtain ⟨rc, rf, rs⟩ := id hZ))
  obtain ⟨k0, k1, k2, k3, k4⟩ := set5_cells (a := .int .i64 0) (b := .int .i64 0) (c := .slice none 0 0) (d := .slice none 0 0) (e := .slice none 0 0) hZ.five
  have hh := set5_held w3 w3.heap.size w.heap.size (.int .i64 0) (.int .i64 0) (.slice none 0 0) (.slice none 0 0) (.slice none 0 0)
  have hP5 := hP.off hh (Nat.le_refl _)
  rw [HD.out] at hP5
  have k0 := cell_up' (alb _ (.cells #[.int .i64 0, .int .i64 pa, .int .i64 0, .slice none 0 0] 85)) k0
  have k1 := cell_up' (alb _ (.cells #[.int .i64 0, .int .i64 pa, .int .i64 0, .slice none 0 0] 85)) k1
  have k2 := cell_up' (alb _ (.cells #[.int .i64 0, .int .i64 pa, .int .i64 0, .slice none 0 0] 85)) k2
  have k3 := cell_up' (alb _ (.cells #[.int .i64 0, .int .i64 pa, .int .i64 0, .slice none 0 0] 85)) k3
  have k4 := cell_up' (alb _ (.cells #[.int .i64 0, .int .i64 pa, .int .i64 0, .slice none 0 0] 85)) k4
  exact bodyPost_ret (v := .tuple #[ob 0 0 (.slice none 0 0), .int .i64 x]) (by simp [results, Tryz.results66, go_sem, k0, k1, k2, k3, k4]) rfl ⟨rfl, _, hP5.below (alb _ _)⟩

set_option maxHeartbeats 1600000 in
set_option maxRecDepth 100000 in
theorem value_end (q : Bool) (w : World) (pp lp cp : Nat) (b s out r : List UInt8) (i d : Nat) (n : Int) (hT : TK s = .tok 0 n out r) (h : Ps q w w pp lp cp b i s) :
    Calls Tryz.prog 66 #[.pointer (some ⟨pp, 0, none⟩), .int .i64 (d : Int)] w fun e w' => VQ q w pp lp cp b (.bad 2 (s.drop (bl s false))) e w' := by
  have hat := hid h.at_
  have hP := h.below (alb w (.cells #[.int .i64 0, .int .i64 0, .slice none 0 0, .slice none 0 0, .slice none 0 0] 34))
  have hZ := Z5.new w 34
  have hlo : lp < w.heap.size ∧ cp < w.heap.size := by
    obtain ⟨m, v, hL⟩ := h.lx
    obtain ⟨ao, cap, h1, h2⟩ := hL.lex
    exact ⟨h2.lp, h2.cp⟩
  have p0 := hP.p0
  have l0 := hP.l0
  have hbl := bl_le s false
  have hpl : i + bl s false ≤ b.length := by have := hat.out; omega
  have hdp : b.drop (i + bl s false) = s.drop (bl s false) := by rw [← h.drp, List.drop_drop]
  have T1 := hid hT
  clear hT
  generalize hpa : i + bl s false = pa at hpl hdp
  have HPA := hid hpa
  have HD := hid hdp
  clear hpa hdp hbl
  go_enter Tryz.func66, Tryz.ntmps66
  go_wp2_with (first | (go_at_call 39; obtain ⟨m0, v0, hL⟩ := hP.lx; (with_reducible refine (token_q (TK_good _) hL.fresh).mono ?_); rw [T1.out, HPA.out]; rintro e w3 ⟨u3, rfl, j3, m3, v3, hL3⟩; obtain ⟨ao3, cap3, rfl, -, -, -⟩ := Rd.own hL3.row; have hP := hP.step hL3; have hZ := hZ.held hL3.held (by omega) (by omega); have p0 := hP.p0; have l0 := hP.l0; have zp := World.block_lt_of_cell? _ _ p0; have zl := World.block_lt_of_cell? _ _ l0; obtain ⟨rc, rf, rs⟩ := id hZ) | (go_at_call 91; refine (stop_any (hP.below (alb _ _)).fresh pa _ rfl hpl 2).mono ?_; rw [HD.out]; rintro e w9 ⟨rfl, hPs⟩; have hP := (hP.below (alb _ _)).join hPs; have hZ := (hZ.up (alb _ _)).held hPs.held (by omega) (by omega); obtain ⟨rc, rf, rs⟩ := id hZ))
  obtain ⟨k0, k1, k2, k3, k4⟩ := set5_cells (a := .int .i64 0) (b := .int .i64 0) (c := .slice none 0 0) (d := .slice none 0 0) (e := .slice none 0 0) hZ.five
  have hh := set5_held w9 w9.heap.size w.heap.size (.int .i64 0) (.int .i64 0) (.slice none 0 0) (.slice none 0 0) (.slice none 0 0)
  exact bodyPost_ret (v := .tuple #[ob 0 0 (.slice none 0 0), .int .i64 2]) (by simp [results, Tryz.results66, go_sem, k0, k1, k2, k3, k4]) rfl ⟨rfl, _, hP.off hh (Nat.le_refl _)⟩

set_option maxHeartbeats 1600000 in
set_option maxRecDepth 100000 in
theorem value_deep (q : Bool) (w : World) (pp lp cp : Nat) (b s out r : List UInt8) (i d : Nat) (k n : Int) (hd : d = 0) (hk : k = 5 ∨ k = 7) (hT : TK s = .tok k n out r) (h : Ps q w w pp lp cp b i s) :
    Calls Tryz.prog 66 #[.pointer (some ⟨pp, 0, none⟩), .int .i64 (d : Int)] w fun e w' => VQ q w pp lp cp b (.bad 6 (s.drop (bl s false))) e w' := by
  have hat := hid h.at_
  have hP := h.below (alb w (.cells #[.int .i64 0, .int .i64 0, .slice none 0 0, .slice none 0 0, .slice none 0 0] 34))
  have hZ := Z5.new w 34
  have hlo : lp < w.heap.size ∧ cp < w.heap.size := by
    obtain ⟨m, v, hL⟩ := h.lx
    obtain ⟨ao, cap, h1, h2⟩ := hL.lex
    exact ⟨h2.lp, h2.cp⟩
  have p0 := hP.p0
  have l0 := hP.l0
  have hbl := bl_le s false
  have hpl : i + bl s false ≤ b.length := by have := hat.out; omega
  have hdp : b.drop (i + bl s false) = s.drop (bl s false) := by rw [← h.drp, List.drop_drop]
  have T1 := hid hT
  clear hT
  subst hd
  generalize hpa : i + bl s false = pa at hpl hdp
  have HPA := hid hpa
  have HD := hid hdp
  clear hpa hdp hbl
  go_enter Tryz.func66, Tryz.ntmps66
  rcases hk with rfl | rfl
  · go_wp2_with (first | (go_at_call 39; obtain ⟨m0, v0, hL⟩ := hP.lx; (with_reducible refine (token_q (TK_good _) hL.fresh).mono ?_); rw [T1.out, HPA.out]; rintro e w3 ⟨u3, rfl, j3, m3, v3, hL3⟩; obtain ⟨ao3, cap3, rfl, -, -, -⟩ := Rd.own hL3.row; have hP := hP.step hL3; have hZ := hZ.held hL3.held (by omega) (by omega); have p0 := hP.p0; have l0 := hP.l0; have zp := World.block_lt_of_cell? _ _ p0; have zl := World.block_lt_of_cell? _ _ l0; obtain ⟨rc, rf, rs⟩ := id hZ) | (go_at_call 91; refine (stop_any (hP.below (alb _ _)).fresh pa _ rfl hpl 6).mono ?_; rw [HD.out]; rintro e w9 ⟨rfl, hPs⟩; have hP := (hP.below (alb _ _)).join hPs; have hZ := (hZ.up (alb _ _)).held hPs.held (by omega) (by omega); obtain ⟨rc, rf, rs⟩ := id hZ))
    obtain ⟨k0, k1, k2, k3, k4⟩ := set5_cells (a := .int .i64 0) (b := .int .i64 0) (c := .slice none 0 0) (d := .slice none 0 0) (e := .slice none 0 0) hZ.five
    have hh := set5_held w9 w9.heap.size w.heap.size (.int .i64 0) (.int .i64 0) (.slice none 0 0) (.slice none 0 0) (.slice none 0 0)
    exact bodyPost_ret (v := .tuple #[ob 0 0 (.slice none 0 0), .int .i64 6]) (by simp [results, Tryz.results66, go_sem, k0, k1, k2, k3, k4]) rfl ⟨rfl, _, hP.off hh (Nat.le_refl _)⟩
  · go_wp2_with (first | (go_at_call 39; obtain ⟨m0, v0, hL⟩ := hP.lx; (with_reducible refine (token_q (TK_good _) hL.fresh).mono ?_); rw [T1.out, HPA.out]; rintro e w3 ⟨u3, rfl, j3, m3, v3, hL3⟩; obtain ⟨ao3, cap3, rfl, -, -, -⟩ := Rd.own hL3.row; have hP := hP.step hL3; have hZ := hZ.held hL3.held (by omega) (by omega); have p0 := hP.p0; have l0 := hP.l0; have zp := World.block_lt_of_cell? _ _ p0; have zl := World.block_lt_of_cell? _ _ l0; obtain ⟨rc, rf, rs⟩ := id hZ) | (go_at_call 91; refine (stop_any (hP.below (alb _ _)).fresh pa _ rfl hpl 6).mono ?_; rw [HD.out]; rintro e w9 ⟨rfl, hPs⟩; have hP := (hP.below (alb _ _)).join hPs; have hZ := (hZ.up (alb _ _)).held hPs.held (by omega) (by omega); obtain ⟨rc, rf, rs⟩ := id hZ))
    obtain ⟨k0, k1, k2, k3, k4⟩ := set5_cells (a := .int .i64 0) (b := .int .i64 0) (c := .slice none 0 0) (d := .slice none 0 0) (e := .slice none 0 0) hZ.five
    have hh := set5_held w9 w9.heap.size w.heap.size (.int .i64 0) (.int .i64 0) (.slice none 0 0) (.slice none 0 0) (.slice none 0 0)
    exact bodyPost_ret (v := .tuple #[ob 0 0 (.slice none 0 0), .int .i64 6]) (by simp [results, Tryz.results66, go_sem, k0, k1, k2, k3, k4]) rfl ⟨rfl, _, hP.off hh (Nat.le_refl _)⟩

set_option maxHeartbeats 1600000 in
set_option maxRecDepth 100000 in
theorem value_form (q : Bool) (w : World) (pp lp cp : Nat) (b s out r : List UInt8) (i d : Nat) (k n : Int) (h0 : ¬ k = 0) (h1 : ¬ k = 1) (h2 : ¬ k = 2) (h3 : ¬ k = 3) (h4 : ¬ k = 4) (h5 : ¬ k = 5) (h7 : ¬ k = 7) (h9 : ¬ k = 9) (hT : TK s = .tok k n out r) (h : Ps q w w pp lp cp b i s) :
    Calls Tryz.prog 66 #[.pointer (some ⟨pp, 0, none⟩), .int .i64 (d : Int)] w fun e w' => VQ q w pp lp cp b (.bad 4 (s.drop (bl s false))) e w' := by
  have hat := hid h.at_
  have hP := h.below (alb w (.cells #[.int .i64 0, .int .i64 0, .slice none 0 0, .slice none 0 0, .slice none 0 0] 34))
  have hZ := Z5.new w 34
  have hlo : lp < w.heap.size ∧ cp < w.heap.size := by
    obtain ⟨m, v, hL⟩ := h.lx
    obtain ⟨ao, cap, h1, h2⟩ := hL.lex
    exact ⟨h2.lp, h2.cp⟩
  have p0 := hP.p0
  have l0 := hP.l0
  have hbl := bl_le s false
  have hpl : i + bl s false ≤ b.length := by have := hat.out; omega
  have hdp : b.drop (i + bl s false) = s.drop (bl s false) := by rw [← h.drp, List.drop_drop]
  have T1 := hid hT
  clear hT
  have b0 : (k == 0) = false := by simp [h0]
  have b1 : (k == 1) = false := by simp [h1]
  have b2 : (k == 2) = false := by simp [h2]
  have b3 : (k == 3) = false := by simp [h3]
  have b4 : (k == 4) = false := by simp [h4]
  have b5 : (k == 5) = false := by simp [h5]
  have b7 : (k == 7) = false := by simp [h7]
  have b9 : (k == 9) = false := by simp [h9]
  clear h0 h1 h2 h3 h4 h5 h7 h9
  generalize hpa : i + bl s false = pa at hpl hdp
  have HPA := hid hpa
  have HD := hid hdp
  clear hpa hdp hbl
  go_enter Tryz.func66, Tryz.ntmps66
  go_wp2_with (first | (go_at_call 39; obtain ⟨m0, v0, hL⟩ := hP.lx; (with_reducible refine (token_q (TK_good _) hL.fresh).mono ?_); rw [T1.out, HPA.out]; rintro e w3 ⟨u3, rfl, j3, m3, v3, hL3⟩; obtain ⟨ao3, cap3, rfl, -, -, -⟩ := Rd.own hL3.row; have hP := hP.step hL3; have hZ := hZ.held hL3.held (by omega) (by omega); have p0 := hP.p0; have l0 := hP.l0; have zp := World.block_lt_of_cell? _ _ p0; have zl := World.block_lt_of_cell? _ _ l0; obtain ⟨rc, rf, rs⟩ := id hZ) | (go_at_call 91; refine (stop_any (hP.below (alb _ _)).fresh pa _ rfl hpl 4).mono ?_; rw [HD.out]; rintro e w9 ⟨rfl, hPs⟩; have hP := (hP.below (alb _ _)).join hPs; have hZ := (hZ.up (alb _ _)).held hPs.held (by omega) (by omega); obtain ⟨rc, rf, rs⟩ := id hZ))
  obtain ⟨k0, k1, k2, k3, k4⟩ := set5_cells (a := .int .i64 0) (b := .int .i64 0) (c := .slice none 0 0) (d := .slice none 0 0) (e := .slice none 0 0) hZ.five
  have hh := set5_held w9 w9.heap.size w.heap.size (.int .i64 0) (.int .i64 0) (.slice none 0 0) (.slice none 0 0) (.slice none 0 0)
  exact bodyPost_ret (v := .tuple #[ob 0 0 (.slice none 0 0), .int .i64 4]) (by simp [results, Tryz.results66, go_sem, k0, k1, k2, k3, k4]) rfl ⟨rfl, _, hP.off hh (Nat.le_refl _)⟩

set_option maxHeartbeats 1600000 in
set_option maxRecDepth 100000 in
theorem value_real (q : Bool) (w : World) (pp lp cp : Nat) (b s out r : List UInt8) (i d : Nat) (n : Int) (hT : TK s = .tok 2 n out r) (h : Ps q w w pp lp cp b i s) :
    Calls Tryz.prog 66 #[.pointer (some ⟨pp, 0, none⟩), .int .i64 (d : Int)] w fun e w' => VQ q w pp lp cp b (.ok (poReal n) r) e w' := by
  have hat := hid h.at_
  have hP := h.below (alb w (.cells #[.int .i64 0, .int .i64 0, .slice none 0 0, .slice none 0 0, .slice none 0 0] 34))
  have hZ := Z5.new w 34
  have hlo : lp < w.heap.size ∧ cp < w.heap.size := by
    obtain ⟨m, v, hL⟩ := h.lx
    obtain ⟨ao, cap, h1, h2⟩ := hL.lex
    exact ⟨h2.lp, h2.cp⟩
  have p0 := hP.p0
  have l0 := hP.l0
  have hbl := bl_le s false
  have hpl : i + bl s false ≤ b.length := by have := hat.out; omega
  have hdp : b.drop (i + bl s false) = s.drop (bl s false) := by rw [← h.drp, List.drop_drop]
  have T1 := hid hT
  clear hT
  generalize hpa : i + bl s false = pa at hpl hdp
  have HPA := hid hpa
  have HD := hid hdp
  clear hpa hdp hbl
  go_enter Tryz.func66, Tryz.ntmps66
  go_wp2_with (first | (go_at_call 39; obtain ⟨m0, v0, hL⟩ := hP.lx; (with_reducible refine (token_q (TK_good _) hL.fresh).mono ?_); rw [T1.out, HPA.out]; rintro e w3 ⟨u3, rfl, j3, m3, v3, hL3⟩; obtain ⟨ao3, cap3, rfl, -, -, -⟩ := Rd.own hL3.row; have hP := hP.step hL3; have hZ := hZ.held hL3.held (by omega) (by omega); have p0 := hP.p0; have l0 := hP.l0; have zp := World.block_lt_of_cell? _ _ p0; have zl := World.block_lt_of_cell? _ _ l0; obtain ⟨rc, rf, rs⟩ := id hZ) | (go_at_call 93; refine (real_any n _).mono ?_; rintro e w9 ⟨rfl, hb9⟩; have hP := (hP.below (alb _ _)).below hb9; have hZ := (hZ.up (alb _ _)).up hb9; obtain ⟨rc, rf, rs⟩ := id hZ))
  obtain ⟨k0, k1, k2, k3, k4⟩ := set5_cells (a := .int .i64 3) (b := .int .i64 n) (c := .slice none 0 0) (d := .slice none 0 0) (e := .slice none 0 0) hZ.five
  have hh := set5_held w9 w9.heap.size w.heap.size (.int .i64 3) (.int .i64 n) (.slice none 0 0) (.slice none 0 0) (.slice none 0 0)
  exact bodyPost_ret (v := .tuple #[ob 3 n (.slice none 0 0), .int .i64 0]) (by simp [results, Tryz.results66, go_sem, k0, k1, k2, k3, k4]) rfl ⟨_, rfl, OV.num 3 n, _, hP.off hh (Nat.le_refl _)⟩

set_option maxHeartbeats 1600000 in
set_option maxRecDepth 100000 in
theorem value_wint (q : Bool) (w : World) (pp lp cp : Nat) (b s out r r9 : List UInt8) (i d : Nat) (n : Int) (hT : TK s = .tok 1 n out r) (hW : whole q n r = .ok (poInt n) r9) (h : Ps q w w pp lp cp b i s) :
    Calls Tryz.prog 66 #[.pointer (some ⟨pp, 0, none⟩), .int .i64 (d : Int)] w fun e w' => VQ q w pp lp cp b (.ok (poInt n) r9) e w' := by
  have hat := hid h.at_
  have hP := h.below (alb w (.cells #[.int .i64 0, .int .i64 0, .slice none 0 0, .slice none 0 0, .slice none 0 0] 34))
  have hZ := Z5.new w 34
  have hlo : lp < w.heap.size ∧ cp < w.heap.size := by
    obtain ⟨m, v, hL⟩ := h.lx
    obtain ⟨ao, cap, h1, h2⟩ := hL.lex
    exact ⟨h2.lp, h2.cp⟩
  have p0 := hP.p0
  have l0 := hP.l0
  have hbl := bl_le s false
  have hpl : i + bl s false ≤ b.length := by have := hat.out; omega
  have hdp : b.drop (i + bl s false) = s.drop (bl s false) := by rw [← h.drp, List.drop_drop]
  have T1 := hid hT
  clear hT
  have HW := hid hW
  clear hW
  generalize hpa : i + bl s false = pa at hpl hdp
  have HPA := hid hpa
  have HD := hid hdp
  clear hpa hdp hbl
  go_enter Tryz.func66, Tryz.ntmps66
  go_wp2_with (first | (go_at_call 39; obtain ⟨m0, v0, hL⟩ := hP.lx; (with_reducible refine (token_q (TK_good _) hL.fresh).mono ?_); rw [T1.out, HPA.out]; rintro e w3 ⟨u3, rfl, j3, m3, v3, hL3⟩; obtain ⟨ao3, cap3, rfl, -, -, -⟩ := Rd.own hL3.row; have hP := hP.step hL3; have hZ := hZ.held hL3.held (by omega) (by omega); have p0 := hP.p0; have l0 := hP.l0; have zp := World.block_lt_of_cell? _ _ p0; have zl := World.block_lt_of_cell? _ _ l0; obtain ⟨rc, rf, rs⟩ := id hZ) | (go_at_call 92; refine (whole_any _ pp lp cp b r _ n q (hP.below (alb _ _)).fresh).mono ?_; rw [HW.out]; rintro e w9 ⟨rfl, j9, hPs⟩; have hP := (hP.below (alb _ _)).join hPs; have hZ := (hZ.up (alb _ _)).held hPs.held (by omega) (by omega); obtain ⟨rc, rf, rs⟩ := id hZ))
  obtain ⟨k0, k1, k2, k3, k4⟩ := set5_cells (a := .int .i64 2) (b := .int .i64 n) (c := .slice none 0 0) (d := .slice none 0 0) (e := .slice none 0 0) hZ.five
  have hh := set5_held w9 w9.heap.size w.heap.size (.int .i64 2) (.int .i64 n) (.slice none 0 0) (.slice none 0 0) (.slice none 0 0)
  exact bodyPost_ret (v := .tuple #[ob 2 n (.slice none 0 0), .int .i64 0]) (by simp [results, Tryz.results66, go_sem, k0, k1, k2, k3, k4]) rfl ⟨_, rfl, OV.num 2 n, _, hP.off hh (Nat.le_refl _)⟩

set_option maxHeartbeats 1600000 in
set_option maxRecDepth 100000 in
theorem value_wref (q : Bool) (w : World) (pp lp cp : Nat) (b s out r r9 : List UInt8) (i d : Nat) (n : Int) (hT : TK s = .tok 1 n out r) (hW : whole q n r = .ok (poRef n) r9) (h : Ps q w w pp lp cp b i s) :
    Calls Tryz.prog 66 #[.pointer (some ⟨pp, 0, none⟩), .int .i64 (d : Int)] w fun e w' => VQ q w pp lp cp b (.ok (poRef n) r9) e w' := by
  have hat := hid h.at_
  have hP := h.below (alb w (.cells #[.int .i64 0, .int .i64 0, .slice none 0 0, .slice none 0 0, .slice none 0 0] 34))
  have hZ := Z5.new w 34
  have hlo : lp < w.heap.size ∧ cp < w.heap.size := by
    obtain ⟨m, v, hL⟩ := h.lx
    obtain ⟨ao, cap, h1, h2⟩ := hL.lex
    exact ⟨h2.lp, h2.cp⟩
  have p0 := hP.p0
  have l0 := hP.l0
  have hbl := bl_le s false
  have hpl : i + bl s false ≤ b.length := by have := hat.out; omega
  have hdp : b.drop (i + bl s false) = s.drop (bl s false) := by rw [← h.drp, List.drop_drop]
  have T1 := hid hT
  clear hT
  have HW := hid hW
  clear hW
  generalize hpa : i + bl s false = pa at hpl hdp
  have HPA := hid hpa
  have HD := hid hdp
  clear hpa hdp hbl
  go_enter Tryz.func66, Tryz.ntmps66
  go_wp2_with (first | (go_at_call 39; obtain ⟨m0, v0, hL⟩ := hP.lx; (with_reducible refine (token_q (TK_good _) hL.fresh).mono ?_); rw [T1.out, HPA.out]; rintro e w3 ⟨u3, rfl, j3, m3, v3, hL3⟩; obtain ⟨ao3, cap3, rfl, -, -, -⟩ := Rd.own hL3.row; have hP := hP.step hL3; have hZ := hZ.held hL3.held (by omega) (by omega); have p0 := hP.p0; have l0 := hP.l0; have zp := World.block_lt_of_cell? _ _ p0; have zl := World.block_lt_of_cell? _ _ l0; obtain ⟨rc, rf, rs⟩ := id hZ) | (go_at_call 92; refine (whole_any _ pp lp cp b r _ n q (hP.below (alb _ _)).fresh).mono ?_; rw [HW.out]; rintro e w9 ⟨rfl, j9, hPs⟩; have hP := (hP.below (alb _ _)).join hPs; have hZ := (hZ.up (alb _ _)).held hPs.held (by omega) (by omega); obtain ⟨rc, rf, rs⟩ := id hZ))
  obtain ⟨k0, k1, k2, k3, k4⟩ := set5_cells (a := .int .i64 9) (b := .int .i64 n) (c := .slice none 0 0) (d := .slice none 0 0) (e := .slice none 0 0) hZ.five
  have hh := set5_held w9 w9.heap.size w.heap.size (.int .i64 9) (.int .i64 n) (.slice none 0 0) (.slice none 0 0) (.slice none 0 0)
  exact bodyPost_ret (v := .tuple #[ob 9 n (.slice none 0 0), .int .i64 0]) (by simp [results, Tryz.results66, go_sem, k0, k1, k2, k3, k4]) rfl ⟨_, rfl, OV.num 9 n, _, hP.off hh (Nat.le_refl _)⟩

set_option maxHeartbeats 1600000 in
set_option maxRecDepth 100000 in
theorem value_str (q : Bool) (w : World) (pp lp cp : Nat) (b s out r : List UInt8) (i d : Nat) (n : Int) (hT : TK s = .tok 3 n out r) (hob : out.length ≤ 4000000) (h : Ps q w w pp lp cp b i s) :
    Calls Tryz.prog 66 #[.pointer (some ⟨pp, 0, none⟩), .int .i64 (d : Int)] w fun e w' => VQ q w pp lp cp b (.ok (poStr out) r) e w' := by
  have hat := hid h.at_
  have hP := h.below (alb w (.cells #[.int .i64 0, .int .i64 0, .slice none 0 0, .slice none 0 0, .slice none 0 0] 34))
  have hZ := Z5.new w 34
  have hlo : lp < w.heap.size ∧ cp < w.heap.size := by
    obtain ⟨m, v, hL⟩ := h.lx
    obtain ⟨ao, cap, h1, h2⟩ := hL.lex
    exact ⟨h2.lp, h2.cp⟩
  have p0 := hP.p0
  have l0 := hP.l0
  have hbl := bl_le s false
  have hpl : i + bl s false ≤ b.length := by have := hat.out; omega
  have hdp : b.drop (i + bl s false) = s.drop (bl s false) := by rw [← h.drp, List.drop_drop]
  have T1 := hid hT
  clear hT
  generalize hpa : i + bl s false = pa at hpl hdp
  have HPA := hid hpa
  have HD := hid hdp
  clear hpa hdp hbl
  go_enter Tryz.func66, Tryz.ntmps66
  go_wp2_with (first | (go_at_call 39; obtain ⟨m0, v0, hL⟩ := hP.lx; (with_reducible refine (token_q (TK_good _) hL.fresh).mono ?_); rw [T1.out, HPA.out]; rintro e w3 ⟨u3, rfl, j3, m3, v3, hL3⟩; obtain ⟨ao3, cap3, rfl, -, -, -⟩ := Rd.own hL3.row; have hP := hP.step hL3; have hZ := hZ.held hL3.held (by omega) (by omega); have p0 := hP.p0; have l0 := hP.l0; have zp := World.block_lt_of_cell? _ _ p0; have zl := World.block_lt_of_cell? _ _ l0; obtain ⟨rc, rf, rs⟩ := id hZ) | (go_at_call 94; refine (str_any _ out _ ((Sl.own hL3.row).up (alb _ _)) hob).mono ?_; rintro e w9 ⟨v9, rfl, hv, hb9⟩; have hwx := hb9.size; have hwy := hL3.size; obtain ⟨⟨ao9, cap9, rfl, d1, d2, d3, d4⟩, hA9⟩ := id hv; have hP := (hP.below (alb _ _)).below hb9; have hZ := (hZ.up (alb _ _)).up hb9; obtain ⟨rc, rf, rs⟩ := id hZ))
  obtain ⟨k0, k1, k2, k3, k4⟩ := set5_cells (a := .int .i64 4) (b := .int .i64 0) (c := .slice ao9 out.length cap9) (d := .slice none 0 0) (e := .slice none 0 0) hZ.five
  have hh := set5_held w9 w9.heap.size w.heap.size (.int .i64 4) (.int .i64 0) (.slice ao9 out.length cap9) (.slice none 0 0) (.slice none 0 0)
  have hov := (OV.flat 4 0 _ out hv hob).keep (A := fun g => (w3.alloc (.cells #[.int .i64 3, .int .i64 pa, .int .i64 n, .slice ao3 out.length cap3] 85)).heap.size ≤ g ∧ g < w9.heap.size) (B := fun g => w.heap.size ≤ g ∧ g < (set5 w9 w.heap.size (.int .i64 4) (.int .i64 0) (.slice ao9 out.length cap9) (.slice none 0 0) (.slice none 0 0)).heap.size) (fun g hg => ⟨by have := hg.1; simp at this; omega, Nat.lt_of_lt_of_le hg.2 hh.size⟩) (fun g hg hlt => hh.block g hlt (by have := hg.1; simp at this; omega) (by have := hg.1; simp at this; omega))
  exact bodyPost_ret (v := .tuple #[ob 4 0 (.slice ao9 out.length cap9), .int .i64 0]) (by simp [results, Tryz.results66, go_sem, k0, k1, k2, k3, k4]) rfl ⟨_, rfl, hov, _, hP.off hh (Nat.le_refl _)⟩

set_option maxHeartbeats 1600000 in
set_option maxRecDepth 100000 in
theorem value_name (q : Bool) (w : World) (pp lp cp : Nat) (b s out r : List UInt8) (i d : Nat) (n : Int) (hT : TK s = .tok 4 n out r) (hob : out.length ≤ 4000000) (h : Ps q w w pp lp cp b i s) :
    Calls Tryz.prog 66 #[.pointer (some ⟨pp, 0, none⟩), .int .i64 (d : Int)] w fun e w' => VQ q w pp lp cp b (.ok (poName out) r) e w' := by
  have hat := hid h.at_
  have hP := h.below (alb w (.cells #[.int .i64 0, .int .i64 0, .slice none 0 0, .slice none 0 0, .slice none 0 0] 34))
  have hZ := Z5.new w 34
  have hlo : lp < w.heap.size ∧ cp < w.heap.size := by
    obtain ⟨m, v, hL⟩ := h.lx
    obtain ⟨ao, cap, h1, h2⟩ := hL.lex
    exact ⟨h2.lp, h2.cp⟩
  have p0 := hP.p0
  have l0 := hP.l0
  have hbl := bl_le s false
  have hpl : i + bl s false ≤ b.length := by have := hat.out; omega
  have hdp : b.drop (i + bl s false) = s.drop (bl s false) := by rw [← h.drp, List.drop_drop]
  have T1 := hid hT
  clear hT
  generalize hpa : i + bl s false = pa at hpl hdp
  have HPA := hid hpa
  have HD := hid hdp
  clear hpa hdp hbl
  go_enter Tryz.func66, Tryz.ntmps66
  go_wp2_with (first | (go_at_call 39; obtain ⟨m0, v0, hL⟩ := hP.lx; (with_reducible refine (token_q (TK_good _) hL.fresh).mono ?_); rw [T1.out, HPA.out]; rintro e w3 ⟨u3, rfl, j3, m3, v3, hL3⟩; obtain ⟨ao3, cap3, rfl, -, -, -⟩ := Rd.own hL3.row; have hP := hP.step hL3; have hZ := hZ.held hL3.held (by omega) (by omega); have p0 := hP.p0; have l0 := hP.l0; have zp := World.block_lt_of_cell? _ _ p0; have zl := World.block_lt_of_cell? _ _ l0; obtain ⟨rc, rf, rs⟩ := id hZ; have hS3 := Sl.own hL3.row; have hcv : ∀ o : Obj, (convert 24 9 (.slice ao3 out.length cap3)).run Tryz.prog (w3.alloc o) = .ok (.string (st out)) (w3.alloc o) := fun o => sl_string (P := Tryz.prog) (w3.alloc o) 24 9 5 Tryz.underlying24 (by kernel_rfl) (by kernel_rfl) _ _ (hS3.up (alb _ _))) | (go_at_call 95; refine (name_o out _ hob).mono ?_; rintro e w9 ⟨v9, rfl, hv, hb9⟩; have hwx := hb9.size; have hwy := hL3.size; obtain ⟨⟨ao9, cap9, rfl, d1, d2, d3, d4⟩, hA9⟩ := id hv; have hP := (hP.below (alb _ _)).below hb9; have hZ := (hZ.up (alb _ _)).up hb9; obtain ⟨rc, rf, rs⟩ := id hZ))
  obtain ⟨k0, k1, k2, k3, k4⟩ := set5_cells (a := .int .i64 5) (b := .int .i64 0) (c := .slice ao9 out.length cap9) (d := .slice none 0 0) (e := .slice none 0 0) hZ.five
  have hh := set5_held w9 w9.heap.size w.heap.size (.int .i64 5) (.int .i64 0) (.slice ao9 out.length cap9) (.slice none 0 0) (.slice none 0 0)
  have hov := (OV.flat 5 0 _ out hv hob).keep (A := fun g => (w3.alloc (.cells #[.int .i64 4, .int .i64 pa, .int .i64 n, .slice ao3 out.length cap3] 85)).heap.size ≤ g ∧ g < w9.heap.size) (B := fun g => w.heap.size ≤ g ∧ g < (set5 w9 w.heap.size (.int .i64 5) (.int .i64 0) (.slice ao9 out.length cap9) (.slice none 0 0) (.slice none 0 0)).heap.size) (fun g hg => ⟨by have := hg.1; simp at this; omega, Nat.lt_of_lt_of_le hg.2 hh.size⟩) (fun g hg hlt => hh.block g hlt (by have := hg.1; simp at this; omega) (by have := hg.1; simp at this; omega))
  exact bodyPost_ret (v := .tuple #[ob 5 0 (.slice ao9 out.length cap9), .int .i64 0]) (by simp [results, Tryz.results66, go_sem, k0, k1, k2, k3, k4]) rfl ⟨_, rfl, hov, _, hP.off hh (Nat.le_refl _)⟩

set_option maxHeartbeats 1600000 in
set_option maxRecDepth 100000 in
theorem value_word (q : Bool) (w : World) (pp lp cp : Nat) (b s out r : List UInt8) (i d : Nat) (n kk nn : Int) (hT : TK s = .tok 9 n out r) (hW : wordV out = .tuple #[ob kk nn (.slice none 0 0), .bool true]) (h : Ps q w w pp lp cp b i s) :
    Calls Tryz.prog 66 #[.pointer (some ⟨pp, 0, none⟩), .int .i64 (d : Int)] w fun e w' => VQ q w pp lp cp b (.ok (.mk kk nn [] [] []) r) e w' := by
  have hat := hid h.at_
  have hP := h.below (alb w (.cells #[.int .i64 0, .int .i64 0, .slice none 0 0, .slice none 0 0, .slice none 0 0] 34))
  have hZ := Z5.new w 34
  have hlo : lp < w.heap.size ∧ cp < w.heap.size := by
    obtain ⟨m, v, hL⟩ := h.lx
    obtain ⟨ao, cap, h1, h2⟩ := hL.lex
    exact ⟨h2.lp, h2.cp⟩
  have p0 := hP.p0
  have l0 := hP.l0
  have hbl := bl_le s false
  have hpl : i + bl s false ≤ b.length := by have := hat.out; omega
  have hdp : b.drop (i + bl s false) = s.drop (bl s false) := by rw [← h.drp, List.drop_drop]
  have T1 := hid hT
  clear hT
  have HW := hid hW
  clear hW
  generalize hpa : i + bl s false = pa at hpl hdp
  have HPA := hid hpa
  have HD := hid hdp
  clear hpa hdp hbl
  go_enter Tryz.func66, Tryz.ntmps66
  go_wp2_with (first | (go_at_call 39; obtain ⟨m0, v0, hL⟩ := hP.lx; (with_reducible refine (token_q (TK_good _) hL.fresh).mono ?_); rw [T1.out, HPA.out]; rintro e w3 ⟨u3, rfl, j3, m3, v3, hL3⟩; obtain ⟨ao3, cap3, rfl, -, -, -⟩ := Rd.own hL3.row; have hP := hP.step hL3; have hZ := hZ.held hL3.held (by omega) (by omega); have p0 := hP.p0; have l0 := hP.l0; have zp := World.block_lt_of_cell? _ _ p0; have zl := World.block_lt_of_cell? _ _ l0; obtain ⟨rc, rf, rs⟩ := id hZ; have hS3 := Sl.own hL3.row; have hcv : ∀ o : Obj, (convert 24 9 (.slice ao3 out.length cap3)).run Tryz.prog (w3.alloc o) = .ok (.string (st out)) (w3.alloc o) := fun o => sl_string (P := Tryz.prog) (w3.alloc o) 24 9 5 Tryz.underlying24 (by kernel_rfl) (by kernel_rfl) _ _ (hS3.up (alb _ _))) | (go_at_call 96; refine (word_any out _).mono ?_; rw [HW.out]; rintro e w9 ⟨rfl, hb9⟩; have t9 := cell_up' hb9 (show (w3.alloc (.cells #[.int .i64 9, .int .i64 pa, .int .i64 n, .slice ao3 out.length cap3] 85)).cell? ⟨w3.heap.size, 1, none⟩ = some (.int .i64 pa) by rw [World.cell?_alloc_at _ _ _ _ rfl]; rfl); have z9 := World.block_lt_of_cell? _ _ t9; have hP := (hP.below (alb _ _)).below hb9; have hZ := (hZ.up (alb _ _)).up hb9; have p0 := hP.p0; have l0 := hP.l0; have zp := World.block_lt_of_cell? _ _ p0; have zl := World.block_lt_of_cell? _ _ l0; obtain ⟨rc, rf, rs⟩ := id hZ))
  obtain ⟨k0, k1, k2, k3, k4⟩ := set5_cells (a := .int .i64 kk) (b := .int .i64 nn) (c := .slice none 0 0) (d := .slice none 0 0) (e := .slice none 0 0) hZ.five
  have hh := set5_held w9 w9.heap.size w.heap.size (.int .i64 kk) (.int .i64 nn) (.slice none 0 0) (.slice none 0 0) (.slice none 0 0)
  have hP5 := hP.off hh (Nat.le_refl _)
  have k0 := cell_up' (alb _ (.cells #[.int .i64 kk, .int .i64 nn, .slice none 0 0, .slice none 0 0, .slice none 0 0] 34)) k0
  have k1 := cell_up' (alb _ (.cells #[.int .i64 kk, .int .i64 nn, .slice none 0 0, .slice none 0 0, .slice none 0 0] 34)) k1
  have k2 := cell_up' (alb _ (.cells #[.int .i64 kk, .int .i64 nn, .slice none 0 0, .slice none 0 0, .slice none 0 0] 34)) k2
  have k3 := cell_up' (alb _ (.cells #[.int .i64 kk, .int .i64 nn, .slice none 0 0, .slice none 0 0, .slice none 0 0] 34)) k3
  have k4 := cell_up' (alb _ (.cells #[.int .i64 kk, .int .i64 nn, .slice none 0 0, .slice none 0 0, .slice none 0 0] 34)) k4
  exact bodyPost_ret (v := .tuple #[ob kk nn (.slice none 0 0), .int .i64 0]) (by simp [results, Tryz.results66, go_sem, k0, k1, k2, k3, k4]) rfl ⟨_, rfl, OV.num kk nn, _, hP5.below (alb _ _)⟩

set_option maxHeartbeats 1600000 in
set_option maxRecDepth 100000 in
theorem value_noword (q : Bool) (w : World) (pp lp cp : Nat) (b s out r : List UInt8) (i d : Nat) (n : Int) (hT : TK s = .tok 9 n out r) (hW : wordV out = .tuple #[ob 0 0 (.slice none 0 0), .bool false]) (h : Ps q w w pp lp cp b i s) :
    Calls Tryz.prog 66 #[.pointer (some ⟨pp, 0, none⟩), .int .i64 (d : Int)] w fun e w' => VQ q w pp lp cp b (.bad 4 (s.drop (bl s false))) e w' := by
  have hat := hid h.at_
  have hP := h.below (alb w (.cells #[.int .i64 0, .int .i64 0, .slice none 0 0, .slice none 0 0, .slice none 0 0] 34))
  have hZ := Z5.new w 34
  have hlo : lp < w.heap.size ∧ cp < w.heap.size := by
    obtain ⟨m, v, hL⟩ := h.lx
    obtain ⟨ao, cap, h1, h2⟩ := hL.lex
    exact ⟨h2.lp, h2.cp⟩
  have p0 := hP.p0
  have l0 := hP.l0
  have hbl := bl_le s false
  have hpl : i + bl s false ≤ b.length := by have := hat.out; omega
  have hdp : b.drop (i + bl s false) = s.drop (bl s false) := by rw [← h.drp, List.drop_drop]
  have T1 := hid hT
  clear hT
  have HW := hid hW
  clear hW
  generalize hpa : i + bl s false = pa at hpl hdp
  have HPA := hid hpa
  have HD := hid hdp
  clear hpa hdp hbl
  go_enter Tryz.func66, Tryz.ntmps66
  go_wp2_with (first | (go_at_call 39; obtain ⟨m0, v0, hL⟩ := hP.lx; (with_reducible refine (token_q (TK_good _) hL.fresh).mono ?_); rw [T1.out, HPA.out]; rintro e w3 ⟨u3, rfl, j3, m3, v3, hL3⟩; obtain ⟨ao3, cap3, rfl, -, -, -⟩ := Rd.own hL3.row; have hP := hP.step hL3; have hZ := hZ.held hL3.held (by omega) (by omega); have p0 := hP.p0; have l0 := hP.l0; have zp := World.block_lt_of_cell? _ _ p0; have zl := World.block_lt_of_cell? _ _ l0; obtain ⟨rc, rf, rs⟩ := id hZ; have hS3 := Sl.own hL3.row; have hcv : ∀ o : Obj, (convert 24 9 (.slice ao3 out.length cap3)).run Tryz.prog (w3.alloc o) = .ok (.string (st out)) (w3.alloc o) := fun o => sl_string (P := Tryz.prog) (w3.alloc o) 24 9 5 Tryz.underlying24 (by kernel_rfl) (by kernel_rfl) _ _ (hS3.up (alb _ _))) | (go_at_call 96; refine (word_any out _).mono ?_; rw [HW.out]; rintro e w9 ⟨rfl, hb9⟩; have t9 := cell_up' hb9 (show (w3.alloc (.cells #[.int .i64 9, .int .i64 pa, .int .i64 n, .slice ao3 out.length cap3] 85)).cell? ⟨w3.heap.size, 1, none⟩ = some (.int .i64 pa) by rw [World.cell?_alloc_at _ _ _ _ rfl]; rfl); have z9 := World.block_lt_of_cell? _ _ t9; have hP := (hP.below (alb _ _)).below hb9; have hZ := (hZ.up (alb _ _)).up hb9; have p0 := hP.p0; have l0 := hP.l0; have zp := World.block_lt_of_cell? _ _ p0; have zl := World.block_lt_of_cell? _ _ l0; obtain ⟨rc, rf, rs⟩ := id hZ) | (go_at_call 91; refine (stop_any (hP.below (alb _ _)).fresh pa _ rfl hpl 4).mono ?_; rw [HD.out]; rintro e w10 ⟨rfl, hPt⟩; have hP := (hP.below (alb _ _)).join hPt; have hZ := (hZ.up (alb _ _)).held hPt.held (by omega) (by omega); obtain ⟨rc, rf, rs⟩ := id hZ))
  obtain ⟨k0, k1, k2, k3, k4⟩ := set5_cells (a := .int .i64 0) (b := .int .i64 0) (c := .slice none 0 0) (d := .slice none 0 0) (e := .slice none 0 0) hZ.five
  have hh := set5_held w10 w10.heap.size w.heap.size (.int .i64 0) (.int .i64 0) (.slice none 0 0) (.slice none 0 0) (.slice none 0 0)
  exact bodyPost_ret (v := .tuple #[ob 0 0 (.slice none 0 0), .int .i64 4]) (by simp [results, Tryz.results66, go_sem, k0, k1, k2, k3, k4]) rfl ⟨rfl, _, hP.off hh (Nat.le_refl _)⟩
end Go.Proofs.YtjkoiknjffldjaaGreatDoor

/-
  The program's value, by the contracts of array and dict. Condition: the parser stands in its bytes.
-/
namespace Go.Proofs.YtjkoiknjffldjaaGreatDoor
open Go.RowKit
set_option linter.unusedVariables false

set_option maxHeartbeats 1600000 in
set_option maxRecDepth 100000 in
theorem value_open (q : Bool) (w : World) (pp lp cp : Nat) (b s out r : List UInt8) (i d : Nat) (n : Int) (hd28 : d ≤ 28) (hT : TK s = .tok 5 n out r) (ha : ∀ (w : World) (i : Nat) (s : List UInt8), Ps q w w pp lp cp b i s → Calls Tryz.prog 97 #[.pointer (some ⟨pp, 0, none⟩), .int .i64 (d : Int)] w fun e w' => ∃ res, PV q (.a d []) s res ∧ VQ q w pp lp cp b res e w') (h : Ps q w w pp lp cp b i s) :
    Calls Tryz.prog 66 #[.pointer (some ⟨pp, 0, none⟩), .int .i64 ((d : Int) + 1)] w fun e w' => ∃ res, PV q (.v (d + 1)) s res ∧ VQ q w pp lp cp b res e w' := by
  have hat := hid h.at_
  have hP := h.below (alb w (.cells #[.int .i64 0, .int .i64 0, .slice none 0 0, .slice none 0 0, .slice none 0 0] 34))
  have hZ := Z5.new w 34
  have hlo : lp < w.heap.size ∧ cp < w.heap.size := by
    obtain ⟨m, v, hL⟩ := h.lx
    obtain ⟨ao, cap, h1, h2⟩ := hL.lex
    exact ⟨h2.lp, h2.cp⟩
  have p0 := hP.p0
  have l0 := hP.l0
  have hbl := bl_le s false
  have hpl : i + bl s false ≤ b.length := by have := hat.out; omega
  have hdp : b.drop (i + bl s false) = s.drop (bl s false) := by rw [← h.drp, List.drop_drop]
  have T1 := hid hT
  clear hT
  have b0 : (((d : Int) + 1) == 0) = false := by simp; omega
  generalize hpa : i + bl s false = pa at hpl hdp
  have HPA := hid hpa
  have HD := hid hdp
  clear hpa hdp hbl
  go_enter Tryz.func66, Tryz.ntmps66
  go_wp2_with (first | (go_at_call 39; obtain ⟨m0, v0, hL⟩ := hP.lx; (with_reducible refine (token_q (TK_good _) hL.fresh).mono ?_); rw [T1.out, HPA.out]; rintro e w3 ⟨u3, rfl, j3, m3, v3, hL3⟩; obtain ⟨ao3, cap3, rfl, -, -, -⟩ := Rd.own hL3.row; have hP := hP.step hL3; have hZ := hZ.held hL3.held (by omega) (by omega); have p0 := hP.p0; have l0 := hP.l0; have zp := World.block_lt_of_cell? _ _ p0; have zl := World.block_lt_of_cell? _ _ l0; obtain ⟨rc, rf, rs⟩ := id hZ) | (go_at_call 97; refine (ha _ _ r (hP.below (alb _ _)).fresh).mono ?_; rintro e w9 ⟨res, hpv, hvq⟩; have hwy := hL3.size; rcases res with ⟨x9, t9⟩ | ⟨o9, t9⟩; rotate_left; (obtain ⟨vs, rfl, hov, j9, hPs⟩ := hvq; have hP := (hP.below (alb _ _)).join hPs; have hZ := (hZ.up (alb _ _)).held hPs.held (by omega) (by omega); obtain ⟨rc, rf, rs⟩ := id hZ; have hov2 := hov; obtain ⟨k9, n9, vb, vl, vd, b9, l9, d9, cl, cd, hb, hl, hl9, hd, hk9, hd9⟩ := hov; obtain ⟨⟨aob, capb, rfl, -, -, -, -⟩, -⟩ := id hb; obtain ⟨aol, capl, rfl, -⟩ := id hl; obtain ⟨aod, capd, rfl, -⟩ := id hd); rotate_left; (obtain ⟨rfl, j9, hPs⟩ := hvq; have hP := (hP.below (alb _ _)).join hPs; have hZ := (hZ.up (alb _ _)).held hPs.held (by omega) (by omega); obtain ⟨rc, rf, rs⟩ := id hZ)))
  · obtain ⟨k0, k1, k2, k3, k4⟩ := set5_cells (a := .int .i64 0) (b := .int .i64 0) (c := .slice none 0 0) (d := .slice none 0 0) (e := .slice none 0 0) hZ.five
    have hh := set5_held w9 w9.heap.size w.heap.size (.int .i64 0) (.int .i64 0) (.slice none 0 0) (.slice none 0 0) (.slice none 0 0)
    exact bodyPost_ret (v := .tuple #[ob 0 0 (.slice none 0 0), .int .i64 x9]) (by simp [results, Tryz.results66, go_sem, k0, k1, k2, k3, k4]) rfl ⟨.bad x9 t9, PV.v_open T1.out hpv, rfl, _, hP.off hh (Nat.le_refl _)⟩
  · obtain ⟨k0, k1, k2, k3, k4⟩ := set5_cells (a := .int .i64 k9) (b := .int .i64 n9) (c := .slice aob b9.length capb) (d := .slice aol l9.length capl) (e := .slice aod d9.length capd) hZ.five
    have hh := set5_held w9 w9.heap.size w.heap.size (.int .i64 k9) (.int .i64 n9) (.slice aob b9.length capb) (.slice aol l9.length capl) (.slice aod d9.length capd)
    have hov := hov2.keep (A := fun g => (w3.alloc (.cells #[.int .i64 5, .int .i64 pa, .int .i64 n, .slice ao3 out.length cap3] 85)).heap.size ≤ g ∧ g < w9.heap.size) (B := fun g => w.heap.size ≤ g ∧ g < (set5 w9 w.heap.size (.int .i64 k9) (.int .i64 n9) (.slice aob b9.length capb) (.slice aol l9.length capl) (.slice aod d9.length capd)).heap.size) (fun g hg => ⟨by have := hg.1; simp at this; omega, Nat.lt_of_lt_of_le hg.2 hh.size⟩) (fun g hg hlt => hh.block g hlt (by have := hg.1; simp at this; omega) (by have := hg.1; simp at this; omega))
    exact bodyPost_ret (v := .tuple #[.agg #[.int .i64 k9, .int .i64 n9, .slice aob b9.length capb, .slice aol l9.length capl, .slice aod d9.length capd], .int .i64 0]) (by simp [results, Tryz.results66, go_sem, k0, k1, k2, k3, k4]) rfl ⟨.ok _ t9, PV.v_open T1.out hpv, [.int .i64 k9, .int .i64 n9, .slice aob b9.length capb, .slice aol l9.length capl, .slice aod d9.length capd], rfl, hov, _, hP.off hh (Nat.le_refl _)⟩

set_option maxHeartbeats 1600000 in
set_option maxRecDepth 100000 in
theorem value_left (q : Bool) (w : World) (pp lp cp : Nat) (b s out r : List UInt8) (i d : Nat) (n : Int) (hd28 : d ≤ 28) (hT : TK s = .tok 7 n out r) (ha : ∀ (w : World) (i : Nat) (s : List UInt8), Ps q w w pp lp cp b i s → Calls Tryz.prog 98 #[.pointer (some ⟨pp, 0, none⟩), .int .i64 (d : Int)] w fun e w' => ∃ res, PV q (.m d [] []) s res ∧ VQ q w pp lp cp b res e w') (h : Ps q w w pp lp cp b i s) :
    Calls Tryz.prog 66 #[.pointer (some ⟨pp, 0, none⟩), .int .i64 ((d : Int) + 1)] w fun e w' => ∃ res, PV q (.v (d + 1)) s res ∧ VQ q w pp lp cp b res e w' := by
  have hat := hid h.at_
  have hP := h.below (alb w (.cells #[.int .i64 0, .int .i64 0, .slice none 0 0, .slice none 0 0, .slice none 0 0] 34))
  have hZ := Z5.new w 34
  have hlo : lp < w.heap.size ∧ cp < w.heap.size := by
    obtain ⟨m, v, hL⟩ := h.lx
    obtain ⟨ao, cap, h1, h2⟩ := hL.lex
    exact ⟨h2.lp, h2.cp⟩
  have p0 := hP.p0
  have l0 := hP.l0
  have hbl := bl_le s false
  have hpl : i + bl s false ≤ b.length := by have := hat.out; omega
  have hdp : b.drop (i + bl s false) = s.drop (bl s false) := by rw [← h.drp, List.drop_drop]
  have T1 := hid hT
  clear hT
  have b0 : (((d : Int) + 1) == 0) = false := by simp; omega
  generalize hpa : i + bl s false = pa at hpl hdp
  have HPA := hid hpa
  have HD := hid hdp
  clear hpa hdp hbl
  go_enter Tryz.func66, Tryz.ntmps66
  go_wp2_with (first | (go_at_call 39; obtain ⟨m0, v0, hL⟩ := hP.lx; (with_reducible refine (token_q (TK_good _) hL.fresh).mono ?_); rw [T1.out, HPA.out]; rintro e w3 ⟨u3, rfl, j3, m3, v3, hL3⟩; obtain ⟨ao3, cap3, rfl, -, -, -⟩ := Rd.own hL3.row; have hP := hP.step hL3; have hZ := hZ.held hL3.held (by omega) (by omega); have p0 := hP.p0; have l0 := hP.l0; have zp := World.block_lt_of_cell? _ _ p0; have zl := World.block_lt_of_cell? _ _ l0; obtain ⟨rc, rf, rs⟩ := id hZ) | (go_at_call 98; refine (ha _ _ r (hP.below (alb _ _)).fresh).mono ?_; rintro e w9 ⟨res, hpv, hvq⟩; have hwy := hL3.size; rcases res with ⟨x9, t9⟩ | ⟨o9, t9⟩; rotate_left; (obtain ⟨vs, rfl, hov, j9, hPs⟩ := hvq; have hP := (hP.below (alb _ _)).join hPs; have hZ := (hZ.up (alb _ _)).held hPs.held (by omega) (by omega); obtain ⟨rc, rf, rs⟩ := id hZ; have hov2 := hov; obtain ⟨k9, n9, vb, vl, vd, b9, l9, d9, cl, cd, hb, hl, hl9, hd, hk9, hd9⟩ := hov; obtain ⟨⟨aob, capb, rfl, -, -, -, -⟩, -⟩ := id hb; obtain ⟨aol, capl, rfl, -⟩ := id hl; obtain ⟨aod, capd, rfl, -⟩ := id hd); rotate_left; (obtain ⟨rfl, j9, hPs⟩ := hvq; have hP := (hP.below (alb _ _)).join hPs; have hZ := (hZ.up (alb _ _)).held hPs.held (by omega) (by omega); obtain ⟨rc, rf, rs⟩ := id hZ)))
  · obtain ⟨k0, k1, k2, k3, k4⟩ := set5_cells (a := .int .i64 0) (b := .int .i64 0) (c := .slice none 0 0) (d := .slice none 0 0) (e := .slice none 0 0) hZ.five
    have hh := set5_held w9 w9.heap.size w.heap.size (.int .i64 0) (.int .i64 0) (.slice none 0 0) (.slice none 0 0) (.slice none 0 0)
    exact bodyPost_ret (v := .tuple #[ob 0 0 (.slice none 0 0), .int .i64 x9]) (by simp [results, Tryz.results66, go_sem, k0, k1, k2, k3, k4]) rfl ⟨.bad x9 t9, PV.v_left T1.out hpv, rfl, _, hP.off hh (Nat.le_refl _)⟩
  · obtain ⟨k0, k1, k2, k3, k4⟩ := set5_cells (a := .int .i64 k9) (b := .int .i64 n9) (c := .slice aob b9.length capb) (d := .slice aol l9.length capl) (e := .slice aod d9.length capd) hZ.five
    have hh := set5_held w9 w9.heap.size w.heap.size (.int .i64 k9) (.int .i64 n9) (.slice aob b9.length capb) (.slice aol l9.length capl) (.slice aod d9.length capd)
    have hov := hov2.keep (A := fun g => (w3.alloc (.cells #[.int .i64 7, .int .i64 pa, .int .i64 n, .slice ao3 out.length cap3] 85)).heap.size ≤ g ∧ g < w9.heap.size) (B := fun g => w.heap.size ≤ g ∧ g < (set5 w9 w.heap.size (.int .i64 k9) (.int .i64 n9) (.slice aob b9.length capb) (.slice aol l9.length capl) (.slice aod d9.length capd)).heap.size) (fun g hg => ⟨by have := hg.1; simp at this; omega, Nat.lt_of_lt_of_le hg.2 hh.size⟩) (fun g hg hlt => hh.block g hlt (by have := hg.1; simp at this; omega) (by have := hg.1; simp at this; omega))
    exact bodyPost_ret (v := .tuple #[.agg #[.int .i64 k9, .int .i64 n9, .slice aob b9.length capb, .slice aol l9.length capl, .slice aod d9.length capd], .int .i64 0]) (by simp [results, Tryz.results66, go_sem, k0, k1, k2, k3, k4]) rfl ⟨.ok _ t9, PV.v_left T1.out hpv, [.int .i64 k9, .int .i64 n9, .slice aob b9.length capb, .slice aol l9.length capl, .slice aod d9.length capd], rfl, hov, _, hP.off hh (Nat.le_refl _)⟩
end Go.Proofs.YtjkoiknjffldjaaGreatDoor

/-
  The program's value, whatever stands there, by the contracts of array and dict. Condition: the parser stands in its bytes; at most 28 deep.
-/
namespace Go.Proofs.YtjkoiknjffldjaaGreatDoor
open Go.RowKit
set_option linter.unusedVariables false

/-- value's contract at a depth -/
def ValueC (q : Bool) (pp lp cp : Nat) (b : List UInt8) (d : Nat) : Prop := ∀ (w : World) (i : Nat) (s : List UInt8), Ps q w w pp lp cp b i s →
  Calls Tryz.prog 66 #[.pointer (some ⟨pp, 0, none⟩), .int .i64 (d : Int)] w fun e w' => ∃ res, PV q (.v d) s res ∧ VQ q w pp lp cp b res e w'
def ArrayC (q : Bool) (pp lp cp : Nat) (b : List UInt8) (d : Nat) : Prop := ∀ (w : World) (i : Nat) (s : List UInt8), Ps q w w pp lp cp b i s →
  Calls Tryz.prog 97 #[.pointer (some ⟨pp, 0, none⟩), .int .i64 (d : Int)] w fun e w' => ∃ res, PV q (.a d []) s res ∧ VQ q w pp lp cp b res e w'
def DictC (q : Bool) (pp lp cp : Nat) (b : List UInt8) (d : Nat) : Prop := ∀ (w : World) (i : Nat) (s : List UInt8), Ps q w w pp lp cp b i s →
  Calls Tryz.prog 98 #[.pointer (some ⟨pp, 0, none⟩), .int .i64 (d : Int)] w fun e w' => ∃ res, PV q (.m d [] []) s res ∧ VQ q w pp lp cp b res e w'

theorem value_of {q : Bool} {pp lp cp : Nat} {b : List UInt8} {d : Nat} (hd : d ≤ 28) (ha : ∀ d', d = d' + 1 → ArrayC q pp lp cp b d') (hm : ∀ d', d = d' + 1 → DictC q pp lp cp b d') : ValueC q pp lp cp b d := by
  intro w i s h
  have hsl : s.length ≤ 4000000 := by have := h.at_; have := h.sm; omega
  cases hT : TK s with
  | bad x => exact (value_bad q w pp lp cp b s i d x hT h).mono fun e w' hq => ⟨_, ⟨1, by rw [pF, hT]⟩, hq⟩
  | tok k n out r =>
    have hob : out.length ≤ 4000000 := Nat.le_trans (TK_ol hT) hsl
    by_cases h0 : k = 0
    · subst h0
      exact (value_end q w pp lp cp b s out r i d n hT h).mono fun e w' hq => ⟨_, ⟨1, by rw [pF, hT]; simp⟩, hq⟩
    by_cases h1 : k = 1
    · subst h1
      rcases whole_shape q n r with hW | ⟨r9, hW⟩
      · exact (value_wint q w pp lp cp b s out r r i d n hT hW h).mono fun e w' hq => ⟨_, ⟨1, by rw [pF, hT]; simp [hW]⟩, hq⟩
      · exact (value_wref q w pp lp cp b s out r r9 i d n hT hW h).mono fun e w' hq => ⟨_, ⟨1, by rw [pF, hT]; simp [hW]⟩, hq⟩
    by_cases h2 : k = 2
    · subst h2
      exact (value_real q w pp lp cp b s out r i d n hT h).mono fun e w' hq => ⟨_, ⟨1, by rw [pF, hT]; simp⟩, hq⟩
    by_cases h3 : k = 3
    · subst h3
      exact (value_str q w pp lp cp b s out r i d n hT hob h).mono fun e w' hq => ⟨_, ⟨1, by rw [pF, hT]; simp⟩, hq⟩
    by_cases h4 : k = 4
    · subst h4
      exact (value_name q w pp lp cp b s out r i d n hT hob h).mono fun e w' hq => ⟨_, ⟨1, by rw [pF, hT]; simp⟩, hq⟩
    by_cases h9 : k = 9
    · subst h9
      rcases wordO_cases out with ⟨-, hO⟩ | ⟨-, hO⟩ | ⟨-, hO⟩ | ⟨-, -, -, hO⟩
      · exact (value_word q w pp lp cp b s out r i d n 1 1 hT (by unfold wordV; rw [hO]; rfl) h).mono fun e w' hq => ⟨_, ⟨1, by rw [pF, hT]; simp [hO, poBool]⟩, hq⟩
      · exact (value_word q w pp lp cp b s out r i d n 1 0 hT (by unfold wordV; rw [hO]; rfl) h).mono fun e w' hq => ⟨_, ⟨1, by rw [pF, hT]; simp [hO, poBool]⟩, hq⟩
      · exact (value_word q w pp lp cp b s out r i d n 0 0 hT (by unfold wordV; rw [hO]; rfl) h).mono fun e w' hq => ⟨_, ⟨1, by rw [pF, hT]; simp [hO, poNull]⟩, hq⟩
      · exact (value_noword q w pp lp cp b s out r i d n hT (by unfold wordV; rw [hO]) h).mono fun e w' hq => ⟨_, ⟨1, by rw [pF, hT]; simp [hO]⟩, hq⟩
    by_cases h5 : k = 5
    · subst h5
      cases d with
      | zero => exact (value_deep q w pp lp cp b s out r i 0 5 n rfl (.inl rfl) hT h).mono fun e w' hq => ⟨_, ⟨1, by rw [pF, hT]; simp⟩, hq⟩
      | succ d => exact value_open q w pp lp cp b s out r i d n (by omega) hT (ha d rfl) h
    by_cases h7 : k = 7
    · subst h7
      cases d with
      | zero => exact (value_deep q w pp lp cp b s out r i 0 7 n rfl (.inr rfl) hT h).mono fun e w' hq => ⟨_, ⟨1, by rw [pF, hT]; simp⟩, hq⟩
      | succ d => exact value_left q w pp lp cp b s out r i d n (by omega) hT (hm d rfl) h
    exact (value_form q w pp lp cp b s out r i d k n h0 h1 h2 h3 h4 h5 h7 h9 hT h).mono fun e w' hq => ⟨_, ⟨1, by rw [pF, hT]; simp [h0, h1, h2, h3, h4, h5, h7, h9]⟩, hq⟩
end Go.Proofs.YtjkoiknjffldjaaGreatDoor

/-
  Plain: what is read takes a byte at least; an error is no nought. No program here.
-/
namespace Go.Proofs.YtjkoiknjffldjaaGreatDoor
set_option linter.unusedVariables false

/-- an error there is; what stands behind is shorter than n -/
def PRes.fit (n : Nat) : PRes → Prop
  | .bad e t => (e == 0) = false
  | .ok o t => t.length < n
theorem PRes.fit_up {r : PRes} {n m : Nat} (h : r.fit n) (hm : n ≤ m) : r.fit m := by
  cases r with
  | bad e t => exact h
  | ok o t => exact Nat.lt_of_lt_of_le h hm
theorem TK_rest {s out r : List UInt8} {k n : Int} (h : TK s = .tok k n out r) (hk : ¬ k = 0) : r.length < s.length := by
  rcases TK_fit s with h1 | h1
  · rw [h] at h1; injection h1 with q; exact absurd q hk
  · rw [h] at h1; exact h1.2
theorem TK_err {s : List UInt8} {e : Int} (h : TK s = .bad e) : (e == 0) = false := by
  have h1 := TK_good s
  rw [h] at h1; exact h1.1
theorem whole_fit (q : Bool) (n : Int) (r : List UInt8) (m : Nat) (h : r.length < m) : (whole q n r).fit m := by
  unfold whole
  split
  · split
    · rename_i r1 hr1
      have h1 := TK_rest hr1 (by decide)
      split
      · rename_i out r2 hr2
        have h2 := TK_rest hr2 (by decide)
        split
        · show r2.length < m; omega
        · exact h
      · exact h
    · exact h
  · exact h

theorem pF_fit (q : Bool) : ∀ (f : Nat) (m : Md) (s : List UInt8) (r : PRes), pF q f m s = some r → r.fit s.length
  | 0, m, s, r, h => by simp [pF] at h
  | f + 1, .v d, s, r, h => by
    rw [pF] at h
    cases hT : TK s with
    | bad e => rw [hT] at h; injection h with h; subst h; exact TK_err hT
    | tok k n out t =>
      rw [hT] at h
      simp only [] at h
      by_cases h0 : k = 0
      · rw [if_pos h0] at h; injection h with h; subst h; show ((2 : Int) == 0) = false; decide
      have ht := TK_rest hT h0
      rw [if_neg h0] at h
      by_cases h1 : k = 1
      · rw [if_pos h1] at h; injection h with h; subst h; exact whole_fit q n t _ ht
      rw [if_neg h1] at h
      by_cases h2 : k = 2
      · rw [if_pos h2] at h; injection h with h; subst h; exact ht
      rw [if_neg h2] at h
      by_cases h3 : k = 3
      · rw [if_pos h3] at h; injection h with h; subst h; exact ht
      rw [if_neg h3] at h
      by_cases h4 : k = 4
      · rw [if_pos h4] at h; injection h with h; subst h; exact ht
      rw [if_neg h4] at h
      by_cases h9 : k = 9
      · rw [if_pos h9] at h; injection h with h; subst h
        cases hO : wordO out with
        | none => show ((4 : Int) == 0) = false; decide
        | some o => exact ht
      rw [if_neg h9] at h
      by_cases h5 : k = 5 ∨ k = 7
      · rw [if_pos h5] at h
        cases d with
        | zero => injection h with h; subst h; show ((6 : Int) == 0) = false; decide
        | succ d =>
          simp only [] at h
          split at h
          · exact PRes.fit_up (pF_fit q f _ _ _ h) (Nat.le_of_lt ht)
          · exact PRes.fit_up (pF_fit q f _ _ _ h) (Nat.le_of_lt ht)
      · rw [if_neg h5] at h; injection h with h; subst h; show ((4 : Int) == 0) = false; decide
  | f + 1, .a d acc, s, r, h => by
    rw [pF] at h
    cases hT : TK s with
    | bad e => rw [hT] at h; injection h with h; subst h; exact TK_err hT
    | tok k n out t =>
      rw [hT] at h
      simp only [] at h
      split at h <;> rename_i hk
      · injection h with h; subst h; exact TK_rest hT (by omega)
      · cases hv : pF q f (.v d) s with
        | none => rw [hv] at h; simp at h
        | some x =>
          rw [hv] at h
          have hx := pF_fit q f _ _ _ hv
          cases x with
          | bad e t => injection h with h; subst h; exact hx
          | ok x t => exact PRes.fit_up (pF_fit q f _ _ _ h) (Nat.le_of_lt hx)
  | f + 1, .m d keys acc, s, r, h => by
    rw [pF] at h
    cases hT : TK s with
    | bad e => rw [hT] at h; injection h with h; subst h; exact TK_err hT
    | tok k n out t =>
      rw [hT] at h
      simp only [] at h
      by_cases h8 : k = 8
      · rw [if_pos h8] at h; injection h with h; subst h; exact TK_rest hT (by omega)
      rw [if_neg h8] at h
      by_cases h0 : k = 0
      · rw [if_pos h0] at h; injection h with h; subst h; show ((2 : Int) == 0) = false; decide
      rw [if_neg h0] at h
      by_cases h4 : ¬ k = 4
      · rw [if_pos h4] at h; injection h with h; subst h; show ((4 : Int) == 0) = false; decide
      rw [if_neg h4] at h
      by_cases hm : out ∈ keys
      · rw [if_pos hm] at h; injection h with h; subst h; show ((4 : Int) == 0) = false; decide
      rw [if_neg hm] at h
      have ht := TK_rest hT h0
      cases hv : pF q f (.v d) t with
      | none => rw [hv] at h; simp at h
      | some x =>
        rw [hv] at h
        have hx := pF_fit q f _ _ _ hv
        cases x with
        | bad e t => injection h with h; subst h; exact hx
        | ok x t2 =>
          have hx' : t2.length < t.length := hx
          exact PRes.fit_up (pF_fit q f _ _ _ h) (by omega)
theorem PV.fit {q : Bool} {m : Md} {s : List UInt8} {r : PRes} (h : PV q m s r) : r.fit s.length := by
  obtain ⟨f, h⟩ := h; exact pF_fit q f m s r h
end Go.Proofs.YtjkoiknjffldjaaGreatDoor

/-
  A row of objects that grows: an array's items. Conditions: the row and the items lie in blocks from B on, apart.
-/
namespace Go.Proofs.YtjkoiknjffldjaaGreatDoor
open Go.RowKit
set_option linter.unusedVariables false

/-- the cells of n elements -/
def flatC (c : Nat → List Value) : Nat → List Value
  | 0 => []
  | n + 1 => flatC c n ++ c n
theorem flatC_congr {c c' : Nat → List Value} : ∀ {n : Nat}, (∀ i, i < n → c i = c' i) → flatC c n = flatC c' n
  | 0, _ => rfl
  | n + 1, h => by rw [flatC, flatC, flatC_congr (fun i hi => h i (by omega)), h n (by omega)]
theorem flatC_len {c : Nat → List Value} {sz : Nat} : ∀ {n : Nat}, (∀ i, i < n → (c i).length = sz) → (flatC c n).length = sz * n
  | 0, _ => by simp [flatC]
  | n + 1, h => by rw [flatC, List.length_append, flatC_len (fun i hi => h i (by omega)), h n (by omega), Nat.mul_succ]
theorem flatC_at {c : Nat → List Value} {sz : Nat} : ∀ {n : Nat}, (∀ i, i < n → (c i).length = sz) → ∀ i, i < n → ∀ j u, (c i)[j]? = some u → (flatC c n)[sz * i + j]? = some u
  | 0, _, i, hi, _, _, _ => absurd hi (Nat.not_lt_zero _)
  | n + 1, h, i, hi, j, u, hu => by
    have hl := flatC_len (c := c) (sz := sz) (n := n) (fun i hi => h i (by omega))
    have hj : j < sz := by
      have := (List.getElem?_eq_some_iff.1 hu).1
      rw [h i hi] at this; exact this
    rw [flatC]
    rcases Nat.lt_or_ge i n with q | q
    · have h1 : sz * i + j < sz * n := by
        have : sz * (i + 1) ≤ sz * n := Nat.mul_le_mul_left _ q
        rw [Nat.mul_succ] at this; omega
      rw [List.getElem?_append_left (by omega)]
      exact flatC_at (fun i hi => h i (by omega)) i q j u hu
    · obtain rfl : i = n := by omega
      rw [List.getElem?_append_right (by omega), hl]
      rw [show sz * i + j - sz * i = j by omega]
      exact hu

/-- a row of objects, made since B -/
structure GotO (w : World) (B : Nat) (vl : Value) (acc : List PO) (c : Nat → List Value) : Prop where
  row : w.ownsRow B 34 5 vl acc.length (flatC c acc.length)
  ov : ∀ i (h : i < acc.length), OV (fun g => B ≤ g ∧ g < w.heap.size ∧ vl.ownBlock ≠ Option.some g) w (c i) acc[i]

theorem GotO.nil (w : World) (B : Nat) (c : Nat → List Value) : GotO w B (.slice Option.none 0 0) [] c := ⟨World.ownsRow_nil _ _ _ _, fun i h => absurd h (Nat.not_lt_zero _)⟩
theorem GotO.held {w w' : World} {B p r : Nat} {vl : Value} {acc : List PO} {c : Nat → List Value} (h : GotO w B vl acc c) (hb : Held w.heap.size p r w w') (hp : p < B) (hr : r < B) : GotO w' B vl acc c :=
  ⟨row_held h.row hb (fun g hg => by have := (World.ownsRow.lt h.row g hg).1; exact ⟨by omega, by omega⟩), fun i hi => (h.ov i hi).keep (fun g hg => ⟨hg.1, Nat.lt_of_lt_of_le hg.2.1 hb.size, hg.2.2⟩) (fun g hg hlt => hb.block g hlt (by have := hg.1; omega) (by have := hg.1; omega))⟩
theorem GotO.up {w w' : World} {B : Nat} {vl : Value} {acc : List PO} {c : Nat → List Value} (h : GotO w B vl acc c) (hb : Below w.heap.size w w') : GotO w' B vl acc c :=
  ⟨row_up h.row hb, fun i hi => (h.ov i hi).keep (fun g hg => ⟨hg.1, Nat.lt_of_lt_of_le hg.2.1 hb.size, hg.2.2⟩) (fun g hg hlt => hb.block g hlt)⟩
/-- one object more -/
theorem GotO.push {w w' : World} {B : Nat} {vl v' : Value} {acc : List PO} {c : Nat → List Value} {vs : List Value} {x : PO} (h : GotO w B vl acc c)
    (hr : w'.ownsRow B 34 5 v' (acc.length + 1) (flatC c acc.length ++ vs))
    (hg : w.grownBy w' vl.ownBlock) (hm : Moved w vl v')
    (hx : OV (fun g => B ≤ g ∧ g < w.heap.size ∧ vl.ownBlock ≠ Option.some g) w vs x) : GotO w' B v' (acc ++ [x]) (fun i => if i = acc.length then vs else c i) := by
  have hne' : ∀ g, v'.ownBlock = Option.some g → vl.ownBlock = Option.some g ∨ g = w.heap.size := by
    intro g hq
    rcases hm with hm | hm
    · left; rw [← hm]; exact hq
    · right; rw [hm] at hq; injection hq with hq; exact hq.symm
  have key : ∀ (us : List Value) (o : PO), OV (fun g => B ≤ g ∧ g < w.heap.size ∧ vl.ownBlock ≠ Option.some g) w us o → OV (fun g => B ≤ g ∧ g < w'.heap.size ∧ v'.ownBlock ≠ Option.some g) w' us o := by
    intro us o ho
    refine ho.keep (fun g hq => ⟨hq.1, Nat.lt_of_lt_of_le hq.2.1 hg.size, fun q => ?_⟩) (fun g hq hlt => hg.block g hlt (fun q => hq.2.2 q.symm))
    rcases hne' g q with q1 | q1
    · exact hq.2.2 q1
    · have := hq.2.1; omega
  have hfl : flatC (fun i => if i = acc.length then vs else c i) (acc.length + 1) = flatC c acc.length ++ vs := by
    rw [flatC]
    congr 1
    · exact flatC_congr (fun i hi => if_neg (by omega))
    · exact if_pos rfl
  refine ⟨?_, fun i hi => ?_⟩
  · rw [List.length_append, List.length_singleton, hfl]; exact hr
  · rw [List.length_append, List.length_singleton] at hi
    rcases Nat.lt_or_ge i acc.length with q | q
    · rw [List.getElem_append_left q]
      simp only [if_neg (show ¬ i = acc.length by omega)]
      exact key _ _ (h.ov i q)
    · obtain rfl : i = acc.length := by omega
      simp only [if_true]
      rw [List.getElem_append_right (Nat.le_refl _)]
      simp only [Nat.sub_self, List.getElem_cons_zero]
      exact key _ _ hx
/-- the row as an array's -/
theorem GotO.arr {w : World} {B : Nat} {vl : Value} {acc : List PO} {c : Nat → List Value} (h : GotO w B vl acc c) (hz : acc.length ≤ 4000000) : OV (fun g => B ≤ g ∧ g < w.heap.size) w [.int .i64 6, .int .i64 0, .slice Option.none 0 0, vl, .slice Option.none 0 0] (poArr acc) := by
  have hlen : ∀ i, i < acc.length → (c i).length = 5 := fun i hi => (h.ov i hi).len
  refine .mk 6 0 _ _ _ [] acc [] c (fun _ => []) (SlA.nil _ _) ?_ (fun i hi => (h.ov i hi).keep (fun g hg => ⟨hg.1, hg.2.1⟩) (fun g _ _ => rfl)) (RowA.nil _ _ _ _) (fun i h => absurd h (Nat.not_lt_zero _)) (fun i h => absurd h (Nat.not_lt_zero _)) ⟨by simp, hz, by simp⟩
  rcases h.row.2 with ⟨hv, hn⟩ | ⟨g, cap, cur, hv, hbg, hh, hn, hcap, hsz, htake⟩
  · rw [hv, hn]; exact ⟨none, 0, rfl, Nat.le_refl _, by simp [maxLen], fun _ => rfl, fun i hi => absurd hi (Nat.not_lt_zero _), .inl rfl⟩
  · refine ⟨some ⟨g, 0, none⟩, cap, hv, hn, hcap, (fun q => by cases q), hlen, .inr ⟨g, 0, rfl, ⟨hbg, (World.ownsRow.lt h.row g (by rw [hv]; rfl)).2⟩, fun i hi j u hu => ?_⟩⟩
    have h1 := World.ownsRow.cells h.row (g := g) (by rw [hv]; rfl) (5 * i + j) u (flatC_at hlen i hi j u hu)
    have e1 : (⟨g, 0, none⟩ : Addr).add (5 * i + j) = ⟨g, 0 + (5 * i + j), none⟩ := by
      generalize 5 * i + j = z
      cases z <;> simp [Addr.add]
    rw [e1] at h1
    exact h1
end Go.Proofs.YtjkoiknjffldjaaGreatDoor

/-
  LexKnown: chapter 11's example; the statement's walk. No condition.
-/
namespace Go.Proofs.YtjkoiknjffldjaaGreatDoor
open Go.RowKit
set_option linter.unusedVariables false

/-- a row that was made since w0 grows: the lexer stands as it stood -/
theorem Lx.grow {w0 w w' : World} {lp cp : Nat} {b s : List UInt8} {i : Nat} {m v u : Value} {out : List UInt8} {row : Option Nat} (h : Lx w0 w lp cp b i s m v u out) (hg : w.grownBy w' row) (hr : ∀ k, row = Option.some k → w0.heap.size ≤ k) : Lx w0 w' lp cp b i s m v (.slice Option.none 0 0) [] := by
  obtain ⟨ao, cap, h1, h2⟩ := h.lex
  have q1 := h2.lp
  have q2 := h2.cp
  have q3 := h2.ao
  cases row with
  | none =>
    have hb : Below w.heap.size w w' := ⟨hg.os, hg.tape, hg.output, hg.size, fun k hk => hg.block k hk (by simp)⟩
    exact (h.below hb).bare
  | some g =>
    have hgg := hr g rfl
    have hb : Held w.heap.size g g w w' := ⟨hg.os, hg.tape, hg.output, hg.size, fun k hk hk2 _ => hg.block k hk (by simp; omega)⟩
    refine ⟨h.drp, ⟨ao, cap, h1.held hb ⟨by omega, by omega⟩ ⟨by omega, by omega⟩ (fun h0 a ha => by have := q3 h0 a ha; exact ⟨by omega, by omega⟩), h2⟩, ?_, OwnB.nil _ _ _⟩
    exact h.held.trans ⟨hg.os, hg.tape, hg.output, hg.size, fun k hk _ _ => hg.block k (Nat.lt_of_lt_of_le hk h.held.size) (by simp; omega)⟩

end Go.Proofs.YtjkoiknjffldjaaGreatDoor

/-
  The program's array, by value's contract. Condition: the parser stands in its bytes; at most 28 deep.
-/
namespace Go.Proofs.YtjkoiknjffldjaaGreatDoor
open Go.RowKit
set_option linter.unusedVariables false

/-- block g is an array's five cells -/
def O5 (w : World) (g : Nat) (vl : Value) : Prop := (∀ k, w.cell? ⟨g, k, none⟩ = (#[.int .i64 6, .int .i64 0, .slice none 0 0, vl, .slice none 0 0] : Array Value)[k]?) ∧ (∀ k, w.frozen? ⟨g, k, none⟩ = false) ∧ g < w.heap.size
theorem O5.new (w : World) (g : Nat) (hg : g = w.heap.size) (e : TypeId) : O5 (w.alloc (.cells #[.int .i64 6, .int .i64 0, .slice none 0 0, .slice none 0 0, .slice none 0 0] e)) g (.slice none 0 0) := by
  subst hg
  refine ⟨fun k => by rw [World.cell?_alloc_at _ _ _ _ rfl], fun k => ?_, by simp⟩
  simp
theorem O5.held {w w' : World} {g p r : Nat} {vl : Value} (h : O5 w g vl) (hb : Held w.heap.size p r w w') (h1 : g ≠ p) (h2 : g ≠ r) : O5 w' g vl :=
  ⟨fun k => by rw [hb.cell (a := ⟨g, k, none⟩) h.2.2 h1 h2]; exact h.1 k, fun k => by rw [hb.frozen (a := ⟨g, k, none⟩) h.2.2 h1 h2]; exact h.2.1 k, Nat.lt_of_lt_of_le h.2.2 hb.size⟩
theorem O5.up {w w' : World} {g : Nat} {vl : Value} (h : O5 w g vl) (hb : Below w.heap.size w w') : O5 w' g vl := h.held (p := w.heap.size) (r := w.heap.size) (Held.of_below hb) (Nat.ne_of_lt h.2.2) (Nat.ne_of_lt h.2.2)
theorem Ps.rem {q : Bool} {w0 w : World} {pp lp cp : Nat} {b s : List UInt8} {i : Nat} (h : Ps q w0 w pp lp cp b i s) : remOf w cp = s.length := by
  obtain ⟨m, v, hL⟩ := h.lx; exact hL.rem

theorem held_grown {w w' : World} {row : Option Nat} (hg : w.grownBy w' row) : ∃ g, (row = Option.none ∨ row = Option.some g) ∧ Held w.heap.size g g w w' := by
  cases row with
  | none => exact ⟨0, .inl rfl, ⟨hg.os, hg.tape, hg.output, hg.size, fun k hk _ _ => hg.block k hk (by simp)⟩⟩
  | some g => exact ⟨g, .inr rfl, ⟨hg.os, hg.tape, hg.output, hg.size, fun k hk h1 _ => hg.block k hk (by simp; omega)⟩⟩
theorem O5.grown {w w' : World} {g : Nat} {vl : Value} {row : Option Nat} (h : O5 w g vl) (hg : w.grownBy w' row) (hr : row ≠ Option.some g) : O5 w' g vl :=
  ⟨fun k => by rw [World.cell?_of_block (w := w) (hg.block g h.2.2 hr.symm)]; exact h.1 k, fun k => by rw [World.frozen?_of_block (w := w) (hg.block g h.2.2 hr.symm)]; exact h.2.1 k, Nat.lt_of_lt_of_le h.2.2 hg.size⟩
theorem Z5.grown {w w' : World} {g : Nat} {row : Option Nat} (h : Z5 w g) (hg : w.grownBy w' row) (hr : row ≠ Option.some g) : Z5 w' g :=
  ⟨fun k => by rw [World.cell?_of_block (w := w) (hg.block g h.2.2 hr.symm)]; exact h.1 k, fun k => by rw [World.frozen?_of_block (w := w) (hg.block g h.2.2 hr.symm)]; exact h.2.1 k, Nat.lt_of_lt_of_le h.2.2 hg.size⟩
theorem Ps.grow {q : Bool} {w0 w w' : World} {pp lp cp : Nat} {b s : List UInt8} {i : Nat} {row : Option Nat} (h : Ps q w0 w pp lp cp b i s) (hg : w.grownBy w' row) (hr : ∀ k, row = Option.some k → w0.heap.size ≤ k) : Ps q w0 w' pp lp cp b i s := by
  obtain ⟨m, v, hL⟩ := h.lx
  exact ⟨⟨m, v, hL.grow hg hr⟩, h.c0, h.c2, h.nl, h.nc⟩
theorem O5.set3 {w : World} {g : Nat} {vl v : Value} (h : O5 w g vl) : O5 (w.setCell ⟨g, 3, none⟩ v) g v := by
  have h3 := h.1 3
  refine ⟨fun k => ?_, fun k => ?_, by have := h.2.2; simp; omega⟩
  · by_cases hk : k = 3
    · subst hk; rw [cset h3]; rfl
    · rw [cset_ne (fun q => by injection q with _ q2; exact hk q2.symm), h.1 k]
      rcases k with _ | _ | _ | _ | _ | k
      · rfl
      · rfl
      · rfl
      · exact absurd rfl hk
      · rfl
      · rfl
  · have := h.2.1 k
    simpa using this

set_option maxHeartbeats 1600000 in
set_option maxRecDepth 100000 in
theorem array_of {q : Bool} {pp lp cp : Nat} {b : List UInt8} {d : Nat} (hd : d ≤ 28) (hv : ValueC q pp lp cp b d) : ArrayC q pp lp cp b d := by
  intro w i s h
  have hlo : lp < w.heap.size ∧ cp < w.heap.size := by
    obtain ⟨m, v, hL⟩ := h.lx
    obtain ⟨ao, cap, h1, h2⟩ := hL.lex
    exact ⟨h2.lp, h2.cp⟩
  obtain ⟨O1, hO1⟩ : ∃ o, o = Obj.cells #[.int .i64 0, .int .i64 0, .slice none 0 0, .slice none 0 0, .slice none 0 0] 34 := ⟨_, rfl⟩
  obtain ⟨O2, hO2⟩ : ∃ o, o = Obj.cells #[.int .i64 6, .int .i64 0, .slice none 0 0, .slice none 0 0, .slice none 0 0] 34 := ⟨_, rfl⟩
  have hP := (h.below (alb w O1)).below (alb _ O2)
  have hZ : Z5 ((w.alloc O1).alloc O2) w.heap.size := by subst hO1; exact (Z5.new w _).up (alb _ O2)
  have hO : O5 ((w.alloc O1).alloc O2) (w.heap.size + 1) (.slice none 0 0) := by subst hO2; exact O5.new _ _ (by simp) _
  have hG : GotO ((w.alloc O1).alloc O2) (w.heap.size + 2) (.slice none 0 0) [] (fun _ => []) := GotO.nil _ _ _
  subst hO1 hO2
  go_enter Tryz.func97, Tryz.ntmps97
  go_wp2
  go_loopw [7, 8, 9, 10] (fun _ _ _ _ wr => ∃ acc : List PO, ∃ vl : Value, ∃ c : Nat → List Value, ∃ p : Nat, ∃ t : List UInt8, Ps q w wr pp lp cp b p t ∧ Z5 wr w.heap.size ∧ O5 wr (w.heap.size + 1) vl ∧ GotO wr (w.heap.size + 2) vl acc c ∧ acc.length + t.length ≤ s.length ∧ ∀ res, PV q (.a d acc) t res → PV q (.a d []) s res) (fun _ _ _ _ wr => remOf wr cp)
  case atStart => exact ⟨[], _, _, _, _, hP, hZ, hO, hG, by simp, fun _ h => h⟩
  case round =>
    have hsl : s.length ≤ 4000000 := by have := h.at_; have := h.sm; omega
    clear hP hZ hO hG h
    obtain ⟨acc, vl, c, p, t, hP, hZ, hO, hG, hal, hback⟩ := hrel
    have hat := hid hP.at_
    have hdr := hid hP.drp
    have hbl := bl_le t false
    have hpl : p + bl t false ≤ b.length := by have := hat.out; omega
    have hdp : b.drop (p + bl t false) = t.drop (bl t false) := by rw [← hP.drp, List.drop_drop]
    obtain ⟨aol, capl, hvl⟩ : ∃ ao cap, vl = .slice ao acc.length cap := by
      rcases hG.row.2 with ⟨h1, h2⟩ | ⟨g, cap, cur, h1, _⟩
      · exact ⟨none, 0, by rw [h1, h2]⟩
      · exact ⟨_, cap, h1⟩
    subst hvl
    have p0 := hP.p0
    have l0 := hP.l0
    have zp := World.block_lt_of_cell? _ _ p0
    have zl := World.block_lt_of_cell? _ _ l0
    have hrm := hid hP.rem
    have hBK := hid hback
    clear hback
    cases hT : TK t with
    | bad x =>
      have bx := TK_err hT
      have T1 := hid hT
      have hpv := hid (PV.a_bad (q := q) (d := d) (acc := acc) hT)
      clear hT
      generalize hpa : p + bl t false = pa at hpl hdp
      have HPA := hid hpa
      have HD := hid hdp
      clear hpa hdp hbl
      go_wp2_with (first | (go_at_call 38; obtain ⟨m0, v0, hL⟩ := hP.lx; refine (pos_l hL).mono ?_; rintro e w1 ⟨rfl, rfl⟩) | (go_at_call 39; obtain ⟨m0, v0, hL⟩ := hP.lx; (with_reducible refine (token_q (TK_good _) hL.fresh).mono ?_); rw [T1.out, HPA.out]; rintro e w3 ⟨rfl, m3, v3, u3, o3, hL3⟩; have hP := hP.step hL3; have hZ := hZ.held hL3.held (by omega) (by omega); have hO := hO.held hL3.held (by omega) (by omega); have hG := hG.held hL3.held (by omega) (by omega); have p0 := hP.p0; have l0 := hP.l0; have zp := World.block_lt_of_cell? _ _ p0; have zl := World.block_lt_of_cell? _ _ l0; obtain ⟨rc, rf, rs⟩ := id hZ; obtain ⟨oc, of_, os⟩ := id hO))
      obtain ⟨k0, k1, k2, k3, k4⟩ := set5_cells (a := .int .i64 0) (b := .int .i64 0) (c := .slice none 0 0) (d := .slice none 0 0) (e := .slice none 0 0) hZ.five
      have hh := set5_held w3 w3.heap.size w.heap.size (.int .i64 0) (.int .i64 0) (.slice none 0 0) (.slice none 0 0) (.slice none 0 0)
      have hP5 := hP.off hh (Nat.le_refl _)
      have k0 := cell_up' (alb _ (.cells #[.int .i64 0, .int .i64 pa, .int .i64 0, .slice none 0 0] 85)) k0
      have k1 := cell_up' (alb _ (.cells #[.int .i64 0, .int .i64 pa, .int .i64 0, .slice none 0 0] 85)) k1
      have k2 := cell_up' (alb _ (.cells #[.int .i64 0, .int .i64 pa, .int .i64 0, .slice none 0 0] 85)) k2
      have k3 := cell_up' (alb _ (.cells #[.int .i64 0, .int .i64 pa, .int .i64 0, .slice none 0 0] 85)) k3
      have k4 := cell_up' (alb _ (.cells #[.int .i64 0, .int .i64 pa, .int .i64 0, .slice none 0 0] 85)) k4
      rw [HD.out] at hP5
      exact bodyPost_ret (v := .tuple #[.agg #[.int .i64 0, .int .i64 0, .slice none 0 0, .slice none 0 0, .slice none 0 0], .int .i64 x]) (by simp [results, Tryz.results97, go_sem, k0, k1, k2, k3, k4]) rfl ⟨_, hBK.out _ hpv.out, rfl, _, hP5.below (alb _ _)⟩
    | tok k n out r =>
      by_cases hk : k = 6
      · subst hk
        have T1 := hid hT
        have hpv := hid (PV.a_close (q := q) (d := d) (acc := acc) hT)
        clear hT
        generalize hpa : p + bl t false = pa at hpl hdp
        have HPA := hid hpa
        have HD := hid hdp
        clear hpa hdp hbl
        go_wp2_with (first | (go_at_call 38; obtain ⟨m0, v0, hL⟩ := hP.lx; refine (pos_l hL).mono ?_; rintro e w1 ⟨rfl, rfl⟩) | (go_at_call 39; obtain ⟨m0, v0, hL⟩ := hP.lx; (with_reducible refine (token_q (TK_good _) hL.fresh).mono ?_); rw [T1.out, HPA.out]; rintro e w3 ⟨u3, rfl, j3, m3, v3, hL3⟩; obtain ⟨ao3, cap3, rfl, -, -, -⟩ := Rd.own hL3.row; have hP := hP.step hL3; have hZ := hZ.held hL3.held (by omega) (by omega); have hO := hO.held hL3.held (by omega) (by omega); have hG := hG.held hL3.held (by omega) (by omega); have p0 := hP.p0; have l0 := hP.l0; have zp := World.block_lt_of_cell? _ _ p0; have zl := World.block_lt_of_cell? _ _ l0; obtain ⟨rc, rf, rs⟩ := id hZ; obtain ⟨oc, of_, os⟩ := id hO))
        obtain ⟨k0, k1, k2, k3, k4⟩ := set5_cells (a := .int .i64 6) (b := .int .i64 0) (c := .slice none 0 0) (d := .slice aol acc.length capl) (e := .slice none 0 0) hZ.five
        have hh := set5_held w3 w3.heap.size w.heap.size (.int .i64 6) (.int .i64 0) (.slice none 0 0) (.slice aol acc.length capl) (.slice none 0 0)
        have hP5 := hP.off hh (Nat.le_refl _)
        have k0 := cell_up' (alb _ (.cells #[.int .i64 6, .int .i64 pa, .int .i64 n, .slice ao3 out.length cap3] 85)) k0
        have k1 := cell_up' (alb _ (.cells #[.int .i64 6, .int .i64 pa, .int .i64 n, .slice ao3 out.length cap3] 85)) k1
        have k2 := cell_up' (alb _ (.cells #[.int .i64 6, .int .i64 pa, .int .i64 n, .slice ao3 out.length cap3] 85)) k2
        have k3 := cell_up' (alb _ (.cells #[.int .i64 6, .int .i64 pa, .int .i64 n, .slice ao3 out.length cap3] 85)) k3
        have k4 := cell_up' (alb _ (.cells #[.int .i64 6, .int .i64 pa, .int .i64 n, .slice ao3 out.length cap3] 85)) k4
        have hov := (hG.arr (by omega)).keep (B := fun g => w.heap.size ≤ g ∧ g < ((set5 w3 w.heap.size (.int .i64 6) (.int .i64 0) (.slice none 0 0) (.slice aol acc.length capl) (.slice none 0 0)).alloc (.cells #[.int .i64 6, .int .i64 pa, .int .i64 n, .slice ao3 out.length cap3] 85)).heap.size) (w' := (set5 w3 w.heap.size (.int .i64 6) (.int .i64 0) (.slice none 0 0) (.slice aol acc.length capl) (.slice none 0 0)).alloc (.cells #[.int .i64 6, .int .i64 pa, .int .i64 n, .slice ao3 out.length cap3] 85)) (fun g hg => ⟨by have := hg.1; omega, Nat.lt_of_lt_of_le hg.2 (Nat.le_trans hh.size (alb _ _).size)⟩) (fun g hg hlt => ((alb _ (.cells #[.int .i64 6, .int .i64 pa, .int .i64 n, .slice ao3 out.length cap3] 85)).block g (Nat.lt_of_lt_of_le hlt hh.size)).trans (hh.block g hlt (by have := hg.1; omega) (by have := hg.1; omega)))
        exact bodyPost_ret (v := .tuple #[.agg #[.int .i64 6, .int .i64 0, .slice none 0 0, .slice aol acc.length capl, .slice none 0 0], .int .i64 0]) (by simp [results, Tryz.results97, go_sem, k0, k1, k2, k3, k4]) rfl ⟨_, hBK.out _ hpv.out, _, rfl, hov, _, hP5.below (alb _ _)⟩
      · have bk : (k == 6) = false := by simp [hk]
        have T1 := hid hT
        have HK := hid hk
        clear hT hk
        generalize hpa : p + bl t false = pa at hpl hdp
        have HPA := hid hpa
        have HD := hid hdp
        clear hpa hdp hbl
        go_wp2_with (first | (go_at_call 38; obtain ⟨m0, v0, hL⟩ := hP.lx; refine (pos_l hL).mono ?_; rintro e w1 ⟨rfl, rfl⟩) | (go_at_call 39; obtain ⟨m0, v0, hL⟩ := hP.lx; (with_reducible refine (token_q (TK_good _) hL.fresh).mono ?_); rw [T1.out, HPA.out]; rintro e w3 ⟨u3, rfl, j3, m3, v3, hL3⟩; obtain ⟨ao3, cap3, rfl, -, -, -⟩ := Rd.own hL3.row; have hP := hP.step hL3; have hZ := hZ.held hL3.held (by omega) (by omega); have hO := hO.held hL3.held (by omega) (by omega); have hG := hG.held hL3.held (by omega) (by omega); have p0 := hP.p0; have l0 := hP.l0; have zp := World.block_lt_of_cell? _ _ p0; have zl := World.block_lt_of_cell? _ _ l0; obtain ⟨rc, rf, rs⟩ := id hZ; obtain ⟨oc, of_, os⟩ := id hO) | (go_at_call 42; obtain ⟨m0, v0, hL⟩ := hP.lx; refine (seek_l p _ rfl (by have := hat.out; omega) (hL.below (alb _ _)).fresh).mono ?_; rw [hdr.out]; rintro e w4 ⟨rfl, hL4⟩; have hP := (hP.below (alb _ _)).step hL4; have hZ := (hZ.up (alb _ _)).held hL4.held (by omega) (by omega); have hO := (hO.up (alb _ _)).held hL4.held (by omega) (by omega); have hG := (hG.up (alb _ _)).held hL4.held (by omega) (by omega); have p0 := hP.p0; have l0 := hP.l0; have zp := World.block_lt_of_cell? _ _ p0; have zl := World.block_lt_of_cell? _ _ l0; obtain ⟨rc, rf, rs⟩ := id hZ; obtain ⟨oc, of_, os⟩ := id hO) | (go_at_call 66; refine (hv _ _ t hP.fresh).mono ?_; rintro e w5 ⟨res, hpv, hvq⟩; have hfit := hpv.fit; have hrow4 := World.ownsRow.lt hG.row; have os4 := os; rcases res with ⟨x9, t9⟩ | ⟨o9, t9⟩; rotate_left; (obtain ⟨vs, rfl, hov, j9, hPs⟩ := hvq; have hP := hP.join hPs; have hZ := hZ.held hPs.held (by omega) (by omega); have hO := hO.held hPs.held (by omega) (by omega); have hG := hG.held hPs.held (by omega) (by omega); have p0 := hP.p0; have l0 := hP.l0; have zp := World.block_lt_of_cell? _ _ p0; have zl := World.block_lt_of_cell? _ _ l0; obtain ⟨rc, rf, rs⟩ := id hZ; obtain ⟨oc, of_, os⟩ := id hO; have hov2 := hov; obtain ⟨k9, n9, vb, vx, vd, b9, l9, d9, cl, cd, hb, hl, hl9, hd9, hk9, hd9', hz9⟩ := hov; obtain ⟨⟨aob, capb, rfl, -, -, -, -⟩, -⟩ := id hb; obtain ⟨aox, capx, rfl, -⟩ := id hl; obtain ⟨aod, capd, rfl, -⟩ := id hd9); rotate_left; (obtain ⟨rfl, j9, hPs⟩ := hvq; have bx : (x9 == 0) = false := hfit; have hP := hP.join hPs; have hZ := hZ.held hPs.held (by omega) (by omega); have hO := hO.held hPs.held (by omega) (by omega); have hG := hG.held hPs.held (by omega) (by omega); have p0 := hP.p0; have l0 := hP.l0; have zp := World.block_lt_of_cell? _ _ p0; have zl := World.block_lt_of_cell? _ _ l0; obtain ⟨rc, rf, rs⟩ := id hZ; obtain ⟨oc, of_, os⟩ := id hO)) | (at_builtin; refine wpList_append_row rfl _ _ 25 rfl (w.heap.size + 2) 34 (.agg #[.int .i64 0, .int .i64 0, .slice none 0 0, .slice none 0 0, .slice none 0 0]) 5 88 (by kernel_rfl) (by kernel_rfl) rfl (by decide) (.slice aol acc.length capl) acc.length (flatC c acc.length) rfl (hG.up (below_then (alb _ _) (alb _ _))).row _ 1 1 [.int .i64 k9, .int .i64 n9, .slice aob b9.length capb, .slice aox l9.length capx, .slice aod d9.length capd] rfl rfl (news_cells _ _ (by simp) _ _) (by intro u hu; simp at hu; rcases hu with rfl | rfl | rfl | rfl | rfl <;> rfl) (by unfold maxLen; omega) (by omega) (by simp; omega) ?_; intro v' w8 q1 q2 q3; obtain ⟨ao8, cap8, rfl⟩ := (show ∃ ao cap, v' = .slice ao (acc.length + 1) cap by rcases q1.2 with ⟨z1, z2⟩ | ⟨g, cap, cur, z1, _⟩; exact absurd z2 (by omega); exact ⟨_, cap, z1⟩); have hBW : Below w5.heap.size w5 ((w5.alloc (.cells #[.int .i64 k9, .int .i64 n9, .slice aob b9.length capb, .slice aox l9.length capx, .slice aod d9.length capd] 34)).alloc (.cells #[.int .i64 k9, .int .i64 n9, .slice aob b9.length capb, .slice aox l9.length capx, .slice aod d9.length capd] 34)) := below_then (alb _ _) (alb _ _); have hO8 := (hO.up hBW).grown q2 (fun z => by have := (hrow4 _ z).1; omega); have hZ8 := (hZ.up hBW).grown q2 (fun z => by have := (hrow4 _ z).1; omega); have hP8 := (hP.below hBW).grow q2 (fun z hz => by have := (hrow4 _ hz).1; omega); obtain ⟨oc, of_, os⟩ := id hO8))
        · obtain ⟨k0, k1, k2, k3, k4⟩ := set5_cells (a := .int .i64 0) (b := .int .i64 0) (c := .slice none 0 0) (d := .slice none 0 0) (e := .slice none 0 0) hZ.five
          have hh := set5_held w5 w5.heap.size w.heap.size (.int .i64 0) (.int .i64 0) (.slice none 0 0) (.slice none 0 0) (.slice none 0 0)
          have hP5 := hP.off hh (Nat.le_refl _)
          have k0 := cell_up' (alb _ (.cells #[.int .i64 0, .int .i64 0, .slice none 0 0, .slice none 0 0, .slice none 0 0] 34)) k0
          have k1 := cell_up' (alb _ (.cells #[.int .i64 0, .int .i64 0, .slice none 0 0, .slice none 0 0, .slice none 0 0] 34)) k1
          have k2 := cell_up' (alb _ (.cells #[.int .i64 0, .int .i64 0, .slice none 0 0, .slice none 0 0, .slice none 0 0] 34)) k2
          have k3 := cell_up' (alb _ (.cells #[.int .i64 0, .int .i64 0, .slice none 0 0, .slice none 0 0, .slice none 0 0] 34)) k3
          have k4 := cell_up' (alb _ (.cells #[.int .i64 0, .int .i64 0, .slice none 0 0, .slice none 0 0, .slice none 0 0] 34)) k4
          exact bodyPost_ret (v := .tuple #[.agg #[.int .i64 0, .int .i64 0, .slice none 0 0, .slice none 0 0, .slice none 0 0], .int .i64 x9]) (by simp [results, Tryz.results97, go_sem, k0, k1, k2, k3, k4]) rfl ⟨_, hBK.out _ (PV.a_stop T1.out HK.out hpv), rfl, _, hP5.below (alb _ _)⟩
        · have hx := hov2.keep (B := fun g => w.heap.size + 2 ≤ g ∧ g < ((w5.alloc (.cells #[.int .i64 k9, .int .i64 n9, .slice aob b9.length capb, .slice aox l9.length capx, .slice aod d9.length capd] 34)).alloc (.cells #[.int .i64 k9, .int .i64 n9, .slice aob b9.length capb, .slice aox l9.length capx, .slice aod d9.length capd] 34)).heap.size ∧ (.slice aol acc.length capl : Value).ownBlock ≠ some g) (w' := (w5.alloc (.cells #[.int .i64 k9, .int .i64 n9, .slice aob b9.length capb, .slice aox l9.length capx, .slice aod d9.length capd] 34)).alloc (.cells #[.int .i64 k9, .int .i64 n9, .slice aob b9.length capb, .slice aox l9.length capx, .slice aod d9.length capd] 34)) (fun g hg => ⟨by have := hg.1; omega, Nat.lt_of_lt_of_le hg.2 hBW.size, fun z => by have := (hrow4 _ z).2; have := hg.1; omega⟩) (fun g _ hlt => hBW.block g hlt)
          have hS := fun B => Held.set (B := B) (p := w.heap.size + 1) (q := w.heap.size + 1) w8 ⟨w.heap.size + 1, 3, none⟩ (.slice ao8 (acc.length + 1) cap8) (.inl rfl)
          have hG9 := ((hG.up hBW).push q1 q2 q3 hx).held (hS _) (by omega) (by omega)
          have hP9 := hP8.off (hS _) (by omega)
          have hZ9 := hZ8.held (hS _) (by omega) (by omega)
          have hO9 := hO8.set3 (v := .slice ao8 (acc.length + 1) cap8)
          have hf : t9.length < t.length := hfit
          go_roundw
          case rel => exact ⟨_, _, _, _, _, hP9, hZ9, hO9, hG9, by rw [List.length_append, List.length_singleton]; omega, fun res hr => hBK.out _ (PV.a_step T1.out HK.out hpv hr)⟩
          case measure => rw [hP9.rem, hrm.out]; exact hf
end Go.Proofs.YtjkoiknjffldjaaGreatDoor
