/-
  What ContentBack's loops keep: the bytes so far, the operators that are wanted. No walk here.
-/
import Derived.Test.YtjkoiknjffldjaaGreatDoorKOz
import Derived.Test.YtjkoiknjffldjaaGreatDoorJe
import Derived.Test.YtjkoiknjffldjaaGreatDoorHi
import Derived.Test.YtjkoiknjffldjaaGreatDoorHb
import Derived.Test.YtjkoiknjffldjaaGreatDoorKSz
import Derived.Test.YtjkoiknjffldjaaGreatDoorKMae
import Derived.Test.YtjkoiknjffldjaaGreatDoorHc
import Derived.Test.YtjkoiknjffldjaaGreatDoorKLift
import Derived.Test.YtjkoiknjffldjaaGreatDoorKRset
import Derived.Test.YtjkoiknjffldjaaGreatDoorKCen
import Derived.Test.YtjkoiknjffldjaaGreatDoorKSop
import Derived.Test.YtjkoiknjffldjaaGreatDoorJb
/-
  append where there is no room: a row of bytes that is full, whatever its mark. Conditions: as each says.
-/
namespace Go.Proofs.YtjkoiknjffldjaaGreatDoor
open Go.RowKit
set_option linter.unusedVariables false

theorem OwnB.down {w : World} {B B' : Nat} {e : TypeId} {v : Value} {l : List UInt8} (h : OwnB w B e v l) (hB : B' ≤ B) : OwnB w B' e v l := ⟨h.1, by
  rcases h.2 with h2 | ⟨g, cap, cur, hv, hg, hh⟩
  · exact .inl h2
  · exact .inr ⟨g, cap, cur, hv, Nat.le_trans hB hg, hh⟩⟩
theorem rd_cells {w : World} {g off : Nat} {l : List UInt8} (h : Rd w (some ⟨g, off, none⟩) l) : ∀ j u, (l.map bv)[j]? = some u → w.cell? ((⟨g, off, none⟩ : Addr).add j) = some u := by
  intro j u hj
  rw [List.getElem?_map] at hj
  by_cases hlt : j < l.length
  · obtain ⟨b, o, h1, _, h2⟩ := h.some (by omega)
    cases h1
    have := h2 j hlt
    simp only [List.getElem?_eq_getElem hlt, Option.map_some, Option.some.injEq] at hj
    subst hj
    rw [adde]; simpa [bv, b8, List.getD, hlt] using this
  · simp [List.getElem?_eq_none (Nat.le_of_not_lt hlt)] at hj
theorem grown_below {w w' : World} (h : w.grownBy w' none) : Below w.heap.size w w' := ⟨h.os, h.tape, h.output, h.size, fun g hg => h.block g hg (by simp)⟩
section
variable {P : Program} {w : World} {ops : Array Oper} {rest : List Oper} {o : Oper} {a : Act} {Q : Exit → Act → World → Prop} {t e : TypeId}
theorem wpList_append_full (T : BytesTy P t e) (hgd : o.guard = none) (s x : Operand)
    (ho : o.op = .call { callee := .builtin .append, args := #[s, x], argTypes := #[t, t] })
    (g off : Nat) (l m : List UInt8) (n : Nat) (hs : a.eval s = .slice (some ⟨g, off, none⟩) n n) (hnl : n = l.length) (hl : Rd w (some ⟨g, off, none⟩) l)
    (ao : Option Addr) (k c : Nat) (hx : a.eval x = .slice ao k c) (hk : k = m.length) (hm : Rd w ao m) (h0 : 0 < m.length)
    (hbytes : l.length + m.length ≤ 140737488355328)
    (h : ∀ v' w', OwnB w' w.heap.size e v' (l ++ m) → Below w.heap.size w w' → wpList P ops Q rest (a.put o.dst v') w') : wpList P ops Q (o :: rest) a w := by
  subst hnl
  subst hk
  obtain ⟨i, hi, hz, hsize, hby⟩ := info_parts T.elem
  obtain ⟨b2, o2, rfl, -, -⟩ := hm.some h0
  refine wpList_append_grows w hgd s x t ho e i (.int .u8 0) 1 1 T.under hi hz hsize hby rfl (by decide) (some ⟨g, off, none⟩) l.length l.length (l.map bv) hs (fun q => by cases q) (by simp) (fun b hb => by cases hb; exact rd_cells hl) ⟨b2, o2, none⟩ m.length c (m.map bv) hx (by simp) (rd_cells hm) ?_ (by omega) (by unfold maxLen; omega) (by omega) ?_
  · intro u hu
    simp only [List.mem_map] at hu
    obtain ⟨y, _, rfl⟩ := hu
    rfl
  · intro v' w' h1 h2
    refine h v' w' ?_ (grown_below h2)
    have h3 := h1
    rw [← List.map_append, ← List.length_append] at h3
    exact h3
theorem wpList_append_fullS (T : BytesTy P t e) (hgd : o.guard = none) (s x : Operand) (u : TypeId) (hu : P.underlying u = some .string)
    (ho : o.op = .call { callee := .builtin .append, args := #[s, x], argTypes := #[t, u] })
    (g off : Nat) (l m : List UInt8) (n : Nat) (hs : a.eval s = .slice (some ⟨g, off, none⟩) n n) (hnl : n = l.length) (hl : Rd w (some ⟨g, off, none⟩) l)
    (hx : a.eval x = .string (st m)) (h0 : 0 < m.length)
    (hbytes : l.length + m.length ≤ 140737488355328)
    (h : ∀ v' w', OwnB w' w.heap.size e v' (l ++ m) → Below w.heap.size w w' → wpList P ops Q rest (a.put o.dst v') w') : wpList P ops Q (o :: rest) a w := by
  subst hnl
  obtain ⟨i, hi, hz, hsize, hby⟩ := info_parts T.elem
  have hzm := st_size m
  refine wpList_plain hgd fun K hK => ?_
  have hg : l.length < l.length + (st m).size := by omega
  have hge := grownCap_ge w (l.length + (st m).size) l.length e
  have hcm : grownCap w (l.length + (st m).size) l.length e ≤ maxLen := grownCap_le_maxLen w (l.length + (st m).size) l.length e (by unfold maxLen; omega)
  have hr := Lib.run_append_grow_string (P := P) (w := w) t u o.type e i (.int .u8 0) T.under hu hi hz ⟨g, off, none⟩ l.length l.length (l.map bv) (by rw [hsize]; simp) (rd_cells hl) (st m) hg (by omega) (growslice_fits hg (by rw [hby]; omega))
  unfold Oper.wp execOp
  simp only [ho, resolve, invoke, builtin, Sem.run_bind, Sem.run_pure, Result.andThen_ok, List.map_toArray, List.map_cons, List.map_nil, hs, hx, hr]
  refine hK _ _ (h _ _ ?_ ?_)
  · have hml : (l ++ m).length = l.length + (st m).size := by rw [List.length_append, hzm]
    have hsc : (l ++ m).map bv = l.map bv ++ Lib.strCells (st m) := by
      rw [List.map_append]; rfl
    have hz1 : (Value.int IntKind.u8 0).cells.size = 1 := rfl
    unfold OwnB
    rw [hml, hsc]
    refine ⟨by rw [List.length_append, List.length_map, Lib.strCells_length]; omega, .inr ⟨w.heap.size, _, _, rfl, Nat.le_refl _, heap_alloc_new w.drew _, hge, hcm, ?_, ?_⟩⟩
    · simp only [Array.size_append, List.size_toArray, size_zeroCells, hz1, List.length_map, Lib.strCells_length]
      omega
    · simp only [Array.toList_append, List.append_assoc]
      have hlen : (l.map bv ++ Lib.strCells (st m)).length = (l.length + (st m).size) * 1 := by rw [List.length_append, List.length_map, Lib.strCells_length]; omega
      rw [← List.append_assoc, ← hlen]
      exact List.take_left
  · exact below_then (below_drewN (Below.refl w.heap.size w) 1) (alb _ _)
end
end Go.Proofs.YtjkoiknjffldjaaGreatDoor

/-
  The document's show: an object as it is printed. Condition: the object may be, and holds no more than two millions.
-/
namespace Go.Proofs.YtjkoiknjffldjaaGreatDoor
open Go.RowKit
set_option linter.unusedVariables false

def ShwQ (w : World) (l : List UInt8) (e : Ending) (w' : World) : Prop := ∃ v, e = .returned v ∧ Sl w' v l ∧ Below w.heap.size w w'
def ShwC (dp : Nat) : Prop := ∀ (o : PO) (vs : List Value) (w : World), GV w vs o → mayF dp o = true → szF dp o ≤ 2000000 → Calls Tryz.prog 19 #[.agg vs.toArray] w (ShwQ w (shwF dp o))

theorem Sl.litMg (w : World) (vs : Array Value) (l : List UInt8) (n m g : Nat) (e : TypeId) (fr : Nat × Nat) (hg : g = w.heap.size) (h : vs = (l.map bv).toArray) (hn : n = l.length) (hl : l.length ≤ 4000000) (hm : m = n := by rfl) : Sl (w.alloc (.cells vs e fr)) (.slice (Option.some ⟨g, 0, none⟩) n m) l := by
  subst hg; subst hm; exact Sl.litM w vs l _ e fr h hn hl
theorem conv_slm (w : World) (e : TypeId) (s : List UInt8) (g m : Nat) (hg : g = w.heap.size) (hm : m = s.length) (hs : s.length ≤ reachBytes) : Sl (convW w e s) (.slice (Option.some ⟨g, 0, none⟩) m (convC w e s)) s := by
  subst hm; exact conv_sl w e s g hg hs

set_option maxHeartbeats 3200000 in
set_option maxRecDepth 100000 in
theorem show_flat (f : PO → List UInt8) (fp : Option (PO → Bool)) {w : World} {vs : List Value} {k n : Int} {b : List UInt8} {l : List PO} {d : List (List UInt8 × PO)} (hgv : GV w vs (.mk k n b l d)) (hm : mayS fp (.mk k n b l d) = true) (h6 : ¬ k = 6) (h7 : ¬ k = 7) (h8 : ¬ k = 8) :
    Calls Tryz.prog 19 #[.agg vs.toArray] w (ShwQ w (shwS f (.mk k n b l d))) := by
  have kc := fun (w : World) (C : Array Value) (n c : Nat) => Lib.run_convert_bytes_const (P := Tryz.prog) w 24 5 C n c Tryz.underlying24 Tryz.underlying5
  have kb := fun (w : World) (s : List UInt8) => convW_run (P := Tryz.prog) 9 24 5 (by kernel_rfl) Tryz.underlying24 Tryz.underlying5 w s
  have kc1 : ∀ (X : Obj) (C : Array Value) (n c : Nat), (convert 24 24 (.slice (some ⟨w.heap.size + 1, 0, none⟩) n c)).run Tryz.prog ((w.alloc X).alloc (.cells C 5)) = .ok (.slice (some ⟨w.heap.size + 1, 0, none⟩) n c) ((w.alloc X).alloc (.cells C 5 (C.size, C.size + 1))) := by
    intro X C n c
    have h := kc (w.alloc X) C n c
    have e : (w.alloc X).heap.size = w.heap.size + 1 := by simp
    rw [e] at h
    exact h
  clear kc
  cases hgv with
  | mk k n vb vl vd b l d Cl Cd hk hb hbz hl hle hlz hl' hd hde hdz hk' hd' =>
  obtain ⟨ab, cb, rfl, -⟩ := id hb
  obtain ⟨al, cl, rfl, -⟩ := id hl
  obtain ⟨ad, cd, rfl, -⟩ := id hd
  clear hl hd hl' hk' hd' hk hle hde hbz hlz hdz
  unfold mayS at hm
  rw [Bool.and_eq_true] at hm
  have hc := hm.2
  clear hm
  have HB := hid hb
  clear hb
  unfold ShwQ
  by_cases k1 : k = 1
  · subst k1
    rw [if_pos rfl] at hc
    by_cases n1 : n = 1
    · subst n1
      have HE := hid (show shwS f (.mk 1 1 b l d) = bTrue from by unfold shwS; simp)
      rw [HE.out]
      clear hc
      have kx := kc1 (.cells #[.int .i64 1, .int .i64 1, .slice ab b.length cb, .slice al Cl.length cl, .slice ad Cd.length cd] 34)
      go_enter Tryz.func19, Tryz.ntmps19
      go_wp2
      go_ret
      exact ⟨_, rfl, Sl.litMg _ _ bTrue _ _ _ _ _ (by simp) rfl rfl (by decide), below_then (alb1 w (.cells #[.int .i64 1, .int .i64 1, .slice ab b.length cb, .slice al Cl.length cl, .slice ad Cd.length cd] 34)) (alb1 _ _)⟩
    · have n0 : n = 0 := by simpa [n1] using hc
      subst n0
      have HE := hid (show shwS f (.mk 1 0 b l d) = bFalse from by unfold shwS; simp)
      rw [HE.out]
      clear hc
      have kx := kc1 (.cells #[.int .i64 1, .int .i64 0, .slice ab b.length cb, .slice al Cl.length cl, .slice ad Cd.length cd] 34)
      go_enter Tryz.func19, Tryz.ntmps19
      go_wp2
      go_ret
      exact ⟨_, rfl, Sl.litMg _ _ bFalse _ _ _ _ _ (by simp) rfl rfl (by decide), below_then (alb1 w (.cells #[.int .i64 1, .int .i64 0, .slice ab b.length cb, .slice al Cl.length cl, .slice ad Cd.length cd] 34)) (alb1 _ _)⟩
  by_cases k2 : k = 2
  · subst k2
    rw [if_neg (by decide), if_pos rfl] at hc
    simp only [Bool.and_eq_true, decide_eq_true_eq] at hc
    have hz : (pnum true n).length ≤ 40 := by have := pnum_len true n; omega
    have HE := hid (show shwS f (.mk 2 n b l d) = pnum true n from by unfold shwS; simp)
    rw [HE.out]
    go_enter Tryz.func19, Tryz.ntmps19
    go_wp2_with (first | (go_at_call 31; refine (text_any n true _ (by omega) (by omega)).mono ?_; rintro e w2 ⟨rfl, hb2⟩))
    go_ret
    exact ⟨_, rfl, conv_sl _ _ _ _ rfl (by unfold reachBytes; omega), below_then (below_then (alb1 w (.cells #[.int .i64 2, .int .i64 n, .slice ab b.length cb, .slice al Cl.length cl, .slice ad Cd.length cd] 34)) hb2) (convW_below _ _ _)⟩
  by_cases k3 : k = 3
  · subst k3
    rw [if_neg (by decide), if_neg (by decide), if_pos rfl] at hc
    simp only [Bool.and_eq_true, decide_eq_true_eq] at hc
    have hz : (pnum false n).length ≤ 40 := by have := pnum_len false n; omega
    have HE := hid (show shwS f (.mk 3 n b l d) = pnum false n from by unfold shwS; simp)
    rw [HE.out]
    go_enter Tryz.func19, Tryz.ntmps19
    go_wp2_with (first | (go_at_call 31; refine (text_any n false _ (by omega) (by omega)).mono ?_; rintro e w2 ⟨rfl, hb2⟩))
    go_ret
    exact ⟨_, rfl, conv_sl _ _ _ _ rfl (by unfold reachBytes; omega), below_then (below_then (alb1 w (.cells #[.int .i64 3, .int .i64 n, .slice ab b.length cb, .slice al Cl.length cl, .slice ad Cd.length cd] 34)) hb2) (convW_below _ _ _)⟩
  by_cases k9 : k = 9
  · subst k9
    rw [if_neg (by decide), if_neg (by decide), if_neg (by decide), if_pos rfl] at hc
    simp only [Bool.and_eq_true, decide_eq_true_eq] at hc
    have hz : (pnum true n).length ≤ 40 := by have := pnum_len true n; omega
    have HE := hid (show shwS f (.mk 9 n b l d) = pnum true n ++ [32, 48, 32, 82] from by unfold shwS; simp)
    rw [HE.out]
    have ka : ∀ w : World, (Op.stringOp .add (st (pnum true n)) ⟨#[32, 48, 32, 82]⟩).run Tryz.prog w = .ok (.string (st (pnum true n ++ [32, 48, 32, 82]))) w := fun w => st_add (P := Tryz.prog) (pnum true n) [32, 48, 32, 82] (by simp; omega) w
    go_enter Tryz.func19, Tryz.ntmps19
    go_wp2_with (first | (go_at_call 31; refine (text_any n true _ (by omega) (by omega)).mono ?_; rintro e w2 ⟨rfl, hb2⟩))
    go_ret
    exact ⟨_, rfl, conv_slm _ _ (pnum true n ++ [32, 48, 32, 82]) _ _ rfl (by simp) (by rw [List.length_append]; simp; unfold reachBytes; omega), below_then (below_then (alb1 w (.cells #[.int .i64 9, .int .i64 n, .slice ab b.length cb, .slice al Cl.length cl, .slice ad Cd.length cd] 34)) hb2) (convW_below _ _ _)⟩
  rw [if_neg k1, if_neg k2, if_neg k3, if_neg k9] at hc
  by_cases n0 : ¬ n = 0
  · rw [if_pos n0] at hc; cases hc
  have n0 := Decidable.not_not.1 n0
  subst n0
  rw [if_neg (by decide)] at hc
  by_cases k4 : k = 4
  · subst k4
    rw [if_neg (by decide), if_pos rfl] at hc
    simp only [decide_eq_true_eq] at hc
    have HE := hid (show shwS f (.mk 4 0 b l d) = ptx b from by unfold shwS; simp)
    rw [HE.out]
    go_enter Tryz.func19, Tryz.ntmps19
    go_wp2_with (first | (go_at_call 32; refine (printtext_any _ b _ (HB.out.up (alb _ _)) (by omega)).mono ?_; rintro e w2 ⟨v2, rfl, hs2, hb2⟩))
    go_ret
    exact ⟨_, rfl, hs2, below_then (alb1 w (.cells #[.int .i64 4, .int .i64 0, .slice ab b.length cb, .slice al Cl.length cl, .slice ad Cd.length cd] 34)) hb2⟩
  by_cases k5 : k = 5
  · subst k5
    rw [if_neg (by decide), if_neg (by decide), if_pos rfl] at hc
    have hn : b.length ≤ 127 := by unfold nmOk at hc; simp only [Bool.and_eq_true, decide_eq_true_eq] at hc; exact hc.1
    have HE := hid (show shwS f (.mk 5 0 b l d) = 47 :: b.flatMap pn1 from by unfold shwS; simp)
    rw [HE.out]
    have hcv : ∀ o : Obj, (convert 24 9 (.slice ab b.length cb)).run Tryz.prog (w.alloc o) = .ok (.string (st b)) (w.alloc o) := fun o => sl_string (P := Tryz.prog) (w.alloc o) 24 9 5 Tryz.underlying24 (by kernel_rfl) (by kernel_rfl) _ _ (HB.out.up (alb _ _))
    go_enter Tryz.func19, Tryz.ntmps19
    go_wp2_with (first | (go_at_call 33; refine (printname_any b _ (by omega)).mono ?_; rintro e w2 ⟨v2, rfl, hs2, hb2⟩))
    go_ret
    exact ⟨_, rfl, Sl.own hs2, below_then (alb1 w (.cells #[.int .i64 5, .int .i64 0, .slice ab b.length cb, .slice al Cl.length cl, .slice ad Cd.length cd] 34)) hb2⟩
  by_cases k0 : k = 0
  · subst k0
    have HE := hid (show shwS f (.mk 0 0 b l d) = bNull from by unfold shwS; simp)
    rw [HE.out]
    clear hc
    have kx := kc1 (.cells #[.int .i64 0, .int .i64 0, .slice ab b.length cb, .slice al Cl.length cl, .slice ad Cd.length cd] 34)
    go_enter Tryz.func19, Tryz.ntmps19
    go_wp2
    go_ret
    exact ⟨_, rfl, Sl.litMg _ _ bNull _ _ _ _ _ (by simp) rfl rfl (by decide), below_then (alb1 w (.cells #[.int .i64 0, .int .i64 0, .slice ab b.length cb, .slice al Cl.length cl, .slice ad Cd.length cd] 34)) (alb1 _ _)⟩
  rw [if_neg k0, if_neg k4, if_neg k5, if_neg h6, if_neg (by omega)] at hc
  cases hc
end Go.Proofs.YtjkoiknjffldjaaGreatDoor

/-
  The document's show of arrays and dictionaries, of any object. Condition: the object may be, is no stream, and holds no more than two millions.
-/
namespace Go.Proofs.YtjkoiknjffldjaaGreatDoor
open Go.RowKit
set_option linter.unusedVariables false

/-- the items ahead of a place -/
def shwT (f : PO → List UInt8) (l : List PO) (i : Nat) : List UInt8 := shwA f (l.take i)
theorem shwT_one (f : PO → List UInt8) (l : List PO) (h : 0 < l.length) : shwT f l 1 = f l[0] := by
  cases l with
  | nil => cases h
  | cons x l => simp [shwT, shwA]
theorem shwT_more (f : PO → List UInt8) (l : List PO) (i : Nat) (h : i + 1 < l.length) : shwT f l (i + 2) = shwT f l (i + 1) ++ 32 :: f l[i + 1] := by
  cases l with
  | nil => cases h
  | cons x l =>
    have h2 : i < l.length := by simpa using h
    unfold shwT
    rw [List.take_succ_cons, List.take_succ_cons, shwA, shwA, List.take_succ_eq_append_getElem h2, List.flatMap_append, List.append_assoc]
    simp
theorem shwT_len (f : PO → List UInt8) (l : List PO) (i : Nat) : (shwT f l i).length ≤ (shwA f l).length := by
  unfold shwT
  cases l with
  | nil => simp
  | cons x l =>
    cases i with
    | zero => simp [shwA]
    | succ i =>
      rw [List.take_succ_cons, shwA, shwA]
      conv => rhs; rw [← List.take_append_drop i l]
      simp only [List.length_append, List.flatMap_append]
      omega
def IHs (f : PO → List UInt8) (M : PO → Prop) : Prop := ∀ (o : PO) (vs : List Value) (w : World), GV w vs o → M o → Calls Tryz.prog 19 #[.agg vs.toArray] w (ShwQ w (f o))

set_option maxHeartbeats 3200000 in
set_option maxRecDepth 100000 in
theorem show_arr (f : PO → List UInt8) (M : PO → Prop) (IH : IHs f M) {w : World} {vs : List Value} {n : Int} {b : List UInt8} {l : List PO} {d : List (List UInt8 × PO)} (hgv : GV w vs (.mk 6 n b l d)) (hM : ∀ x ∈ l, M x) (hz : (shwA f l).length ≤ 100000000) (hlf : ∀ x ∈ l, (f x).length ≤ 100000000) :
    Calls Tryz.prog 19 #[.agg vs.toArray] w (ShwQ w (91 :: (shwA f l ++ [93]))) := by
  cases hgv with
  | mk k n vb vl vd b l d Cl Cd hk hb hbz hl hle hlz hl' hd hde hdz hk' hd' =>
  obtain ⟨ab, cb, rfl, -⟩ := id hb
  obtain ⟨al, cl, rfl, -⟩ := id hl
  obtain ⟨ad, cd, rfl, -⟩ := id hd
  rw [hle] at hl ⊢
  rw [hde] at hd ⊢
  have HO := hid (C5.new w _ rfl [.int .i64 6, .int .i64 n, .slice ab b.length cb, .slice al l.length cl, .slice ad d.length cd] 34)
  have HB0 := hid (alb1 w (.cells #[.int .i64 6, .int .i64 n, .slice ab b.length cb, .slice al l.length cl, .slice ad d.length cd] 34))
  have HL := hid hl
  have HL2 := hid hl'
  have HI := hid IH
  have HM := hid hM
  have HZ := hid hz
  have HLF := hid hlf
  have hlm : l.length ≤ 9223372036854775807 := by unfold reachBytes at hlz; omega
  clear hb hl hd hl' hk' hd' hk IH hM hz hlf hbz hlz hdz
  have hws : w.heap.size ≤ (w.alloc (.cells #[.int .i64 6, .int .i64 n, .slice ab b.length cb, .slice al l.length cl, .slice ad d.length cd] 34)).heap.size := HB0.out.size
  have HO2 := hid (HO.out.up (alb (w.alloc (.cells #[.int .i64 6, .int .i64 n, .slice ab b.length cb, .slice al l.length cl, .slice ad d.length cd] 34)) (.cells #[.int .u8 91] 5)))
  unfold ShwQ
  go_enter Tryz.func19, Tryz.ntmps19
  go_wp2
  go_loopw [3, 4] (fun v s3 wr => ∃ i : Nat, s3 = .int .i64 i ∧ i ≤ l.length ∧ OwnB wr (w.heap.size + 1) 5 v (91 :: shwT f l i) ∧ Below w.heap.size w wr ∧ C5 wr w.heap.size [.int .i64 6, .int .i64 n, .slice ab b.length cb, .slice al l.length cl, .slice ad d.length cd]) (fun _ s3 _ => l.length - (intOf s3).toNat)
  case atStart =>
    exact ⟨0, rfl, Nat.zero_le _, OwnB.litg _ 91 91 _ _ _ (by decide) (by simp) (by simp), below_then HB0.out (alb _ _), HO2.out⟩
  case round =>
    obtain ⟨i, rfl, hi, hown, hB, hC⟩ := hrel
    by_cases hlt : i < l.length
    rotate_left
    · obtain rfl : i = l.length := by omega
      have hzi : ¬ (l.length : Int) < (l.length : Int) := by omega
      have HE := hid (show 91 :: (shwA f l ++ [93]) = 91 :: shwT f l l.length ++ [93] from by unfold shwT; rw [List.take_length]; simp)
      have hzl := HZ.out
      have hzt : (91 :: shwT f l l.length).length ≤ 100000001 := by have := shwT_len f l l.length; simp; omega
      generalize 91 :: shwT f l l.length = out at hown hzt HE
      obtain ⟨oc, of_, os⟩ := id hC
      go_wp2_with (at_builtin; refine wpList_append_bytes bytesTy rfl _ _ rfl (w.heap.size + 1) _ out [93] rfl (hown.up (alb _ _)) _ _ _ rfl rfl (fun q => by cases q) (Rd.byteM _ 93 _ _ (by simp) (by omega) (by omega)) (by simp; omega) (by simp; omega) ?_; intro v1 w2 q1 q2 q3)
      go_ret
      exact ⟨_, rfl, by rw [HE.out]; exact Sl.own q1, below_append (below_then' hB (alb _ _)) (hown.up (alb _ _)) q2 (Nat.le_succ _) (by simp; omega)⟩
    have hzi : (i : Int) < (l.length : Int) := by omega
    obtain ⟨g, off, rfl, hcell⟩ := HL.out.some (by omega)
    have hCi : i < Cl.length := by omega
    have l2 := hcell i hCi
    have hgi := HL2.out i hCi hlt
    have hv5 := hgi.v5
    have HGI := hid hgi
    have hmi := HM.out _ (List.getElem_mem hlt)
    have hli := HLF.out _ (List.getElem_mem hlt)
    have HT1 := hid (fun (q : i = 0) => show shwT f l (i + 1) = shwT f l i ++ f l[i] from by subst q; rw [shwT_one f l hlt]; unfold shwT shwA; simp)
    have HT2 := hid (fun (q : 0 < i) => show shwT f l (i + 1) = shwT f l i ++ 32 :: f l[i] from by
      obtain ⟨j, rfl⟩ : ∃ j, i = j + 1 := ⟨i - 1, by omega⟩
      exact shwT_more f l j hlt)
    have hzt : (91 :: shwT f l i).length ≤ 100000001 := by have := shwT_len f l i; have := HZ.out; simp; omega
    generalize hci : Cl[i]'hCi = ci at l2 hv5 HGI hgi
    generalize l[i]'hlt = x at HGI hgi hmi hli HT1 HT2
    obtain ⟨p1, p2, p3, p4, p5, p6, p7, p8, p9, p10, p11, rfl⟩ := hv5
    have c0 := l2 0 _ rfl
    have c1 := l2 1 _ rfl
    have c2 := l2 2 _ rfl
    have c3 := l2 3 _ rfl
    have c4 := l2 4 _ rfl
    rw [Nat.add_zero] at c0
    have HCW := hid (fun (X : World) (hX : Below w.heap.size w X) => (show _ ∧ _ ∧ _ ∧ _ ∧ _ from ⟨cell_up' hX c0, cell_up' hX c1, cell_up' hX c2, cell_up' hX c3, cell_up' hX c4⟩))
    have HGW := hid (World.block_lt_of_cell? _ _ c0)
    have HIX := hid (fun X (hX : Below w.heap.size w X) => HI.out x _ X (HGI.out.up hX) hmi)
    clear l2 hcell hgi hci c0 c1 c2 c3 c4
    obtain ⟨oc, of_, os⟩ := id hC
    have hbs := hB.size
    have hgz := hC.2.2
    obtain ⟨out, hout⟩ : ∃ out, out = 91 :: shwT f l i := ⟨_, rfl⟩
    rw [← hout] at hown hzt
    have HOUT := hid hout
    clear hout
    obtain ⟨c0, c1, c2, c3, c4⟩ := HCW.out wr hB
    have hgw := World.block_lt_of_cell? _ _ c0
    by_cases h0 : i = 0
    · have HT := hid (HT1.out h0)
      have hgt : ¬ (i : Int) > 0 := by omega
      clear HT1 HT2 h0
      go_wp2_with (first | (go_at_call 19; refine (HIX.out _ hB).mono ?_; rintro e w2 ⟨v2, rfl, hs2, hb2⟩; obtain ⟨a2, k2, rfl, e1, e2, e3, e4⟩ := id hs2) | (at_builtin; refine wpList_append_bytes bytesTy rfl _ _ rfl (w.heap.size + 1) _ out (f x) rfl (hown.up hb2) _ _ _ rfl rfl e3 e4 (by omega) (by have := hb2.size; omega) ?_; intro v1 w3 q1 q2 q3))
      go_roundw
      case rel => exact ⟨i + 1, by go_num, by omega, by rw [HT.out, ← List.cons_append, ← HOUT.out]; exact q1, below_append (hB.trans (hb2.mono hbs)) (hown.up hb2) q2 (Nat.le_succ _) (by have := hb2.size; omega), (hC.up hb2).grown q2 (fun q => by have := World.ownsRow.lt hown _ q; omega)⟩
      case measure => simp [intOf]; omega
    · have HT := hid (HT2.out (by omega))
      have hgt : (i : Int) > 0 := by omega
      clear HT1 HT2 h0
      go_wp2_with (first | (go_at_call 19; refine (HIX.out _ hB4).mono ?_; rintro e w2 ⟨v2, rfl, hs2, hb2⟩; obtain ⟨a2, k2, rfl, e1, e2, e3, e4⟩ := id hs2) | (at_builtin; refine wpList_append_bytes bytesTy rfl _ _ rfl (w.heap.size + 1) _ (out ++ [32]) (f x) rfl (r1.up hb2) _ _ _ rfl rfl e3 e4 (by simp; omega) (by have := hb2.size; omega) ?_; intro v1 w3 q1 q2 q3) | (at_builtin; refine wpList_append_bytes bytesTy rfl _ _ rfl (w.heap.size + 1) _ out [32] rfl (hown.up (alb _ _)) _ _ _ rfl rfl (fun q => by cases q) (Rd.byteM _ 32 _ _ (by simp) (by omega) (by omega)) (by simp; omega) (by simp; omega) ?_; intro v4 w4 r1 r2 r3; have hB4 := below_append (below_then' hB (alb _ _)) (hown.up (alb _ _)) r2 (Nat.le_succ _) (by simp; omega); have hC4 := (hC.up (alb _ _)).grown r2 (fun q => by have := World.ownsRow.lt hown _ q; omega); obtain ⟨oc, of_, os⟩ := id hC4; obtain ⟨c0, c1, c2, c3, c4⟩ := HCW.out w4 hB4; have hgw := World.block_lt_of_cell? _ _ c0; have hgz := hC4.2.2; clear r2 r3))
      go_roundw
      case rel => exact ⟨i + 1, by go_num, by omega, by rw [HT.out, show 91 :: (shwT f l i ++ 32 :: f x) = (91 :: shwT f l i) ++ [32] ++ f x by simp, ← HOUT.out]; exact q1, below_append (hB4.trans (hb2.mono (by omega))) (r1.up hb2) q2 (Nat.le_succ _) (by have := hb2.size; omega), (hC4.up hb2).grown q2 (fun q => by have := World.ownsRow.lt r1 _ q; omega)⟩
      case measure => simp [intOf]; omega

def keyD (d : List (List UInt8 × PO)) (f : PO → List UInt8) (i : Nat) : List UInt8 := 60 :: 60 :: (d.take i).flatMap (shwE f)
theorem keyD_next (d : List (List UInt8 × PO)) (f : PO → List UInt8) (i : Nat) (h : i < d.length) : keyD d f (i + 1) = keyD d f i ++ (47 :: d[i].1.flatMap pn1) ++ [32] ++ f d[i].2 := by
  unfold keyD
  rw [List.take_succ_eq_append_getElem h, List.flatMap_append]
  simp [shwE]
theorem keyD_len (d : List (List UInt8 × PO)) (f : PO → List UInt8) (i : Nat) : (keyD d f i).length ≤ (d.flatMap (shwE f)).length + 2 := by
  unfold keyD
  conv => rhs; rw [← List.take_append_drop i d]
  simp only [List.length_cons, List.flatMap_append, List.length_append]
  omega
/-- a row of bytes as a conversion leaves it, or a row of the call's own -/
def RowQ (w w1 : World) (v : Value) (l : List UInt8) (i : Nat) (wr : World) : Prop := (i = 0 ∧ wr = w1 ∧ v = .slice (Option.some ⟨w.heap.size + 1, 0, none⟩) 2 2) ∨ (0 < i ∧ OwnB wr (w.heap.size + 1) 5 v l)

set_option maxHeartbeats 3200000 in
set_option maxRecDepth 100000 in
theorem show_dict (f : PO → List UInt8) (M : PO → Prop) (IH : IHs f M) {w : World} {vs : List Value} {n : Int} {b : List UInt8} {l : List PO} {d : List (List UInt8 × PO)} (hgv : GV w vs (.mk 7 n b l d)) (hM : ∀ x ∈ d, x.1.length ≤ 127 ∧ M x.2 ∧ (f x.2).length ≤ 100000000) (hz : (d.flatMap (shwE f)).length ≤ 100000000) :
    Calls Tryz.prog 19 #[.agg vs.toArray] w (ShwQ w (60 :: 60 :: (d.flatMap (shwE f) ++ [62, 62]))) := by
  cases hgv with
  | mk k n vb vl vd b l d Cl Cd hk hb hbz hl hle hlz hl' hd hde hdz hk' hd' =>
  obtain ⟨ab, cb, rfl, -⟩ := id hb
  obtain ⟨al, cl, rfl, -⟩ := id hl
  obtain ⟨ad, cd, rfl, -⟩ := id hd
  rw [hle] at hl ⊢
  rw [hde] at hd ⊢
  have HO := hid (C5.new w _ rfl [.int .i64 7, .int .i64 n, .slice ab b.length cb, .slice al l.length cl, .slice ad d.length cd] 34)
  have HB0 := hid (alb1 w (.cells #[.int .i64 7, .int .i64 n, .slice ab b.length cb, .slice al l.length cl, .slice ad d.length cd] 34))
  have kc := fun (w : World) (C : Array Value) (n c : Nat) => Lib.run_convert_bytes_const (P := Tryz.prog) w 24 5 C n c Tryz.underlying24 Tryz.underlying5
  have kc1 : ∀ (X : Obj) (C : Array Value) (n c : Nat), (convert 24 24 (.slice (some ⟨w.heap.size + 1, 0, none⟩) n c)).run Tryz.prog ((w.alloc X).alloc (.cells C 5)) = .ok (.slice (some ⟨w.heap.size + 1, 0, none⟩) n c) ((w.alloc X).alloc (.cells C 5 (C.size, C.size + 1))) := by
    intro X C n c
    have h := kc (w.alloc X) C n c
    have e : (w.alloc X).heap.size = w.heap.size + 1 := by simp
    rw [e] at h
    exact h
  clear kc
  have HD := hid hd
  have HK := hid hk'
  have HD2 := hid hd'
  have HI := hid IH
  have HM := hid hM
  have HZ := hid hz
  have hdm : d.length ≤ 9223372036854775807 := by unfold reachBytes at hdz; omega
  clear hb hl hd hl' hk' hd' hk IH hM hz hbz hlz hdz
  have hws : w.heap.size ≤ (w.alloc (.cells #[.int .i64 7, .int .i64 n, .slice ab b.length cb, .slice al l.length cl, .slice ad d.length cd] 34)).heap.size := HB0.out.size
  obtain ⟨w1, hw1⟩ : ∃ w1, w1 = (w.alloc (.cells #[.int .i64 7, .int .i64 n, .slice ab b.length cb, .slice al l.length cl, .slice ad d.length cd] 34)).alloc (.cells #[.int .u8 60, .int .u8 60] 5 (2, 3)) := ⟨_, rfl⟩
  have HO1 := hid (show C5 w1 w.heap.size [.int .i64 7, .int .i64 n, .slice ab b.length cb, .slice al l.length cl, .slice ad d.length cd] from by rw [hw1]; exact HO.out.up (alb _ _))
  have HB1 := hid (show Below w.heap.size w w1 from by rw [hw1]; exact below_then HB0.out (alb _ _))
  have HR1 := hid (show Rd w1 (Option.some ⟨w.heap.size + 1, 0, none⟩) [60, 60] from by rw [hw1]; exact (Sl.litMg (w.alloc (.cells #[.int .i64 7, .int .i64 n, .slice ab b.length cb, .slice al l.length cl, .slice ad d.length cd] 34)) _ [60, 60] 2 2 (w.heap.size + 1) 5 (2, 3) (by simp) rfl rfl (by decide)).rd)
  have hkx := kc1 (.cells #[.int .i64 7, .int .i64 n, .slice ab b.length cb, .slice al l.length cl, .slice ad d.length cd] 34) #[.int .u8 60, .int .u8 60] 2 2
  rw [show (#[Value.int .u8 60, Value.int .u8 60] : Array Value).size = 2 from rfl, ← hw1] at hkx
  have HW1 := hid hw1
  clear kc1 hw1
  unfold ShwQ
  go_enter Tryz.func19, Tryz.ntmps19
  go_wp2
  go_loopw [5, 6] (fun v s3 wr => ∃ i : Nat, s3 = .int .i64 i ∧ i ≤ d.length ∧ RowQ w w1 v (keyD d f i) i wr ∧ Below w.heap.size w wr ∧ C5 wr w.heap.size [.int .i64 7, .int .i64 n, .slice ab b.length cb, .slice al l.length cl, .slice ad d.length cd]) (fun _ s3 _ => d.length - (intOf s3).toNat)
  case atStart =>
    exact ⟨0, rfl, Nat.zero_le _, .inl ⟨rfl, rfl, rfl⟩, HB1.out, HO1.out⟩
  case round =>
    obtain ⟨i, rfl, hi, hrow, hB, hC⟩ := hrel
    have hbs := hB.size
    have hgz := hC.2.2
    by_cases hlt : i < d.length
    rotate_left
    · obtain rfl : i = d.length := by omega
      have hzi : ¬ (d.length : Int) < (d.length : Int) := by omega
      have HE := hid (show 60 :: 60 :: (d.flatMap (shwE f) ++ [62, 62]) = keyD d f d.length ++ [62, 62] from by unfold keyD; rw [List.take_length]; simp)
      have hzt : (keyD d f d.length).length ≤ 100000002 := by have := keyD_len d f d.length; have := HZ.out; omega
      obtain ⟨oc, of_, os⟩ := id hC
      rcases hrow with ⟨h0, rfl, rfl⟩ | ⟨h0, hown⟩
      · have HK0 := hid (show keyD d f d.length = [60, 60] from by rw [h0]; rfl)
        clear h0
        go_wp2_with (at_builtin; refine wpList_append_fullS bytesTy rfl _ _ 9 (by kernel_rfl) rfl (w.heap.size + 1) 0 [60, 60] [62, 62] 2 rfl rfl HR1.out rfl (by simp) (by simp) ?_; intro v2 w2 q1 q2)
        go_ret
        exact ⟨_, rfl, by rw [HE.out, HK0.out]; exact Sl.own q1, hB.trans (q2.mono hbs)⟩
      · clear h0
        generalize keyD d f d.length = out at hown hzt HE
        go_wp2_with (at_builtin; refine wpList_append_st bytesTy rfl _ _ 9 (by kernel_rfl) rfl (w.heap.size + 1) _ out [62, 62] rfl hown rfl (by simp; omega) (by omega) ?_; intro v2 w2 q1 q2 q3)
        go_ret
        exact ⟨_, rfl, by rw [HE.out]; exact Sl.own q1, below_append hB hown q2 (Nat.le_succ _) hbs⟩
    have hzi : (i : Int) < (d.length : Int) := by omega
    obtain ⟨g, off, rfl, hcell⟩ := HD.out.some (by omega)
    have hCi : i < Cd.length := by omega
    have l2 := hcell i hCi
    obtain ⟨hke, -⟩ := HK.out i hCi hlt
    have hgi := HD2.out i hCi hlt
    have hv5 := hgi.v5
    have HGI := hid hgi
    obtain ⟨hkl, hmi, hli⟩ := HM.out _ (List.getElem_mem hlt)
    have HN := hid (keyD_next d f i hlt)
    have hzt : (keyD d f i).length ≤ 100000002 := by have := keyD_len d f i; have := HZ.out; omega
    have HK0 := hid (fun (q : i = 0) => show keyD d f i = [60, 60] from by rw [q]; rfl)
    generalize d[i]'hlt = e at HGI hgi hmi hli hke hkl HN hv5
    obtain ⟨key, x⟩ := e
    simp only [] at HGI hgi hmi hli hke hkl HN hv5
    have hpl := pnm_len key
    have HPN := hid (fun X => printname_any key X (by omega))
    generalize key.flatMap pn1 = kk at HN hpl HPN
    generalize hci : Cd[i]'hCi = ci at l2 hv5 HGI hgi hke
    rcases ci with _ | ⟨c0, ct⟩
    · cases hke
    injection hke with hke
    subst hke
    simp only [List.tail_cons] at HGI hv5 hgi
    obtain ⟨p1, p2, p3, p4, p5, p6, p7, p8, p9, p10, p11, rfl⟩ := hv5
    have c0 := l2 0 _ rfl
    have c1 := l2 1 _ rfl
    have c2 := l2 2 _ rfl
    have c3 := l2 3 _ rfl
    have c4 := l2 4 _ rfl
    have c5 := l2 5 _ rfl
    rw [Nat.add_zero] at c0
    have HCW := hid (fun (X : World) (hX : Below w.heap.size w X) => (show _ ∧ _ ∧ _ ∧ _ ∧ _ ∧ _ from ⟨cell_up' hX c0, cell_up' hX c1, cell_up' hX c2, cell_up' hX c3, cell_up' hX c4, cell_up' hX c5⟩))
    have HGW := hid (World.block_lt_of_cell? _ _ c0)
    have HIX := hid (fun X (hX : Below w.heap.size w X) => HI.out x _ X (HGI.out.up hX) hmi)
    clear l2 hcell hgi hci c0 c1 c2 c3 c4 c5
    obtain ⟨oc, of_, os⟩ := id hC
    obtain ⟨c0, c1, c2, c3, c4, c5⟩ := HCW.out wr hB
    have hgw := World.block_lt_of_cell? _ _ c0
    obtain ⟨out, hout⟩ : ∃ out, out = keyD d f i := ⟨_, rfl⟩
    rw [← hout] at hrow hzt
    rcases hrow with ⟨h0, rfl, rfl⟩ | ⟨h0, hown⟩
    · have HOUT := hid (hout.trans (HK0.out h0))
      have HOUT2 := hid hout
      clear hout h0 HK0
      go_wp2_with (first | (at_builtin; refine wpList_append_bytes bytesTy rfl _ _ rfl (w.heap.size + 1) _ (out ++ (47 :: kk) ++ [32]) (f x) rfl (s1.up hb6) _ _ _ rfl rfl e3 e4 (by simp; omega) (by have := hb6.size; omega) ?_; intro v7 w7 t1 t2 t3) | (go_at_call 19; refine (HIX.out _ hB5).mono ?_; rintro e w6 ⟨v6, rfl, hs6, hb6⟩; obtain ⟨a6, k6, rfl, e1, e2, e3, e4⟩ := id hs6) | (at_builtin; refine wpList_append_bytes bytesTy rfl _ _ rfl (w.heap.size + 1) _ (out ++ (47 :: kk)) [32] rfl (r1.up (alb _ _)) _ _ _ rfl rfl (fun q => by cases q) (Rd.byteM _ 32 _ _ (by simp) (by omega) (by omega)) (by simp; omega) (by simp; omega) ?_; intro v5 w5 s1 s2 s3; have hB5 := below_append (below_then' hB4 (alb _ _)) (r1.up (alb _ _)) s2 (Nat.le_succ _) (by simp; omega); have hC5 := (hC4.up (alb _ _)).grown s2 (fun q => by have := World.ownsRow.lt r1 _ q; omega); obtain ⟨oc, of_, os⟩ := id hC5; obtain ⟨c0, c1, c2, c3, c4, c5⟩ := HCW.out w5 hB5; have hgw := World.block_lt_of_cell? _ _ c0; have hgz := hC5.2.2; clear s2 s3) | (at_builtin; refine wpList_append_full bytesTy rfl _ _ rfl (w.heap.size + 1) 0 [60, 60] (47 :: kk) 2 rfl rfl (HR1.out.up hb3) _ _ _ rfl rfl n4 (by simp) (by simp; omega) ?_; intro v4 w4 r1 r2; have hb3s := hb3.size; rw [← HOUT.out] at r1; replace r1 := OwnB.down r1 (show w.heap.size + 1 ≤ w3.heap.size by omega); have hB4 := (hB.trans (hb3.mono hbs)).trans (r2.mono (by omega)); have hC4 := (hC.up hb3).up r2; obtain ⟨oc, of_, os⟩ := id hC4; obtain ⟨c0, c1, c2, c3, c4, c5⟩ := HCW.out w4 hB4; have hgw := World.block_lt_of_cell? _ _ c0; have hgz := hC4.2.2; clear r2) | (go_at_call 33; refine (HPN.out _).mono ?_; rintro e w3 ⟨v3, rfl, hs3, hb3⟩; obtain ⟨a3, k3, rfl, n1, n2, n3, n4⟩ := id (Sl.own hs3)))
      go_roundw
      case rel => exact ⟨i + 1, by go_num, by omega, .inr ⟨by omega, by rw [HN.out, ← HOUT2.out]; exact t1⟩, below_append (hB5.trans (hb6.mono (by omega))) (s1.up hb6) t2 (Nat.le_succ _) (by have := hb6.size; omega), (hC5.up hb6).grown t2 (fun q => by have := World.ownsRow.lt s1 _ q; omega)⟩
      case measure => simp [intOf]; omega
    · have HOUT := hid hout
      clear hout h0 HK0
      go_wp2_with (first | (at_builtin; refine wpList_append_bytes bytesTy rfl _ _ rfl (w.heap.size + 1) _ (out ++ (47 :: kk) ++ [32]) (f x) rfl (s1.up hb6) _ _ _ rfl rfl e3 e4 (by simp; omega) (by have := hb6.size; omega) ?_; intro v7 w7 t1 t2 t3) | (go_at_call 19; refine (HIX.out _ hB5).mono ?_; rintro e w6 ⟨v6, rfl, hs6, hb6⟩; obtain ⟨a6, k6, rfl, e1, e2, e3, e4⟩ := id hs6) | (at_builtin; refine wpList_append_bytes bytesTy rfl _ _ rfl (w.heap.size + 1) _ (out ++ (47 :: kk)) [32] rfl (r1.up (alb _ _)) _ _ _ rfl rfl (fun q => by cases q) (Rd.byteM _ 32 _ _ (by simp) (by omega) (by omega)) (by simp; omega) (by simp; omega) ?_; intro v5 w5 s1 s2 s3; have hB5 := below_append (below_then' hB4 (alb _ _)) (r1.up (alb _ _)) s2 (Nat.le_succ _) (by simp; omega); have hC5 := (hC4.up (alb _ _)).grown s2 (fun q => by have := World.ownsRow.lt r1 _ q; omega); obtain ⟨oc, of_, os⟩ := id hC5; obtain ⟨c0, c1, c2, c3, c4, c5⟩ := HCW.out w5 hB5; have hgw := World.block_lt_of_cell? _ _ c0; have hgz := hC5.2.2; clear s2 s3) | (at_builtin; refine wpList_append_bytes bytesTy rfl _ _ rfl (w.heap.size + 1) _ out (47 :: kk) rfl (hown.up hb3) _ _ _ rfl rfl n3 n4 (by simp; omega) (by have := hb3.size; omega) ?_; intro v4 w4 r1 r2 r3; have hb3s := hb3.size; have hB4 := below_append (hB.trans (hb3.mono hbs)) (hown.up hb3) r2 (Nat.le_succ _) (by omega); have hC4 := (hC.up hb3).grown r2 (fun q => by have := World.ownsRow.lt hown _ q; omega); obtain ⟨oc, of_, os⟩ := id hC4; obtain ⟨c0, c1, c2, c3, c4, c5⟩ := HCW.out w4 hB4; have hgw := World.block_lt_of_cell? _ _ c0; have hgz := hC4.2.2; clear r2) | (go_at_call 33; refine (HPN.out _).mono ?_; rintro e w3 ⟨v3, rfl, hs3, hb3⟩; obtain ⟨a3, k3, rfl, n1, n2, n3, n4⟩ := id (Sl.own hs3)))
      go_roundw
      case rel => exact ⟨i + 1, by go_num, by omega, .inr ⟨by omega, by rw [HN.out, ← HOUT.out]; exact t1⟩, below_append (hB5.trans (hb6.mono (by omega))) (s1.up hb6) t2 (Nat.le_succ _) (by have := hb6.size; omega), (hC5.up hb6).grown t2 (fun q => by have := World.ownsRow.lt s1 _ q; omega)⟩
      case measure => simp [intOf]; omega

def ShwD (dp : Nat) : Prop := ∀ (o : PO) (vs : List Value) (w : World), GV w vs o → mayF dp o = true ∧ ¬ o.kind = 8 ∧ szF dp o ≤ 2000000 → Calls Tryz.prog 19 #[.agg vs.toArray] w (ShwQ w (shwF dp o))
theorem shwF_eq (dp : Nat) (o : PO) : shwF (dp + 1) o = shwS (shwF dp) o := rfl
theorem show_step (dp : Nat) (IH : ∀ m, dp = m + 1 → ShwD m) : ShwD dp := by
  intro o vs w hgv ⟨hm, h8, hz⟩
  obtain ⟨k, n, b, l, d⟩ := o
  have h8 : ¬ k = 8 := h8
  have hlen := shwF_len dp (.mk k n b l d)
  rw [mayF_eq] at hm
  by_cases h6 : k = 6
  · subst h6
    unfold mayS at hm
    rw [Bool.and_eq_true] at hm
    have hc := hm.2
    rw [if_neg (by decide), if_neg (by decide), if_neg (by decide), if_neg (by decide)] at hc
    by_cases n0 : ¬ n = 0
    · rw [if_pos n0] at hc; cases hc
    rw [if_neg n0, if_neg (by decide), if_neg (by decide), if_neg (by decide), if_pos rfl] at hc
    cases dp with
    | zero => cases hc
    | succ m =>
      have hp := szF_parts hz
      simp only [prevF, List.all_eq_true, Bool.and_eq_true, bne_iff_ne, ne_eq] at hc
      have e : shwF (m + 1) (.mk 6 n b l d) = 91 :: (shwA (shwF m) l ++ [93]) := by rw [shwF_eq]; rfl
      rw [e] at hlen ⊢
      refine show_arr (shwF m) (fun x => mayF m x = true ∧ ¬ x.kind = 8 ∧ szF m x ≤ 2000000) (IH m rfl) hgv (fun x hx => ⟨(hc x hx).2, (hc x hx).1, hp.2.2.2.1 x hx⟩) ?_ (fun x hx => ?_)
      · simp only [List.length_cons, List.length_append, List.length_nil] at hlen; omega
      · have := shwF_len m x; have := hp.2.2.2.1 x hx; omega
  by_cases h7 : k = 7
  · subst h7
    unfold mayS at hm
    rw [Bool.and_eq_true] at hm
    have hc := hm.2
    rw [if_neg (by decide), if_neg (by decide), if_neg (by decide), if_neg (by decide)] at hc
    by_cases n0 : ¬ n = 0
    · rw [if_pos n0] at hc; cases hc
    rw [if_neg n0, if_neg (by decide), if_neg (by decide), if_neg (by decide), if_neg (by decide), if_pos (.inl rfl)] at hc
    cases dp with
    | zero => cases hc
    | succ m =>
      have hp := szF_parts hz
      unfold entF prevF at hc
      simp only [Bool.and_eq_true, decide_eq_true_eq, List.all_eq_true, List.mem_range] at hc
      have e : shwF (m + 1) (.mk 7 n b l d) = 60 :: 60 :: (d.flatMap (shwE (shwF m)) ++ [62, 62]) := by rw [shwF_eq]; rfl
      rw [e] at hlen ⊢
      refine show_dict (shwF m) (fun x => mayF m x = true ∧ ¬ x.kind = 8 ∧ szF m x ≤ 2000000) (IH m rfl) hgv (fun x hx => ?_) ?_
      · obtain ⟨j, hj, rfl⟩ := List.getElem_of_mem hx
        have h := hc.2 j hj
        unfold chkE at h
        rw [keyAt_at hj, valAt_at hj] at h
        simp only [Bool.and_eq_true, bne_iff_ne, ne_eq] at h
        obtain ⟨⟨⟨⟨a1, -⟩, a3⟩, -⟩, a5⟩ := h
        have hs := (hp.2.2.2.2 _ hx).2
        have hl := shwF_len m (d[j]).2
        unfold nmOk at a1
        simp only [Bool.and_eq_true, decide_eq_true_eq] at a1
        exact ⟨a1.1, ⟨a5, a3, hs⟩, by omega⟩
      · simp only [List.length_cons, List.length_append, List.length_nil] at hlen; omega
  cases dp with
  | zero => exact show_flat (fun _ => []) (prevF 0) hgv hm h6 h7 h8
  | succ m => exact show_flat (shwF m) (prevF (m + 1)) hgv hm h6 h7 h8
theorem show_all : ∀ dp, ShwD dp
  | 0 => show_step 0 (fun m q => by omega)
  | dp + 1 => show_step (dp + 1) (fun m q => by have e : m = dp := (by omega); subst e; exact show_all m)
end Go.Proofs.YtjkoiknjffldjaaGreatDoor

/-
  The document's Find: where a text stands first; the document's Print, Int, Dict. Conditions: as each says.
-/
namespace Go.Proofs.YtjkoiknjffldjaaGreatDoor
open Go.RowKit
set_option linter.unusedVariables false

/-- does "EI" stand somewhere -/
theorem noEI_of {l : List UInt8} (h : ∀ j, j + 2 ≤ l.length → pfx [69, 73] (l.drop j) = false) : noEI l := by
  intro j q
  by_cases hj : j + 2 ≤ l.length
  · have h1 := h j hj
    rw [pfx2, List.tail_drop] at h1
    have h2 : (c8 69 : Int) = 69 := by decide
    have h3 : (c8 73 : Int) = 73 := by decide
    rw [h2, h3] at h1
    exact absurd q (by simpa using h1)
  · obtain ⟨-, q2⟩ := q
    rw [List.drop_eq_nil_of_le (by omega)] at q2
    exact absurd q2 (by decide)

/-- where "EI" stands first -/
def findE : List UInt8 → Option Nat
  | [] => none
  | x :: l => if pfx [69, 73] (x :: l) = true then some 0 else (findE l).map (· + 1)
theorem findE_at : ∀ (b : List UInt8) (i : Nat), (∀ j, j < i → pfx [69, 73] (b.drop j) = false) → pfx [69, 73] (b.drop i) = true → findE b = some i
  | [], i, _, h => by simp [pfx] at h
  | x :: l, 0, _, h => by rw [findE, if_pos (by simpa using h)]
  | x :: l, i + 1, hb, h => by
    have h0 := hb 0 (by omega)
    rw [List.drop_zero] at h0
    rw [findE, if_neg (by rw [h0]; decide), findE_at l i (fun j hj => hb (j + 1) (by omega)) h]
    rfl
theorem findE_no : ∀ (b : List UInt8), (∀ j, pfx [69, 73] (b.drop j) = false) → findE b = none
  | [], _ => rfl
  | x :: l, h => by
    have h0 := h 0
    rw [List.drop_zero] at h0
    rw [findE, if_neg (by rw [h0]; decide), findE_no l (fun j => h (j + 1))]
    rfl
theorem findE_none : ∀ (b : List UInt8), findE b = none → ∀ j, pfx [69, 73] (b.drop j) = false
  | [], _, j => by simp [pfx]
  | x :: l, h, j => by
    rw [findE] at h
    split at h
    · cases h
    next hq =>
      cases j with
      | zero => simpa using hq
      | succ j => exact findE_none l (by simpa using h) j
def findN (b : List UInt8) : Int := match findE b with
  | some n => (n : Int)
  | none => -1
theorem findN_neg {b : List UInt8} (h : findN b < 0) : noEI b := by
  unfold findN at h
  cases hq : findE b with
  | some n => rw [hq] at h; simp only [] at h; omega
  | none => exact noEI_of fun j _ => findE_none b hq j

set_option maxHeartbeats 800000 in
set_option maxRecDepth 100000 in
theorem find2_any (v : Value) (b : List UInt8) (w : World) (h : Sl w v b) (hb : b.length ≤ 4000000) :
    Calls Tryz.prog 9 #[v, .string ⟨#[69, 73]⟩, .int .i64 0] w fun e w' => e = .returned (.int .i64 (findN b)) ∧ w' = w := by
  obtain ⟨ao, cap, rfl, q1, q2, q3, hrd⟩ := id h
  have HS := hid h
  have hw2 : IntKind.i64.wrap ((b.length : Int) - 2) = (b.length : Int) - 2 := IntWalk.i64_in _ (by omega)
  have hb2 : (b.length : Int) ≤ 4000000 := by omega
  have hshort : ∀ j, b.length < j + 2 → pfx [69, 73] (b.drop j) = false := fun j hj => pfx_long (by rw [List.length_drop]; show b.length - j < 2; omega)
  have HSH := hid hshort
  clear hshort
  go_enter Tryz.func9, Tryz.ntmps9
  go_wp2
  go_loopw [7] (fun s4 wr => ∃ i : Nat, s4 = .int .i64 i ∧ i ≤ b.length + 1 ∧ wr = w ∧ ∀ j, j < i → pfx [69, 73] (b.drop j) = false) (fun s4 _ => b.length + 1 - (intOf s4).toNat)
  case atStart => exact ⟨0, rfl, Nat.zero_le _, rfl, fun j h => absurd h (Nat.not_lt_zero _)⟩
  case round =>
    obtain ⟨i, rfl, hi, rfl, hbef⟩ := hrel
    have HB := hid hbef
    clear hbef
    by_cases hlt : i + 2 ≤ b.length
    · have hz : (i : Int) ≤ (b.length : Int) - 2 := by omega
      cases hp : pfx [69, 73] (b.drop i) with
      | true =>
        have HP := hid (show pfx (⟨#[69, 73]⟩ : ByteArray).data.toList (b.drop i) = true from hp)
        have HF := hid (show (i : Int) = findN b from by unfold findN; rw [findE_at b i HB.out hp])
        clear hp
        go_wp2_with (go_at_call 20; refine (stands _ b i _ _ HS.out (by omega) (by omega) (by decide)).mono ?_; rw [HP.out]; rintro e w2 ⟨rfl, rfl⟩)
        go_ret
        exact ⟨by rw [← HF.out]; rfl, rfl⟩
      | false =>
        have HP := hid (show pfx (⟨#[69, 73]⟩ : ByteArray).data.toList (b.drop i) = false from hp)
        clear hp
        go_wp2_with (go_at_call 20; refine (stands _ b i _ _ HS.out (by omega) (by omega) (by decide)).mono ?_; rw [HP.out]; rintro e w2 ⟨rfl, rfl⟩)
        go_roundw
        case rel => exact ⟨i + 1, by go_num, by omega, trivial, fun j hj => by
          rcases Nat.lt_or_ge j i with q | q
          · exact HB.out j q
          · obtain rfl : j = i := by omega
            exact HP.out⟩
        case measure => simp [intOf]; omega
    · have hz : ¬ (i : Int) ≤ (b.length : Int) - 2 := by omega
      have HF := hid (show (-1 : Int) = findN b from by
        unfold findN
        rw [findE_no b fun j => by
          rcases Nat.lt_or_ge j i with q | q
          · exact HB.out j q
          · exact HSH.out j (by omega)])
      go_wp2
      go_ret
      exact ⟨by rw [← HF.out]; rfl, rfl⟩

set_option maxHeartbeats 1600000 in
set_option maxRecDepth 100000 in
theorem rprint_ok {o : PO} {vs : List Value} {w : World} (h : GV w vs o) (hm : mayF 28 o = true) (h8 : ¬ o.kind = 8) (hz : szF 28 o ≤ 2000000) :
    Calls Tryz.prog 6 #[.agg vs.toArray] w fun e w' => ∃ v, e = .returned (.tuple #[v, .int .i64 0]) ∧ Sl w' v (shwF 28 o) ∧ Below w.heap.size w w' := by
  have hv := h.v5
  have hk := h.kind1
  have HM := hid (fun X (hX : Below w.heap.size w X) => rmay_any (h.up hX))
  have HS := hid (fun X (hX : Below w.heap.size w X) => show_all 28 o vs X (h.up hX) ⟨hm, h8, hz⟩)
  obtain ⟨p1, p2, p3, p4, p5, p6, p7, p8, p9, p10, p11, rfl⟩ := hv
  have hk : p1 = o.kind := by simpa using hk
  have b8 : (p1 == 8) = false := by rw [hk]; simp [h8]
  have HMM := hid hm
  clear h hm h8 hk
  go_enter Tryz.func6, Tryz.ntmps6
  go_wp2_with (first | (go_at_call 18; refine (HM.out _ (alb _ _)).mono ?_; rw [HMM.out]; rintro e w2 ⟨rfl, hb2⟩; have hB2 := below_then (alb1 w _) hb2; have hC2 := (C5.new w _ rfl [.int .i64 p1, .int .i64 p2, .slice p3 p6 p7, .slice p4 p8 p9, .slice p5 p10 p11] 34).up hb2; obtain ⟨oc, of_, os⟩ := id hC2) | (go_at_call 19; refine (HS.out _ hB2).mono ?_; rintro e w3 ⟨v3, rfl, hs3, hb3⟩; obtain ⟨a3, k3, rfl, -⟩ := id hs3))
  refine bodyPost_ret (v := .tuple #[.slice a3 (shwF 28 o).length k3, .int .i64 0]) (by simp [results, Tryz.results6, go_sem]) rfl ?_
  exact ⟨_, rfl, hs3, below_then hB2 hb3⟩
set_option maxHeartbeats 1600000 in
set_option maxRecDepth 100000 in
theorem rprint_no {o : PO} {vs : List Value} {w : World} (h : GV w vs o) (hm : ¬ (mayF 28 o = true ∧ ¬ o.kind = 8)) :
    Calls Tryz.prog 6 #[.agg vs.toArray] w fun e w' => e = .returned (.tuple #[.slice none 0 0, .int .i64 1]) ∧ Below w.heap.size w w' := by
  have hv := h.v5
  have hk := h.kind1
  have HM := hid (fun X (hX : Below w.heap.size w X) => rmay_any (h.up hX))
  obtain ⟨p1, p2, p3, p4, p5, p6, p7, p8, p9, p10, p11, rfl⟩ := hv
  have hk : p1 = o.kind := by simpa using hk
  cases hq : mayF 28 o with
  | false =>
    have HMM := hid hq
    clear h hm hk hq
    go_enter Tryz.func6, Tryz.ntmps6
    go_wp2_with (first | (go_at_call 18; refine (HM.out _ (alb _ _)).mono ?_; rw [HMM.out]; rintro e w2 ⟨rfl, hb2⟩; have hB2 := below_then (alb1 w _) hb2; have hC2 := (C5.new w _ rfl [.int .i64 p1, .int .i64 p2, .slice p3 p6 p7, .slice p4 p8 p9, .slice p5 p10 p11] 34).up hb2; obtain ⟨oc, of_, os⟩ := id hC2))
    refine bodyPost_ret (v := .tuple #[.slice none 0 0, .int .i64 1]) (by simp [results, Tryz.results6, go_sem]) rfl ?_
    exact ⟨rfl, hB2⟩
  | true =>
    have h8 : o.kind = 8 := Decidable.not_not.1 fun q => hm ⟨hq, q⟩
    obtain rfl : p1 = 8 := by omega
    have HMM := hid hq
    clear h hm hk hq
    go_enter Tryz.func6, Tryz.ntmps6
    go_wp2_with (first | (go_at_call 18; refine (HM.out _ (alb _ _)).mono ?_; rw [HMM.out]; rintro e w2 ⟨rfl, hb2⟩; have hB2 := below_then (alb1 w _) hb2; have hC2 := (C5.new w _ rfl [.int .i64 8, .int .i64 p2, .slice p3 p6 p7, .slice p4 p8 p9, .slice p5 p10 p11] 34).up hb2; obtain ⟨oc, of_, os⟩ := id hC2))
    refine bodyPost_ret (v := .tuple #[.slice none 0 0, .int .i64 1]) (by simp [results, Tryz.results6, go_sem]) rfl ?_
    exact ⟨rfl, hB2⟩
end Go.Proofs.YtjkoiknjffldjaaGreatDoor

/-
  The document's Refs: how many references an object holds. Condition: the object may be, is no stream; its size.
-/
namespace Go.Proofs.YtjkoiknjffldjaaGreatDoor
open Go.RowKit
set_option linter.unusedVariables false

theorem intsTy' : Tryz.prog.underlying 35 = some (.slice 3) := by kernel_rfl
theorem intIn : (Tryz.prog.info? 3).map (fun i => (i.zero, i.size, i.bytes)) = some (some (.int .i64 0), 1, 8) := by kernel_rfl
def RefQ (w : World) (n : Nat) (e : Ending) (w' : World) : Prop := ∃ v C, e = .returned v ∧ OwX 1 3 w' w.heap.size v C ∧ C.length = n ∧ (∀ c ∈ C, ∃ z : Int, c = [.int .i64 z]) ∧ Below w.heap.size w w'
def IHr (f : PO → Nat) (M : PO → Prop) : Prop := ∀ (o : PO) (vs : List Value) (w : World), GV w vs o → M o → Calls Tryz.prog 7 #[.agg vs.toArray] w (RefQ w (f o))
theorem sum_take {α : Type} (f : α → Nat) (l : List α) (i : Nat) : ((l.take i).map f).sum ≤ (l.map f).sum := by
  conv => rhs; rw [← List.take_append_drop i l]
  rw [List.map_append, List.sum_append]; omega
theorem sum_snoc {α : Type} (f : α → Nat) (l : List α) (i : Nat) (h : i < l.length) : ((l.take (i + 1)).map f).sum = ((l.take i).map f).sum + f l[i] := by
  rw [List.take_succ_eq_append_getElem h, List.map_append, List.sum_append]; simp
theorem ones_of {C : List (List Value)} (h : ∀ c ∈ C, ∃ z : Int, c = [.int .i64 z]) : ∀ c ∈ C, ∀ u ∈ c, u.oneCell' = true := by
  intro c hc u hu
  obtain ⟨z, rfl⟩ := h c hc
  obtain rfl : u = .int .i64 z := by simpa using hu
  rfl
theorem OwX.lit (w : World) (g base : Nat) (z : Int) (hg : g = w.heap.size) (hb : base ≤ w.heap.size) : OwX 1 3 (w.alloc (.cells #[.int .i64 z] 3)) base (.slice (some ⟨g, 0, none⟩) 1 1) [[.int .i64 z]] := by
  subst hg
  have := World.ownsRow_lit (base := base) (e := 3) (size := 1) w #[.int .i64 z] 1 hb (by unfold maxLen; omega) (by simp)
  exact ⟨this, fun c hc => by simp at hc; rw [hc]; rfl⟩

set_option maxHeartbeats 3200000 in
set_option maxRecDepth 100000 in
theorem refs_flat (k n : Int) (v1 v2 v3 : Value) (w : World) (b : List UInt8) (l : List PO) (d : List (List UInt8 × PO)) (f : PO → Nat) (hgv : GV w [.int .i64 k, .int .i64 n, v1, v2, v3] (.mk k n b l d)) (h6 : ¬ k = 6) (h7 : ¬ k = 7) (h8 : ¬ k = 8) :
    Calls Tryz.prog 7 #[.agg #[.int .i64 k, .int .i64 n, v1, v2, v3]] w (RefQ w (refS f (.mk k n b l d))) := by
  obtain ⟨_, _, _, _, _, p6, p7, p8, p9, p10, p11, h⟩ := hgv.v5
  injection h with _ h
  injection h with _ h
  injection h with e1 h
  injection h with e2 h
  injection h with e3 _
  subst e1 e2 e3
  clear hgv
  unfold RefQ
  by_cases h9 : k = 9
  · subst h9
    have HE := hid (show refS f (.mk 9 n b l d) = 1 from rfl)
    rw [HE.out]
    go_enter Tryz.func7, Tryz.ntmps7
    go_wp2
    go_ret
    refine ⟨_, rfl, [[.int .i64 n]], OwX.lit _ _ _ n (by simp) (alb1 w _).size, rfl, fun c hc => ⟨n, by simpa using hc⟩, below_then (alb1 w _) (alb _ _)⟩
  · have HE := hid (show refS f (.mk k n b l d) = 0 from by unfold refS; simp only []; rw [if_neg h9, if_neg h6, if_neg (by omega)])
    rw [HE.out]
    have b9 : (k == 9) = false := by simp [h9]
    have b6 : (k == 6) = false := by simp [h6]
    have b7 : (k == 7) = false := by simp [h7]
    have b8 : (k == 8) = false := by simp [h8]
    go_enter Tryz.func7, Tryz.ntmps7
    go_wp2
    go_ret
    refine ⟨_, rfl, [], OwX.nil _ _ _ _, rfl, fun c hc => (by cases hc), alb1 w _⟩

set_option maxHeartbeats 3200000 in
set_option maxRecDepth 100000 in
theorem refs_arr (f : PO → Nat) (M : PO → Prop) (IH : IHr f M) {w : World} {vs : List Value} {n : Int} {b : List UInt8} {l : List PO} {d : List (List UInt8 × PO)} (hgv : GV w vs (.mk 6 n b l d)) (hM : ∀ x ∈ l, M x) (hz : (l.map f).sum ≤ 4000000) :
    Calls Tryz.prog 7 #[.agg vs.toArray] w (RefQ w (l.map f).sum) := by
  cases hgv with
  | mk k n vb vl vd b l d Cl Cd hk hb hbz hl hle hlz hl' hd hde hdz hk' hd' =>
  obtain ⟨ab, cb, rfl, -⟩ := id hb
  obtain ⟨al, cl, rfl, -⟩ := id hl
  obtain ⟨ad, cd, rfl, -⟩ := id hd
  rw [hle] at hl ⊢
  rw [hde] at hd ⊢
  have HO := hid (C5.new w _ rfl [.int .i64 6, .int .i64 n, .slice ab b.length cb, .slice al l.length cl, .slice ad d.length cd] 34)
  have HB0 := hid (alb1 w (.cells #[.int .i64 6, .int .i64 n, .slice ab b.length cb, .slice al l.length cl, .slice ad d.length cd] 34))
  have HL := hid hl
  have HL2 := hid hl'
  have HI := hid IH
  have HM := hid hM
  have HZ := hid hz
  have hlm : l.length ≤ 9223372036854775807 := by unfold reachBytes at hlz; omega
  clear hb hl hd hl' hk' hd' hk IH hM hz hbz hlz hdz
  unfold RefQ
  go_enter Tryz.func7, Tryz.ntmps7
  go_wp2
  go_loopw [3, 4] (fun v s3 wr => ∃ (i : Nat) (C : List (List Value)), s3 = .int .i64 i ∧ i ≤ l.length ∧ OwX 1 3 wr (w.heap.size + 1) v C ∧ C.length = ((l.take i).map f).sum ∧ (∀ c ∈ C, ∃ z : Int, c = [.int .i64 z]) ∧ Below w.heap.size w wr ∧ C5 wr w.heap.size [.int .i64 6, .int .i64 n, .slice ab b.length cb, .slice al l.length cl, .slice ad d.length cd]) (fun _ s3 _ => l.length - (intOf s3).toNat)
  case atStart =>
    exact ⟨0, [], rfl, Nat.zero_le _, OwX.nil _ _ _ _, rfl, (fun c hc => by cases hc), HB0.out, HO.out⟩
  case round =>
    obtain ⟨i, C, rfl, hi, hown, hlen, hint, hB, hC⟩ := hrel
    by_cases hlt : i < l.length
    rotate_left
    · obtain rfl : i = l.length := by omega
      have hzi : ¬ (l.length : Int) < (l.length : Int) := by omega
      have HE := hid (show C.length = (l.map f).sum from by rw [hlen, List.take_length])
      clear hlen
      obtain ⟨oc, of_, os⟩ := id hC
      go_wp2
      go_ret
      exact ⟨_, rfl, C, hown.base (Nat.le_succ _), HE.out, hint, hB⟩
    have hzi : (i : Int) < (l.length : Int) := by omega
    have hSw := HL.out.up hB
    obtain ⟨g, off, rfl, hcell⟩ := hSw.some (by omega)
    have hCi : i < Cl.length := by omega
    have l2 := hcell i hCi
    have hgi := HL2.out i hCi hlt
    have hv5 := hgi.v5
    have HGI := hid hgi
    have hmi := HM.out _ (List.getElem_mem hlt)
    have HN := hid (sum_snoc f l i hlt)
    have hst := sum_take f l (i + 1)
    rw [HN.out, ← hlen] at hst
    have HLN := hid hlen
    have hz2 := HZ.out
    generalize hci : Cl[i]'hCi = ci at l2 hv5 HGI hgi
    generalize hxx : l[i]'hlt = x at HGI hgi hmi HN hst
    clear hlen hxx
    obtain ⟨p1, p2, p3, p4, p5, p6, p7, p8, p9, p10, p11, rfl⟩ := hv5
    have c0 := l2 0 _ rfl
    have c1 := l2 1 _ rfl
    have c2 := l2 2 _ rfl
    have c3 := l2 3 _ rfl
    have c4 := l2 4 _ rfl
    rw [Nat.add_zero] at c0
    have hgw := World.block_lt_of_cell? _ _ c0
    clear l2 hcell hSw hgi hci
    obtain ⟨oc, of_, os⟩ := id hC
    have HIX := hid (fun X (hX : Below wr.heap.size wr X) => HI.out x _ X (HGI.out.up (hB.trans (hX.mono hB.size))) hmi)
    generalize hn2 : f x = n2 at HN hst HIX
    have hin := hown.form
    have hbz := hB.size
    have hclt : C.length ≤ 4000000 ∧ n2 ≤ 4000000 := by omega
    have hgz := hC.2.2
    go_wp2_with (first | (go_at_call 7; refine (HIX.out _ (Below.refl _ _)).mono ?_; rintro e w2 ⟨v2, C2, rfl, hs2, hl2, hi2, hb2⟩) | (at_builtin; refine wpList_append_slx rfl _ _ 35 rfl (w.heap.size + 1) 3 (.int .i64 0) 1 8 intsTy' intIn rfl (by decide) _ C rfl (hown.up hb2) v2 C2 rfl hs2.sl (ones_of hi2) (by omega) (by decide) (by have := hb2.size; omega) ?_; intro v3 w3 q1 q2 q3))
    go_roundw
    case rel =>
      refine ⟨i + 1, C ++ C2, by go_num, by omega, q1, by rw [List.length_append, hl2, HLN.out, HN.out], fun c hc => ?_, ?_, ?_⟩
      · rcases List.mem_append.1 hc with q | q
        · exact hint c q
        · exact hi2 c q
      · exact (hB.trans (hb2.mono hbz)).grown q2 (by have := hb2.size; omega) fun k hk => by have := (hown.lt k hk).1; omega
      · exact (hC.up hb2).grown q2 fun q => by have := (hown.lt _ q).1; omega
    case measure => simp [intOf]; omega

set_option maxHeartbeats 3200000 in
set_option maxRecDepth 100000 in
theorem refs_dict (f : PO → Nat) (M : PO → Prop) (IH : IHr f M) {w : World} {vs : List Value} {n : Int} {b : List UInt8} {l : List PO} {d : List (List UInt8 × PO)} (hgv : GV w vs (.mk 7 n b l d)) (hM : ∀ x ∈ d, M x.2) (hz : (d.map fun e => f e.2).sum ≤ 4000000) :
    Calls Tryz.prog 7 #[.agg vs.toArray] w (RefQ w (d.map fun e => f e.2).sum) := by
  cases hgv with
  | mk k n vb vl vd b l d Cl Cd hk hb hbz hl hle hlz hl' hd hde hdz hk' hd' =>
  obtain ⟨ab, cb, rfl, -⟩ := id hb
  obtain ⟨al, cl, rfl, -⟩ := id hl
  obtain ⟨ad, cd, rfl, -⟩ := id hd
  rw [hle] at hl ⊢
  rw [hde] at hd ⊢
  have HO := hid (C5.new w _ rfl [.int .i64 7, .int .i64 n, .slice ab b.length cb, .slice al l.length cl, .slice ad d.length cd] 34)
  have HB0 := hid (alb1 w (.cells #[.int .i64 7, .int .i64 n, .slice ab b.length cb, .slice al l.length cl, .slice ad d.length cd] 34))
  have HL := hid hd
  have HL2 := hid hd'
  have HK2 := hid hk'
  have HI := hid IH
  have HM := hid hM
  have HZ := hid hz
  have hlm : d.length ≤ 9223372036854775807 := by unfold reachBytes at hdz; omega
  clear hb hl hd hl' hk' hd' hk IH hM hz hbz hlz hdz
  unfold RefQ
  go_enter Tryz.func7, Tryz.ntmps7
  go_wp2
  go_loopw [3, 5] (fun v s3 wr => ∃ (i : Nat) (C : List (List Value)), s3 = .int .i64 i ∧ i ≤ d.length ∧ OwX 1 3 wr (w.heap.size + 1) v C ∧ C.length = ((d.take i).map fun e => f e.2).sum ∧ (∀ c ∈ C, ∃ z : Int, c = [.int .i64 z]) ∧ Below w.heap.size w wr ∧ C5 wr w.heap.size [.int .i64 7, .int .i64 n, .slice ab b.length cb, .slice al l.length cl, .slice ad d.length cd]) (fun _ s3 _ => d.length - (intOf s3).toNat)
  case atStart =>
    exact ⟨0, [], rfl, Nat.zero_le _, OwX.nil _ _ _ _, rfl, (fun c hc => by cases hc), HB0.out, HO.out⟩
  case round =>
    obtain ⟨i, C, rfl, hi, hown, hlen, hint, hB, hC⟩ := hrel
    by_cases hlt : i < d.length
    rotate_left
    · obtain rfl : i = d.length := by omega
      have hzi : ¬ (d.length : Int) < (d.length : Int) := by omega
      have HE := hid (show C.length = (d.map fun e => f e.2).sum from by rw [hlen, List.take_length])
      clear hlen
      obtain ⟨oc, of_, os⟩ := id hC
      go_wp2
      go_ret
      exact ⟨_, rfl, C, hown.base (Nat.le_succ _), HE.out, hint, hB⟩
    have hzi : (i : Int) < (d.length : Int) := by omega
    have hSw := HL.out.up hB
    obtain ⟨g, off, rfl, hcell⟩ := hSw.some (by omega)
    have hCi : i < Cd.length := by omega
    have l2 := hcell i hCi
    have hgi := HL2.out i hCi hlt
    have hv5 := hgi.v5
    have HGI := hid hgi
    have hmi := HM.out _ (List.getElem_mem hlt)
    have HN := hid (sum_snoc (fun e : List UInt8 × PO => f e.2) d i hlt)
    have hst := sum_take (fun e : List UInt8 × PO => f e.2) d (i + 1)
    rw [HN.out, ← hlen] at hst
    have HLN := hid hlen
    have hz2 := HZ.out
    have hkk := HK2.out i hCi hlt
    generalize hci : Cd[i]'hCi = ci at l2 hv5 HGI hgi hkk
    generalize hxx : d[i]'hlt = x at HGI hgi hmi HN hst hkk
    clear hlen hxx
    obtain ⟨hkk, -⟩ := hkk
    rcases ci with _ | ⟨c0, ct⟩
    · cases hkk
    injection hkk with hkk
    subst hkk
    simp only [List.tail_cons] at HGI hv5 hgi
    obtain ⟨p1, p2, p3, p4, p5, p6, p7, p8, p9, p10, p11, rfl⟩ := hv5
    have c0 := l2 0 _ rfl
    have c1 := l2 1 _ rfl
    have c2 := l2 2 _ rfl
    have c3 := l2 3 _ rfl
    have c4 := l2 4 _ rfl
    have c5 := l2 5 _ rfl
    rw [Nat.add_zero] at c0
    have hgw := World.block_lt_of_cell? _ _ c0
    clear l2 hcell hSw hgi hci
    obtain ⟨oc, of_, os⟩ := id hC
    have HIX := hid (fun X (hX : Below wr.heap.size wr X) => HI.out x.2 _ X (HGI.out.up (hB.trans (hX.mono hB.size))) hmi)
    generalize hn2 : f x.2 = n2 at HN hst HIX
    have hin := hown.form
    have hbz := hB.size
    have hclt : C.length ≤ 4000000 ∧ n2 ≤ 4000000 := by omega
    have hgz := hC.2.2
    go_wp2_with (first | (go_at_call 7; refine (HIX.out _ (Below.refl _ _)).mono ?_; rintro e w2 ⟨v2, C2, rfl, hs2, hl2, hi2, hb2⟩) | (at_builtin; refine wpList_append_slx rfl _ _ 35 rfl (w.heap.size + 1) 3 (.int .i64 0) 1 8 intsTy' intIn rfl (by decide) _ C rfl (hown.up hb2) v2 C2 rfl hs2.sl (ones_of hi2) (by omega) (by decide) (by have := hb2.size; omega) ?_; intro v3 w3 q1 q2 q3))
    go_roundw
    case rel =>
      refine ⟨i + 1, C ++ C2, by go_num, by omega, q1, by rw [List.length_append, hl2, HLN.out, HN.out], fun c hc => ?_, ?_, ?_⟩
      · rcases List.mem_append.1 hc with q | q
        · exact hint c q
        · exact hi2 c q
      · exact (hB.trans (hb2.mono hbz)).grown q2 (by have := hb2.size; omega) fun k hk => by have := (hown.lt k hk).1; omega
      · exact (hC.up hb2).grown q2 fun q => by have := (hown.lt _ q).1; omega
    case measure => simp [intOf]; omega

def RefD (dp : Nat) : Prop := ∀ (o : PO) (vs : List Value) (w : World), GV w vs o → mayF dp o = true ∧ ¬ o.kind = 8 ∧ refF dp o ≤ 4000000 → Calls Tryz.prog 7 #[.agg vs.toArray] w (RefQ w (refF dp o))
theorem refs_step (dp : Nat) (IH : ∀ m, dp = m + 1 → RefD m) : RefD dp := by
  intro o vs w hgv ⟨hm, h8, hz⟩
  obtain ⟨k, n, b, l, d⟩ := o
  have h8 : ¬ k = 8 := h8
  rw [mayF_eq] at hm
  by_cases h6 : k = 6
  · subst h6
    unfold mayS at hm
    rw [Bool.and_eq_true] at hm
    have hc := hm.2
    rw [if_neg (by decide), if_neg (by decide), if_neg (by decide), if_neg (by decide)] at hc
    by_cases n0 : ¬ n = 0
    · rw [if_pos n0] at hc; cases hc
    rw [if_neg n0, if_neg (by decide), if_neg (by decide), if_neg (by decide), if_pos rfl] at hc
    cases dp with
    | zero => cases hc
    | succ m =>
      simp only [prevF, List.all_eq_true, Bool.and_eq_true, bne_iff_ne, ne_eq] at hc
      have e : refF (m + 1) (.mk 6 n b l d) = (l.map (refF m)).sum := rfl
      rw [e] at hz ⊢
      exact refs_arr (refF m) (fun x => mayF m x = true ∧ ¬ x.kind = 8 ∧ refF m x ≤ 4000000) (IH m rfl) hgv (fun x hx => ⟨(hc x hx).2, (hc x hx).1, Nat.le_trans (mem_sum (f := refF m) hx) hz⟩) hz
  by_cases h7 : k = 7
  · subst h7
    unfold mayS at hm
    rw [Bool.and_eq_true] at hm
    have hc := hm.2
    rw [if_neg (by decide), if_neg (by decide), if_neg (by decide), if_neg (by decide)] at hc
    by_cases n0 : ¬ n = 0
    · rw [if_pos n0] at hc; cases hc
    rw [if_neg n0, if_neg (by decide), if_neg (by decide), if_neg (by decide), if_neg (by decide), if_pos (.inl rfl)] at hc
    cases dp with
    | zero => cases hc
    | succ m =>
      unfold entF prevF at hc
      simp only [Bool.and_eq_true, decide_eq_true_eq, List.all_eq_true, List.mem_range] at hc
      have e : refF (m + 1) (.mk 7 n b l d) = (d.map fun e => refF m e.2).sum := rfl
      rw [e] at hz ⊢
      refine refs_dict (refF m) (fun x => mayF m x = true ∧ ¬ x.kind = 8 ∧ refF m x ≤ 4000000) (IH m rfl) hgv (fun x hx => ?_) hz
      obtain ⟨j, hj, rfl⟩ := List.getElem_of_mem hx
      have h := hc.2 j hj
      unfold chkE at h
      rw [keyAt_at hj, valAt_at hj] at h
      simp only [Bool.and_eq_true, bne_iff_ne, ne_eq] at h
      obtain ⟨⟨⟨⟨a1, -⟩, a3⟩, -⟩, a5⟩ := h
      exact ⟨a5, a3, Nat.le_trans (mem_sum (f := fun e : List UInt8 × PO => refF m e.2) hx) hz⟩
  have hg2 := hgv
  cases hgv with
  | mk k n vb vl vd b l d Cl Cd hk hb hbz hl hle hlz hl' hd hde hdz hk' hd' =>
  cases dp with
  | zero => exact refs_flat k n vb vl vd w b l d (fun _ => 0) hg2 h6 h7 h8
  | succ m => exact refs_flat k n vb vl vd w b l d (refF m) hg2 h6 h7 h8
theorem refs_all : ∀ dp, RefD dp
  | 0 => refs_step 0 (fun m q => by omega)
  | dp + 1 => refs_step (dp + 1) (fun m q => by have e : m = dp := (by omega); subst e; exact refs_all m)
theorem refF_le : ∀ (dp : Nat) (o : PO), refF dp o ≤ szF dp o
  | 0, .mk k n b l d => by
    rw [refF, refS, szF, szS]
    split
    · omega
    split
    · have := sum_le (f := fun _ : PO => 0) (g := fun _ : PO => 1) 1 l (fun _ _ => by omega); omega
    split
    · have := sum_le (f := fun _ : List UInt8 × PO => 0) (g := fun e : List UInt8 × PO => e.1.length + 1 + 1) 1 d (fun _ _ => by omega); omega
    · omega
  | dp + 1, .mk k n b l d => by
    rw [refF, refS, szF, szS]
    split
    · omega
    split
    · have := sum_le (f := refF dp) (g := szF dp) 1 l (fun x _ => by have := refF_le dp x; omega); omega
    split
    · have := sum_le (f := fun e : List UInt8 × PO => refF dp e.2) (g := fun e : List UInt8 × PO => e.1.length + 1 + szF dp e.2) 1 d (fun x _ => by have := refF_le dp x.2; omega); omega
    · omega
end Go.Proofs.YtjkoiknjffldjaaGreatDoor

/-
  The document's Ref, Int, Arr of nothing; a slice of numbers of sixteen bits that came in. No condition.
-/
namespace Go.Proofs.YtjkoiknjffldjaaGreatDoor
open Go.ChangeShapes Go.WideShapes Go.ChangeAt Go.RowKit
set_option linter.unusedVariables false

set_option maxRecDepth 100000 in
theorem rint_any (n : Int) (w : World) : Calls Tryz.prog 12 #[.int .i64 n] w fun e w' => e = .returned (ob 2 n (.slice none 0 0)) ∧ Below w.heap.size w w' := by
  go_enter Tryz.func12, Tryz.ntmps12
  go_wp2
  refine bodyPost_ret (v := ob 2 n (.slice none 0 0)) (by simp [results, Tryz.results12, go_sem]) rfl ⟨rfl, by first | exact alb _ _ | exact below_then (alb _ _) (alb _ _)⟩

/-- a slice of numbers of sixteen bits -/
def S16 (w : World) (v : Value) (l : List Nat) : Prop := ∃ ao cap, v = .slice ao l.length cap ∧ (l = [] ∨ ∃ g off, ao = some ⟨g, off, none⟩ ∧ ∀ j (h : j < l.length), l[j] < 65536 ∧ w.cell? ⟨g, off + j, none⟩ = some (.int .u16 (l[j] : Nat)))

variable {H : Type} {enc : TypeId × Value → H}
theorem u16_wf {n : Int} (h : (Lit.int .u16 n).wf = true) : 0 ≤ n ∧ n ≤ 65535 := by
  have := bounds_u16 h; omega

end Go.Proofs.YtjkoiknjffldjaaGreatDoor

/-
  The document's Dict of one entry. Condition: what the entry holds came in.
-/
namespace Go.Proofs.YtjkoiknjffldjaaGreatDoor
open Go.RowKit
set_option linter.unusedVariables false

set_option maxHeartbeats 3200000 in
set_option maxRecDepth 100000 in
theorem rdict_one {A0 : Nat → Prop} {w : World} {us : List Value} (key : List UInt8) {vk : Value} {oe : PO} (hk : SlX 6 w vk [ecl (key, us)]) (hus : OV A0 w us oe) (hA0 : ∀ g, A0 g → g < w.heap.size) :
    Calls Tryz.prog 10 #[vk] w fun e w' => ∃ vs' : List Value, e = .returned (.agg vs'.toArray) ∧ OV (fun g => A0 g ∨ (w.heap.size ≤ g ∧ g < w'.heap.size)) w' vs' (.mk 7 0 [] [] (wi (key, oe) [])) ∧ Below w.heap.size w w' := by
  obtain ⟨ak, ck, rfl, s1, s2, s3, s4, s5⟩ := id hk
  have hu5 := hus.v5
  have HUS := hid hus
  clear hus
  obtain ⟨z1, z2, z3, z4, z5, z6, z7, z8, z9, z10, z11, rfl⟩ := hu5
  have hZ0 := (C5.new w _ rfl [.int .i64 0, .int .i64 0, .slice none 0 0, .slice none 0 0, .slice none 0 0] 34).up (alb _ (.cells #[.int .i64 7, .int .i64 0, .slice none 0 0, .slice none 0 0, .slice none 0 0] 34))
  have hO0 := C5.new (w.alloc (.cells #[.int .i64 0, .int .i64 0, .slice none 0 0, .slice none 0 0, .slice none 0 0] 34)) (w.heap.size + 1) (by simp) [.int .i64 7, .int .i64 0, .slice none 0 0, .slice none 0 0, .slice none 0 0] 34
  have hWW := below_then (alb w (.cells #[.int .i64 0, .int .i64 0, .slice none 0 0, .slice none 0 0, .slice none 0 0] 34)) (alb _ (.cells #[.int .i64 7, .int .i64 0, .slice none 0 0, .slice none 0 0, .slice none 0 0] 34))
  obtain ⟨gk, offk, rfl, hck⟩ := hk.some (by simp)
  have HCK := hid (hck 0 (by simp) 0 _ rfl)
  have HC1 := hid (hck 0 (by simp) 1 _ rfl)
  have HC2 := hid (hck 0 (by simp) 2 _ rfl)
  have HC3 := hid (hck 0 (by simp) 3 _ rfl)
  have HC4 := hid (hck 0 (by simp) 4 _ rfl)
  have HC5 := hid (hck 0 (by simp) 5 _ rfl)
  have hsz2 : ((w.alloc (.cells #[.int .i64 0, .int .i64 0, .slice none 0 0, .slice none 0 0, .slice none 0 0] 34)).alloc (.cells #[.int .i64 7, .int .i64 0, .slice none 0 0, .slice none 0 0, .slice none 0 0] 34)).heap.size = w.heap.size + 2 := by simp
  clear hck s5
  go_enter Tryz.func10, Tryz.ntmps10
  go_wp2
  generalize (w.alloc (.cells #[.int .i64 0, .int .i64 0, .slice none 0 0, .slice none 0 0, .slice none 0 0] 34)).alloc (.cells #[.int .i64 7, .int .i64 0, .slice none 0 0, .slice none 0 0, .slice none 0 0] 34) = w4 at *
  have hov4 : OV (fun _ => False) w4 [.int .i64 7, .int .i64 0, .slice none 0 0, .slice none 0 0, .slice none 0 0] (.mk 7 0 [] [] []) := OV.num 7 0
  obtain ⟨g3, hg3⟩ : ∃ g3, g3 = w.heap.size + 1 := ⟨_, rfl⟩
  have hck := cell_up' hWW HCK.out
  have hzk := World.block_lt_of_cell? _ _ hck
  have hck1 := cell_up' hWW HC1.out
  have hck2 := cell_up' hWW HC2.out
  have hck3 := cell_up' hWW HC3.out
  have hck4 := cell_up' hWW HC4.out
  have hck5 := cell_up' hWW HC5.out
  rw [show offk + 0 * 6 + 0 = offk by omega] at hck
  rw [show offk + 0 * 6 + 1 = offk + 1 by omega] at hck1
  rw [show offk + 0 * 6 + 2 = offk + 2 by omega] at hck2
  rw [show offk + 0 * 6 + 3 = offk + 3 by omega] at hck3
  rw [show offk + 0 * 6 + 4 = offk + 4 by omega] at hck4
  rw [show offk + 0 * 6 + 5 = offk + 5 by omega] at hck5
  have HCC := hid (show ∀ X : World, (∀ o, w4.cell? ⟨gk, o, none⟩ = X.cell? ⟨gk, o, none⟩) → (X.cell? ⟨gk, offk, none⟩ = some (.string (st key)) ∧ X.cell? ⟨gk, offk + 1, none⟩ = some (.int .i64 z1) ∧ X.cell? ⟨gk, offk + 2, none⟩ = some (.int .i64 z2) ∧ X.cell? ⟨gk, offk + 3, none⟩ = some (.slice z3 z6 z7) ∧ X.cell? ⟨gk, offk + 4, none⟩ = some (.slice z4 z8 z9) ∧ X.cell? ⟨gk, offk + 5, none⟩ = some (.slice z5 z10 z11)) from fun X hX => ⟨by rw [← hX]; exact hck, by rw [← hX]; exact hck1, by rw [← hX]; exact hck2, by rw [← hX]; exact hck3, by rw [← hX]; exact hck4, by rw [← hX]; exact hck5⟩)
  have hgk : gk < w.heap.size := World.block_lt_of_cell? _ _ HCK.out
  go_loopw [4] (fun s4 wr => (s4 = .int .i64 0 ∧ wr = w4) ∨ (s4 = .int .i64 1 ∧ ∃ a9 k9 c9, C5 wr (w.heap.size + 1) [.int .i64 7, .int .i64 0, .slice none 0 0, .slice none 0 0, .slice a9 k9 c9] ∧ OV (fun g => (w.heap.size + 2 ≤ g ∧ g < wr.heap.size) ∨ A0 g) wr [.int .i64 7, .int .i64 0, .slice none 0 0, .slice none 0 0, .slice a9 k9 c9] (.mk 7 0 [] [] (wi (key, oe) [])) ∧ Below w.heap.size w wr ∧ C5 wr w.heap.size [.int .i64 0, .int .i64 0, .slice none 0 0, .slice none 0 0, .slice none 0 0])) (fun s4 _ => 1 - (intOf s4).toNat)
  case atStart => exact .inl ⟨rfl, rfl⟩
  case round =>
    rcases hrel with ⟨rfl, rfl⟩ | ⟨rfl, a9, k9, c9, hX9, hov9, hW9, hZ9⟩
    · obtain ⟨xc, xf, xs⟩ := id hO0
      have hbd : Below wr.heap.size wr wr.drew := below_drewN (Below.refl _ _) 1
      have HWI := hid (with_any (A := A0) (w := wr.drew) (D := []) (d := []) key (fun g hg => by have := hbd.size; have := hWW.size; have := hA0 g hg; omega) .nil (SlX.nil 6 _) ((HUS.out.up (hWW.trans (hbd.mono hWW.size))).keep (fun _ h => h) (fun _ _ _ => rfl)) (by simp))
      have HNE := hid (show gk ≠ w.heap.size + 1 from by omega)
      have HCCd := HCC.out wr.drew (fun o => (hbd.cell (p := ⟨gk, o, none⟩) hzk).symm)
      go_upto_region 5 with fail
      have hlv : opLd 32 (Operand.tmp 12) = Op.load 32 (Operand.tmp 12) := rfl
      rw [← hlv]
      go_region_held3 (fun w' => w'.cell? ⟨gk, offk, none⟩ = some (.string (st key)) ∧ w'.cell? ⟨gk, offk + 1, none⟩ = some (.int .i64 z1) ∧ w'.cell? ⟨gk, offk + 2, none⟩ = some (.int .i64 z2) ∧ w'.cell? ⟨gk, offk + 3, none⟩ = some (.slice z3 z6 z7) ∧ w'.cell? ⟨gk, offk + 4, none⟩ = some (.slice z4 z8 z9) ∧ w'.cell? ⟨gk, offk + 5, none⟩ = some (.slice z5 z10 z11)) (first | go_keep | with_reducible exact HCC.out _ (fun _ => rfl) | with_reducible exact HCCd | with_reducible exact HCC9.out | with_reducible exact HCCs.out | skip) (first | (go_at_call 21; (with_reducible refine HWI.out.mono ?_); rintro e w9 ⟨v9, rfl, E9, hrow9, hE9, hb9⟩; obtain ⟨a9, c9, hv9⟩ := hrow9.lin; rw [List.length_map] at hv9; subst hv9; have hX9 := (hO0.up hbd).up hb9; have HCC9 := hid (HCC.out w9 (fun o => ((hb9.cell (p := ⟨gk, o, none⟩) (Nat.lt_of_lt_of_le hzk hbd.size)).trans (hbd.cell (p := ⟨gk, o, none⟩) hzk)).symm)); have HCCs := hid (HCC.out (w9.setCell ⟨w.heap.size + 1, 4, none⟩ (.slice a9 E9.length c9)) (fun o => ((cset_ne (fun q => HNE.out (by injection q with q1 _; exact q1.symm))).trans ((hb9.cell (p := ⟨gk, o, none⟩) (Nat.lt_of_lt_of_le hzk hbd.size)).trans (hbd.cell (p := ⟨gk, o, none⟩) hzk))).symm)); obtain ⟨xc, xf, xs⟩ := id hX9))
      all_goals
        go_wp2_with fail
        have hS := fun B => Held.set (B := B) (p := w.heap.size + 1) (q := w.heap.size + 1) w9 ⟨w.heap.size + 1, 4, none⟩ (.slice a9 E9.length c9) (.inl rfl)
        have hsd := hbd.size
        have hs9 := hb9.size
        have hgx := hO0.2.2
        have hwl := wi_len (key, oe) []
        have hov9 : OV (fun g => (w.heap.size + 2 ≤ g ∧ g < w9.heap.size) ∨ A0 g) w9 [.int .i64 7, .int .i64 0, .slice none 0 0, .slice none 0 0, .slice none 0 0] (.mk 7 0 [] [] []) := OV.num 7 0
        have hr9 := hrow9.row (A := fun g => (w.heap.size + 2 ≤ g ∧ g < w9.heap.size) ∨ A0 g) (fun g h1 h2 => .inl ⟨by omega, h2⟩)
        rw [List.length_map] at hr9
        have hset := hov9.setD hr9 (hE9.keep (fun g hg => by
          rcases hg with hg | hg
          · exact .inr hg
          · have := hg.1; have := hg.2; exact .inl ⟨by omega, by omega⟩) (fun _ _ _ => rfl)) (Nat.le_trans hwl (by simp))
        go_roundw
        case rel => exact .inr ⟨rfl, a9, E9.length, c9, hX9.set (k := 4) (by simp), hset.keep (fun g hg => hg.imp (fun hg => ⟨hg.1, Nat.lt_of_lt_of_le hg.2 (hS 0).size⟩) id) (fun g hg hlt => by
          have hne : g ≠ w.heap.size + 1 := by
            rcases hg with hg | hg
            · have := hg.1; omega
            · have := hA0 g hg; omega
          exact (hS w9.heap.size).block g hlt hne hne), ((hWW.trans (hbd.mono hWW.size)).trans (hb9.mono (by have := hWW.size; omega))).trans ((hS w.heap.size).below (Nat.le_refl _) (by omega) (by omega)), ((hZ0.up hbd).up hb9).held (hS _) (by omega) (by omega)⟩
        case measure => simp [intOf]
    · obtain ⟨xc, xf, xs⟩ := id hX9
      obtain ⟨rc, rf, rs⟩ := id hZ9
      go_wp2
      obtain ⟨k0, k1, k2, k3, k4⟩ := (hZ9.set5 (a := .int .i64 7) (b := .int .i64 0) (c := .slice none 0 0) (d := .slice none 0 0) (e := .slice a9 k9 c9) rfl).s5
      have hh := fun B => set5_held wr B w.heap.size (.int .i64 7) (.int .i64 0) (.slice none 0 0) (.slice none 0 0) (.slice a9 k9 c9)
      have hws := hW9.size
      refine bodyPost_ret (v := .agg #[.int .i64 7, .int .i64 0, .slice none 0 0, .slice none 0 0, .slice a9 k9 c9]) (by simp [results, Tryz.results10, go_sem, k0, k1, k2, k3, k4]) rfl ⟨[.int .i64 7, .int .i64 0, .slice none 0 0, .slice none 0 0, .slice a9 k9 c9], rfl, ?_, hW9.trans ((hh wr.heap.size).below hws (by omega) (by omega))⟩
      exact hov9.keep (fun g hg => by
        rcases hg with hg | hg
        · exact .inr ⟨by have := hg.1; omega, Nat.lt_of_lt_of_le hg.2 (hh 0).size⟩
        · exact .inl hg) (fun g hg h1 => by
        have hne : g ≠ w.heap.size := by
          rcases hg with hg | hg
          · have := hg.1; omega
          · have := hA0 g hg; omega
        exact (hh wr.heap.size).block g h1 hne hne)
end Go.Proofs.YtjkoiknjffldjaaGreatDoor

/-
  What ContentBack's loops keep: the bytes so far, the operators that are wanted. No walk here.
-/
namespace Go.Proofs.YtjkoiknjffldjaaGreatDoor
open Go.RowKit
set_option linter.unusedVariables false

/-- a row of objects that came in, none too great -/
def GVZ (w : World) (v : Value) (l : List PO) : Prop := GVs w v l ∧ l.length ≤ 4000000 ∧ ∀ a ∈ l, ∀ dp, szF dp a ≤ 4000000
theorem GVZ.up {w w' : World} {v : Value} {l : List PO} (h : GVZ w v l) (hb : Below w.heap.size w w') : GVZ w' v l := ⟨h.1.up hb, h.2⟩
/-- an operator's cells: its operands came in or were made -/
def EL (A : Nat → Prop) (w0 w : World) (c : List Value) (o : CO) : Prop := ∃ va vd, c = [.string (st o.name), va, vd, .int .i64 o.at_] ∧ (GVZ w0 va o.args ∨ AR A w va o.args) ∧ Sl w0 vd o.data
theorem EL.keep {A B : Nat → Prop} {w0 w w' : World} {c : List Value} {o : CO} (h : EL A w0 w c o) (hA : ∀ g, A g → B g) (hk : ∀ g, A g → g < w.heap.size → w'.heap[g]? = w.heap[g]?) : EL B w0 w' c o := by
  obtain ⟨va, vd, rfl, h1, h2⟩ := h
  exact ⟨va, vd, rfl, h1.imp id (fun q => q.keep hA hk), h2⟩
theorem GVZ.ar {w : World} {v : Value} {l : List PO} (h : GVZ w v l) : AR (fun _ => True) w v l := by
  obtain ⟨⟨C, h1, h2⟩, h3, h4⟩ := h
  refine ⟨C, ?_, ?_⟩
  · have := h1.row; rwa [All2.len h2] at this
  · exact All2.of (All2.len h2) fun i a b => (h2.at i a b).ov (h4 _ (List.getElem_mem b))
theorem EL.op {A : Nat → Prop} {w0 w : World} {c : List Value} {o : CO} (h : EL A w0 w c o) (hb : Below w0.heap.size w0 w) : OpV (fun _ => True) w c o := by
  obtain ⟨va, vd, rfl, h1, h2⟩ := h
  refine ⟨va, vd, rfl, ?_, h2.up hb, fun _ _ => trivial⟩
  rcases h1 with h1 | h1
  · exact (h1.up hb).ar
  · exact h1.keep (fun _ _ => trivial) (fun _ _ _ => rfl)

structure St (w0 w : World) (vb vw : Value) (l : List UInt8) (L : List CO) : Prop where
  row : OwnB w w0.heap.size 5 vb l
  bel : Below w0.heap.size w0 w
  ap : ∀ g, vb.ownBlock = some g → vw.ownBlock ≠ some g
  ex : ∃ C A, OwX 4 27 w w0.heap.size vw C ∧ All2 (EL A w0 w) C L ∧ ∀ g, A g → g < w.heap.size ∧ vb.ownBlock ≠ some g ∧ vw.ownBlock ≠ some g
section
variable {w0 w w' : World} {vb vw vb' vw' : Value} {l m : List UInt8} {L : List CO}
theorem St.below (h : St w0 w vb vw l L) (hb : Below w.heap.size w w') : St w0 w' vb vw l L := by
  obtain ⟨C, A, h1, h2, h3⟩ := h.ex
  have hs := hb.size
  exact ⟨h.row.up hb, h.bel.trans (hb.mono h.bel.size), h.ap, C, A, h1.up hb, h2.mono fun c o q => q.keep (fun _ q => q) (fun g hg hlt => hb.block g hlt), fun g hg => ⟨by have := (h3 g hg).1; omega, (h3 g hg).2⟩⟩
theorem St.bytes (h : St w0 w vb vw l L) (h1 : OwnB w' w0.heap.size 5 vb' (l ++ m)) (h2 : w.grownBy w' vb.ownBlock) (h3 : Moved w vb vb') : St w0 w' vb' vw (l ++ m) L := by
  obtain ⟨C, A, k1, k2, k3⟩ := h.ex
  have hs := h2.size
  have hne : ∀ g, vw.ownBlock = some g → some g ≠ vb.ownBlock := fun g hg q => h.ap g q.symm hg
  refine ⟨h1, below_append h.bel h.row h2 (Nat.le_refl _) h.bel.size, fun g hg q => ?_, C, A, ⟨World.ownsRow.kept k1.1 h2 ?_, k1.2⟩, k2.mono fun c o q => q.keep (fun _ q => q) (fun g hg hlt => h2.block g hlt (fun q => (k3 g hg).2.1 q.symm)), fun g hg => ⟨by have := (k3 g hg).1; omega, fun q => ?_, (k3 g hg).2.2⟩⟩
  · have hw := (k1.lt g q).2
    rcases h3 with h3 | h3
    · rw [h3] at hg; exact h.ap g hg q
    · rw [h3] at hg; injection hg with hg; omega
  · cases hq : vw.ownBlock with
    | none => exact .inl rfl
    | some g => exact .inr (hne g hq)
  · have hw := (k3 g hg).1
    rcases h3 with h3 | h3
    · rw [h3] at q; exact (k3 g hg).2.1 q
    · rw [h3] at q; injection q with q; omega
theorem St.want (h : St w0 w vb vw l L) {C : List (List Value)} {A A2 : Nat → Prop} {c : List Value} {o : CO} (k2 : All2 (EL A w0 w) C L) (k3 : ∀ g, A g → g < w.heap.size ∧ vb.ownBlock ≠ some g ∧ vw.ownBlock ≠ some g)
    (h1 : OwX 4 27 w' w0.heap.size vw' (C ++ [c])) (h2 : w.grownBy w' vw.ownBlock) (h3 : Moved w vw vw') (hvw : ∀ g, vw.ownBlock = some g → w0.heap.size ≤ g) (he : EL A2 w0 w c o) (hA2 : ∀ g, A2 g → g < w.heap.size ∧ vb.ownBlock ≠ some g ∧ vw.ownBlock ≠ some g) : St w0 w' vb vw' l (L ++ [o]) := by
  have hs := h2.size
  have hne : ∀ g, vb.ownBlock = some g → some g ≠ vw.ownBlock := fun g hg q => h.ap g hg q.symm
  have hrow := h.row
  have key : ∀ g, (A g ∨ A2 g) → g < w.heap.size ∧ vb.ownBlock ≠ some g ∧ vw.ownBlock ≠ some g := fun g hg => hg.elim (k3 g) (hA2 g)
  refine ⟨World.ownsRow.kept hrow h2 ?_, h.bel.grown h2 h.bel.size hvw, fun g hg q => ?_, C ++ [c], fun g => A g ∨ A2 g, h1, ?_, fun g hg => ⟨by have := (key g hg).1; omega, (key g hg).2.1, fun q => ?_⟩⟩
  · cases hq : vb.ownBlock with
    | none => exact .inl rfl
    | some g => exact .inr (hne g hq)
  · have hb := (World.ownsRow.lt hrow g hg).2
    rcases h3 with h3 | h3
    · rw [h3] at q; exact h.ap g hg q
    · rw [h3] at q; injection q with q; omega
  · have hk : ∀ g, (A g ∨ A2 g) → g < w.heap.size → w'.heap[g]? = w.heap[g]? := fun g hg hlt => h2.block g hlt (fun q => (key g hg).2.2 q.symm)
    exact All2.app (k2.mono fun c o q => q.keep (fun _ q => .inl q) (fun g hg hlt => hk g (.inl hg) hlt)) (All2.one (he.keep (fun _ q => .inr q) (fun g hg hlt => hk g (.inr hg) hlt)))
  · have hb := (key g hg).1
    rcases h3 with h3 | h3
    · rw [h3] at q; exact (key g hg).2.2 q
    · rw [h3] at q; injection q with q; omega
end
/-- a block of the call's own beside both rows -/
def BX (w : World) (go : Nat) (K : List Value) (vb vw : Value) : Prop := C5 w go K ∧ vb.ownBlock ≠ some go ∧ vw.ownBlock ≠ some go
section
variable {w w' : World} {go : Nat} {K : List Value} {vb vw vb' vw' : Value}
theorem BX.below (h : BX w go K vb vw) (hb : Below w.heap.size w w') : BX w' go K vb vw := ⟨h.1.up hb, h.2⟩
theorem BX.bytes (h : BX w go K vb vw) (h2 : w.grownBy w' vb.ownBlock) (h3 : Moved w vb vb') : BX w' go K vb' vw := ⟨h.1.grown h2 h.2.1, fun q => by
  have hlt := h.1.2.2
  rcases h3 with h3 | h3
  · rw [h3] at q; exact h.2.1 q
  · rw [h3] at q; injection q with q; omega, h.2.2⟩
theorem BX.want (h : BX w go K vb vw) (h2 : w.grownBy w' vw.ownBlock) (h3 : Moved w vw vw') : BX w' go K vb vw' := ⟨h.1.grown h2 h.2.2, h.2.1, fun q => by
  have hlt := h.1.2.2
  rcases h3 with h3 | h3
  · rw [h3] at q; exact h.2.2 q
  · rw [h3] at q; injection q with q; omega⟩
theorem St.new {w0 : World} {l : List UInt8} {L : List CO} (h : St w0 w vb vw l L) (K : List Value) (T : TypeId) : BX (w.alloc (.cells K.toArray T)) w.heap.size K vb vw := by
  obtain ⟨C, A, h1, h2, h3⟩ := h.ex
  have hrow := h.row
  exact ⟨C5.new w _ rfl K T, fun q => by have := (World.ownsRow.lt hrow _ q).2; omega, fun q => by have := (h1.lt _ q).2; omega⟩
end
/-- the wanted operators, one more -/
theorem wants_snoc : ∀ (p : Nat) (os : List BO) (o : BO), wants p (os ++ [o]) = wants p os ++ wantO (p + (os.flatMap opB).length) o
  | p, [], o => by simp [wants]
  | p, x :: os, o => by
    rw [List.cons_append, wants, wants, wants_snoc (p + (opB x).length) os o, List.append_assoc, List.flatMap_cons, List.length_append, Nat.add_assoc]
theorem argB_snoc (l : List PO) (k : Nat) (h : k < l.length) : argB (l.take (k + 1)) = argB (l.take k) ++ shwF 28 l[k] ++ [32] := by
  unfold argB
  rw [List.take_succ_eq_append_getElem h, List.flatMap_append]
  simp

theorem wOk_len {n : List UInt8} (h : wOk n = true) : n.length ≤ 127 := by
  cases n with
  | nil => simp
  | cons x w =>
    unfold wOk at h
    simp only [Bool.and_eq_true, decide_eq_true_eq] at h
    obtain ⟨⟨⟨⟨⟨⟨⟨⟨⟨⟨⟨⟨⟨a1, a2⟩, a3⟩, a4⟩, a5⟩, a6⟩, a7⟩, a8⟩, a9⟩, a10⟩, a11⟩, a12⟩, a13⟩, a14⟩ := h
    exact a2
def Bk0 (w : World) (i : Nat) (vb vw : Value) (wr : World) (os : List BO) : Prop := os.length = i ∧ (∀ o ∈ os, BOk o) ∧ (os.flatMap opB).length ≤ 70000 * i ∧ St w wr vb vw (os.flatMap opB) (wants 0 os)
theorem snoc_ok {os : List BO} {o : BO} (h : ∀ o ∈ os, BOk o) (ho : BOk o) : ∀ x ∈ os ++ [o], BOk x := fun x hx => by
  rcases List.mem_append.1 hx with q | q
  · exact h x q
  · obtain rfl : x = o := by simpa using q
    exact ho
theorem bk_none {w wX : World} {i : Nat} {vb vw : Value} {os : List BO} {nm lb : List UInt8} {args : List PO} {L : List CO} (h1 : os.length = i) (h2 : ∀ o ∈ os, BOk o) (h3 : (os.flatMap opB).length ≤ 70000 * i) (hb : BOk ⟨nm, args, none⟩) (hn : nm.length ≤ 127) (hl : (argB args).length ≤ 2001 * args.length) (hlb : os.flatMap opB ++ argB args = lb) (hL : wants 0 os = L)
    (hSt : St w wX vb vw (lb ++ nm ++ [32]) (L ++ [⟨nm, args, [], (lb.length : Int)⟩])) : Bk0 w (i + 1) vb vw wX (os ++ [⟨nm, args, none⟩]) := by
  have hk := hb.2.2.1
  have e1 : (os ++ [(⟨nm, args, none⟩ : BO)]).flatMap opB = lb ++ nm ++ [32] := by rw [← hlb]; simp [opB, imgB]
  have e2 : wants 0 (os ++ [⟨nm, args, none⟩]) = L ++ [⟨nm, args, [], (lb.length : Int)⟩] := by
    rw [wants_snoc, hL, wantO, ← hlb, List.length_append, Nat.zero_add]
  have hk : args.length ≤ 33 := hk
  refine ⟨by simp [h1], snoc_ok h2 hb, ?_, by rw [e1, e2]; exact hSt⟩
  rw [e1, ← hlb]
  simp only [List.length_append, List.length_singleton]
  omega
theorem bk_some {w wX : World} {i : Nat} {vb vw : Value} {os : List BO} {nm lb data : List UInt8} {args : List PO} {L : List CO} (h1 : os.length = i) (h2 : ∀ o ∈ os, BOk o) (h3 : (os.flatMap opB).length ≤ 70000 * i) (hb : BOk ⟨nm, args, some data⟩) (hn : nm.length ≤ 127) (hd : data.length < 200) (hl : (argB args).length ≤ 2001 * args.length) (hlb : os.flatMap opB ++ argB args = lb) (hL : wants 0 os = L)
    (hSt : St w wX vb vw (lb ++ nm ++ [32] ++ bImg ++ data ++ bEnd) (L ++ [⟨nm, args, [], (lb.length : Int)⟩] ++ [⟨bBI, [poW], data, ((lb ++ nm ++ [32]).length : Int)⟩])) : Bk0 w (i + 1) vb vw wX (os ++ [⟨nm, args, some data⟩]) := by
  have hk := hb.2.2.1
  have e1 : (os ++ [(⟨nm, args, some data⟩ : BO)]).flatMap opB = lb ++ nm ++ [32] ++ bImg ++ data ++ bEnd := by rw [← hlb]; simp [opB, imgB]
  have e2 : wants 0 (os ++ [⟨nm, args, some data⟩]) = L ++ [⟨nm, args, [], (lb.length : Int)⟩] ++ [⟨bBI, [poW], data, ((lb ++ nm ++ [32]).length : Int)⟩] := by
    rw [wants_snoc, hL, wantO, ← hlb, List.append_assoc]
    simp only [List.length_append, List.length_singleton, Nat.zero_add, List.cons_append, List.nil_append]
  have hk : args.length ≤ 33 := hk
  refine ⟨by simp [h1], snoc_ok h2 hb, ?_, by rw [e1, e2]; exact hSt⟩
  rw [e1, ← hlb]
  simp only [List.length_append, List.length_singleton]
  have : bImg.length = 11 := rfl
  have : bEnd.length = 4 := rfl
  omega
theorem op_one (s : ByteArray) (a1 a2 : Option Addr) (n1 c1 n2 c2 : Nat) (k : Int) : ∀ c ∈ [[Value.string s, .slice a1 n1 c1, .slice a2 n2 c2, .int .i64 k]], ∀ u ∈ c, u.oneCell' = true := by
  intro c hc u hu
  obtain rfl : c = [Value.string s, .slice a1 n1 c1, .slice a2 n2 c2, .int .i64 k] := by simpa using hc
  simp only [List.mem_cons, List.not_mem_nil, or_false] at hu
  rcases hu with rfl | rfl | rfl | rfl <;> rfl
theorem img_ar {w12 : World} {B : Nat} {T : TypeId} {o2 : Obj} {vs : List Value} (hov : OV (fun g => B ≤ g ∧ g < w12.heap.size) w12 vs poW) (hB : B ≤ w12.heap.size) : AR (fun g => B ≤ g ∧ g < ((w12.alloc (.cells vs.toArray T)).alloc o2).heap.size) ((w12.alloc (.cells vs.toArray T)).alloc o2) (.slice (some ⟨w12.heap.size, 0, none⟩) 1 1) [poW] := by
  have hb := below_then (alb w12 (.cells vs.toArray T)) (alb _ o2)
  have hs : ((w12.alloc (.cells vs.toArray T)).alloc o2).heap.size = w12.heap.size + 2 := by simp
  refine ⟨[vs], RowA.one ((C5.new w12 _ rfl vs T).up (alb _ _)) hov.len ⟨hB, by omega⟩, All2.one (hov.keep (fun g hg => ⟨hg.1, by have := hg.2; omega⟩) (fun g hg hlt => hb.block g hlt))⟩
theorem St.img {w w8 wB : World} {v7 v5 va vd : Value} {l7 data : List UInt8} {L : List CO} (h : St w w8 v7 v5 l7 L) (hbB : Below w8.heap.size w8 wB) (har : AR (fun g => w8.heap.size ≤ g ∧ g < wB.heap.size) wB va [poW]) (hd : Sl w vd data) :
    ∃ C, OwX 4 27 wB w.heap.size v5 C ∧ C.length = L.length ∧ ∀ v' w', OwX 4 27 w' w.heap.size v' (C ++ [[.string ⟨#[66, 73]⟩, va, vd, .int .i64 l7.length]]) → wB.grownBy w' v5.ownBlock → Moved wB v5 v' → St w w' v7 v' l7 (L ++ [⟨bBI, [poW], data, (l7.length : Int)⟩]) := by
  have hB := h.below hbB
  have hrow := h.row
  obtain ⟨C0, A0, k1, -, -⟩ := h.ex
  obtain ⟨C, A, h1, h2, h3⟩ := hB.ex
  refine ⟨C, h1, All2.len h2, fun v' w' q1 q2 q3 => hB.want h2 h3 q1 q2 q3 (fun g hg => (h1.lt g hg).1) (A2 := fun g => w8.heap.size ≤ g ∧ g < wB.heap.size) ⟨_, _, rfl, .inr har, hd⟩ (fun g hg => ⟨hg.2, fun q => ?_, fun q => ?_⟩)⟩
  · have := (World.ownsRow.lt hrow g q).2; have := hg.1; omega
  · have := (k1.lt g q).2; have := hg.1; omega
theorem pairW_any (w : World) : Calls Tryz.prog 11 #[.string ⟨#[87]⟩, ob 2 1 (.slice none 0 0)] w fun e w' => ∃ vs' : List Value, e = .returned (ent [87] vs') ∧ OV (fun g => w.heap.size ≤ g ∧ g < w'.heap.size) w' vs' (poInt 1) ∧ Below w.heap.size w w' :=
  rpair_any (A := fun _ => True) [87] (OV.num 2 1)
section
variable {P : Program} {w : World} {o : Oper} {a : Act} {K : Act → World → Prop} {Q : Exit → Act → World → Prop} {t e : TypeId}
/-- append of a string's bytes onto a row of the call's own, in a region that draws its order -/
theorem wp_append_st1 (T : BytesTy P t e) (sl x : Operand) (u : TypeId) (hu : P.underlying u = some .string)
    (ho : o.op = .call { callee := .builtin .append, args := #[sl, x], argTypes := #[t, u] })
    (base : Nat) (v : Value) (l m : List UInt8) (hs : a.eval sl = v) (hown : OwnB w base e v l) (hx : a.eval x = .string (st m))
    (hbytes : l.length + m.length ≤ 140737488355328) (hbase : base ≤ w.heap.size)
    (h : ∀ v' w', OwnB w' base e v' (l ++ m) → w.grownBy w' v.ownBlock → Moved w v v' → K (a.put o.dst v') w') : o.wp P a w K Q := by
  obtain ⟨i, hi, hz, hsize, hby⟩ := info_parts T.elem
  have hzm := st_size m
  obtain ⟨v', w', hr, h2, h3, h4⟩ := Lib.run_append_own_string (P := P) w base t u o.type e i T.under hu hi hz hsize hby v l.length (l.map bv) hown (st m) (by unfold maxLen; omega) (by omega) hbase
  have hmv := run_append_str_moved (P := P) w base t u o.type e i T.under hu hi hz hsize hby v l.length (l.map bv) hown (st m) (by unfold maxLen; omega) (by omega) v' w' hr
  unfold Oper.wp execOp
  simp only [ho, resolve, invoke, builtin, Sem.run_bind, Sem.run_pure, Result.andThen_ok, List.map_toArray, List.map_cons, List.map_nil, hs, hx, hr]
  refine h v' w' ?_ h3 hmv
  have e1 : Lib.strCells (st m) = m.map bv := by unfold Lib.strCells st bv; simp
  unfold OwnB
  rw [List.length_append, List.map_append, ← e1, ← hzm]
  exact h2
end
end Go.Proofs.YtjkoiknjffldjaaGreatDoor
