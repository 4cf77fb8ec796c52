/-
  The program's value at every depth; parse.All. Condition: its bytes are no more than 3600000.
-/
import Derived.Test.YtjkoiknjffldjaaGreatDoorHc
import Derived.Test.YtjkoiknjffldjaaGreatDoorHe
import Derived.Maps.OwnSet
import Derived.Test.YtjkoiknjffldjaaGreatDoorHa
/-
  The program's Dict: entries as a dictionary. Condition: no more than 3600000 entries.
-/
namespace Go.Proofs.YtjkoiknjffldjaaGreatDoor
open Go.RowKit
set_option linter.unusedVariables false

set_option maxHeartbeats 1600000 in
set_option maxRecDepth 100000 in
theorem dict_any {A : Nat → Prop} {w : World} {d : List (List UInt8 × PO)} {ve : Value} {D : List KV} (hD : EVs A w D d) (hS : SlX 6 w ve (D.map ecl)) (hz : d.length ≤ 3600000) :
    Calls Tryz.prog 88 #[ve] w fun e w' => ∃ vs' : List Value, e = .returned (.agg vs'.toArray) ∧ OV (fun g => w.heap.size ≤ g ∧ g < w'.heap.size) w' vs' (dictOf d) ∧ Below w.heap.size w w' := by
  have h0 : ∀ W : World, OV (fun _ => True) W [.int .i64 7, .int .i64 0, .slice none 0 0, .slice none 0 0, .slice none 0 0] (.mk 7 0 [] [] []) := fun W => OV.num 7 0
  have hset := hid (fun W (hW : Below w.heap.size w W) => set_any (A := fun _ => True) (h0 W) (hD.keep (B := A) (fun _ h => h) (fun g _ h => hW.block g h)) (hS.up hW) (by simpa using hz))
  have hZ := C5.new w _ rfl [.int .i64 0, .int .i64 0, .slice none 0 0, .slice none 0 0, .slice none 0 0] 34
  clear hD hS
  go_enter Tryz.func88, Tryz.ntmps88
  go_wp2_with (go_at_call 108; refine (hset.out _ (alb _ _)).mono ?_; rintro e w1 ⟨vs', rfl, hov, hb1⟩; have hZ := hZ.up hb1; obtain ⟨rc, rf, rs⟩ := id hZ; have hV5 := hov.v5; have hov2 := hid hov; clear hov; obtain ⟨y1, y2, y3, y4, y5, y6, y7, y8, y9, y10, y11, rfl⟩ := hV5)
  obtain ⟨k0, k1, k2, k3, k4⟩ := set5_cells (a := .int .i64 y1) (b := .int .i64 y2) (c := .slice y3 y6 y7) (d := .slice y4 y8 y9) (e := .slice y5 y10 y11) (hZ.five rfl)
  have hf := fun B => set5_held w1 B w.heap.size (.int .i64 y1) (.int .i64 y2) (.slice y3 y6 y7) (.slice y4 y8 y9) (.slice y5 y10 y11)
  have hB := below_then (alb w (.cells #[.int .i64 0, .int .i64 0, .slice none 0 0, .slice none 0 0, .slice none 0 0] 34)) hb1
  exact bodyPost_ret (v := .agg #[.int .i64 y1, .int .i64 y2, .slice y3 y6 y7, .slice y4 y8 y9, .slice y5 y10 y11]) (by simp [results, Tryz.results88, go_sem, k0, k1, k2, k3, k4]) rfl ⟨[.int .i64 y1, .int .i64 y2, .slice y3 y6 y7, .slice y4 y8 y9, .slice y5 y10 y11], rfl, hov2.out.keep (fun g hg => ⟨by have := hg.1; simp at this; omega, Nat.lt_of_lt_of_le hg.2 (hf w1.heap.size).size⟩) (fun g hg h1 => (hf w1.heap.size).block g h1 (by have := hg.1; simp at this; omega) (by have := hg.1; simp at this; omega)), hB.trans ((hf w1.heap.size).below hB.size (Nat.le_refl _) (Nat.le_refl _))⟩
end Go.Proofs.YtjkoiknjffldjaaGreatDoor

/-
  The program's dict, by value's contract. Condition: the parser stands in its bytes; at most 28 deep.
-/
namespace Go.Proofs.YtjkoiknjffldjaaGreatDoor
open Go.RowKit
set_option linter.unusedVariables false

theorem held_of_some {w w' : World} {g : Nat} (hg : w.grownBy w' (some g)) : Held w.heap.size g g w w' := ⟨hg.os, hg.tape, hg.output, hg.size, fun k hk h1 _ => hg.block k hk (by simp; omega)⟩
theorem strLaw : Maps.Keyed Tryz.prog 9 := Maps.string_keyed Tryz.underlying9
theorem zeroU (w : World) : (zeroValue 136).run Tryz.prog w = .ok (.agg #[]) w := by kernel_rfl
theorem mapTy : Tryz.prog.underlying 135 = some (.map 9 136) := by kernel_rfl
theorem keyS (k : List UInt8) (h : k.length ≤ 4000000) : keyOf Tryz.prog 9 (.string (st k)) = some (.string k) := WideMaps.keyOf_string_mk Tryz.underlying9 (s := st k) (by show k.length ≤ maxLen; unfold maxLen; omega)
/-- block mb is the set of these keys -/
def Mp (w : World) (mb : Nat) (keys : List (List UInt8)) : Prop := ∃ D : DataW Unit, w.ownsMap Tryz.prog 9 (unitElem (H := Unit)) mb keys.length D ∧ ∀ k : List UInt8, Maps.has D (.string k) = decide (k ∈ keys)
theorem Mp.new (w : World) (mb : Nat) (h : mb = w.heap.size) : Mp (w.alloc (.map #[] 0)) mb [] := by
  subst h
  exact ⟨_, World.ownsMap_made _ _ _ _, fun k => by simp [Maps.has]⟩
theorem Mp.held {w w' : World} {mb p r : Nat} {keys : List (List UInt8)} (h : Mp w mb keys) (hb : Held w.heap.size p r w w') (h1 : mb ≠ p) (h2 : mb ≠ r) : Mp w' mb keys := by
  obtain ⟨D, h3, h4⟩ := h
  refine ⟨D, ?_, h4⟩
  have hlt := h3.lt
  obtain ⟨es, clock, hh, rest⟩ := h3
  exact ⟨es, clock, (hb.block mb hlt h1 h2).trans hh, rest⟩
theorem Mp.lt {w : World} {mb : Nat} {keys : List (List UInt8)} (h : Mp w mb keys) : mb < w.heap.size := by obtain ⟨D, h3, -⟩ := h; exact h3.lt
theorem Mp.up {w w' : World} {mb : Nat} {keys : List (List UInt8)} (h : Mp w mb keys) (hb : Below w.heap.size w w') : Mp w' mb keys := h.held (p := w.heap.size) (r := w.heap.size) (Held.of_below hb) (Nat.ne_of_lt h.lt) (Nat.ne_of_lt h.lt)
theorem Mp.grown {w w' : World} {mb : Nat} {keys : List (List UInt8)} {row : Option Nat} (h : Mp w mb keys) (hg : w.grownBy w' row) (hr : row ≠ some mb) : Mp w' mb keys := by
  obtain ⟨D, h3, h4⟩ := h
  exact ⟨D, h3.kept hg (Ne.symm hr), h4⟩
theorem Mp.put {w' : World} {mb : Nat} {keys : List (List UInt8)} {k : List UInt8} {D : DataW Unit} (hD : Maps.IsMap D) (h3 : w'.ownsMap Tryz.prog 9 (unitElem (H := Unit)) mb (keys.length + 1) (D.put (.string k) (.agg []))) (h4 : ∀ k : List UInt8, Maps.has D (.string k) = decide (k ∈ keys)) : Mp w' mb (keys ++ [k]) := by
  refine ⟨_, by rw [List.length_append, List.length_singleton]; exact h3, fun j => ?_⟩
  by_cases hj : j = k
  · subst hj
    rw [Maps.has_put_same hD (k := .string j) (show WideAt.IsKeyLit (.string j) from trivial)]; simp
  · rw [Maps.has_put_other (fun e => hj (by injection e)), h4 j]; simp [hj]

set_option maxHeartbeats 1600000 in
set_option maxRecDepth 100000 in
theorem dct_of {q : Bool} {pp lp cp : Nat} {b : List UInt8} {d : Nat} (hd : d ≤ 28) (hv : ValueC q pp lp cp b d) (hsb : b.length ≤ 3600000) : DictC q pp lp cp b d := by
  intro w i s h
  have hlo : lp < w.heap.size ∧ cp < w.heap.size := by
    obtain ⟨m, v, hL⟩ := h.lx
    obtain ⟨ao, cap, h1, h2⟩ := hL.lex
    exact ⟨h2.lp, h2.cp⟩
  obtain ⟨O1, hO1⟩ : ∃ o, o = Obj.cells #[.int .i64 0, .int .i64 0, .slice none 0 0, .slice none 0 0, .slice none 0 0] 34 := ⟨_, rfl⟩
  have hP := (h.below (alb w O1)).below (alb _ (.map #[] 0))
  have hZ : Z5 ((w.alloc O1).alloc (.map #[] 0)) w.heap.size := by subst hO1; exact (Z5.new w _).up (alb _ _)
  have hM : Mp ((w.alloc O1).alloc (.map #[] 0)) (w.heap.size + 1) [] := Mp.new _ _ (by simp)
  have hR : RowG ecl EV 6 41 (w.heap.size + 2) ((w.alloc O1).alloc (.map #[] 0)) (.slice none 0 0) [] [] := RowG.nil _ _ _ _ _ _
  subst hO1
  have hmm := @run_makeMap Tryz.prog
  go_enter Tryz.func98, Tryz.ntmps98
  go_wp2
  clear hmm
  go_loopw [7, 8, 9, 10, 11, 12, 13] (fun s7 _ _ _ _ _ _ wr => ∃ keys : List (List UInt8), ∃ ents : List (List UInt8 × PO), ∃ E : List KV, ∃ p : Nat, ∃ t : List UInt8, Ps q w wr pp lp cp b p t ∧ Z5 wr w.heap.size ∧ Mp wr (w.heap.size + 1) keys ∧ RowG ecl EV 6 41 (w.heap.size + 2) wr s7 E ents ∧ ents.length + t.length ≤ s.length ∧ keys.length + t.length ≤ s.length ∧ ∀ res, PV q (.m d keys ents) t res → PV q (.m d [] []) s res) (fun _ _ _ _ _ _ _ wr => remOf wr cp)
  case atStart => exact ⟨[], [], [], _, _, hP, hZ, hM, hR, by simp, by simp, fun _ h => h⟩
  case round =>
    have hsl : s.length ≤ 3600000 := by have := h.at_; omega
    clear hP hZ hM hR h hsb
    obtain ⟨keys, ents, E, p, t, hP, hZ, hM, hR, hal, hak, hback⟩ := hrel
    have hat := hid hP.at_
    have hbl := bl_le t false
    have hpl : p + bl t false ≤ b.length := by have := hat.out; omega
    have hdp : b.drop (p + bl t false) = t.drop (bl t false) := by rw [← hP.drp, List.drop_drop]
    have p0 := hP.p0
    have l0 := hP.l0
    have zp := World.block_lt_of_cell? _ _ p0
    have zl := World.block_lt_of_cell? _ _ l0
    have hrm := hid hP.rem
    have hBK := hid hback
    have hElen : E.length = ents.length := All2.len hR.rel
    clear hback
    have hRl := hR.row.lin
    rw [List.length_map, hElen] at hRl
    obtain ⟨aol, capl, hvl⟩ := hRl
    subst hvl
    obtain ⟨rc, rf, rs⟩ := id hZ
    obtain ⟨Dm, hown, hhas⟩ := id hM
    have HH := hid hhas
    clear hhas
    cases hT : TK t with
    | bad x =>
      have bx := TK_err hT
      have T1 := hid hT
      have hpv := hid (PV.m_bad (q := q) (d := d) (keys := keys) (ents := ents) hT)
      clear hT
      generalize hpa : p + bl t false = pa at hpl hdp
      have HPA := hid hpa
      have HD := hid hdp
      clear hpa hdp hbl
      go_wp2_with (first | (go_at_call 39; obtain ⟨m0, v0, hL⟩ := hP.lx; (with_reducible refine (token_q (TK_good _) hL.fresh).mono ?_); rw [T1.out, HPA.out]; rintro e w3 ⟨rfl, m3, v3, u3, o3, hL3⟩; have hP := hP.step hL3; have hZ := hZ.held hL3.held (by omega) (by omega); have hM := hM.held hL3.held (by omega) (by omega); have hR := hR.held keepEV hL3.held (by omega) (by omega); have p0 := hP.p0; have l0 := hP.l0; have zp := World.block_lt_of_cell? _ _ p0; have zl := World.block_lt_of_cell? _ _ l0; obtain ⟨rc, rf, rs⟩ := id hZ))
      obtain ⟨k0, k1, k2, k3, k4⟩ := set5_cells (a := .int .i64 0) (b := .int .i64 0) (c := .slice none 0 0) (d := .slice none 0 0) (e := .slice none 0 0) hZ.five
      have hh := set5_held w3 w3.heap.size w.heap.size (.int .i64 0) (.int .i64 0) (.slice none 0 0) (.slice none 0 0) (.slice none 0 0)
      have hP5 := hP.off hh (Nat.le_refl _)
      have k0 := cell_up' (alb _ (.cells #[.int .i64 0, .int .i64 pa, .int .i64 0, .slice none 0 0] 85)) k0
      have k1 := cell_up' (alb _ (.cells #[.int .i64 0, .int .i64 pa, .int .i64 0, .slice none 0 0] 85)) k1
      have k2 := cell_up' (alb _ (.cells #[.int .i64 0, .int .i64 pa, .int .i64 0, .slice none 0 0] 85)) k2
      have k3 := cell_up' (alb _ (.cells #[.int .i64 0, .int .i64 pa, .int .i64 0, .slice none 0 0] 85)) k3
      have k4 := cell_up' (alb _ (.cells #[.int .i64 0, .int .i64 pa, .int .i64 0, .slice none 0 0] 85)) k4
      rw [HD.out] at hP5
      exact bodyPost_ret (v := .tuple #[.agg #[.int .i64 0, .int .i64 0, .slice none 0 0, .slice none 0 0, .slice none 0 0], .int .i64 x]) (by simp [results, Tryz.results98, go_sem, k0, k1, k2, k3, k4]) rfl ⟨_, hBK.out _ hpv.out, rfl, _, hP5.below (alb _ _)⟩
    | tok k n out r =>
      by_cases h8 : k = 8
      · subst h8
        have T1 := hid hT
        have hpv := hid (PV.m_close (q := q) (d := d) (keys := keys) (ents := ents) hT)
        clear hT
        generalize hpa : p + bl t false = pa at hpl hdp
        have HPA := hid hpa
        have HD := hid hdp
        clear hpa hdp hbl
        go_wp2_with (first | (go_at_call 88; refine (dict_any (hR.up keepEV (alb _ _)).rel (hR.up keepEV (alb _ _)).row.sl (by omega)).mono ?_; rintro e w9 ⟨vs', rfl, hov, hb9⟩; have hP := (hP.below (alb _ _)).below hb9; have hZ := (hZ.up (alb _ _)).up hb9; obtain ⟨rc, rf, rs⟩ := id hZ; have hV5 := hov.v5; have hov2 := hid hov; clear hov; obtain ⟨y1, y2, y3, y4, y5, y6, y7, y8, y9, y10, y11, rfl⟩ := hV5; have hwy := hL3.size) | (go_at_call 39; obtain ⟨m0, v0, hL⟩ := hP.lx; (with_reducible refine (token_q (TK_good _) hL.fresh).mono ?_); rw [T1.out, HPA.out]; rintro e w3 ⟨u3, rfl, j3, m3, v3, hL3⟩; obtain ⟨ao3, cap3, rfl, -, -, -⟩ := Rd.own hL3.row; have hP := hP.step hL3; have hZ := hZ.held hL3.held (by omega) (by omega); have hM := hM.held hL3.held (by omega) (by omega); have hR := hR.held keepEV hL3.held (by omega) (by omega); have p0 := hP.p0; have l0 := hP.l0; have zp := World.block_lt_of_cell? _ _ p0; have zl := World.block_lt_of_cell? _ _ l0; obtain ⟨rc, rf, rs⟩ := id hZ))
        obtain ⟨k0, k1, k2, k3, k4⟩ := set5_cells (a := .int .i64 y1) (b := .int .i64 y2) (c := .slice y3 y6 y7) (d := .slice y4 y8 y9) (e := .slice y5 y10 y11) hZ.five
        have hh := set5_held w9 w9.heap.size w.heap.size (.int .i64 y1) (.int .i64 y2) (.slice y3 y6 y7) (.slice y4 y8 y9) (.slice y5 y10 y11)
        have hP5 := hP.off hh (Nat.le_refl _)
        have hs9 := hh.size
        have hov := hov2.out.keep (B := fun g => w.heap.size ≤ g ∧ g < (set5 w9 w.heap.size (.int .i64 y1) (.int .i64 y2) (.slice y3 y6 y7) (.slice y4 y8 y9) (.slice y5 y10 y11)).heap.size) (fun g hg => ⟨by have := hg.1; simp at this; omega, Nat.lt_of_lt_of_le hg.2 hs9⟩) (fun g hg hlt => hh.block g hlt (by have := hg.1; simp at this; omega) (by have := hg.1; simp at this; omega))
        exact bodyPost_ret (v := .tuple #[.agg #[.int .i64 y1, .int .i64 y2, .slice y3 y6 y7, .slice y4 y8 y9, .slice y5 y10 y11], .int .i64 0]) (by simp [results, Tryz.results98, go_sem, k0, k1, k2, k3, k4]) rfl ⟨_, hBK.out _ hpv.out, _, rfl, hov, _, hP5⟩
      by_cases h0 : k = 0
      · subst h0
        have T1 := hid hT
        have hpv := hid (PV.m_end (q := q) (d := d) (keys := keys) (ents := ents) hT)
        clear hT
        generalize hpa : p + bl t false = pa at hpl hdp
        have HPA := hid hpa
        have HD := hid hdp
        clear hpa hdp hbl
        go_wp2_with (first | (go_at_call 91; refine (stop_any (hP.below (alb _ _)).fresh pa _ rfl hpl 2).mono ?_; rw [HD.out]; rintro e w9 ⟨rfl, hPs⟩; have hP := (hP.below (alb _ _)).join hPs; have hZ := (hZ.up (alb _ _)).held hPs.held (by omega) (by omega); obtain ⟨rc, rf, rs⟩ := id hZ) | (go_at_call 39; obtain ⟨m0, v0, hL⟩ := hP.lx; (with_reducible refine (token_q (TK_good _) hL.fresh).mono ?_); rw [T1.out, HPA.out]; rintro e w3 ⟨u3, rfl, j3, m3, v3, hL3⟩; obtain ⟨ao3, cap3, rfl, -, -, -⟩ := Rd.own hL3.row; have hP := hP.step hL3; have hZ := hZ.held hL3.held (by omega) (by omega); have hM := hM.held hL3.held (by omega) (by omega); have hR := hR.held keepEV hL3.held (by omega) (by omega); have p0 := hP.p0; have l0 := hP.l0; have zp := World.block_lt_of_cell? _ _ p0; have zl := World.block_lt_of_cell? _ _ l0; obtain ⟨rc, rf, rs⟩ := id hZ))
        obtain ⟨k0, k1, k2, k3, k4⟩ := set5_cells (a := .int .i64 0) (b := .int .i64 0) (c := .slice none 0 0) (d := .slice none 0 0) (e := .slice none 0 0) hZ.five
        have hh := set5_held w9 w9.heap.size w.heap.size (.int .i64 0) (.int .i64 0) (.slice none 0 0) (.slice none 0 0) (.slice none 0 0)
        have hP5 := hP.off hh (Nat.le_refl _)
        exact bodyPost_ret (v := .tuple #[.agg #[.int .i64 0, .int .i64 0, .slice none 0 0, .slice none 0 0, .slice none 0 0], .int .i64 2]) (by simp [results, Tryz.results98, go_sem, k0, k1, k2, k3, k4]) rfl ⟨_, hBK.out _ hpv.out, rfl, _, hP5⟩
      by_cases h4 : ¬ k = 4
      · have b8 : (k == 8) = false := by simp [h8]
        have b0 : (k == 0) = false := by simp [h0]
        have b4 : (k == 4) = false := by simp [h4]
        have T1 := hid hT
        have hpv := hid (PV.m_form (q := q) (d := d) (keys := keys) (ents := ents) hT h8 h0 h4)
        clear hT h8 h0 h4
        generalize hpa : p + bl t false = pa at hpl hdp
        have HPA := hid hpa
        have HD := hid hdp
        clear hpa hdp hbl
        go_wp2_with (first | (go_at_call 91; refine (stop_any (hP.below (alb _ _)).fresh pa _ rfl hpl 4).mono ?_; rw [HD.out]; rintro e w9 ⟨rfl, hPs⟩; have hP := (hP.below (alb _ _)).join hPs; have hZ := (hZ.up (alb _ _)).held hPs.held (by omega) (by omega); obtain ⟨rc, rf, rs⟩ := id hZ) | (go_at_call 39; obtain ⟨m0, v0, hL⟩ := hP.lx; (with_reducible refine (token_q (TK_good _) hL.fresh).mono ?_); rw [T1.out, HPA.out]; rintro e w3 ⟨u3, rfl, j3, m3, v3, hL3⟩; obtain ⟨ao3, cap3, rfl, -, -, -⟩ := Rd.own hL3.row; have hP := hP.step hL3; have hZ := hZ.held hL3.held (by omega) (by omega); have hM := hM.held hL3.held (by omega) (by omega); have hR := hR.held keepEV hL3.held (by omega) (by omega); have p0 := hP.p0; have l0 := hP.l0; have zp := World.block_lt_of_cell? _ _ p0; have zl := World.block_lt_of_cell? _ _ l0; obtain ⟨rc, rf, rs⟩ := id hZ))
        obtain ⟨k0, k1, k2, k3, k4⟩ := set5_cells (a := .int .i64 0) (b := .int .i64 0) (c := .slice none 0 0) (d := .slice none 0 0) (e := .slice none 0 0) hZ.five
        have hh := set5_held w9 w9.heap.size w.heap.size (.int .i64 0) (.int .i64 0) (.slice none 0 0) (.slice none 0 0) (.slice none 0 0)
        have hP5 := hP.off hh (Nat.le_refl _)
        exact bodyPost_ret (v := .tuple #[.agg #[.int .i64 0, .int .i64 0, .slice none 0 0, .slice none 0 0, .slice none 0 0], .int .i64 4]) (by simp [results, Tryz.results98, go_sem, k0, k1, k2, k3, k4]) rfl ⟨_, hBK.out _ hpv.out, rfl, _, hP5⟩
      obtain rfl : k = 4 := by omega
      have hol : out.length ≤ 4000000 := by have := TK_ol hT; omega
      by_cases hm : out ∈ keys
      · have T1 := hid hT
        have hpv := hid (PV.m_twice (q := q) (d := d) (keys := keys) (ents := ents) hT hm)
        have hdm : decide (out ∈ keys) = true := decide_eq_true hm
        have HM := hid hdm
        clear hT hm hdm h8 h0 h4
        generalize hpa : p + bl t false = pa at hpl hdp
        have HPA := hid hpa
        have HD := hid hdp
        clear hpa hdp hbl
        go_wp2_with (first | (go_at_call 91; refine (stop_any (hP.below (below_then (alb _ _) (alb _ _))).fresh pa _ rfl hpl 4).mono ?_; rw [HD.out]; rintro e w9 ⟨rfl, hPs⟩; have hP := (hP.below (below_then (alb _ _) (alb _ _))).join hPs; have hZ := (hZ.up (below_then (alb _ _) (alb _ _))).held hPs.held (by omega) (by omega); obtain ⟨rc, rf, rs⟩ := id hZ) | (at_lookup; refine wpList_lookup_own_unit _ rfl _ _ 135 rfl 9 136 strLaw mapTy (zeroU _) (w.heap.size + 1) keys.length Dm rfl (hown.alloc _) _ _ rfl (keyS out hol) ?_; rw [HH.out, HM.out]) | (go_at_call 39; obtain ⟨m0, v0, hL⟩ := hP.lx; (with_reducible refine (token_q (TK_good _) hL.fresh).mono ?_); rw [T1.out, HPA.out]; rintro e w3 ⟨u3, rfl, j3, m3, v3, hL3⟩; obtain ⟨ao3, cap3, rfl, -, -, -⟩ := Rd.own hL3.row; have hP := hP.step hL3; have hZ := hZ.held hL3.held (by omega) (by omega); have hM := hM.held hL3.held (by omega) (by omega); have hR := hR.held keepEV hL3.held (by omega) (by omega); have p0 := hP.p0; have l0 := hP.l0; have zp := World.block_lt_of_cell? _ _ p0; have zl := World.block_lt_of_cell? _ _ l0; obtain ⟨rc, rf, rs⟩ := id hZ; have hS3 := Sl.own hL3.row; have hcv : ∀ o : Obj, (convert 24 9 (.slice ao3 out.length cap3)).run Tryz.prog (w3.alloc o) = .ok (.string (st out)) (w3.alloc o) := fun o => sl_string (P := Tryz.prog) (w3.alloc o) 24 9 5 Tryz.underlying24 (by kernel_rfl) (by kernel_rfl) _ _ (hS3.up (alb _ _)); obtain ⟨Dm, hown, hhas⟩ := id hM; have HH := hid hhas; clear hhas))
        obtain ⟨k0, k1, k2, k3, k4⟩ := set5_cells (a := .int .i64 0) (b := .int .i64 0) (c := .slice none 0 0) (d := .slice none 0 0) (e := .slice none 0 0) hZ.five
        have hh := set5_held w9 w9.heap.size w.heap.size (.int .i64 0) (.int .i64 0) (.slice none 0 0) (.slice none 0 0) (.slice none 0 0)
        have hP5 := hP.off hh (Nat.le_refl _)
        exact bodyPost_ret (v := .tuple #[.agg #[.int .i64 0, .int .i64 0, .slice none 0 0, .slice none 0 0, .slice none 0 0], .int .i64 4]) (by simp [results, Tryz.results98, go_sem, k0, k1, k2, k3, k4]) rfl ⟨_, hBK.out _ hpv.out, rfl, _, hP5⟩
      · have T1 := hid hT
        have HK := hid hm
        have hdm : decide (out ∈ keys) = false := decide_eq_false hm
        have HM := hid hdm
        have hrl := TK_rest hT (by decide)
        have hone : ∀ y1 y2 : Int, ∀ y3 y4 y5 : Option Addr, ∀ y6 y7 y8 y9 y10 y11 : Nat, ∀ c ∈ [ecl (out, [.int .i64 y1, .int .i64 y2, .slice y3 y6 y7, .slice y4 y8 y9, .slice y5 y10 y11])], ∀ u ∈ c, u.oneCell' = true := fun y1 y2 y3 y4 y5 y6 y7 y8 y9 y10 y11 c hc => by
          rw [List.mem_singleton] at hc; subst hc; exact ecl_one (e := (out, _)) ⟨_, _, _, _, _, _, _, _, _, _, _, rfl⟩
        clear hT hm hdm h8 h0 h4
        generalize hpa : p + bl t false = pa at hpl hdp
        have HPA := hid hpa
        have HD := hid hdp
        clear hpa hdp hbl
        go_wp2_with (first | (at_builtin; refine wpList_append_slx rfl _ _ 32 rfl (w.heap.size + 2) 41 zEnt 6 104 entTy' entIn rfl (by decide) (.slice aol ents.length capl) _ rfl (hR.up keepEV (below_then (alb w5 (.cells #[.int .i64 y1, .int .i64 y2, .slice y3 y6 y7, .slice y4 y8 y9, .slice y5 y10 y11] 34)) (alb _ (.cells #[.string (st out), .int .i64 y1, .int .i64 y2, .slice y3 y6 y7, .slice y4 y8 y9, .slice y5 y10 y11] 41)))).row _ [ecl (out, [.int .i64 y1, .int .i64 y2, .slice y3 y6 y7, .slice y4 y8 y9, .slice y5 y10 y11])] rfl (SlX.lit1 (w5.alloc (.cells #[.int .i64 y1, .int .i64 y2, .slice y3 y6 y7, .slice y4 y8 y9, .slice y5 y10 y11] 34)) (w5.heap.size + 1) (by simp) (ecl (out, [.int .i64 y1, .int .i64 y2, .slice y3 y6 y7, .slice y4 y8 y9, .slice y5 y10 y11])) _ 6 rfl) (hone _ _ _ _ _ _ _ _ _ _ _) (by simp; omega) (by decide) (by simp; omega) ?_; intro v8 w8 q1 q2 q3; obtain ⟨g8, cap8, rfl⟩ := q1.cons (by simp); have e8 : (E.map ecl ++ ([ecl (out, [.int .i64 y1, .int .i64 y2, .slice y3 y6 y7, .slice y4 y8 y9, .slice y5 y10 y11])] : List (List Value))).length = ents.length + 1 := (by rw [List.length_append, List.length_map, hElen]; rfl); rw [e8] at q1 q3; have hBW : Below w5.heap.size w5 ((w5.alloc (.cells #[.int .i64 y1, .int .i64 y2, .slice y3 y6 y7, .slice y4 y8 y9, .slice y5 y10 y11] 34)).alloc (.cells #[.string (st out), .int .i64 y1, .int .i64 y2, .slice y3 y6 y7, .slice y4 y8 y9, .slice y5 y10 y11] 41)) := below_then (alb _ _) (alb _ _)) | (go_at_call 66; refine (hv _ _ r hP.fresh).mono ?_; rintro e w5 ⟨res, hpv, hvq⟩; have hfit := hpv.fit; have hrow4 := hR.row.lt; have hwm := hM.lt; rcases res with ⟨x9, t9⟩ | ⟨o9, t9⟩; rotate_left; (obtain ⟨vs, rfl, hov, j9, hPs⟩ := hvq; have hP := hP.join hPs; have hZ := hZ.held hPs.held (by omega) (by omega); have hM := hM.held hPs.held (by omega) (by omega); have hR := hR.held keepEV hPs.held (by omega) (by omega); obtain ⟨rc, rf, rs⟩ := id hZ; have hV5 := hov.v5; have hov2 := hid hov; clear hov; obtain ⟨y1, y2, y3, y4, y5, y6, y7, y8, y9, y10, y11, rfl⟩ := hV5); rotate_left; (obtain ⟨rfl, j9, hPs⟩ := hvq; have bx : (x9 == 0) = false := hfit; have hP := hP.join hPs; have hZ := hZ.held hPs.held (by omega) (by omega); have hM := hM.held hPs.held (by omega) (by omega); have hR := hR.held keepEV hPs.held (by omega) (by omega); obtain ⟨rc, rf, rs⟩ := id hZ)) | (at_mapUpdate; refine wpList_mapUpdate_own _ rfl _ _ _ 135 rfl 9 136 strLaw mapTy _ (w.heap.size + 1) keys.length Dm rfl ((hown.alloc _).alloc _) (by unfold maxLen; omega) _ _ _ rfl rfl (keyS out hol) _ [] unitElem_mk ?_; intro w4 hown4 hg4; have hB34 := below_then (alb w3 (.cells #[.int .i64 4, .int .i64 pa, .int .i64 n, .slice ao3 out.length cap3] 85)) (alb _ (.cells #[] 136)); have hh4 : Held ((w3.alloc (.cells #[.int .i64 4, .int .i64 pa, .int .i64 n, .slice ao3 out.length cap3] 85)).alloc (.cells #[] 136)).heap.size (w.heap.size + 1) (w.heap.size + 1) ((w3.alloc (.cells #[.int .i64 4, .int .i64 pa, .int .i64 n, .slice ao3 out.length cap3] 85)).alloc (.cells #[] 136)) w4 := held_of_some hg4; have hP := (hP.below hB34).off hh4 (by omega); have hZ := (hZ.up hB34).held hh4 (by omega) (by omega); have hR := (hR.up keepEV hB34).held keepEV hh4 (by omega) (by omega); have hM := Mp.put (hown.isMap) hown4 HH.out; have p0 := hP.p0; have l0 := hP.l0; have zp := World.block_lt_of_cell? _ _ p0; have zl := World.block_lt_of_cell? _ _ l0; obtain ⟨rc, rf, rs⟩ := id hZ) | (at_lookup; refine wpList_lookup_own_unit _ rfl _ _ 135 rfl 9 136 strLaw mapTy (zeroU _) (w.heap.size + 1) keys.length Dm rfl (hown.alloc _) _ _ rfl (keyS out hol) ?_; rw [HH.out, HM.out]) | (go_at_call 39; obtain ⟨m0, v0, hL⟩ := hP.lx; (with_reducible refine (token_q (TK_good _) hL.fresh).mono ?_); rw [T1.out, HPA.out]; rintro e w3 ⟨u3, rfl, j3, m3, v3, hL3⟩; obtain ⟨ao3, cap3, rfl, -, -, -⟩ := Rd.own hL3.row; have hP := hP.step hL3; have hZ := hZ.held hL3.held (by omega) (by omega); have hM := hM.held hL3.held (by omega) (by omega); have hR := hR.held keepEV hL3.held (by omega) (by omega); have p0 := hP.p0; have l0 := hP.l0; have zp := World.block_lt_of_cell? _ _ p0; have zl := World.block_lt_of_cell? _ _ l0; obtain ⟨rc, rf, rs⟩ := id hZ; have hS3 := Sl.own hL3.row; have hcv : ∀ o : Obj, (convert 24 9 (.slice ao3 out.length cap3)).run Tryz.prog (w3.alloc o) = .ok (.string (st out)) (w3.alloc o) := fun o => sl_string (P := Tryz.prog) (w3.alloc o) 24 9 5 Tryz.underlying24 (by kernel_rfl) (by kernel_rfl) _ _ (hS3.up (alb _ _)); obtain ⟨Dm, hown, hhas⟩ := id hM; have HH := hid hhas; clear hhas))
        · obtain ⟨k0, k1, k2, k3, k4⟩ := set5_cells (a := .int .i64 0) (b := .int .i64 0) (c := .slice none 0 0) (d := .slice none 0 0) (e := .slice none 0 0) hZ.five
          have hh := set5_held w5 w5.heap.size w.heap.size (.int .i64 0) (.int .i64 0) (.slice none 0 0) (.slice none 0 0) (.slice none 0 0)
          have hP5 := hP.off hh (Nat.le_refl _)
          have k0 := cell_up' (alb _ (.cells #[.int .i64 0, .int .i64 0, .slice none 0 0, .slice none 0 0, .slice none 0 0] 34)) k0
          have k1 := cell_up' (alb _ (.cells #[.int .i64 0, .int .i64 0, .slice none 0 0, .slice none 0 0, .slice none 0 0] 34)) k1
          have k2 := cell_up' (alb _ (.cells #[.int .i64 0, .int .i64 0, .slice none 0 0, .slice none 0 0, .slice none 0 0] 34)) k2
          have k3 := cell_up' (alb _ (.cells #[.int .i64 0, .int .i64 0, .slice none 0 0, .slice none 0 0, .slice none 0 0] 34)) k3
          have k4 := cell_up' (alb _ (.cells #[.int .i64 0, .int .i64 0, .slice none 0 0, .slice none 0 0, .slice none 0 0] 34)) k4
          exact bodyPost_ret (v := .tuple #[.agg #[.int .i64 0, .int .i64 0, .slice none 0 0, .slice none 0 0, .slice none 0 0], .int .i64 x9]) (by simp [results, Tryz.results98, go_sem, k0, k1, k2, k3, k4]) rfl ⟨_, hBK.out _ (PV.m_stop T1.out HK.out hpv), rfl, _, hP5.below (alb _ _)⟩
        · have hf : t9.length < r.length := hfit
          have hnx : (Value.slice aol ents.length capl).ownBlock ≠ some w.heap.size := fun z => by have := (hrow4 _ z).1; omega
          have hnm : (Value.slice aol ents.length capl).ownBlock ≠ some (w.heap.size + 1) := fun z => by have := (hrow4 _ z).1; omega
          have hP8 := (hP.below hBW).grow q2 (fun z hz => by have := (hrow4 _ hz).1; omega)
          have hZ8 := (hZ.up hBW).grown q2 hnx
          have hM8 := (hM.up hBW).grown q2 hnm
          have hR8 := (hR.up keepEV hBW).push keepEV (a := (out, [.int .i64 y1, .int .i64 y2, .slice y3 y6 y7, .slice y4 y8 y9, .slice y5 y10 y11])) (b := (out, o9)) ⟨rfl, hov2.out.keep (fun g hg => ⟨by have := hg.1; omega, Nat.lt_of_lt_of_le hg.2 hBW.size, fun z => by have := (hrow4 _ z).2; have := hg.1; omega⟩) (fun g _ hlt => hBW.block g hlt)⟩ q1 q2 q3
          go_roundw
          case rel => exact ⟨keys ++ [out], ents ++ [(out, o9)], _, _, _, hP8, hZ8, hM8, hR8, by rw [List.length_append, List.length_singleton]; omega, by rw [List.length_append, List.length_singleton]; omega, fun res hr => hBK.out _ (PV.m_step T1.out HK.out hpv hr)⟩
          case measure => rw [hP8.rem, hrm.out]; omega
end Go.Proofs.YtjkoiknjffldjaaGreatDoor

/-
  The program's parser, new; whether it is made. Conditions: its bytes are no more than a million.
-/
namespace Go.Proofs.YtjkoiknjffldjaaGreatDoor
open Go.RowKit
set_option linter.unusedVariables false

set_option maxHeartbeats 800000 in
set_option maxRecDepth 100000 in
theorem parse_new (v : Value) (b : List UInt8) (n : Int) (w : World) (h : Sl w v b) (hl : b.length ≤ 4000000) :
    Calls Tryz.prog 35 #[v, .int .i64 n] w fun e w' => ∃ pp lp cp, e = .returned (.pointer (some ⟨pp, 0, none⟩)) ∧ w.heap.size ≤ pp ∧ w.heap.size ≤ lp ∧ w.heap.size ≤ cp ∧ Ps false w' w' pp lp cp b 0 b ∧ w'.cell? ⟨pp, 1, none⟩ = some (.int .i64 (min (max n 0) 28)) ∧ Below w.heap.size w w' := by
  obtain ⟨ao, cap, rfl, c1, c2, c3, c4⟩ := id h
  go_enter Tryz.func35, Tryz.ntmps35
  go_wp2_with (go_at_call 59; refine (lex_made _ b _ h hl).mono ?_; rintro e w2 ⟨lp, cp, rfl, hlp, hcp, hL, hb2⟩)
  go_ret
  have z1 := World.block_lt_of_cell? _ _ hL.p0
  have z2 : cp < w2.heap.size := by
    obtain ⟨ao2, cap2, h1, h2⟩ := hL.lex
    exact World.block_lt_of_cell? _ _ h1.cur.c0
  refine ⟨_, lp, cp, rfl, hb2.size, hlp, hcp, ⟨⟨_, _, (hL.below (alb w2 _)).fresh⟩, ?_, ?_, ?_, ?_⟩, ?_, hb2.trans ((alb w2 _).mono hb2.size)⟩
  · rw [World.cell?_alloc_at _ _ _ _ rfl]; rfl
  · rw [World.cell?_alloc_at _ _ _ _ rfl]; rfl
  · exact Ne.symm (Nat.ne_of_lt z1)
  · exact Ne.symm (Nat.ne_of_lt z2)
  · rw [World.cell?_alloc_at _ _ _ _ rfl]; rfl

set_option maxHeartbeats 800000 in
set_option maxRecDepth 100000 in
theorem made_p {q : Bool} {w : World} {pp lp cp : Nat} {b s : List UInt8} {i : Nat} (h : Ps q w w pp lp cp b i s) :
    Calls Tryz.prog 65 #[.pointer (some ⟨pp, 0, none⟩)] w fun e w' => e = .returned (.bool true) ∧ w = w' := by
  have p0 := h.p0
  have l0 := h.l0
  go_enter Tryz.func65, Tryz.ntmps65
  go_wp2
  go_ret
  exact ⟨rfl, rfl⟩

end Go.Proofs.YtjkoiknjffldjaaGreatDoor

/-
  The program's Value, by value's contract. Condition: the parser stands in its bytes.
-/
namespace Go.Proofs.YtjkoiknjffldjaaGreatDoor
open Go.RowKit
set_option linter.unusedVariables false

set_option maxHeartbeats 1600000 in
set_option maxRecDepth 100000 in
theorem value_top {q : Bool} {w : World} {pp lp cp : Nat} {b s : List UInt8} {i d : Nat} (h : Ps q w w pp lp cp b i s) (hd : w.cell? ⟨pp, 1, none⟩ = some (.int .i64 (d : Int))) (hv : ValueC q pp lp cp b d) :
    Calls Tryz.prog 43 #[.pointer (some ⟨pp, 0, none⟩)] w fun e w' => ∃ res, PV q (.v d) s res ∧ VQ q w pp lp cp b res e w' := by
  have hlo : lp < w.heap.size ∧ cp < w.heap.size := by
    obtain ⟨m, v, hL⟩ := h.lx
    obtain ⟨ao, cap, h1, h2⟩ := hL.lex
    exact ⟨h2.lp, h2.cp⟩
  obtain ⟨O1, hO1⟩ : ∃ o, o = Obj.cells #[.int .i64 0, .int .i64 0, .slice none 0 0, .slice none 0 0, .slice none 0 0] 34 := ⟨_, rfl⟩
  have hP := h.below (alb w O1)
  have hZ : Z5 (w.alloc O1) w.heap.size := by subst hO1; exact Z5.new w _
  have hd1 := cell_up' (alb w O1) hd
  subst hO1
  have p0 := hP.p0
  have l0 := hP.l0
  obtain ⟨rc, rf, rs⟩ := id hZ
  go_enter Tryz.func43, Tryz.ntmps43
  go_wp2_with (first | (go_at_call 65; refine (made_p hP.fresh).mono ?_; rintro e w1 ⟨rfl, rfl⟩) | (go_at_call 66; refine (hv _ _ s hP.fresh).mono ?_; rintro e w5 ⟨res, hpv, hvq⟩; have hfit := hpv.fit; rcases res with ⟨x9, t9⟩ | ⟨o9, t9⟩; rotate_left; (obtain ⟨vs, rfl, hov, j9, hPs⟩ := hvq; have hP := hP.join hPs; have hZ := hZ.held hPs.held (by omega) (by omega); obtain ⟨rc, rf, rs⟩ := id hZ; have hov2 := hov; obtain ⟨k9, n9, vb, vx, vd, b9, l9, d9, cl, cd, hb, hl, hl9, hd9, hk9, hd9', hz9⟩ := hov; obtain ⟨⟨aob, capb, rfl, -, -, -, -⟩, -⟩ := id hb; obtain ⟨aox, capx, rfl, -⟩ := id hl; obtain ⟨aod, capd, rfl, -⟩ := id hd9); rotate_left; (obtain ⟨rfl, j9, hPs⟩ := hvq; have bx : (x9 == 0) = false := hfit; have hP := hP.join hPs; have hZ := hZ.held hPs.held (by omega) (by omega); obtain ⟨rc, rf, rs⟩ := id hZ)))
  · obtain ⟨k0, k1, k2, k3, k4⟩ := set5_cells (a := .int .i64 0) (b := .int .i64 0) (c := .slice none 0 0) (d := .slice none 0 0) (e := .slice none 0 0) hZ.five
    have hh := set5_held w5 w5.heap.size w.heap.size (.int .i64 0) (.int .i64 0) (.slice none 0 0) (.slice none 0 0) (.slice none 0 0)
    have hP5 := hP.off hh (Nat.le_refl _)
    have k0 := cell_up' (alb _ (.cells #[.int .i64 0, .int .i64 0, .slice none 0 0, .slice none 0 0, .slice none 0 0] 34)) k0
    have k1 := cell_up' (alb _ (.cells #[.int .i64 0, .int .i64 0, .slice none 0 0, .slice none 0 0, .slice none 0 0] 34)) k1
    have k2 := cell_up' (alb _ (.cells #[.int .i64 0, .int .i64 0, .slice none 0 0, .slice none 0 0, .slice none 0 0] 34)) k2
    have k3 := cell_up' (alb _ (.cells #[.int .i64 0, .int .i64 0, .slice none 0 0, .slice none 0 0, .slice none 0 0] 34)) k3
    have k4 := cell_up' (alb _ (.cells #[.int .i64 0, .int .i64 0, .slice none 0 0, .slice none 0 0, .slice none 0 0] 34)) k4
    exact bodyPost_ret (v := .tuple #[.agg #[.int .i64 0, .int .i64 0, .slice none 0 0, .slice none 0 0, .slice none 0 0], .int .i64 x9]) (by simp [results, Tryz.results43, go_sem, k0, k1, k2, k3, k4]) rfl ⟨.bad x9 t9, hpv, rfl, _, hP5.below (alb _ _)⟩
  · obtain ⟨k0, k1, k2, k3, k4⟩ := set5_cells (a := .int .i64 k9) (b := .int .i64 n9) (c := .slice aob b9.length capb) (d := .slice aox l9.length capx) (e := .slice aod d9.length capd) hZ.five
    have hh := set5_held w5 w5.heap.size w.heap.size (.int .i64 k9) (.int .i64 n9) (.slice aob b9.length capb) (.slice aox l9.length capx) (.slice aod d9.length capd)
    have hP5 := hP.off hh (Nat.le_refl _)
    have k0 := cell_up' (alb _ (.cells #[.int .i64 k9, .int .i64 n9, .slice aob b9.length capb, .slice aox l9.length capx, .slice aod d9.length capd] 34)) k0
    have k1 := cell_up' (alb _ (.cells #[.int .i64 k9, .int .i64 n9, .slice aob b9.length capb, .slice aox l9.length capx, .slice aod d9.length capd] 34)) k1
    have k2 := cell_up' (alb _ (.cells #[.int .i64 k9, .int .i64 n9, .slice aob b9.length capb, .slice aox l9.length capx, .slice aod d9.length capd] 34)) k2
    have k3 := cell_up' (alb _ (.cells #[.int .i64 k9, .int .i64 n9, .slice aob b9.length capb, .slice aox l9.length capx, .slice aod d9.length capd] 34)) k3
    have k4 := cell_up' (alb _ (.cells #[.int .i64 k9, .int .i64 n9, .slice aob b9.length capb, .slice aox l9.length capx, .slice aod d9.length capd] 34)) k4
    have hov := hov2.keep (B := fun g => w.heap.size ≤ g ∧ g < ((set5 w5 w.heap.size (.int .i64 k9) (.int .i64 n9) (.slice aob b9.length capb) (.slice aox l9.length capx) (.slice aod d9.length capd)).alloc (.cells #[.int .i64 k9, .int .i64 n9, .slice aob b9.length capb, .slice aox l9.length capx, .slice aod d9.length capd] 34)).heap.size) (w' := (set5 w5 w.heap.size (.int .i64 k9) (.int .i64 n9) (.slice aob b9.length capb) (.slice aox l9.length capx) (.slice aod d9.length capd)).alloc (.cells #[.int .i64 k9, .int .i64 n9, .slice aob b9.length capb, .slice aox l9.length capx, .slice aod d9.length capd] 34)) (fun g hg => ⟨by have := hg.1; simp at this; omega, Nat.lt_of_lt_of_le hg.2 (Nat.le_trans hh.size (alb _ _).size)⟩) (fun g hg hlt => ((alb _ (.cells #[.int .i64 k9, .int .i64 n9, .slice aob b9.length capb, .slice aox l9.length capx, .slice aod d9.length capd] 34)).block g (Nat.lt_of_lt_of_le hlt hh.size)).trans (hh.block g hlt (by have := hg.1; simp at this; omega) (by have := hg.1; simp at this; omega)))
    exact bodyPost_ret (v := .tuple #[.agg #[.int .i64 k9, .int .i64 n9, .slice aob b9.length capb, .slice aox l9.length capx, .slice aod d9.length capd], .int .i64 0]) (by simp [results, Tryz.results43, go_sem, k0, k1, k2, k3, k4]) rfl ⟨.ok _ t9, hpv, [.int .i64 k9, .int .i64 n9, .slice aob b9.length capb, .slice aox l9.length capx, .slice aod d9.length capd], rfl, hov, _, hP5.below (alb _ _)⟩
end Go.Proofs.YtjkoiknjffldjaaGreatDoor

/-
  The program's value at every depth; parse.All. Condition: its bytes are no more than 3600000.
-/
namespace Go.Proofs.YtjkoiknjffldjaaGreatDoor
open Go.RowKit
set_option linter.unusedVariables false

theorem value_all {q : Bool} {pp lp cp : Nat} {b : List UInt8} (hb : b.length ≤ 3600000) : ∀ d, d ≤ 28 → ValueC q pp lp cp b d
  | 0, h => value_of h (fun d' e => by omega) (fun d' e => by omega)
  | d + 1, h => by
    have ih := value_all (q := q) (pp := pp) (lp := lp) (cp := cp) hb d (by omega)
    exact value_of h (fun d' e => by obtain rfl : d = d' := by omega
                                     exact array_of (by omega) ih) (fun d' e => by
                                     obtain rfl : d = d' := by omega
                                     exact dct_of (by omega) ih hb)

/-- how deep one may go -/
def dep (n : Int) : Nat := (min (max n 0) 28).toNat
theorem dep_le (n : Int) : dep n ≤ 28 := by unfold dep; omega
theorem dep_cast (n : Int) : ((dep n : Nat) : Int) = min (max n 0) 28 := by unfold dep; omega

/-- what All gives of a reading -/
def AQ (w : World) : PRes → Ending → World → Prop
  | .bad x t, e, w' => e = .returned (.tuple #[ob 0 0 (.slice none 0 0), .int .i64 x]) ∧ Below w.heap.size w w'
  | .ok o r, e, w' => if r.drop (bl r false) = [] then (∃ vs : List Value, e = .returned (.tuple #[.agg vs.toArray, .int .i64 0]) ∧ OV (fun g => w.heap.size ≤ g ∧ g < w'.heap.size) w' vs o ∧ Below w.heap.size w w') else (e = .returned (.tuple #[ob 0 0 (.slice none 0 0), .int .i64 3]) ∧ Below w.heap.size w w')

theorem Ps.bel {q : Bool} {w0 w : World} {pp lp cp B : Nat} {b s : List UInt8} {i : Nat} (h : Ps q w0 w pp lp cp b i s) (hB : B ≤ w0.heap.size) (hl : B ≤ lp) (hc : B ≤ cp) : Below B w0 w := h.held.below hB hl hc

theorem left_l {w0 w : World} {lp cp : Nat} {b : List UInt8} {i : Nat} {s : List UInt8} {m v u : Value} {out : List UInt8} (h : Lx w0 w lp cp b i s m v u out) :
    Calls Tryz.prog 89 #[.pointer (some ⟨cp, 0, none⟩)] w fun e w' => e = .returned (.int .i64 s.length) ∧ w = w' := by
  obtain ⟨ao, cap, h1, h2⟩ := h.lex
  have := h.at_
  refine (left_any cp ao cap b i w h1.cur).mono ?_
  rintro e w' ⟨rfl, rfl⟩
  exact ⟨by congr 2; omega, rfl⟩

end Go.Proofs.YtjkoiknjffldjaaGreatDoor
