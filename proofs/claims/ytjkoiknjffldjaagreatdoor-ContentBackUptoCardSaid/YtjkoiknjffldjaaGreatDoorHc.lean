/-
  The document's 'with': entries with one more, by its key; of a Null without. Condition: the entries are no more than 3600000.
-/
import Derived.Test.YtjkoiknjffldjaaGreatDoorHb
import Derived.Deep.RegionHeld3
import Derived.Deep.DeepCutAuto
import Derived.Test.YtjkoiknjffldjaaGreatDoorJb
import Derived.Test.YtjkoiknjffldjaaGreatDoorHa
import Derived.BigQuiet
import Derived.Laws.Cover1
/-
  The program's Copy: an object in memory of its own. Condition: the object's rows are no longer than a million.
-/
namespace Go.Proofs.YtjkoiknjffldjaaGreatDoor
open Go.RowKit
set_option linter.unusedVariables false

/-- block g's cells -/
def C5 (w : World) (g : Nat) (L : List Value) : Prop := (∀ k, w.cell? ⟨g, k, none⟩ = L[k]?) ∧ (∀ k, w.frozen? ⟨g, k, none⟩ = false) ∧ g < w.heap.size
theorem C5.new (w : World) (g : Nat) (hg : g = w.heap.size) (L : List Value) (e : TypeId) : C5 (w.alloc (.cells L.toArray e)) g L := by
  subst hg
  refine ⟨fun k => by rw [World.cell?_alloc_at _ _ _ _ rfl]; simp, fun k => ?_, by simp⟩
  simp
theorem C5.held {w w' : World} {g p r : Nat} {L : List Value} (h : C5 w g L) (hb : Held w.heap.size p r w w') (h1 : g ≠ p) (h2 : g ≠ r) : C5 w' g L :=
  ⟨fun k => by rw [hb.cell (a := ⟨g, k, none⟩) h.2.2 h1 h2]; exact h.1 k, fun k => by rw [hb.frozen (a := ⟨g, k, none⟩) h.2.2 h1 h2]; exact h.2.1 k, Nat.lt_of_lt_of_le h.2.2 hb.size⟩
theorem C5.up {w w' : World} {g : Nat} {L : List Value} (h : C5 w g L) (hb : Below w.heap.size w w') : C5 w' g L := h.held (p := w.heap.size) (r := w.heap.size) (Held.of_below hb) (Nat.ne_of_lt h.2.2) (Nat.ne_of_lt h.2.2)
theorem C5.grown {w w' : World} {g : Nat} {L : List Value} {row : Option Nat} (h : C5 w g L) (hg : w.grownBy w' row) (hr : row ≠ Option.some g) : C5 w' g L :=
  ⟨fun k => by rw [World.cell?_of_block (w := w) (hg.block g h.2.2 hr.symm)]; exact h.1 k, fun k => by rw [World.frozen?_of_block (w := w) (hg.block g h.2.2 hr.symm)]; exact h.2.1 k, Nat.lt_of_lt_of_le h.2.2 hg.size⟩
theorem C5.set {w : World} {g k : Nat} {L : List Value} {u : Value} (h : C5 w g L) (hk : k < L.length) : C5 (w.setCell ⟨g, k, none⟩ u) g (L.set k u) := by
  refine ⟨fun j => ?_, fun j => by rw [World.frozen?_setCell]; exact h.2.1 j, by simp; exact h.2.2⟩
  by_cases hj : j = k
  · subst hj
    rw [cset (by rw [h.1 j, List.getElem?_eq_getElem hk]), List.getElem?_set_self hk]
  · rw [cset_ne (fun q => by injection q with _ q2; exact hj q2.symm), h.1 j, List.getElem?_set_ne (Ne.symm hj)]
theorem C5.five {w : World} {g : Nat} {L : List Value} (h : C5 w g L) (hl : L.length = 5) : ∀ k, k < 5 → ∃ u, w.cell? ⟨g, k, none⟩ = some u := fun k hk => ⟨_, by rw [h.1 k, List.getElem?_eq_getElem (by omega)]⟩
theorem C5.set5 {w : World} {g : Nat} {L : List Value} {a b c d e : Value} (h : C5 w g L) (hl : L.length = 5) : C5 (set5 w g a b c d e) g [a, b, c, d, e] := by
  obtain ⟨x0, x1, x2, x3, x4, rfl⟩ : ∃ x0 x1 x2 x3 x4, L = [x0, x1, x2, x3, x4] := by
    match L, hl with
    | [x0, x1, x2, x3, x4], _ => exact ⟨x0, x1, x2, x3, x4, rfl⟩
  exact ((((h.set (k := 0) (u := a) (by simp)).set (k := 1) (u := b) (by simp)).set (k := 2) (u := c) (by simp)).set (k := 3) (u := d) (by simp)).set (k := 4) (u := e) (by simp)

/-- a reading of values that stays where its blocks stay -/
def KeepR {α β : Type} (R : (Nat → Prop) → World → α → β → Prop) : Prop := ∀ (A B : Nat → Prop) (w w' : World), (∀ g, A g → B g) → (∀ g, A g → g < w.heap.size → w'.heap[g]? = w.heap[g]?) → ∀ a b, R A w a b → R B w' a b
theorem keepOV : KeepR OV := fun A B w w' hA hk a b h => h.keep hA hk
theorem keepEV : KeepR EV := fun A B w w' hA hk a b h => ⟨h.1, h.2.keep hA hk⟩
/-- a row of the call's own from block B on, of elements that read as x -/
structure RowG {α β : Type} (f : α → List Value) (R : (Nat → Prop) → World → α → β → Prop) (sz : Nat) (T : TypeId) (B : Nat) (w : World) (v : Value) (X : List α) (x : List β) : Prop where
  row : OwX sz T w B v (X.map f)
  rel : All2 (R (fun g => B ≤ g ∧ g < w.heap.size ∧ v.ownBlock ≠ some g) w) X x
section
variable {α β : Type} {f : α → List Value} {R : (Nat → Prop) → World → α → β → Prop} {sz : Nat} {T : TypeId} {B : Nat} {w w' : World} {v v' : Value} {X : List α} {x : List β}
theorem RowG.nil (f : α → List Value) (R : (Nat → Prop) → World → α → β → Prop) (sz : Nat) (T : TypeId) (B : Nat) (w : World) : RowG f R sz T B w (.slice Option.none 0 0) [] [] := ⟨OwX.nil _ _ _ _, .nil⟩
theorem RowG.held (h : RowG f R sz T B w v X x) (K : KeepR R) {p r : Nat} (hb : Held w.heap.size p r w w') (hp : p < B) (hr : r < B) : RowG f R sz T B w' v X x :=
  ⟨h.row.held hb (fun g hg => by have := (h.row.lt g hg).1; exact ⟨by omega, by omega⟩), h.rel.mono (K _ _ _ _ (fun g hg => ⟨hg.1, Nat.lt_of_lt_of_le hg.2.1 hb.size, hg.2.2⟩) (fun g hg hlt => hb.block g hlt (by have := hg.1; omega) (by have := hg.1; omega)))⟩
theorem RowG.up (h : RowG f R sz T B w v X x) (K : KeepR R) (hb : Below w.heap.size w w') : RowG f R sz T B w' v X x :=
  ⟨h.row.up hb, h.rel.mono (K _ _ _ _ (fun g hg => ⟨hg.1, Nat.lt_of_lt_of_le hg.2.1 hb.size, hg.2.2⟩) (fun g hg hlt => hb.block g hlt))⟩
/-- one element more -/
theorem RowG.push (h : RowG f R sz T B w v X x) (K : KeepR R) {a : α} {b : β} (hx : R (fun g => B ≤ g ∧ g < w.heap.size ∧ v.ownBlock ≠ some g) w a b) (hrow : OwX sz T w' B v' (X.map f ++ [f a])) (hg : w.grownBy w' v.ownBlock) (hm : Moved w v v') : RowG f R sz T B w' v' (X ++ [a]) (x ++ [b]) := by
  have hne' : ∀ g, v'.ownBlock = Option.some g → v.ownBlock = Option.some g ∨ g = w.heap.size := by
    intro g hq
    rcases hm with hm | hm
    · left; rw [← hm]; exact hq
    · right; rw [hm] at hq; injection hq with hq; exact hq.symm
  have key : ∀ (a : α) (b : β), R (fun g => B ≤ g ∧ g < w.heap.size ∧ v.ownBlock ≠ Option.some g) w a b → R (fun g => B ≤ g ∧ g < w'.heap.size ∧ v'.ownBlock ≠ Option.some g) w' a b := by
    intro a b
    refine K _ _ _ _ (fun g hq => ⟨hq.1, Nat.lt_of_lt_of_le hq.2.1 hg.size, fun q => ?_⟩) (fun g hq hlt => hg.block g hlt (fun q => hq.2.2 q.symm)) a b
    rcases hne' g q with q1 | q1
    · exact hq.2.2 q1
    · have := hq.2.1; omega
  exact ⟨by rw [List.map_append]; exact hrow, (h.rel.mono key).app (.one (key _ _ hx))⟩
/-- the elements are read where all from B on is allowed -/
theorem RowG.wide (h : RowG f R sz T B w v X x) (K : KeepR R) {A : Nat → Prop} (hA : ∀ g, B ≤ g → g < w.heap.size → A g) : All2 (R A w) X x := h.rel.mono (K _ _ _ _ (fun g hg => hA g hg.1 hg.2.1) (fun _ _ _ => rfl))
end

/-- Copy on its way: what it hands back, i of the items are copied -/
structure CpL (wc wr : World) (go : Nat) (k n : Int) (vb vl vd : Value) (l : List PO) (i : Nat) (C : List (List Value)) : Prop where
  out : C5 wr go [.int .i64 k, .int .i64 n, vb, vl, vd]
  row : RowG (fun c => c) OV 5 34 wc.heap.size wr vl C (l.take i)
  hh : Held wc.heap.size go go wc wr
theorem CpL.push {wc wr w6 w8 : World} {go i : Nat} {k n : Int} {vb vl vd v' : Value} {l : List PO} {C : List (List Value)} {vs : List Value} (h : CpL wc wr go k n vb vl vd l i C) (hi : i < l.length) (h6 : Below wr.heap.size wr w6)
    (hx : OV (fun g => wr.heap.size ≤ g ∧ g < w6.heap.size) w6 vs l[i]) (hrow : OwX 5 34 w8 wc.heap.size v' (C ++ [vs])) (hg : w6.grownBy w8 vl.ownBlock) (hm : Moved w6 vl v') (hgo : go < wc.heap.size) :
    CpL wc (w8.setCell ⟨go, 3, none⟩ v') go k n vb v' vd l (i + 1) (C ++ [vs]) := by
  have hlt := h.row.row.lt
  have hne : vl.ownBlock ≠ some go := fun q => by have := (hlt go q).1; omega
  have hS := fun B => Held.set (B := B) (p := go) (q := go) w8 ⟨go, 3, none⟩ v' (.inl rfl)
  refine ⟨((h.out.up h6).grown hg hne).set (k := 3) (by simp), ?_, ?_⟩
  · rw [List.take_succ_eq_append_getElem hi]
    refine ((h.row.up keepOV h6).push keepOV (hx.keep (fun g hg => ⟨Nat.le_trans h.hh.size hg.1, hg.2, fun q => by have := (hlt g q).2; have := hg.1; omega⟩) (fun _ _ _ => rfl)) (by simpa using hrow) hg hm).held keepOV (hS _) hgo hgo
  · have h9 : Held wc.heap.size go go w6 w8 := Held.grown hg (Nat.le_trans h.hh.size h6.size) (fun g q => (hlt g q).1)
    exact ((h.hh.then' (Held.of_below h6)).trans h9).trans (hS _)
theorem CpL.up {wc wr w' : World} {go i : Nat} {k n : Int} {vb vl vd : Value} {l : List PO} {C : List (List Value)} (h : CpL wc wr go k n vb vl vd l i C) (hb : Below wr.heap.size wr w') : CpL wc w' go k n vb vl vd l i C := ⟨h.out.up hb, h.row.up keepOV hb, h.hh.then' (Held.of_below hb)⟩
/-- .. of the entries -/
structure CpD (wc wr : World) (go : Nat) (k n : Int) (vb vl vd : Value) (d : List (List UInt8 × PO)) (i : Nat) (D : List KV) : Prop where
  out : C5 wr go [.int .i64 k, .int .i64 n, vb, vl, vd]
  row : RowG ecl EV 6 41 wc.heap.size wr vd D (d.take i)
  hh : Held wc.heap.size go go wc wr
theorem CpD.push {wc wr w6 w8 : World} {go i : Nat} {k n : Int} {vb vl vd v' : Value} {d : List (List UInt8 × PO)} {D : List KV} {vs : List Value} (h : CpD wc wr go k n vb vl vd d i D) (hi : i < d.length) (h6 : Below wr.heap.size wr w6)
    (hx : OV (fun g => wr.heap.size ≤ g ∧ g < w6.heap.size) w6 vs (d[i]).2) (hrow : OwX 6 41 w8 wc.heap.size v' (D.map ecl ++ [ecl ((d[i]).1, vs)])) (hg : w6.grownBy w8 vd.ownBlock) (hm : Moved w6 vd v') (hgo : go < wc.heap.size) :
    CpD wc (w8.setCell ⟨go, 4, none⟩ v') go k n vb vl v' d (i + 1) (D ++ [((d[i]).1, vs)]) := by
  have hlt := h.row.row.lt
  have hne : vd.ownBlock ≠ some go := fun q => by have := (hlt go q).1; omega
  have hS := fun B => Held.set (B := B) (p := go) (q := go) w8 ⟨go, 4, none⟩ v' (.inl rfl)
  refine ⟨((h.out.up h6).grown hg hne).set (k := 4) (by simp), ?_, ?_⟩
  · rw [List.take_succ_eq_append_getElem hi]
    refine ((h.row.up keepEV h6).push keepEV (a := ((d[i]).1, vs)) (b := d[i]) ⟨rfl, hx.keep (fun g hg => ⟨Nat.le_trans h.hh.size hg.1, hg.2, fun q => by have := (hlt g q).2; have := hg.1; omega⟩) (fun _ _ _ => rfl)⟩ hrow hg hm).held keepEV (hS _) hgo hgo
  · have h9 : Held wc.heap.size go go w6 w8 := Held.grown hg (Nat.le_trans h.hh.size h6.size) (fun g q => (hlt g q).1)
    exact ((h.hh.then' (Held.of_below h6)).trans h9).trans (hS _)

theorem CpD.push' {wc wr w6 w8 : World} {go i : Nat} {k n : Int} {vb vl vd v' : Value} {d : List (List UInt8 × PO)} {D : List KV} {vs : List Value} {kk : List UInt8} (h : CpD wc wr go k n vb vl vd d i D) (hi : i < d.length) (hk : kk = (d[i]).1) (h6 : Below wr.heap.size wr w6)
    (hx : OV (fun g => wr.heap.size ≤ g ∧ g < w6.heap.size) w6 vs (d[i]).2) (hrow : OwX 6 41 w8 wc.heap.size v' (D.map ecl ++ [ecl (kk, vs)])) (hg : w6.grownBy w8 vd.ownBlock) (hm : Moved w6 vd v') (hgo : go < wc.heap.size) :
    CpD wc (w8.setCell ⟨go, 4, none⟩ v') go k n vb vl v' d (i + 1) (D ++ [(kk, vs)]) := by
  subst hk; exact h.push hi h6 hx hrow hg hm hgo
theorem CpD.up {wc wr w' : World} {go i : Nat} {k n : Int} {vb vl vd : Value} {d : List (List UInt8 × PO)} {D : List KV} (h : CpD wc wr go k n vb vl vd d i D) (hb : Below wr.heap.size wr w') : CpD wc w' go k n vb vl vd d i D := ⟨h.out.up hb, h.row.up keepEV hb, h.hh.then' (Held.of_below hb)⟩
theorem C5.s5 {w : World} {g : Nat} {a b c d e : Value} (h : C5 w g [a, b, c, d, e]) : w.cell? ⟨g, 0, none⟩ = some a ∧ w.cell? ⟨g, 1, none⟩ = some b ∧ w.cell? ⟨g, 2, none⟩ = some c ∧ w.cell? ⟨g, 3, none⟩ = some d ∧ w.cell? ⟨g, 4, none⟩ = some e := ⟨h.1 0, h.1 1, h.1 2, h.1 3, h.1 4⟩
theorem C5.s6 {w : World} {g : Nat} {a b c d e f : Value} (h : C5 w g [a, b, c, d, e, f]) : w.cell? ⟨g, 0, none⟩ = some a ∧ w.cell? ⟨g, 1, none⟩ = some b ∧ w.cell? ⟨g, 2, none⟩ = some c ∧ w.cell? ⟨g, 3, none⟩ = some d ∧ w.cell? ⟨g, 4, none⟩ = some e ∧ w.cell? ⟨g, 5, none⟩ = some f := ⟨h.1 0, h.1 1, h.1 2, h.1 3, h.1 4, h.1 5⟩
/-- a load, under a name of its own -/
def opLd (t : TypeId) (x : Operand) : Op := .load t x
abbrev zObj : Value := .agg #[.int .i64 0, .int .i64 0, .slice none 0 0, .slice none 0 0, .slice none 0 0]
theorem objTy' : Tryz.prog.underlying 25 = some (.slice 34) := by kernel_rfl
theorem objIn : (Tryz.prog.info? 34).map (fun i => (i.zero, i.size, i.bytes)) = some (some zObj, 5, 88) := by kernel_rfl
/-- a row that is not empty is no nil -/
theorem OwX.cons {sz : Nat} {T : TypeId} {w : World} {B : Nat} {v : Value} {C : List (List Value)} (h : OwX sz T w B v C) (h0 : 0 < C.length) : ∃ g cap, v = .slice (some ⟨g, 0, none⟩) C.length cap := by
  rcases h.form with ⟨-, hn⟩ | ⟨g, cap, e, -⟩
  · subst hn; simp at h0
  · exact ⟨g, cap, e⟩

/-- the call of Copy in a world where the object's blocks are as they were -/
def CopyC (A : Nat → Prop) (w : World) (vs : List Value) (o : PO) : Prop := ∀ W : World, (∀ g, A g → g < w.heap.size → W.heap[g]? = w.heap[g]?) →
  Calls Tryz.prog 121 #[.agg vs.toArray] W fun e w' => ∃ vs' : List Value, e = .returned (.agg vs'.toArray) ∧ OV (fun g => W.heap.size ≤ g ∧ g < w'.heap.size) w' vs' o ∧ Below W.heap.size W w'

set_option maxHeartbeats 4000000 in
set_option maxRecDepth 100000 in
theorem copy_of {A : Nat → Prop} {w : World} {vs : List Value} {o : PO} (h : OV A w vs o) : CopyC A w vs o := by
  induction h with
  | mk k n vb vl vd b l d cl cd hb hl hl' hd hkk hd' hz ih1 ih2 =>
    intro W hW
    have hb1 := hb.keep (B := A) (fun _ h => h) hW
    have hl1 := hl.keep (B := A) (fun _ h => h) hW
    have hd1 := hd.keep (B := A) (fun _ h => h) hW
    obtain ⟨⟨aob, capb, rfl, -, -, -, -⟩, -⟩ := id hb1
    obtain ⟨aol, capl, rfl, -⟩ := id hl1
    obtain ⟨aod, capd, rfl, -⟩ := id hd1
    have HB := hid hb1.1
    have HZ := hid hz
    clear hb hl hd hb1
    have hP0 := (C5.new W _ rfl [.int .i64 k, .int .i64 n, .slice aob b.length capb, .slice aol l.length capl, .slice aod d.length capd] 34).up (alb _ (.cells #[.int .i64 0, .int .i64 0, .slice none 0 0, .slice none 0 0, .slice none 0 0] 34))
    have hWW := below_then (alb W (.cells #[.int .i64 k, .int .i64 n, .slice aob b.length capb, .slice aol l.length capl, .slice aod d.length capd] 34)) (alb _ (.cells #[.int .i64 0, .int .i64 0, .slice none 0 0, .slice none 0 0, .slice none 0 0] 34))
    go_enter Tryz.func121, Tryz.ntmps121
    go_upto_region 1 with fail
    go_cut [3] (fun s3 wx => ∃ go ao' cap', s3 = .pointer (some ⟨go, 0, none⟩) ∧ C5 wx go [.int .i64 k, .int .i64 n, .slice ao' b.length cap', .slice none 0 0, .slice none 0 0] ∧ SlA (fun g => W.heap.size + 2 ≤ g ∧ g < wx.heap.size ∧ g ≠ go) wx (.slice ao' b.length cap') b ∧ W.heap.size + 2 ≤ go ∧ Below (W.heap.size + 2) ((W.alloc (.cells #[.int .i64 k, .int .i64 n, .slice aob b.length capb, .slice aol l.length capl, .slice aod d.length capd] 34)).alloc (.cells #[.int .i64 0, .int .i64 0, .slice none 0 0, .slice none 0 0, .slice none 0 0] 34)) wx)
    case first =>
      go_region_held3 (fun w' => w'.cell? ⟨W.heap.size, 0, none⟩ = some (.int .i64 k) ∧ w'.cell? ⟨W.heap.size, 1, none⟩ = some (.int .i64 n) ∧ w'.cell? ⟨W.heap.size, 2, none⟩ = some (.slice aob b.length capb)) (first | go_keep | (refine ⟨?_, ?_, ?_⟩ <;> (repeat rw [cset_ne (fun q => by injection q with q1 q2; omega)]) <;> assumption) | skip)
        (first | (go_at_call 110; refine (clone_any _ b ((((W.alloc (.cells #[.int .i64 k, .int .i64 n, .slice aob b.length capb, .slice aol l.length capl, .slice aod d.length capd] 34)).alloc (.cells #[.int .i64 0, .int .i64 0, .slice none 0 0, .slice none 0 0, .slice none 0 0] 34)).alloc (.cells #[.int .i64 0, .int .i64 0, .slice none 0 0, .slice none 0 0, .slice none 0 0] 34)).drewN 1) (HB.out.up (below_drewN (hWW.alloc (by simp; omega) _) 1)) HZ.out.1).mono ?_; rintro e w1 ⟨v1, rfl, hv, hb1⟩; obtain ⟨ao1, cap1, rfl, -, -, -⟩ := Rd.own hv; have hPw : C5 w1 W.heap.size [.int .i64 k, .int .i64 n, .slice aob b.length capb, .slice aol l.length capl, .slice aod d.length capd] := (((hP0.up (alb _ (.cells #[.int .i64 0, .int .i64 0, .slice none 0 0, .slice none 0 0, .slice none 0 0] 34))).up (below_drewN (Below.refl _ _) 1)).up hb1); have k0 : w1.cell? ⟨W.heap.size, 0, none⟩ = some (.int .i64 k) := hPw.1 0; have k1 : w1.cell? ⟨W.heap.size, 1, none⟩ = some (.int .i64 n) := hPw.1 1; have k2 : w1.cell? ⟨W.heap.size, 2, none⟩ = some (.slice aob b.length capb) := hPw.1 2; have hNw := ((C5.new ((W.alloc (.cells #[.int .i64 k, .int .i64 n, .slice aob b.length capb, .slice aol l.length capl, .slice aod d.length capd] 34)).alloc (.cells #[.int .i64 0, .int .i64 0, .slice none 0 0, .slice none 0 0, .slice none 0 0] 34)) (W.heap.size + 1 + 1) (by simp) [.int .i64 0, .int .i64 0, .slice none 0 0, .slice none 0 0, .slice none 0 0] 34).up (below_drewN (Below.refl _ _) 1)).up hb1; obtain ⟨rc, rf, rs⟩ := id hNw) | (go_at_call 110; refine (clone_any _ b (((W.alloc (.cells #[.int .i64 k, .int .i64 n, .slice aob b.length capb, .slice aol l.length capl, .slice aod d.length capd] 34)).alloc (.cells #[.int .i64 0, .int .i64 0, .slice none 0 0, .slice none 0 0, .slice none 0 0] 34)).drewN 1) (HB.out.up (below_drewN hWW 1)) HZ.out.1).mono ?_; rintro e w1 ⟨v1, rfl, hv, hb1⟩; obtain ⟨ao1, cap1, rfl, -, -, -⟩ := Rd.own hv; have hPw : C5 w1 W.heap.size [.int .i64 k, .int .i64 n, .slice aob b.length capb, .slice aol l.length capl, .slice aod d.length capd] := ((hP0.up (below_drewN (Below.refl _ _) 1)).up hb1); have k0 : w1.cell? ⟨W.heap.size, 0, none⟩ = some (.int .i64 k) := hPw.1 0; have k1 : w1.cell? ⟨W.heap.size, 1, none⟩ = some (.int .i64 n) := hPw.1 1; have k2 : w1.cell? ⟨W.heap.size, 2, none⟩ = some (.slice aob b.length capb) := hPw.1 2))
      · go_wp2_with fail
        go_meet
        have hB : Below ((W.alloc (.cells #[.int .i64 k, .int .i64 n, .slice aob b.length capb, .slice aol l.length capl, .slice aod d.length capd] 34)).alloc (.cells #[.int .i64 0, .int .i64 0, .slice none 0 0, .slice none 0 0, .slice none 0 0] 34)).heap.size ((W.alloc (.cells #[.int .i64 k, .int .i64 n, .slice aob b.length capb, .slice aol l.length capl, .slice aod d.length capd] 34)).alloc (.cells #[.int .i64 0, .int .i64 0, .slice none 0 0, .slice none 0 0, .slice none 0 0] 34)) w1 := (below_drewN (Below.refl _ ((W.alloc (.cells #[.int .i64 k, .int .i64 n, .slice aob b.length capb, .slice aol l.length capl, .slice aod d.length capd] 34)).alloc (.cells #[.int .i64 0, .int .i64 0, .slice none 0 0, .slice none 0 0, .slice none 0 0] 34))) 1).trans hb1
        refine ⟨_, _, _, rfl, C5.new w1 _ rfl [.int .i64 k, .int .i64 n, .slice ao1 b.length cap1, .slice none 0 0, .slice none 0 0] _, ⟨(Sl.own hv).up (alb _ _), fun g hg => ?_⟩, ?_, ?_⟩
        · have h1 := World.ownsRow.lt hv g hg
          simp at h1
          exact ⟨by omega, by simp; omega, by omega⟩
        · have h1 := hb1.size
          simp at h1; omega
        · have h2 := below_then hB (alb w1 (.cells #[.int .i64 k, .int .i64 n, .slice ao1 b.length cap1, .slice none 0 0, .slice none 0 0] 34))
          exact h2.mono (by simp)
      · go_wp2_with fail
        go_meet
        have hB2 : Below (((W.alloc (.cells #[.int .i64 k, .int .i64 n, .slice aob b.length capb, .slice aol l.length capl, .slice aod d.length capd] 34)).alloc (.cells #[.int .i64 0, .int .i64 0, .slice none 0 0, .slice none 0 0, .slice none 0 0] 34)).alloc (.cells #[.int .i64 0, .int .i64 0, .slice none 0 0, .slice none 0 0, .slice none 0 0] 34)).heap.size (((W.alloc (.cells #[.int .i64 k, .int .i64 n, .slice aob b.length capb, .slice aol l.length capl, .slice aod d.length capd] 34)).alloc (.cells #[.int .i64 0, .int .i64 0, .slice none 0 0, .slice none 0 0, .slice none 0 0] 34)).alloc (.cells #[.int .i64 0, .int .i64 0, .slice none 0 0, .slice none 0 0, .slice none 0 0] 34)) w1 := (below_drewN (Below.refl _ _) 1).trans hb1
        have hB : Below ((W.alloc (.cells #[.int .i64 k, .int .i64 n, .slice aob b.length capb, .slice aol l.length capl, .slice aod d.length capd] 34)).alloc (.cells #[.int .i64 0, .int .i64 0, .slice none 0 0, .slice none 0 0, .slice none 0 0] 34)).heap.size ((W.alloc (.cells #[.int .i64 k, .int .i64 n, .slice aob b.length capb, .slice aol l.length capl, .slice aod d.length capd] 34)).alloc (.cells #[.int .i64 0, .int .i64 0, .slice none 0 0, .slice none 0 0, .slice none 0 0] 34)) w1 := below_then (alb _ _) hB2
        have hh := set5_held w1 w1.heap.size (W.heap.size + 1 + 1) (.int .i64 k) (.int .i64 n) (.slice ao1 b.length cap1) (.slice none 0 0) (.slice none 0 0)
        refine ⟨_, _, _, rfl, hNw.set5 rfl, ⟨(Sl.own hv).held hh (fun g hg => ?_), fun g hg => ?_⟩, by omega, ?_⟩
        · have h1 := World.ownsRow.lt hv g hg
          simp at h1
          exact ⟨by omega, by omega⟩
        · have h1 := World.ownsRow.lt hv g hg
          have h2 := hh.size
          simp at h1
          exact ⟨by omega, Nat.lt_of_lt_of_le h1.2 h2, by omega⟩
        · have h3 := hB.size
          simp at h3
          exact (hB.mono (by simp)).trans (hh.below (by omega) (by omega) (by omega))
    case rest =>
      obtain ⟨go, ao1, cap1, rfl, hO, hS, hgo, hbel⟩ := hcut
      have hsz : (((W.alloc (.cells #[.int .i64 k, .int .i64 n, .slice aob b.length capb, .slice aol l.length capl, .slice aod d.length capd] 34)).alloc (.cells #[.int .i64 0, .int .i64 0, .slice none 0 0, .slice none 0 0, .slice none 0 0] 34))).heap.size = W.heap.size + 2 := by simp
      have hP1 := hP0.up (hbel.mono (by simp))
      have hZ1 := (C5.new (W.alloc (.cells #[.int .i64 k, .int .i64 n, .slice aob b.length capb, .slice aol l.length capl, .slice aod d.length capd] 34)) (W.heap.size + 1) (by simp) [.int .i64 0, .int .i64 0, .slice none 0 0, .slice none 0 0, .slice none 0 0] 34).up (hbel.mono (by simp))
      have hWc : Below W.heap.size W wc := hWW.trans (hbel.mono (by omega))
      clear hP0 hbel hWW
      obtain ⟨C, hC, hCc⟩ := ov_of l cl hl'
      obtain ⟨D, hD, hDc⟩ := ev_of d cd hkk hd'
      have hCl : C.length = l.length := All2.len hC
      have hDl : D.length = d.length := All2.len hD
      have HSL := hid (hl1.slx C hCl hCc).1
      have HSD := hid (hd1.slx (D.map ecl) (by rw [List.length_map]; exact hDl) (fun i hi => by rw [List.getElem_map]; exact hDc i (by simpa using hi))).1
      have hag : ∀ X, Below W.heap.size W X → ∀ g, A g → g < w.heap.size → X.heap[g]? = w.heap[g]? := fun X hX g hg hlt => by
        have e := hW g hg hlt
        refine (hX.block g ?_).trans e
        rcases Nat.lt_or_ge g W.heap.size with q | q
        · exact q
        · rw [Array.getElem?_eq_none q, Array.getElem?_eq_getElem hlt] at e; cases e
      have HAG := hid hag
      have hI1 : ∀ i (h : i < C.length), CopyC A w C[i] (l[i]'(by omega)) := fun i h => by rw [hCc i h]; exact ih1 i (by omega)
      have hI2 : ∀ i (h : i < D.length), CopyC A w (D[i]).2 (d[i]'(by omega)).2 ∧ (D[i]).1 = (d[i]'(by omega)).1 ∧ V5 (D[i]).2 := fun i h => by
        have e : (D[i]).2 = (cd i).tail := by rw [← hDc i h]; rfl
        exact ⟨by rw [e]; exact ih2 i (by omega), (hD.at i h (by omega)).1, hD.allV _ (List.getElem_mem h)⟩
      have hV1 : ∀ i (h : i < C.length), V5 C[i] := fun i h => hC.len5 _ (List.getElem_mem h)
      have HI1 := hid hI1
      have HI2 := hid hI2
      have HV1 := hid hV1
      clear hag hW hl1 hd1 hl' hkk hd' ih1 ih2 hC hD hCc hDc hI1 hI2 hV1
      have HO := hid hO
      obtain ⟨oc, of_, os⟩ := hO
      obtain ⟨rc, rf, rs⟩ := id hP1
      go_wp2
      clear oc of_ os rc rf rs
      go_loopw [5, 19] (fun _ s19 wr => ∃ i : Nat, ∃ aol' capl' C', s19 = .int .i64 i ∧ i ≤ l.length ∧ CpL wc wr go k n (.slice ao1 b.length cap1) (.slice aol' i capl') (.slice none 0 0) l i C') (fun _ s19 _ => l.length - (intOf s19).toNat)
      case atStart => exact ⟨0, none, 0, [], rfl, Nat.zero_le _, HO.out, RowG.nil _ _ _ _ _ _, Held.refl _ _ _ _⟩
      case round =>
        obtain ⟨i, aol', capl', C', rfl, hi, hL⟩ := hrel
        have hWr : Below W.heap.size W wr := hWc.trans (hL.hh.below hWc.size (by omega) (by omega))
        have hPr := hP1.held hL.hh (by omega) (by omega)
        by_cases hlt : i < l.length
        · have hiz : (i : Int) < (l.length : Int) := by omega
          obtain ⟨g, off, rfl, hcell⟩ := (HSL.out.up hWr).some (by omega)
          have l2 := hcell i (by omega)
          have hcp := HI1.out i (by omega)
          have hv5 := HV1.out i (by omega)
          clear hcell
          generalize C[i]'(by omega) = ci at l2 hcp hv5
          obtain ⟨p1, p2, p3, p4, p5, p6, p7, p8, p9, p10, p11, rfl⟩ := hv5
          have c0 := l2 0 _ rfl
          have c1 := l2 1 _ rfl
          have c2 := l2 2 _ rfl
          have c3 := l2 3 _ rfl
          have c4 := l2 4 _ rfl
          rw [Nat.add_zero] at c0
          have HL := hid hL
          obtain ⟨oc, of_, os⟩ := hL.out
          clear l2 hL
          have hX := C5.new wr _ rfl [.int .i64 p1, .int .i64 p2, .slice p3 p6 p7, .slice p4 p8 p9, .slice p5 p10 p11] 34
          have hxg : wr.heap.size ≠ go := by have := HL.out.out.2.2; omega
          have hone : ∀ vs : List Value, V5 vs → ∀ c ∈ [vs], ∀ u ∈ c, u.oneCell' = true := fun vs h c hc => by
            rw [List.mem_singleton] at hc; subst hc; exact h.one
          have hlz := HZ.out.2.1
          have hbz := HL.out.hh.size
          have hgw : go < wc.heap.size := HO.out.2.2
          go_upto_region 5 with fail
          have hlv : opLd 25 (Operand.tmp 23) = Op.load 25 (Operand.tmp 23) := rfl
          rw [← hlv]
          go_region_held3 (fun w' => w'.cell? ⟨wr.heap.size, 0, none⟩ = some (.int .i64 p1) ∧ w'.cell? ⟨wr.heap.size, 1, none⟩ = some (.int .i64 p2) ∧ w'.cell? ⟨wr.heap.size, 2, none⟩ = some (.slice p3 p6 p7) ∧ w'.cell? ⟨wr.heap.size, 3, none⟩ = some (.slice p4 p8 p9) ∧ w'.cell? ⟨wr.heap.size, 4, none⟩ = some (.slice p5 p10 p11)) (first | go_keep | exact C5.s5 hX | exact C5.s5 (hX.up (alb _ _)) | exact C5.s5 (hX.held (Held.set (p := go) (q := go) _ _ _ (.inl rfl)) hxg hxg) | skip) (first | (go_at_call 121; refine (hcp _ (HAG.out _ (below_drewN (hWr.alloc hWr.size _) _))).mono ?_; rintro e w5 ⟨vs', rfl, hov, hb5⟩; have hb : Below wr.heap.size wr w5 := below_then (alb wr (.cells #[.int .i64 p1, .int .i64 p2, .slice p3 p6 p7, .slice p4 p8 p9, .slice p5 p10 p11] 34)) ((below_drewN (Below.refl _ _) _).trans hb5); have hX := (hX.up (below_drewN (Below.refl _ _) _)).up hb5; have hV5 := hov.v5; have hone := hone _ hV5; have hov2 := hid (hov.keep (B := fun g => wr.heap.size ≤ g ∧ g < w5.heap.size) (fun g hg => ⟨by have := hg.1; simp at this; omega, hg.2⟩) (fun _ _ _ => rfl)); clear hov; obtain ⟨y1, y2, y3, y4, y5, y6, y7, y8, y9, y10, y11, rfl⟩ := hV5; have hLo := HL.out.out.up hb; obtain ⟨oc, of_, os⟩ := id hLo; have hrow : OwX 5 34 w5 wc.heap.size (.slice aol' i capl') C' := (by simpa using (HL.out.row.up keepOV hb).row); have hCl2 : C'.length = i := (by have := All2.len HL.out.row.rel; rw [List.length_take] at this; omega); have hbs := hb.size) | (refine wp_append_slx _ _ 25 rfl wc.heap.size 34 zObj 5 88 objTy' objIn rfl (by decide) (.slice aol' i capl') C' rfl (hrow.up (alb _ _)) _ [[.int .i64 y1, .int .i64 y2, .slice y3 y6 y7, .slice y4 y8 y9, .slice y5 y10 y11]] rfl (SlX.lit1 w5 _ rfl [.int .i64 y1, .int .i64 y2, .slice y3 y6 y7, .slice y4 y8 y9, .slice y5 y10 y11] _ 5 rfl) hone (by simp; omega) (by decide) (Nat.le_trans hbz (Nat.le_trans hbs (alb _ _).size)) ?_; intro v8 w8 r1 r2 r3; obtain ⟨g8, cap8, rfl⟩ := r1.cons (by simp); have e8 : (C' ++ ([[.int .i64 y1, .int .i64 y2, .slice y3 y6 y7, .slice y4 y8 y9, .slice y5 y10 y11]] : List (List Value))).length = i + 1 := (by rw [List.length_append, hCl2]; rfl); rw [e8] at r1 r3; have hne8 : (Value.slice aol' i capl').ownBlock ≠ some go := (fun q => by have := (hrow.lt go q).1; omega); have hnx8 : (Value.slice aol' i capl').ownBlock ≠ some wr.heap.size := (fun q => by have := (HL.out.row.row.lt _ q).2; omega); have hX := (hX.up (alb _ _)).grown r2 hnx8; have hLo := (hLo.up (alb _ _)).grown r2 hne8; obtain ⟨oc, of_, os⟩ := id hLo))
          all_goals
            go_wp2_with fail
            go_roundw
            case rel => exact ⟨i + 1, _, _, _, by go_num, by omega, HL.out.push hlt (below_then hb (alb w5 _)) (hov2.out.keep (fun g hg => ⟨hg.1, Nat.lt_of_lt_of_le hg.2 (alb _ _).size⟩) (fun g _ hlt => (alb _ _).block g hlt)) r1 r2 r3 hgw⟩
            case measure => simp [intOf]; omega
        · obtain rfl : i = l.length := by omega
          have hiz : ¬ (l.length : Int) < (l.length : Int) := by omega
          have HL1 := hid hL
          have HPr := hid hPr
          have HWr := hid hWr
          have HOo := hid hL.out
          obtain ⟨oc, of_, os⟩ := hL.out
          obtain ⟨rc, rf, rs⟩ := hPr
          clear hL hWr
          obtain ⟨wo, hwo⟩ : ∃ wo : World, wo = wr := ⟨_, rfl⟩
          subst hwo
          go_wp2
          clear oc of_ os rc rf rs
          go_loopw [7, 34] (fun _ s34 wr => ∃ i : Nat, ∃ aod' capd' D', s34 = .int .i64 i ∧ i ≤ d.length ∧ CpD wo wr go k n (.slice ao1 b.length cap1) (.slice aol' l.length capl') (.slice aod' i capd') d i D') (fun _ s34 _ => d.length - (intOf s34).toNat)
          case atStart => exact ⟨0, none, 0, [], rfl, Nat.zero_le _, HOo.out, RowG.nil _ _ _ _ _ _, Held.refl _ _ _ _⟩
          case round =>
            obtain ⟨i, aod', capd', D', rfl, hi2, hL⟩ := hrel
            have hWr : Below W.heap.size W wr := HWr.out.trans (hL.hh.below HWr.out.size (by omega) (by omega))
            have hPr := HPr.out.held hL.hh (by omega) (by omega)
            by_cases hlt : i < d.length
            · have hiz : (i : Int) < (d.length : Int) := by omega
              obtain ⟨g, off, rfl, hcell⟩ := (HSD.out.up hWr).some (by omega)
              have l2 := hcell i (by rw [List.length_map]; omega)
              rw [List.getElem_map] at l2
              obtain ⟨hcp, hkk, hv5⟩ := HI2.out i (by omega)
              have hps := fun (D' : List KV) (wc wr : World) (C : List KV) (q : i < d.length) => True.intro
              clear hcell hps
              generalize D[i]'(by omega) = di at l2 hcp hkk hv5
              obtain ⟨kk, vv⟩ := di
              obtain ⟨p1, p2, p3, p4, p5, p6, p7, p8, p9, p10, p11, rfl⟩ := hv5
              have c0 := l2 0 _ rfl
              have c1 := l2 1 _ rfl
              have c2 := l2 2 _ rfl
              have c3 := l2 3 _ rfl
              have c4 := l2 4 _ rfl
              have c5 := l2 5 _ rfl
              rw [Nat.add_zero] at c0
              have HKK := hid hkk
              have HL := hid hL
              obtain ⟨oc, of_, os⟩ := hL.out
              clear l2 hL hkk
              have hX := C5.new wr _ rfl [.string (st kk), .int .i64 p1, .int .i64 p2, .slice p3 p6 p7, .slice p4 p8 p9, .slice p5 p10 p11] 41
              have hxg : wr.heap.size ≠ go := by have := HL.out.out.2.2; omega
              have hone : ∀ vs : List Value, V5 vs → ∀ c ∈ [ecl (kk, vs)], ∀ u ∈ c, u.oneCell' = true := fun vs h c hc => by
                rw [List.mem_singleton] at hc; subst hc; exact ecl_one (e := (kk, vs)) h
              have hlz := HZ.out.2.2
              have hbz := HL.out.hh.size
              have hgw : go < wo.heap.size := HOo.out.2.2
              go_upto_region 10 with fail
              have hlv : opLd 32 (Operand.tmp 38) = Op.load 32 (Operand.tmp 38) := rfl
              rw [← hlv]
              go_region_held3 (fun w' => w'.cell? ⟨wr.heap.size, 0, none⟩ = some (.string (st kk)) ∧ w'.cell? ⟨wr.heap.size, 1, none⟩ = some (.int .i64 p1) ∧ w'.cell? ⟨wr.heap.size, 2, none⟩ = some (.int .i64 p2) ∧ w'.cell? ⟨wr.heap.size, 3, none⟩ = some (.slice p3 p6 p7) ∧ w'.cell? ⟨wr.heap.size, 4, none⟩ = some (.slice p4 p8 p9) ∧ w'.cell? ⟨wr.heap.size, 5, none⟩ = some (.slice p5 p10 p11)) (first | go_keep | exact C5.s6 hX | exact C5.s6 (hX.up (alb _ _)) | exact C5.s6 (hX.held (Held.set (p := go) (q := go) _ _ _ (.inl rfl)) hxg hxg) | skip) (first | (go_at_call 121; refine (hcp _ (HAG.out _ (below_drewN (hWr.alloc hWr.size _) _))).mono ?_; rintro e w5 ⟨vs', rfl, hov, hb5⟩; have hb : Below wr.heap.size wr w5 := below_then (alb wr (.cells #[.string (st kk), .int .i64 p1, .int .i64 p2, .slice p3 p6 p7, .slice p4 p8 p9, .slice p5 p10 p11] 41)) ((below_drewN (Below.refl _ _) _).trans hb5); have hX := (hX.up (below_drewN (Below.refl _ _) _)).up hb5; have hV5 := hov.v5; have hone := hone _ hV5; have hov2 := hid (hov.keep (B := fun g => wr.heap.size ≤ g ∧ g < w5.heap.size) (fun g hg => ⟨by have := hg.1; simp at this; omega, hg.2⟩) (fun _ _ _ => rfl)); clear hov; obtain ⟨y1, y2, y3, y4, y5, y6, y7, y8, y9, y10, y11, rfl⟩ := hV5; have hLo := HL.out.out.up hb; obtain ⟨oc, of_, os⟩ := id hLo; have hrow : OwX 6 41 w5 wo.heap.size (.slice aod' i capd') (D'.map ecl) := (HL.out.row.up keepEV hb).row; have hCl2 : D'.length = i := (by have := All2.len HL.out.row.rel; rw [List.length_take] at this; omega); have hbs := hb.size) | (refine wp_append_slx _ _ 32 rfl wo.heap.size 41 zEnt 6 104 entTy' entIn rfl (by decide) (.slice aod' i capd') (D'.map ecl) rfl (hrow.up (alb _ _)) _ [ecl (kk, [.int .i64 y1, .int .i64 y2, .slice y3 y6 y7, .slice y4 y8 y9, .slice y5 y10 y11])] rfl (SlX.lit1 w5 _ rfl (ecl (kk, [.int .i64 y1, .int .i64 y2, .slice y3 y6 y7, .slice y4 y8 y9, .slice y5 y10 y11])) _ 6 rfl) hone (by simp; omega) (by decide) (Nat.le_trans hbz (Nat.le_trans hbs (alb _ _).size)) ?_; intro v8 w8 r1 r2 r3; obtain ⟨g8, cap8, rfl⟩ := r1.cons (by simp); have e8 : (D'.map ecl ++ ([ecl (kk, [.int .i64 y1, .int .i64 y2, .slice y3 y6 y7, .slice y4 y8 y9, .slice y5 y10 y11])] : List (List Value))).length = i + 1 := (by rw [List.length_append, List.length_map, hCl2]; rfl); rw [e8] at r1 r3; have hne8 : (Value.slice aod' i capd').ownBlock ≠ some go := (fun q => by have := (hrow.lt go q).1; omega); have hnx8 : (Value.slice aod' i capd').ownBlock ≠ some wr.heap.size := (fun q => by have := (HL.out.row.row.lt _ q).2; omega); have hX := (hX.up (alb _ _)).grown r2 hnx8; have hLo := (hLo.up (alb _ _)).grown r2 hne8; obtain ⟨oc, of_, os⟩ := id hLo))
              all_goals
                go_wp2_with fail
                go_roundw
                case rel => exact ⟨i + 1, _, _, _, by go_num, by omega, CpD.push' HL.out hlt HKK.out (below_then hb (alb w5 _)) (hov2.out.keep (fun g hg => ⟨hg.1, Nat.lt_of_lt_of_le hg.2 (alb _ _).size⟩) (fun g _ hlt => (alb _ _).block g hlt)) r1 r2 r3 hgw⟩
                case measure => simp [intOf]; omega
            · obtain rfl : i = d.length := by omega
              have hiz : ¬ (d.length : Int) < (d.length : Int) := by omega
              have hZr := (hZ1.held HL1.out.hh (by omega) (by omega)).held hL.hh (by omega) (by omega)
              have HL2 := hid hL
              have hcs := hWc.size
              have hgw : go < wc.heap.size := HO.out.2.2
              have hzc : W.heap.size + 1 < wc.heap.size := hZ1.2.2
              obtain ⟨oc, of_, os⟩ := hL.out
              obtain ⟨rc, rf, rs⟩ := id hZr
              clear hL hPr
              go_wp2
              obtain ⟨k0, k1, k2, k3, k4⟩ := set5_cells (a := .int .i64 k) (b := .int .i64 n) (c := .slice ao1 b.length cap1) (d := .slice aol' l.length capl') (e := .slice aod' d.length capd') (hZr.five rfl)
              have hf := fun B => set5_held wr B (W.heap.size + 1) (.int .i64 k) (.int .i64 n) (.slice ao1 b.length cap1) (.slice aol' l.length capl') (.slice aod' d.length capd')
              have hco := HL1.out.hh.size
              have hall : ∀ g, g < wc.heap.size → g ≠ go → g ≠ W.heap.size + 1 → (set5 wr (W.heap.size + 1) (.int .i64 k) (.int .i64 n) (.slice ao1 b.length cap1) (.slice aol' l.length capl') (.slice aod' d.length capd')).heap[g]? = wc.heap[g]? := fun g h1 h2 h3 =>
                ((hf wr.heap.size).block g (Nat.lt_of_lt_of_le h1 (Nat.le_trans hco HL2.out.hh.size)) h3 h3).trans ((HL2.out.hh.block g (Nat.lt_of_lt_of_le h1 hco) h2 h2).trans (HL1.out.hh.block g h1 h2 h2))
              have hl9 := ((HL1.out.row.held keepOV HL2.out.hh hgw hgw).held keepOV (hf _) (by omega) (by omega))
              have hd9 := HL2.out.row.held keepEV (hf _) (by omega) (by omega)
              rw [List.take_length] at hl9 hd9
              have hsf := (hf wr.heap.size).size
              have hso := HL2.out.hh.size
              have hA : ∀ g, wc.heap.size ≤ g → g < (set5 wr (W.heap.size + 1) (.int .i64 k) (.int .i64 n) (.slice ao1 b.length cap1) (.slice aol' l.length capl') (.slice aod' d.length capd')).heap.size → W.heap.size ≤ g ∧ g < (set5 wr (W.heap.size + 1) (.int .i64 k) (.int .i64 n) (.slice ao1 b.length cap1) (.slice aol' l.length capl') (.slice aod' d.length capd')).heap.size := fun g h1 h2 => ⟨by omega, h2⟩
              have hA2 : ∀ g, wo.heap.size ≤ g → g < (set5 wr (W.heap.size + 1) (.int .i64 k) (.int .i64 n) (.slice ao1 b.length cap1) (.slice aol' l.length capl') (.slice aod' d.length capd')).heap.size → W.heap.size ≤ g ∧ g < (set5 wr (W.heap.size + 1) (.int .i64 k) (.int .i64 n) (.slice ao1 b.length cap1) (.slice aol' l.length capl') (.slice aod' d.length capd')).heap.size := fun g h1 h2 => ⟨by omega, h2⟩
              have hrl := hl9.row.row hA
              rw [List.map_id'] at hrl
              have hrd := hd9.row.row hA2
              rw [List.length_map] at hrd
              have hsa := hS.keep (B := fun g => W.heap.size ≤ g ∧ g < (set5 wr (W.heap.size + 1) (.int .i64 k) (.int .i64 n) (.slice ao1 b.length cap1) (.slice aol' l.length capl') (.slice aod' d.length capd')).heap.size) (w' := set5 wr (W.heap.size + 1) (.int .i64 k) (.int .i64 n) (.slice ao1 b.length cap1) (.slice aol' l.length capl') (.slice aod' d.length capd')) (fun g hg => ⟨by have := hg.1; omega, by have := hg.2.1; exact Nat.lt_of_lt_of_le (Nat.lt_of_lt_of_le this (Nat.le_trans hco hso)) hsf⟩) (fun g hg h1 => hall g h1 hg.2.2 (by have := hg.1; omega))
              have hbel : Below W.heap.size W (set5 wr (W.heap.size + 1) (.int .i64 k) (.int .i64 n) (.slice ao1 b.length cap1) (.slice aol' l.length capl') (.slice aod' d.length capd')) := hWr.trans ((hf wr.heap.size).below hWr.size (by omega) (by omega))
              exact bodyPost_ret (v := .agg ([.int .i64 k, .int .i64 n, .slice ao1 b.length cap1, .slice aol' l.length capl', .slice aod' d.length capd']).toArray) (by simp [results, Tryz.results121, go_sem, k0, k1, k2, k3, k4]) rfl ⟨[.int .i64 k, .int .i64 n, .slice ao1 b.length cap1, .slice aol' l.length capl', .slice aod' d.length capd'], rfl, OV.make hsa hrl (hl9.wide keepOV hA) hrd (hd9.wide keepEV hA2) HZ.out, hbel⟩
end Go.Proofs.YtjkoiknjffldjaaGreatDoor

/-
  The program's Pair, Set, Dict. Conditions: rows no longer than a million.
-/
namespace Go.Proofs.YtjkoiknjffldjaaGreatDoor
open Go.RowKit
set_option linter.unusedVariables false

theorem copyO_any {A : Nat → Prop} {w : World} {vs : List Value} {o : PO} (h : OV A w vs o) :
    Calls Tryz.prog 121 #[.agg vs.toArray] w fun e w' => ∃ vs' : List Value, e = .returned (.agg vs'.toArray) ∧ OV (fun g => w.heap.size ≤ g ∧ g < w'.heap.size) w' vs' o ∧ Below w.heap.size w w' := copy_of h w (fun _ _ _ => rfl)

set_option maxHeartbeats 1600000 in
set_option maxRecDepth 100000 in
theorem entries_any (k n : Int) (b l d : Option Addr) (nb cb nl cl nd cd : Nat) (w : World) :
    Calls Tryz.prog 122 #[.agg #[.int .i64 k, .int .i64 n, .slice b nb cb, .slice l nl cl, .slice d nd cd]] w fun e w' => e = .returned (.bool (k == 7 || k == 8)) ∧ Below w.heap.size w w' := by
  by_cases h7 : k = 7
  · subst h7
    go_enter Tryz.func122, Tryz.ntmps122
    go_wp2
    go_ret
    exact ⟨rfl, alb _ _⟩
  · have b7 : (k == 7) = false := by simp [h7]
    rw [b7]
    go_enter Tryz.func122, Tryz.ntmps122
    go_wp2
    go_ret
    exact ⟨by simp, alb _ _⟩

/-- six cells of a block, set -/
abbrev set6 (w : World) (g : Nat) (a b c d e f : Value) : World := (((((w.setCell ⟨g, 0, none⟩ a).setCell ⟨g, 1, none⟩ b).setCell ⟨g, 2, none⟩ c).setCell ⟨g, 3, none⟩ d).setCell ⟨g, 4, none⟩ e).setCell ⟨g, 5, none⟩ f
theorem set6_held (w : World) (B g : Nat) (a b c d e f : Value) : Held B g g w (set6 w g a b c d e f) := (set5_held w B g a b c d e).trans (Held.set _ ⟨g, 5, none⟩ f (.inl rfl))
theorem C5.set6 {w : World} {g : Nat} {L : List Value} {a b c d e f : Value} (h : C5 w g L) (hl : L.length = 6) : C5 (set6 w g a b c d e f) g [a, b, c, d, e, f] := by
  obtain ⟨x0, x1, x2, x3, x4, x5, rfl⟩ : ∃ x0 x1 x2 x3 x4 x5, L = [x0, x1, x2, x3, x4, x5] := by
    match L, hl with
    | [x0, x1, x2, x3, x4, x5], _ => exact ⟨x0, x1, x2, x3, x4, x5, rfl⟩
  exact (((((h.set (k := 0) (u := a) (by simp)).set (k := 1) (u := b) (by simp)).set (k := 2) (u := c) (by simp)).set (k := 3) (u := d) (by simp)).set (k := 4) (u := e) (by simp)).set (k := 5) (u := f) (by simp)

set_option maxHeartbeats 1600000 in
set_option maxRecDepth 100000 in
theorem pair_any {A : Nat → Prop} {w : World} {vs : List Value} {o : PO} (k : List UInt8) (h : OV A w vs o) :
    Calls Tryz.prog 124 #[.string (st k), .agg vs.toArray] w fun e w' => ∃ vs' : List Value, e = .returned (ent k vs') ∧ OV (fun g => w.heap.size ≤ g ∧ g < w'.heap.size) w' vs' o ∧ Below w.heap.size w w' := by
  have hv := h.v5
  have hcp := fun W (hW : Below w.heap.size w W) => copyO_any (h.up hW)
  obtain ⟨p1, p2, p3, p4, p5, p6, p7, p8, p9, p10, p11, rfl⟩ := hv
  clear h
  go_enter Tryz.func124, Tryz.ntmps124
  go_wp2_with (go_at_call 121; refine (hcp _ (below_then (alb _ _) (alb _ _))).mono ?_; rintro e w1 ⟨vs', rfl, hov, hb1⟩; have hZ := (C5.new (w.alloc (.cells #[.int .i64 p1, .int .i64 p2, .slice p3 p6 p7, .slice p4 p8 p9, .slice p5 p10 p11] 34)) (w.heap.size + 1) (by simp) [.string ⟨#[]⟩, .int .i64 0, .int .i64 0, .slice none 0 0, .slice none 0 0, .slice none 0 0] 41).up hb1; obtain ⟨rc, rf, rs⟩ := id hZ; have hV5 := hov.v5; have hov2 := hid hov; clear hov; obtain ⟨y1, y2, y3, y4, y5, y6, y7, y8, y9, y10, y11, rfl⟩ := hV5)
  have hC := hZ.set6 (a := .string (st k)) (b := .int .i64 y1) (c := .int .i64 y2) (d := .slice y3 y6 y7) (e := .slice y4 y8 y9) (f := .slice y5 y10 y11) rfl
  have hh := fun B => set6_held w1 B (w.heap.size + 1) (.string (st k)) (.int .i64 y1) (.int .i64 y2) (.slice y3 y6 y7) (.slice y4 y8 y9) (.slice y5 y10 y11)
  have k0 := hC.1 0
  have k1 := hC.1 1
  have k2 := hC.1 2
  have k3 := hC.1 3
  have k4 := hC.1 4
  have k5 := hC.1 5
  simp only [List.getElem?_cons_zero, List.getElem?_cons_succ] at k0 k1 k2 k3 k4 k5
  have hB := below_then (below_then (alb w _) (alb _ _)) hb1
  have hs := hB.size
  have hn := hb1.size
  simp at hn
  have hs6 := (hh w1.heap.size).size
  refine bodyPost_ret (v := ent k [.int .i64 y1, .int .i64 y2, .slice y3 y6 y7, .slice y4 y8 y9, .slice y5 y10 y11]) (by simp [results, Tryz.results124, go_sem, k0, k1, k2, k3, k4, k5]) rfl ⟨_, rfl, hov2.out.keep (fun g hg => ?_) (fun g hg h1 => ?_), hB.trans ((hh w1.heap.size).below hs (by omega) (by omega))⟩
  · have := hg.1
    simp at this
    exact ⟨by omega, Nat.lt_of_lt_of_le hg.2 hs6⟩
  · have := hg.1
    simp at this
    exact (hh w1.heap.size).block g h1 (by omega) (by omega)

theorem OV.kind {A : Nat → Prop} {w : World} {k n : Int} {a b c : Value} {o : PO} (h : OV A w [.int .i64 k, .int .i64 n, a, b, c] o) : o.kind = k := by cases h; rfl
/-- an object with other entries -/
theorem OV.setD {A : Nat → Prop} {w : World} {k n : Int} {vb vl vd vd2 : Value} {b : List UInt8} {l : List PO} {d d2 : List (List UInt8 × PO)} {E : List KV} (h : OV A w [.int .i64 k, .int .i64 n, vb, vl, vd] (.mk k n b l d)) (hr : RowA A w 6 vd2 E.length (fun i => (E.map ecl).getD i [])) (hE : EVs A w E d2) (hz : d2.length ≤ 4000000) :
    OV A w [.int .i64 k, .int .i64 n, vb, vl, vd2] (.mk k n b l d2) := by
  obtain ⟨k9, n9, vb9, vx, vd9, b9, l9, d9, cl, cd, hb, hl, hl9, hd9, hk9, hd9', hz9⟩ := h
  obtain ⟨C, hC, hCc⟩ := ov_of l cl hl9
  have hCl : C.length = l.length := All2.len hC
  refine OV.make hb ?_ hC hr hE ⟨hz9.1, hz9.2.1, hz⟩
  obtain ⟨ao, cap, rfl, q1, q2, q3, q4, q5⟩ := hl
  refine ⟨ao, cap, by rw [hCl], by rw [hCl]; exact q1, q2, q3, fun i hi => ?_, ?_⟩
  · simp only [getD_at hi]; rw [hCc i hi]; exact q4 i (by omega)
  · rcases q5 with q5 | ⟨g, off, rfl, q6, q7⟩
    · exact .inl (by omega)
    · exact .inr ⟨g, off, rfl, q6, fun i hi j u hu => by simp only [getD_at hi] at hu; rw [hCc i hi] at hu; exact q7 i (by omega) j u hu⟩
/-- an object's entries, as values -/
theorem OV.ents {A : Nat → Prop} {w : World} {k n : Int} {vb vl vd : Value} {b : List UInt8} {l : List PO} {d : List (List UInt8 × PO)} (h : OV A w [.int .i64 k, .int .i64 n, vb, vl, vd] (.mk k n b l d)) : ∃ E : List KV, EVs A w E d ∧ SlX 6 w vd (E.map ecl) := by
  obtain ⟨k9, n9, vb9, vx, vd9, b9, l9, d9, cl, cd, hb, hl, hl9, hd9, hk9, hd9', hz9⟩ := h
  obtain ⟨D, hD, hDc⟩ := ev_of d cd hk9 hd9'
  have hDl : D.length = d.length := All2.len hD
  exact ⟨D, hD, (hd9.slx (D.map ecl) (by rw [List.length_map]; exact hDl) (fun i hi => by rw [List.getElem_map]; exact hDc i (by simpa using hi))).1⟩
theorem srt_len {α : Type} (k : List UInt8) (ins : List (List UInt8 × α)) : ∀ d, (srt k ins d).length ≤ d.length + ins.length
  | [] => by simp [srt]
  | x :: d => by
    rw [srt]
    split
    · have := List.length_filter_le (fun y => !(y.1 == k)) (x :: d)
      rw [List.length_append]; omega
    · have := srt_len k ins d
      rw [List.length_cons, List.length_cons]; omega
theorem wi_len (e : List UInt8 × PO) (d : List (List UInt8 × PO)) : (wi e d).length ≤ d.length + 1 := by
  rw [wi_srt]
  have := srt_len e.1 (if e.2.kind = 0 then [] else [e]) d
  split at this <;> simp_all <;> omega
theorem fold_len (l : List (List UInt8 × PO)) : ∀ d, (l.foldl (fun d e => wi e d) d).length ≤ d.length + l.length := by
  induction l with
  | nil => intro d; simp
  | cons e l ih => intro d; have h1 := ih (wi e d); have h2 := wi_len e d; rw [List.foldl_cons, List.length_cons]; omega

/-- Set on its way -/
structure SetI (B0 : Nat) (wc wr : World) (go : Nat) (n : Int) (vb vl vd : Value) (b : List UInt8) (l : List PO) (d2 : List (List UInt8 × PO)) : Prop where
  out : C5 wr go [.int .i64 7, .int .i64 n, vb, vl, vd]
  ov : OV (fun g => B0 ≤ g ∧ g < wr.heap.size ∧ g ≠ go) wr [.int .i64 7, .int .i64 n, vb, vl, vd] (.mk 7 n b l d2)
  hh : Held wc.heap.size go go wc wr
theorem SetI.put {wc wr w5 w8 : World} {B0 go : Nat} {n : Int} {vb vl vd v8 : Value} {b : List UInt8} {l : List PO} {d2 : List (List UInt8 × PO)} {E : List KV} {e : List UInt8 × PO} {vs : List Value} (h : SetI B0 wc wr go n vb vl vd b l d2) (hE : EVs (fun g => B0 ≤ g ∧ g < wr.heap.size ∧ g ≠ go) wr E d2)
    (h5 : Below wr.heap.size wr w5) (hx : OV (fun g => wr.heap.size ≤ g ∧ g < w5.heap.size) w5 vs e.2) (h8 : Below w5.heap.size w5 w8) (hrow : OwX 6 41 w8 w5.heap.size v8 ((srt e.1 (if e.2.kind = 0 then [] else [(e.1, vs)]) E).map ecl)) (hz : d2.length + 1 ≤ 4000000) (hgo : go < wc.heap.size) (hw : B0 ≤ wr.heap.size) :
    SetI B0 wc (w8.setCell ⟨go, 4, none⟩ v8) go n vb vl v8 b l (wi e d2) := by
  have hS := fun B => Held.set (B := B) (p := go) (q := go) w8 ⟨go, 4, none⟩ v8 (.inl rfl)
  have h85 := below_then h5 h8
  have hgr : go < wr.heap.size := h.out.2.2
  have hs9 : w8.heap.size ≤ (w8.setCell ⟨go, 4, none⟩ v8).heap.size := (hS 0).size
  have hall : ∀ g, g < wr.heap.size → g ≠ go → (w8.setCell ⟨go, 4, none⟩ v8).heap[g]? = wr.heap[g]? := fun g h1 h2 => ((hS w8.heap.size).block g (Nat.lt_of_lt_of_le h1 h85.size) h2 h2).trans (h85.block g h1)
  have hov := h.ov.keep (B := fun g => B0 ≤ g ∧ g < (w8.setCell ⟨go, 4, none⟩ v8).heap.size ∧ g ≠ go) (w' := w8.setCell ⟨go, 4, none⟩ v8) (fun g hg => ⟨hg.1, Nat.lt_of_lt_of_le hg.2.1 (Nat.le_trans h85.size hs9), hg.2.2⟩) (fun g hg h1 => hall g h1 hg.2.2)
  have hE9 := hE.keep (B := fun g => B0 ≤ g ∧ g < (w8.setCell ⟨go, 4, none⟩ v8).heap.size ∧ g ≠ go) (w' := w8.setCell ⟨go, 4, none⟩ v8) (fun g hg => ⟨hg.1, Nat.lt_of_lt_of_le hg.2.1 (Nat.le_trans h85.size hs9), hg.2.2⟩) (fun g hg h1 => hall g h1 hg.2.2)
  have hx9 := hx.keep (B := fun g => B0 ≤ g ∧ g < (w8.setCell ⟨go, 4, none⟩ v8).heap.size ∧ g ≠ go) (w' := w8.setCell ⟨go, 4, none⟩ v8) (fun g hg => ⟨Nat.le_trans hw hg.1, Nat.lt_of_lt_of_le hg.2 (Nat.le_trans h8.size hs9), by have := hg.1; omega⟩) (fun g hg h1 => ((hS w8.heap.size).block g (Nat.lt_of_lt_of_le h1 h8.size) (by have := hg.1; omega) (by have := hg.1; omega)).trans (h8.block g h1))
  have hg5 : go < w5.heap.size := Nat.lt_of_lt_of_le hgr h5.size
  have hr9 := (hrow.held (hS _) (fun g hg => by have := (hrow.lt g hg).1; exact ⟨by omega, by omega⟩)).row (A := fun g => B0 ≤ g ∧ g < (w8.setCell ⟨go, 4, none⟩ v8).heap.size ∧ g ≠ go) (fun g h1 h2 => ⟨Nat.le_trans (Nat.le_trans hw h5.size) h1, h2, by omega⟩)
  rw [List.length_map] at hr9
  have hEs : EVs (fun g => B0 ≤ g ∧ g < (w8.setCell ⟨go, 4, none⟩ v8).heap.size ∧ g ≠ go) (w8.setCell ⟨go, 4, none⟩ v8) (srt e.1 (if e.2.kind = 0 then [] else [(e.1, vs)]) E) (wi e d2) := by
    rw [wi_srt]
    refine hE9.srt e.1 ?_
    split
    · exact .nil
    · exact .one ⟨rfl, hx9⟩
  refine ⟨(h.out.up h85).set (k := 4) (by simp), hov.setD hr9 hEs (Nat.le_trans (wi_len _ _) hz), ?_⟩
  exact (h.hh.then' (Held.of_below h85)).trans (hS _)

theorem OV.shape {A : Nat → Prop} {w : World} {k n : Int} {vs : List Value} {b : List UInt8} {l : List PO} {d : List (List UInt8 × PO)} (h : OV A w vs (.mk k n b l d)) : ∃ ab cb al cl ad cd, vs = [.int .i64 k, .int .i64 n, .slice ab b.length cb, .slice al l.length cl, .slice ad d.length cd] := by
  obtain ⟨k9, n9, vb9, vx, vd9, b9, l9, d9, cl, cd, hb, hl, hl9, hd9, hk9, hd9', hz9⟩ := h
  obtain ⟨⟨aob, capb, rfl, -, -, -, -⟩, -⟩ := id hb
  obtain ⟨aox, capx, rfl, -⟩ := id hl
  obtain ⟨aod, capd, rfl, -⟩ := id hd9
  exact ⟨_, _, _, _, _, _, rfl⟩
/-- a row's slice -/
theorem OwX.lin {sz : Nat} {T : TypeId} {w : World} {B : Nat} {v : Value} {C : List (List Value)} (h : OwX sz T w B v C) : ∃ ao cap, v = .slice ao C.length cap := by
  rcases h.form with ⟨h1, hn⟩ | ⟨g, cap, e, -⟩
  · subst hn; exact ⟨none, 0, h1⟩
  · exact ⟨_, cap, e⟩

set_option maxHeartbeats 4000000 in
set_option maxRecDepth 100000 in
theorem set_any {A A2 : Nat → Prop} {w : World} {n : Int} {b : List UInt8} {l : List PO} {d d2 : List (List UInt8 × PO)} {vs : List Value} {ve : Value} {D : List KV} (h : OV A w vs (.mk 7 n b l d)) (hD : EVs A2 w D d2) (hS : SlX 6 w ve (D.map ecl)) (hz : d.length + d2.length ≤ 3600000) :
    Calls Tryz.prog 108 #[.agg vs.toArray, ve] w fun e w' => ∃ vs' : List Value, e = .returned (.agg vs'.toArray) ∧ OV (fun g => w.heap.size ≤ g ∧ g < w'.heap.size) w' vs' (.mk 7 n b l (d2.foldl (fun d e => wi e d) d)) ∧ Below w.heap.size w w' := by
  have hcp := hid (fun W (hW : Below w.heap.size w W) => copyO_any (h.up hW))
  have hDl : D.length = d2.length := All2.len hD
  obtain ⟨o1, o3, o4, o6, o7, o9, rfl⟩ := h.shape
  obtain ⟨aoe, cape, rfl, s1, s2, s3, s4, s5⟩ := id hS
  have HS := hid hS
  have HD := hid hD
  clear h hD s5 hS
  rw [List.length_map] at *
  go_enter Tryz.func108, Tryz.ntmps108
  go_wp2_with (first | (go_at_call 122; refine (entries_any _ _ _ _ _ _ _ _ _ _ _ _).mono ?_; rintro e w3 ⟨rfl, hb3⟩) | (go_at_call 121; refine (hcp.out _ (below_then (alb _ _) (alb _ _))).mono ?_; rintro e w1 ⟨vs', rfl, hov, hb1⟩; have hP1 := (((C5.new w _ rfl [.int .i64 7, .int .i64 n, .slice o1 b.length o3, .slice o4 l.length o6, .slice o7 d.length o9] 34).up (alb _ _)).up hb1); have hZ1 := (C5.new (w.alloc (.cells #[.int .i64 7, .int .i64 n, .slice o1 b.length o3, .slice o4 l.length o6, .slice o7 d.length o9] 34)) (w.heap.size + 1) (by simp) [.int .i64 0, .int .i64 0, .slice none 0 0, .slice none 0 0, .slice none 0 0] 34).up hb1; obtain ⟨rc, rf, rs⟩ := id hP1; obtain ⟨c1, c3, c4, c6, c7, c9, rfl⟩ := hov.shape; have hov2 := hid hov; clear hov))
  have hB1 := below_then (below_then (alb w _) (alb _ _)) hb1
  have hsz1 := hb1.size
  simp at hsz1
  have hO2 := C5.new w1 w1.heap.size rfl [.int .i64 7, .int .i64 n, .slice c1 b.length c3, .slice c4 l.length c6, .slice c7 d.length c9] 34
  have hb31 := below_then (alb w1 (.cells #[.int .i64 7, .int .i64 n, .slice c1 b.length c3, .slice c4 l.length c6, .slice c7 d.length c9] 34)) hb3
  have hO3 := hO2.up hb3
  have hZ3 := hZ1.up hb31
  have hB3 := below_then hB1 hb31
  have hgo : w1.heap.size < w3.heap.size := hO3.2.2
  have HI0 : SetI (w.heap.size + 2) w3 w3 w1.heap.size n (.slice c1 b.length c3) (.slice c4 l.length c6) (.slice c7 d.length c9) b l d := ⟨hO3, hov2.out.keep (fun g hg => ⟨by have := hg.1; simp at this; omega, Nat.lt_of_lt_of_le hg.2 (Nat.le_of_lt hgo), by have := hg.2; omega⟩) (fun g hg h1 => hb31.block g h1), Held.refl _ _ _ _⟩
  clear hO2 hb1 hP1 rc rf rs hZ1 hb3 hb31 hov2 hcp hO3
  generalize hgg : w1.heap.size = go at *
  have hwg : w.heap.size + 2 ≤ go := by omega
  clear hgg hsz1 hB1
  go_loopw [7, 16] (fun _ s16 wr => ∃ i : Nat, ∃ dc ad cd, s16 = .int .i64 i ∧ i ≤ d2.length ∧ dc.length ≤ d.length + i ∧ dc = (d2.take i).foldl (fun d e => wi e d) d ∧ SetI (w.heap.size + 2) w3 wr go n (.slice c1 b.length c3) (.slice c4 l.length c6) (.slice ad dc.length cd) b l dc) (fun _ s16 _ => d2.length - (intOf s16).toNat)
  case atStart => exact ⟨0, d, _, _, rfl, Nat.zero_le _, Nat.le_refl _, rfl, HI0⟩
  case round =>
    clear HI0
    obtain ⟨i, dc, ad, cd, rfl, hi, hdl, hdc, hI⟩ := hrel
    have hWr : Below w.heap.size w wr := hB3.trans (hI.hh.below hB3.size (by omega) (by omega))
    have hI3 := hI.hh
    have HI := hid hI
    have HDC := hid hdc
    clear hdc
    by_cases hlt : i < d2.length
    · have hiz : (i : Int) < (d2.length : Int) := by omega
      obtain ⟨g, off, rfl, hcell⟩ := (HS.out.up hWr).some (by omega)
      have l2 := hcell i (by rw [List.length_map]; omega)
      rw [List.getElem_map] at l2
      have hev := HD.out.at i (by omega) hlt
      obtain ⟨hkk, hov⟩ := hev
      have hv5 := hov.v5
      clear hcell
      have HE2 := hid (show d2.take (i + 1) = d2.take i ++ [d2[i]] from List.take_succ_eq_append_getElem hlt)
      generalize d2[i] = e2 at hkk hov HE2
      generalize D[i]'(by omega) = di at l2 hkk hv5 hov
      obtain ⟨kk, vv⟩ := di
      obtain ⟨ke, oe⟩ := e2
      obtain rfl : kk = ke := hkk
      have hpr := fun W (hW : Below wr.heap.size wr W) => pair_any kk ((hov.up hWr).up hW)
      obtain ⟨p1, p2, p3, p4, p5, p6, p7, p8, p9, p10, p11, rfl⟩ := hv5
      have hkd : oe.kind = p1 := hov.kind
      have HKD := hid hkd
      have q0 := l2 0 _ rfl
      have q1 := l2 1 _ rfl
      have q2 := l2 2 _ rfl
      have q3 := l2 3 _ rfl
      have q4 := l2 4 _ rfl
      have q5 := l2 5 _ rfl
      rw [Nat.add_zero] at q0
      obtain ⟨E, hE, hSE⟩ := hI.ov.ents
      have HSE := hid hSE
      have HEV := hid hE
      have HEA := hid hE.allV
      have hEl : E.length ≤ 3600000 := by have := All2.len hE; omega
      have hX := C5.new wr _ rfl [.string (st kk), .int .i64 p1, .int .i64 p2, .slice p3 p6 p7, .slice p4 p8 p9, .slice p5 p10 p11] 41
      have hxg : wr.heap.size ≠ go := by have := hI.out.2.2; omega
      obtain ⟨oc, of_, os⟩ := hI.out
      clear l2 hI hov hE hSE hkd
      go_upto_region 7 with fail
      have hlv : opLd 32 (Operand.tmp 20) = Op.load 32 (Operand.tmp 20) := rfl
      rw [← hlv]
      go_region_held3 (fun w' => w'.cell? ⟨wr.heap.size, 0, none⟩ = some (.string (st kk)) ∧ w'.cell? ⟨wr.heap.size, 1, none⟩ = some (.int .i64 p1) ∧ w'.cell? ⟨wr.heap.size, 2, none⟩ = some (.int .i64 p2) ∧ w'.cell? ⟨wr.heap.size, 3, none⟩ = some (.slice p3 p6 p7) ∧ w'.cell? ⟨wr.heap.size, 4, none⟩ = some (.slice p4 p8 p9) ∧ w'.cell? ⟨wr.heap.size, 5, none⟩ = some (.slice p5 p10 p11)) (first | go_keep | exact C5.s6 hX | exact C5.s6 (hX.up (alb _ _)) | exact C5.s6 (hX.held (Held.set (p := go) (q := go) _ _ _ (.inl rfl)) hxg hxg) | skip) (first | (go_at_call 123; refine (sorted_any _ E kk vs5 _ _ HEA.out hV5 ((HSE.out.up hb).up (Below.refl _ _)) hEl).mono ?_; rintro e w8 ⟨v8, rfl, hrow, hb8⟩; obtain ⟨E8, hE8⟩ : ∃ E8, E8 = srt kk (if (p1 != 0) = true then [(kk, vs5)] else []) E := ⟨_, rfl⟩; rw [← hE8] at hrow; have HE8 := hid hE8; clear hE8; obtain ⟨g8, cap8, hg8⟩ := hrow.lin; rw [List.length_map] at hg8; subst hg8; have hX := (hX.up (Below.refl _ _)).up hb8; have hLo := (hLo.up (Below.refl _ _)).up hb8; obtain ⟨oc, of_, os⟩ := id hLo; have hb8 : Below w5.heap.size w5 w8 := (hb8)) | (go_at_call 123; refine (sorted_any _ E kk vs5 _ _ HEA.out hV5 ((HSE.out.up hb).up (below_drewN (Below.refl _ _) _)) hEl).mono ?_; rintro e w8 ⟨v8, rfl, hrow, hb8⟩; obtain ⟨E8, hE8⟩ : ∃ E8, E8 = srt kk (if (p1 != 0) = true then [(kk, vs5)] else []) E := ⟨_, rfl⟩; rw [← hE8] at hrow; have HE8 := hid hE8; clear hE8; obtain ⟨g8, cap8, hg8⟩ := hrow.lin; rw [List.length_map] at hg8; subst hg8; have hX := (hX.up (below_drewN (Below.refl _ _) _)).up hb8; have hLo := (hLo.up (below_drewN (Below.refl _ _) _)).up hb8; obtain ⟨oc, of_, os⟩ := id hLo; have hb8 : Below w5.heap.size w5 w8 := ((below_drewN (Below.refl _ _) _).trans hb8)) | (go_at_call 124; refine (hpr _ (below_drewN (alb wr (.cells #[.string (st kk), .int .i64 p1, .int .i64 p2, .slice p3 p6 p7, .slice p4 p8 p9, .slice p5 p10 p11] 41)) _)).mono ?_; rintro e w5 ⟨vs5, rfl, hov, hb5⟩; have hb : Below wr.heap.size wr w5 := below_then (alb wr (.cells #[.string (st kk), .int .i64 p1, .int .i64 p2, .slice p3 p6 p7, .slice p4 p8 p9, .slice p5 p10 p11] 41)) ((below_drewN (Below.refl _ _) _).trans hb5); have hX := (hX.up (below_drewN (Below.refl _ _) _)).up hb5; have hV5 := hov.v5; have hov2 := hid (hov.keep (B := fun g => wr.heap.size ≤ g ∧ g < w5.heap.size) (fun g hg => ⟨by have := hg.1; simp at this; omega, hg.2⟩) (fun _ _ _ => rfl)); clear hov; have hLo := HI.out.out.up hb; obtain ⟨oc, of_, os⟩ := id hLo))
      all_goals
        go_wp2_with fail
        have hE9 : E8 = srt kk (if oe.kind = 0 then [] else [(kk, vs5)]) E := by
          rw [HE8.out, HKD.out]
          by_cases hp : p1 = 0
          · simp [hp]
          · simp [hp]
        have hlen : E8.length = (wi (kk, oe) dc).length := by
          rw [hE9, wi_srt]
          refine All2.len (EVs.srt (A := fun _ => True) (w := w5) (HEV.out.keep (fun _ _ => trivial) (fun g _ h => hb.block g h)) kk ?_)
          show EVs _ _ (if oe.kind = 0 then [] else [(kk, vs5)]) (if oe.kind = 0 then [] else [(kk, oe)])
          split
          · exact .nil
          · exact .one ⟨rfl, hov2.out.keep (fun _ _ => trivial) (fun _ _ _ => rfl)⟩
        have hput := HI.out.put (e := (kk, oe)) HEV.out hb hov2.out hb8 (by rw [hE9] at hrow; exact hrow) (by omega) hgo (by have := hI3.size; omega)
        rw [← hE9, hlen] at hput
        rw [hlen]
        have hwl := wi_len (kk, oe) dc
        go_roundw
        case rel => exact ⟨i + 1, wi (kk, oe) dc, _, _, by go_num, by omega, by omega, by rw [HE2.out, List.foldl_append, ← HDC.out]; rfl, hput⟩
        case measure => simp [intOf]; omega
    · obtain rfl : i = d2.length := by omega
      have hiz : ¬ (d2.length : Int) < (d2.length : Int) := by omega
      have hZr := hZ3.held hI.hh (by omega) (by omega)
      have hzs := hZr.2.2
      obtain ⟨oc, of_, os⟩ := hI.out
      obtain ⟨rc, rf, rs⟩ := id hZr
      clear hI
      go_wp2
      obtain ⟨k0, k1, k2, k3, k4⟩ := set5_cells (a := .int .i64 7) (b := .int .i64 n) (c := .slice c1 b.length c3) (d := .slice c4 l.length c6) (e := .slice ad dc.length cd) (hZr.five rfl)
      have hf := fun B => set5_held wr B (w.heap.size + 1) (.int .i64 7) (.int .i64 n) (.slice c1 b.length c3) (.slice c4 l.length c6) (.slice ad dc.length cd)
      have hbel : Below w.heap.size w (set5 wr (w.heap.size + 1) (.int .i64 7) (.int .i64 n) (.slice c1 b.length c3) (.slice c4 l.length c6) (.slice ad dc.length cd)) := hWr.trans ((hf wr.heap.size).below hWr.size (by omega) (by omega))
      have hdc2 := HDC.out
      rw [List.take_length] at hdc2
      have hov := HI.out.ov
      exact bodyPost_ret (v := .agg ([.int .i64 7, .int .i64 n, .slice c1 b.length c3, .slice c4 l.length c6, .slice ad dc.length cd]).toArray) (by simp [results, Tryz.results108, go_sem, k0, k1, k2, k3, k4]) rfl ⟨[.int .i64 7, .int .i64 n, .slice c1 b.length c3, .slice c4 l.length c6, .slice ad dc.length cd], rfl, by rw [← hdc2]; exact hov.keep (fun g hg => ⟨by have := hg.1; omega, Nat.lt_of_lt_of_le hg.2.1 (hf wr.heap.size).size⟩) (fun g hg h1 => (hf wr.heap.size).block g h1 (by have := hg.1; omega) (by have := hg.1; omega)), hbel⟩
end Go.Proofs.YtjkoiknjffldjaaGreatDoor

/-
  The document's Copy: an object in memory of its own. Condition: the object's rows are no longer than a million.
-/
namespace Go.Proofs.YtjkoiknjffldjaaGreatDoor
open Go.RowKit
set_option linter.unusedVariables false

/-- the call of Copy in a world where the object's blocks are as they were -/
def RCopyC (A : Nat → Prop) (w : World) (vs : List Value) (o : PO) : Prop := ∀ W : World, (∀ g, A g → g < w.heap.size → W.heap[g]? = w.heap[g]?) →
  Calls Tryz.prog 22 #[.agg vs.toArray] W fun e w' => ∃ vs' : List Value, e = .returned (.agg vs'.toArray) ∧ OV (fun g => W.heap.size ≤ g ∧ g < w'.heap.size) w' vs' o ∧ Below W.heap.size W w'

set_option maxHeartbeats 4000000 in
set_option maxRecDepth 100000 in
theorem rcopy_of {A : Nat → Prop} {w : World} {vs : List Value} {o : PO} (h : OV A w vs o) : RCopyC A w vs o := by
  induction h with
  | mk k n vb vl vd b l d cl cd hb hl hl' hd hkk hd' hz ih1 ih2 =>
    intro W hW
    have hb1 := hb.keep (B := A) (fun _ h => h) hW
    have hl1 := hl.keep (B := A) (fun _ h => h) hW
    have hd1 := hd.keep (B := A) (fun _ h => h) hW
    obtain ⟨⟨aob, capb, rfl, -, -, -, -⟩, -⟩ := id hb1
    obtain ⟨aol, capl, rfl, -⟩ := id hl1
    obtain ⟨aod, capd, rfl, -⟩ := id hd1
    have HB := hid hb1.1
    have HZ := hid hz
    clear hb hl hd hb1
    have hP0 := (C5.new W _ rfl [.int .i64 k, .int .i64 n, .slice aob b.length capb, .slice aol l.length capl, .slice aod d.length capd] 34).up (alb _ (.cells #[.int .i64 0, .int .i64 0, .slice none 0 0, .slice none 0 0, .slice none 0 0] 34))
    have hWW := below_then (alb W (.cells #[.int .i64 k, .int .i64 n, .slice aob b.length capb, .slice aol l.length capl, .slice aod d.length capd] 34)) (alb _ (.cells #[.int .i64 0, .int .i64 0, .slice none 0 0, .slice none 0 0, .slice none 0 0] 34))
    go_enter Tryz.func22, Tryz.ntmps22
    go_upto_region 1 with fail
    go_cut [3] (fun s3 wx => ∃ go ao' cap', s3 = .pointer (some ⟨go, 0, none⟩) ∧ C5 wx go [.int .i64 k, .int .i64 n, .slice ao' b.length cap', .slice none 0 0, .slice none 0 0] ∧ SlA (fun g => W.heap.size + 2 ≤ g ∧ g < wx.heap.size ∧ g ≠ go) wx (.slice ao' b.length cap') b ∧ W.heap.size + 2 ≤ go ∧ Below (W.heap.size + 2) ((W.alloc (.cells #[.int .i64 k, .int .i64 n, .slice aob b.length capb, .slice aol l.length capl, .slice aod d.length capd] 34)).alloc (.cells #[.int .i64 0, .int .i64 0, .slice none 0 0, .slice none 0 0, .slice none 0 0] 34)) wx)
    case first =>
      go_region_held3 (fun w' => w'.cell? ⟨W.heap.size, 0, none⟩ = some (.int .i64 k) ∧ w'.cell? ⟨W.heap.size, 1, none⟩ = some (.int .i64 n) ∧ w'.cell? ⟨W.heap.size, 2, none⟩ = some (.slice aob b.length capb)) (first | go_keep | (refine ⟨?_, ?_, ?_⟩ <;> (repeat rw [cset_ne (fun q => by injection q with q1 q2; omega)]) <;> assumption) | skip)
        (first | (go_at_call 34; refine (copy_sl _ b ((((W.alloc (.cells #[.int .i64 k, .int .i64 n, .slice aob b.length capb, .slice aol l.length capl, .slice aod d.length capd] 34)).alloc (.cells #[.int .i64 0, .int .i64 0, .slice none 0 0, .slice none 0 0, .slice none 0 0] 34)).alloc (.cells #[.int .i64 0, .int .i64 0, .slice none 0 0, .slice none 0 0, .slice none 0 0] 34)).drewN 1) (HB.out.up (below_drewN (hWW.alloc (by simp; omega) _) 1)) (Nat.le_trans HZ.out.1 (by decide))).mono ?_; rintro e w1 ⟨v1, rfl, hv, hb1⟩; obtain ⟨ao1, cap1, rfl, -, -, -⟩ := Rd.own hv; have hPw : C5 w1 W.heap.size [.int .i64 k, .int .i64 n, .slice aob b.length capb, .slice aol l.length capl, .slice aod d.length capd] := (((hP0.up (alb _ (.cells #[.int .i64 0, .int .i64 0, .slice none 0 0, .slice none 0 0, .slice none 0 0] 34))).up (below_drewN (Below.refl _ _) 1)).up hb1); have k0 : w1.cell? ⟨W.heap.size, 0, none⟩ = some (.int .i64 k) := hPw.1 0; have k1 : w1.cell? ⟨W.heap.size, 1, none⟩ = some (.int .i64 n) := hPw.1 1; have k2 : w1.cell? ⟨W.heap.size, 2, none⟩ = some (.slice aob b.length capb) := hPw.1 2; have hNw := ((C5.new ((W.alloc (.cells #[.int .i64 k, .int .i64 n, .slice aob b.length capb, .slice aol l.length capl, .slice aod d.length capd] 34)).alloc (.cells #[.int .i64 0, .int .i64 0, .slice none 0 0, .slice none 0 0, .slice none 0 0] 34)) (W.heap.size + 1 + 1) (by simp) [.int .i64 0, .int .i64 0, .slice none 0 0, .slice none 0 0, .slice none 0 0] 34).up (below_drewN (Below.refl _ _) 1)).up hb1; obtain ⟨rc, rf, rs⟩ := id hNw) | (go_at_call 34; refine (copy_sl _ b (((W.alloc (.cells #[.int .i64 k, .int .i64 n, .slice aob b.length capb, .slice aol l.length capl, .slice aod d.length capd] 34)).alloc (.cells #[.int .i64 0, .int .i64 0, .slice none 0 0, .slice none 0 0, .slice none 0 0] 34)).drewN 1) (HB.out.up (below_drewN hWW 1)) (Nat.le_trans HZ.out.1 (by decide))).mono ?_; rintro e w1 ⟨v1, rfl, hv, hb1⟩; obtain ⟨ao1, cap1, rfl, -, -, -⟩ := Rd.own hv; have hPw : C5 w1 W.heap.size [.int .i64 k, .int .i64 n, .slice aob b.length capb, .slice aol l.length capl, .slice aod d.length capd] := ((hP0.up (below_drewN (Below.refl _ _) 1)).up hb1); have k0 : w1.cell? ⟨W.heap.size, 0, none⟩ = some (.int .i64 k) := hPw.1 0; have k1 : w1.cell? ⟨W.heap.size, 1, none⟩ = some (.int .i64 n) := hPw.1 1; have k2 : w1.cell? ⟨W.heap.size, 2, none⟩ = some (.slice aob b.length capb) := hPw.1 2))
      · go_wp2_with fail
        go_meet
        have hB : Below ((W.alloc (.cells #[.int .i64 k, .int .i64 n, .slice aob b.length capb, .slice aol l.length capl, .slice aod d.length capd] 34)).alloc (.cells #[.int .i64 0, .int .i64 0, .slice none 0 0, .slice none 0 0, .slice none 0 0] 34)).heap.size ((W.alloc (.cells #[.int .i64 k, .int .i64 n, .slice aob b.length capb, .slice aol l.length capl, .slice aod d.length capd] 34)).alloc (.cells #[.int .i64 0, .int .i64 0, .slice none 0 0, .slice none 0 0, .slice none 0 0] 34)) w1 := (below_drewN (Below.refl _ ((W.alloc (.cells #[.int .i64 k, .int .i64 n, .slice aob b.length capb, .slice aol l.length capl, .slice aod d.length capd] 34)).alloc (.cells #[.int .i64 0, .int .i64 0, .slice none 0 0, .slice none 0 0, .slice none 0 0] 34))) 1).trans hb1
        refine ⟨_, _, _, rfl, C5.new w1 _ rfl [.int .i64 k, .int .i64 n, .slice ao1 b.length cap1, .slice none 0 0, .slice none 0 0] _, ⟨(Sl.own hv).up (alb _ _), fun g hg => ?_⟩, ?_, ?_⟩
        · have h1 := World.ownsRow.lt hv g hg
          simp at h1
          exact ⟨by omega, by simp; omega, by omega⟩
        · have h1 := hb1.size
          simp at h1; omega
        · have h2 := below_then hB (alb w1 (.cells #[.int .i64 k, .int .i64 n, .slice ao1 b.length cap1, .slice none 0 0, .slice none 0 0] 34))
          exact h2.mono (by simp)
      · go_wp2_with fail
        go_meet
        have hB2 : Below (((W.alloc (.cells #[.int .i64 k, .int .i64 n, .slice aob b.length capb, .slice aol l.length capl, .slice aod d.length capd] 34)).alloc (.cells #[.int .i64 0, .int .i64 0, .slice none 0 0, .slice none 0 0, .slice none 0 0] 34)).alloc (.cells #[.int .i64 0, .int .i64 0, .slice none 0 0, .slice none 0 0, .slice none 0 0] 34)).heap.size (((W.alloc (.cells #[.int .i64 k, .int .i64 n, .slice aob b.length capb, .slice aol l.length capl, .slice aod d.length capd] 34)).alloc (.cells #[.int .i64 0, .int .i64 0, .slice none 0 0, .slice none 0 0, .slice none 0 0] 34)).alloc (.cells #[.int .i64 0, .int .i64 0, .slice none 0 0, .slice none 0 0, .slice none 0 0] 34)) w1 := (below_drewN (Below.refl _ _) 1).trans hb1
        have hB : Below ((W.alloc (.cells #[.int .i64 k, .int .i64 n, .slice aob b.length capb, .slice aol l.length capl, .slice aod d.length capd] 34)).alloc (.cells #[.int .i64 0, .int .i64 0, .slice none 0 0, .slice none 0 0, .slice none 0 0] 34)).heap.size ((W.alloc (.cells #[.int .i64 k, .int .i64 n, .slice aob b.length capb, .slice aol l.length capl, .slice aod d.length capd] 34)).alloc (.cells #[.int .i64 0, .int .i64 0, .slice none 0 0, .slice none 0 0, .slice none 0 0] 34)) w1 := below_then (alb _ _) hB2
        have hh := set5_held w1 w1.heap.size (W.heap.size + 1 + 1) (.int .i64 k) (.int .i64 n) (.slice ao1 b.length cap1) (.slice none 0 0) (.slice none 0 0)
        refine ⟨_, _, _, rfl, hNw.set5 rfl, ⟨(Sl.own hv).held hh (fun g hg => ?_), fun g hg => ?_⟩, by omega, ?_⟩
        · have h1 := World.ownsRow.lt hv g hg
          simp at h1
          exact ⟨by omega, by omega⟩
        · have h1 := World.ownsRow.lt hv g hg
          have h2 := hh.size
          simp at h1
          exact ⟨by omega, Nat.lt_of_lt_of_le h1.2 h2, by omega⟩
        · have h3 := hB.size
          simp at h3
          exact (hB.mono (by simp)).trans (hh.below (by omega) (by omega) (by omega))
    case rest =>
      obtain ⟨go, ao1, cap1, rfl, hO, hS, hgo, hbel⟩ := hcut
      have hsz : (((W.alloc (.cells #[.int .i64 k, .int .i64 n, .slice aob b.length capb, .slice aol l.length capl, .slice aod d.length capd] 34)).alloc (.cells #[.int .i64 0, .int .i64 0, .slice none 0 0, .slice none 0 0, .slice none 0 0] 34))).heap.size = W.heap.size + 2 := by simp
      have hP1 := hP0.up (hbel.mono (by simp))
      have hZ1 := (C5.new (W.alloc (.cells #[.int .i64 k, .int .i64 n, .slice aob b.length capb, .slice aol l.length capl, .slice aod d.length capd] 34)) (W.heap.size + 1) (by simp) [.int .i64 0, .int .i64 0, .slice none 0 0, .slice none 0 0, .slice none 0 0] 34).up (hbel.mono (by simp))
      have hWc : Below W.heap.size W wc := hWW.trans (hbel.mono (by omega))
      have HBL := hid hbel
      clear hP0 hbel hWW
      obtain ⟨C, hC, hCc⟩ := ov_of l cl hl'
      obtain ⟨D, hD, hDc⟩ := ev_of d cd hkk hd'
      have hCl : C.length = l.length := All2.len hC
      have hDl : D.length = d.length := All2.len hD
      have HSL := hid (hl1.slx C hCl hCc).1
      have HSD := hid (hd1.slx (D.map ecl) (by rw [List.length_map]; exact hDl) (fun i hi => by rw [List.getElem_map]; exact hDc i (by simpa using hi))).1
      have hag : ∀ X, Below W.heap.size W X → ∀ g, A g → g < w.heap.size → X.heap[g]? = w.heap[g]? := fun X hX g hg hlt => by
        have e := hW g hg hlt
        refine (hX.block g ?_).trans e
        rcases Nat.lt_or_ge g W.heap.size with q | q
        · exact q
        · rw [Array.getElem?_eq_none q, Array.getElem?_eq_getElem hlt] at e; cases e
      have HAG := hid hag
      have hI1 : ∀ i (h : i < C.length), RCopyC A w C[i] (l[i]'(by omega)) := fun i h => by rw [hCc i h]; exact ih1 i (by omega)
      have hI2 : ∀ i (h : i < D.length), RCopyC A w (D[i]).2 (d[i]'(by omega)).2 ∧ (D[i]).1 = (d[i]'(by omega)).1 ∧ V5 (D[i]).2 := fun i h => by
        have e : (D[i]).2 = (cd i).tail := by rw [← hDc i h]; rfl
        exact ⟨by rw [e]; exact ih2 i (by omega), (hD.at i h (by omega)).1, hD.allV _ (List.getElem_mem h)⟩
      have hV1 : ∀ i (h : i < C.length), V5 C[i] := fun i h => hC.len5 _ (List.getElem_mem h)
      have HI1 := hid hI1
      have HI2 := hid hI2
      have HV1 := hid hV1
      clear hag hW hl1 hd1 hl' hkk hd' ih1 ih2 hC hD hCc hDc hI1 hI2 hV1
      have HO := hid hO
      obtain ⟨oc, of_, os⟩ := hO
      obtain ⟨rc, rf, rs⟩ := id hP1
      go_wp2
      clear oc of_ os rc rf rs
      go_loopw [4] (fun s19 wr => ∃ i : Nat, ∃ aol' capl' C', s19 = .int .i64 i ∧ i ≤ l.length ∧ CpL wc wr go k n (.slice ao1 b.length cap1) (.slice aol' i capl') (.slice none 0 0) l i C') (fun s19 _ => l.length - (intOf s19).toNat)
      case atStart => exact ⟨0, none, 0, [], rfl, Nat.zero_le _, HO.out, RowG.nil _ _ _ _ _ _, Held.refl _ _ _ _⟩
      case round =>
        obtain ⟨i, aol', capl', C', rfl, hi, hL⟩ := hrel
        have hWr : Below W.heap.size W wr := hWc.trans (hL.hh.below hWc.size (by omega) (by omega))
        have hPr := hP1.held hL.hh (by omega) (by omega)
        by_cases hlt : i < l.length
        · obtain ⟨pc, pf, ps⟩ := id hPr
          have hiz : (i : Int) < (l.length : Int) := by omega
          obtain ⟨g, off, rfl, hcell0⟩ := HSL.out.some (by omega)
          have hcell := fun i h j u hu => cell_up' hWr (hcell0 i h j u hu)
          have l20 := hcell0 i (by omega)
          clear hcell0
          have l2 := hcell i (by omega)
          have hcp := HI1.out i (by omega)
          have hv5 := HV1.out i (by omega)
          clear hcell
          generalize C[i]'(by omega) = ci at l2 l20 hcp hv5
          obtain ⟨p1, p2, p3, p4, p5, p6, p7, p8, p9, p10, p11, rfl⟩ := hv5
          have hgl : g < W.heap.size := World.block_lt_of_cell? _ _ (l20 0 _ rfl)
          have c0 := l2 0 _ rfl
          have c1 := l2 1 _ rfl
          have c2 := l2 2 _ rfl
          have c3 := l2 3 _ rfl
          have c4 := l2 4 _ rfl
          rw [Nat.add_zero] at c0
          have HL := hid hL
          obtain ⟨oc, of_, os⟩ := hL.out
          clear l2 l20 hL
          have hone : ∀ vs : List Value, V5 vs → ∀ c ∈ [vs], ∀ u ∈ c, u.oneCell' = true := fun vs h c hc => by
            rw [List.mem_singleton] at hc; subst hc; exact h.one
          have hlz := HZ.out.2.1
          have hbz := HL.out.hh.size
          have hgw : go < wc.heap.size := HO.out.2.2
          have hgW : g < W.heap.size := hgl
          have hcz : W.heap.size + 2 ≤ wc.heap.size := Nat.le_trans hgo (Nat.le_of_lt HO.out.2.2)
          have hBr : Below (W.heap.size + 2) wc wr := HL.out.hh.below hcz hgo hgo
          have hS : ∀ X, Below (W.heap.size + 2) wc X → (fun w' => w'.cell? ⟨W.heap.size, 3, none⟩ = some (.slice (some ⟨g, off, none⟩) l.length capl) ∧ w'.cell? ⟨g, off + i * 5, none⟩ = some (.int .i64 p1) ∧ w'.cell? ⟨g, off + i * 5 + 1, none⟩ = some (.int .i64 p2) ∧ w'.cell? ⟨g, off + i * 5 + 2, none⟩ = some (.slice p3 p6 p7) ∧ w'.cell? ⟨g, off + i * 5 + 3, none⟩ = some (.slice p4 p8 p9) ∧ w'.cell? ⟨g, off + i * 5 + 4, none⟩ = some (.slice p5 p10 p11)) X := fun X hX => by
            have hbk : ∀ g, g < W.heap.size + 2 → X.heap[g]? = wr.heap[g]? := fun g hg => (hX.block g hg).trans (hBr.block g hg).symm
            exact ⟨(World.cell?_of_block (w := wr) (hbk W.heap.size (by omega))).trans (hPr.1 3), (World.cell?_of_block (w := wr) (hbk g (by omega))).trans c0, (World.cell?_of_block (w := wr) (hbk g (by omega))).trans c1, (World.cell?_of_block (w := wr) (hbk g (by omega))).trans c2, (World.cell?_of_block (w := wr) (hbk g (by omega))).trans c3, (World.cell?_of_block (w := wr) (hbk g (by omega))).trans c4⟩
          have HS := hid hS
          have hBr0 := hid hBr
          clear hS hBr
          go_upto_region 5 with fail
          have hlv : opLd 25 (Operand.tmp 21) = Op.load 25 (Operand.tmp 21) := rfl
          rw [← hlv]
          go_region_held3 (fun w' => w'.cell? ⟨W.heap.size, 3, none⟩ = some (.slice (some ⟨g, off, none⟩) l.length capl) ∧ w'.cell? ⟨g, off + i * 5, none⟩ = some (.int .i64 p1) ∧ w'.cell? ⟨g, off + i * 5 + 1, none⟩ = some (.int .i64 p2) ∧ w'.cell? ⟨g, off + i * 5 + 2, none⟩ = some (.slice p3 p6 p7) ∧ w'.cell? ⟨g, off + i * 5 + 3, none⟩ = some (.slice p4 p8 p9) ∧ w'.cell? ⟨g, off + i * 5 + 4, none⟩ = some (.slice p5 p10 p11)) (first | go_keep | exact HS.out _ hBr0.out | exact HS.out _ (by assumption) | skip) (first | (go_at_call 22; refine (hcp _ (HAG.out _ (below_drewN hWr _))).mono ?_; rintro e w5 ⟨vs', rfl, hov, hb5⟩; have hb : Below wr.heap.size wr w5 := (below_drewN (Below.refl _ _) _).trans hb5; have hV5 := hov.v5; have hone := hone _ hV5; have hov2 := hid (hov.keep (B := fun g => wr.heap.size ≤ g ∧ g < w5.heap.size) (fun g hg => ⟨by have := hg.1; simp at this; omega, hg.2⟩) (fun _ _ _ => rfl)); clear hov; obtain ⟨y1, y2, y3, y4, y5, y6, y7, y8, y9, y10, y11, rfl⟩ := hV5; have hLo := HL.out.out.up hb; obtain ⟨oc, of_, os⟩ := id hLo; have hrow : OwX 5 34 w5 wc.heap.size (.slice aol' i capl') C' := (by simpa using (HL.out.row.up keepOV hb).row); have hCl2 : C'.length = i := (by have := All2.len HL.out.row.rel; rw [List.length_take] at this; omega); have hbs := hb.size; have hkA := hBr0.out.trans (hb.mono (by have := hBr0.out.size; omega)); have hkB := hkA.trans ((alb w5 (.cells #[.int .i64 y1, .int .i64 y2, .slice y3 y6 y7, .slice y4 y8 y9, .slice y5 y10 y11] 34)).mono (by have := hkA.size; omega))) | (refine wp_append_slx _ _ 25 rfl wc.heap.size 34 zObj 5 88 objTy' objIn rfl (by decide) (.slice aol' i capl') C' rfl (hrow.up (alb _ _)) _ [[.int .i64 y1, .int .i64 y2, .slice y3 y6 y7, .slice y4 y8 y9, .slice y5 y10 y11]] rfl (SlX.lit1 w5 _ rfl [.int .i64 y1, .int .i64 y2, .slice y3 y6 y7, .slice y4 y8 y9, .slice y5 y10 y11] _ 5 rfl) hone (by simp; omega) (by decide) (Nat.le_trans hbz (Nat.le_trans hbs (alb _ _).size)) ?_; intro v8 w8 r1 r2 r3; obtain ⟨g8, cap8, rfl⟩ := r1.cons (by simp); have e8 : (C' ++ ([[.int .i64 y1, .int .i64 y2, .slice y3 y6 y7, .slice y4 y8 y9, .slice y5 y10 y11]] : List (List Value))).length = i + 1 := (by rw [List.length_append, hCl2]; rfl); rw [e8] at r1 r3; have hne8 : (Value.slice aol' i capl').ownBlock ≠ some go := (fun q => by have := (hrow.lt go q).1; omega); have hkC := hkB.trans (Held.below (B := W.heap.size + 2) (p := go) (q := go) (Held.grown r2 (Nat.le_trans hcz hkB.size) (fun g q => by have := (hrow.lt g q).1; omega)) (Nat.le_refl _) hgo hgo); have hkD := hkC.trans ((Held.set (B := W.heap.size + 2) (p := go) (q := go) w8 ⟨go, 3, none⟩ (.slice (some ⟨g8, 0, none⟩) (i + 1) cap8) (.inl rfl)).below (Nat.le_refl _) hgo hgo); have hLo := (hLo.up (alb _ _)).grown r2 hne8; obtain ⟨oc, of_, os⟩ := id hLo))
          all_goals
            go_wp2_with fail
            go_roundw
            case rel => exact ⟨i + 1, _, _, _, by go_num, by omega, HL.out.push hlt (below_then hb (alb w5 _)) (hov2.out.keep (fun g hg => ⟨hg.1, Nat.lt_of_lt_of_le hg.2 (alb _ _).size⟩) (fun g _ hlt => (alb _ _).block g hlt)) r1 r2 r3 hgw⟩
            case measure => simp [intOf]; omega
        · obtain rfl : i = l.length := by omega
          have hiz : ¬ (l.length : Int) < (l.length : Int) := by omega
          have HL1 := hid hL
          have HPr := hid hPr
          have HWr := hid hWr
          have HOo := hid hL.out
          obtain ⟨oc, of_, os⟩ := hL.out
          obtain ⟨rc, rf, rs⟩ := hPr
          clear hL hWr
          obtain ⟨wo, hwo⟩ : ∃ wo : World, wo = wr := ⟨_, rfl⟩
          subst hwo
          go_wp2
          clear oc of_ os rc rf rs
          go_loopw [5] (fun s34 wr => ∃ i : Nat, ∃ aod' capd' D', s34 = .int .i64 i ∧ i ≤ d.length ∧ CpD wo wr go k n (.slice ao1 b.length cap1) (.slice aol' l.length capl') (.slice aod' i capd') d i D') (fun s34 _ => d.length - (intOf s34).toNat)
          case atStart => exact ⟨0, none, 0, [], rfl, Nat.zero_le _, HOo.out, RowG.nil _ _ _ _ _ _, Held.refl _ _ _ _⟩
          case round =>
            obtain ⟨i, aod', capd', D', rfl, hi2, hL⟩ := hrel
            have hWr : Below W.heap.size W wr := HWr.out.trans (hL.hh.below HWr.out.size (by omega) (by omega))
            have hPr := HPr.out.held hL.hh (by omega) (by omega)
            by_cases hlt : i < d.length
            · obtain ⟨pc, pf, ps⟩ := id hPr
              have hiz : (i : Int) < (d.length : Int) := by omega
              obtain ⟨g, off, rfl, hcell0⟩ := HSD.out.some (by omega)
              have hcell := fun i h j u hu => cell_up' hWr (hcell0 i h j u hu)
              have l20 := hcell0 i (by rw [List.length_map]; omega)
              rw [List.getElem_map] at l20
              clear hcell0
              have l2 := hcell i (by rw [List.length_map]; omega)
              rw [List.getElem_map] at l2
              obtain ⟨hcp, hkk, hv5⟩ := HI2.out i (by omega)
              have hps := fun (D' : List KV) (wc wr : World) (C : List KV) (q : i < d.length) => True.intro
              clear hcell hps
              generalize D[i]'(by omega) = di at l2 l20 hcp hkk hv5
              obtain ⟨kk, vv⟩ := di
              obtain ⟨p1, p2, p3, p4, p5, p6, p7, p8, p9, p10, p11, rfl⟩ := hv5
              have hgl : g < W.heap.size := World.block_lt_of_cell? _ _ (l20 0 _ rfl)
              have c0 := l2 0 _ rfl
              have c1 := l2 1 _ rfl
              have c2 := l2 2 _ rfl
              have c3 := l2 3 _ rfl
              have c4 := l2 4 _ rfl
              have c5 := l2 5 _ rfl
              rw [Nat.add_zero] at c0
              have HKK := hid hkk
              have HL := hid hL
              obtain ⟨oc, of_, os⟩ := hL.out
              clear l2 l20 hL hkk
              have hone : ∀ vs : List Value, V5 vs → ∀ c ∈ [ecl (kk, vs)], ∀ u ∈ c, u.oneCell' = true := fun vs h c hc => by
                rw [List.mem_singleton] at hc; subst hc; exact ecl_one (e := (kk, vs)) h
              have hlz := HZ.out.2.2
              have hbz := HL.out.hh.size
              have hgw : go < wo.heap.size := HOo.out.2.2
              have hgW : g < W.heap.size := hgl
              have hcz : W.heap.size + 2 ≤ wc.heap.size := Nat.le_trans hgo (Nat.le_of_lt HO.out.2.2)
              have hBr : Below (W.heap.size + 2) wc wr := (HL1.out.hh.below hcz hgo hgo).trans (HL.out.hh.below (Nat.le_trans hcz HL1.out.hh.size) hgo hgo)
              have hS : ∀ X, Below (W.heap.size + 2) wc X → (fun w' => w'.cell? ⟨W.heap.size, 4, none⟩ = some (.slice (some ⟨g, off, none⟩) d.length capd) ∧ w'.cell? ⟨g, off + i * 6, none⟩ = some (.string (st kk)) ∧ w'.cell? ⟨g, off + i * 6 + 1, none⟩ = some (.int .i64 p1) ∧ w'.cell? ⟨g, off + i * 6 + 2, none⟩ = some (.int .i64 p2) ∧ w'.cell? ⟨g, off + i * 6 + 3, none⟩ = some (.slice p3 p6 p7) ∧ w'.cell? ⟨g, off + i * 6 + 4, none⟩ = some (.slice p4 p8 p9) ∧ w'.cell? ⟨g, off + i * 6 + 5, none⟩ = some (.slice p5 p10 p11)) X := fun X hX => by
                have hbk : ∀ g, g < W.heap.size + 2 → X.heap[g]? = wr.heap[g]? := fun g hg => (hX.block g hg).trans (hBr.block g hg).symm
                exact ⟨(World.cell?_of_block (w := wr) (hbk W.heap.size (by omega))).trans (hPr.1 4), (World.cell?_of_block (w := wr) (hbk g (by omega))).trans c0, (World.cell?_of_block (w := wr) (hbk g (by omega))).trans c1, (World.cell?_of_block (w := wr) (hbk g (by omega))).trans c2, (World.cell?_of_block (w := wr) (hbk g (by omega))).trans c3, (World.cell?_of_block (w := wr) (hbk g (by omega))).trans c4, (World.cell?_of_block (w := wr) (hbk g (by omega))).trans c5⟩
              have HS := hid hS
              have hBr0 := hid hBr
              clear hS hBr
              go_upto_region 9 with fail
              have hlv : opLd 32 (Operand.tmp 39) = Op.load 32 (Operand.tmp 39) := rfl
              rw [← hlv]
              go_region_held3 (fun w' => w'.cell? ⟨W.heap.size, 4, none⟩ = some (.slice (some ⟨g, off, none⟩) d.length capd) ∧ w'.cell? ⟨g, off + i * 6, none⟩ = some (.string (st kk)) ∧ w'.cell? ⟨g, off + i * 6 + 1, none⟩ = some (.int .i64 p1) ∧ w'.cell? ⟨g, off + i * 6 + 2, none⟩ = some (.int .i64 p2) ∧ w'.cell? ⟨g, off + i * 6 + 3, none⟩ = some (.slice p3 p6 p7) ∧ w'.cell? ⟨g, off + i * 6 + 4, none⟩ = some (.slice p4 p8 p9) ∧ w'.cell? ⟨g, off + i * 6 + 5, none⟩ = some (.slice p5 p10 p11)) (first | go_keep | exact HS.out _ hBr0.out | exact HS.out _ (by assumption) | skip) (first | (go_at_call 22; refine (hcp _ (HAG.out _ (below_drewN hWr _))).mono ?_; rintro e w5 ⟨vs', rfl, hov, hb5⟩; have hb : Below wr.heap.size wr w5 := (below_drewN (Below.refl _ _) _).trans hb5; have hV5 := hov.v5; have hone := hone _ hV5; have hov2 := hid (hov.keep (B := fun g => wr.heap.size ≤ g ∧ g < w5.heap.size) (fun g hg => ⟨by have := hg.1; simp at this; omega, hg.2⟩) (fun _ _ _ => rfl)); clear hov; obtain ⟨y1, y2, y3, y4, y5, y6, y7, y8, y9, y10, y11, rfl⟩ := hV5; have hLo := HL.out.out.up hb; obtain ⟨oc, of_, os⟩ := id hLo; have hrow : OwX 6 41 w5 wo.heap.size (.slice aod' i capd') (D'.map ecl) := (HL.out.row.up keepEV hb).row; have hCl2 : D'.length = i := (by have := All2.len HL.out.row.rel; rw [List.length_take] at this; omega); have hbs := hb.size; have hkA := hBr0.out.trans (hb.mono (by have := hBr0.out.size; omega)); have hkB := hkA.trans ((alb w5 (.cells #[.string (st kk), .int .i64 y1, .int .i64 y2, .slice y3 y6 y7, .slice y4 y8 y9, .slice y5 y10 y11] 41)).mono (by have := hkA.size; omega))) | (refine wp_append_slx _ _ 32 rfl wo.heap.size 41 zEnt 6 104 entTy' entIn rfl (by decide) (.slice aod' i capd') (D'.map ecl) rfl (hrow.up (alb _ _)) _ [ecl (kk, [.int .i64 y1, .int .i64 y2, .slice y3 y6 y7, .slice y4 y8 y9, .slice y5 y10 y11])] rfl (SlX.lit1 w5 _ rfl (ecl (kk, [.int .i64 y1, .int .i64 y2, .slice y3 y6 y7, .slice y4 y8 y9, .slice y5 y10 y11])) _ 6 rfl) hone (by simp; omega) (by decide) (Nat.le_trans hbz (Nat.le_trans hbs (alb _ _).size)) ?_; intro v8 w8 r1 r2 r3; obtain ⟨g8, cap8, rfl⟩ := r1.cons (by simp); have e8 : (D'.map ecl ++ ([ecl (kk, [.int .i64 y1, .int .i64 y2, .slice y3 y6 y7, .slice y4 y8 y9, .slice y5 y10 y11])] : List (List Value))).length = i + 1 := (by rw [List.length_append, List.length_map, hCl2]; rfl); rw [e8] at r1 r3; have hne8 : (Value.slice aod' i capd').ownBlock ≠ some go := (fun q => by have := (hrow.lt go q).1; omega); have hco := HL1.out.hh.size; have hkC := hkB.trans (Held.below (B := W.heap.size + 2) (p := go) (q := go) (Held.grown r2 (Nat.le_trans hcz hkB.size) (fun g q => by have := (hrow.lt g q).1; omega)) (Nat.le_refl _) hgo hgo); have hkD := hkC.trans ((Held.set (B := W.heap.size + 2) (p := go) (q := go) w8 ⟨go, 4, none⟩ (.slice (some ⟨g8, 0, none⟩) (i + 1) cap8) (.inl rfl)).below (Nat.le_refl _) hgo hgo); have hLo := (hLo.up (alb _ _)).grown r2 hne8; obtain ⟨oc, of_, os⟩ := id hLo))
              all_goals
                go_wp2_with fail
                go_roundw
                case rel => exact ⟨i + 1, _, _, _, by go_num, by omega, CpD.push' HL.out hlt HKK.out (below_then hb (alb w5 _)) (hov2.out.keep (fun g hg => ⟨hg.1, Nat.lt_of_lt_of_le hg.2 (alb _ _).size⟩) (fun g _ hlt => (alb _ _).block g hlt)) r1 r2 r3 hgw⟩
                case measure => simp [intOf]; omega
            · obtain rfl : i = d.length := by omega
              have hiz : ¬ (d.length : Int) < (d.length : Int) := by omega
              have hZr := (hZ1.held HL1.out.hh (by omega) (by omega)).held hL.hh (by omega) (by omega)
              have HL2 := hid hL
              have hcs := hWc.size
              have hgw : go < wc.heap.size := HO.out.2.2
              have hzc : W.heap.size + 1 < wc.heap.size := hZ1.2.2
              obtain ⟨oc, of_, os⟩ := hL.out
              obtain ⟨rc, rf, rs⟩ := id hZr
              obtain ⟨pc, pf, ps⟩ := id hPr
              clear hL hPr
              go_wp2
              obtain ⟨k0, k1, k2, k3, k4⟩ := set5_cells (a := .int .i64 k) (b := .int .i64 n) (c := .slice ao1 b.length cap1) (d := .slice aol' l.length capl') (e := .slice aod' d.length capd') (hZr.five rfl)
              have hf := fun B => set5_held wr B (W.heap.size + 1) (.int .i64 k) (.int .i64 n) (.slice ao1 b.length cap1) (.slice aol' l.length capl') (.slice aod' d.length capd')
              have hco := HL1.out.hh.size
              have hall : ∀ g, g < wc.heap.size → g ≠ go → g ≠ W.heap.size + 1 → (set5 wr (W.heap.size + 1) (.int .i64 k) (.int .i64 n) (.slice ao1 b.length cap1) (.slice aol' l.length capl') (.slice aod' d.length capd')).heap[g]? = wc.heap[g]? := fun g h1 h2 h3 =>
                ((hf wr.heap.size).block g (Nat.lt_of_lt_of_le h1 (Nat.le_trans hco HL2.out.hh.size)) h3 h3).trans ((HL2.out.hh.block g (Nat.lt_of_lt_of_le h1 hco) h2 h2).trans (HL1.out.hh.block g h1 h2 h2))
              have hl9 := ((HL1.out.row.held keepOV HL2.out.hh hgw hgw).held keepOV (hf _) (by omega) (by omega))
              have hd9 := HL2.out.row.held keepEV (hf _) (by omega) (by omega)
              rw [List.take_length] at hl9 hd9
              have hsf := (hf wr.heap.size).size
              have hso := HL2.out.hh.size
              have hA : ∀ g, wc.heap.size ≤ g → g < (set5 wr (W.heap.size + 1) (.int .i64 k) (.int .i64 n) (.slice ao1 b.length cap1) (.slice aol' l.length capl') (.slice aod' d.length capd')).heap.size → W.heap.size ≤ g ∧ g < (set5 wr (W.heap.size + 1) (.int .i64 k) (.int .i64 n) (.slice ao1 b.length cap1) (.slice aol' l.length capl') (.slice aod' d.length capd')).heap.size := fun g h1 h2 => ⟨by omega, h2⟩
              have hA2 : ∀ g, wo.heap.size ≤ g → g < (set5 wr (W.heap.size + 1) (.int .i64 k) (.int .i64 n) (.slice ao1 b.length cap1) (.slice aol' l.length capl') (.slice aod' d.length capd')).heap.size → W.heap.size ≤ g ∧ g < (set5 wr (W.heap.size + 1) (.int .i64 k) (.int .i64 n) (.slice ao1 b.length cap1) (.slice aol' l.length capl') (.slice aod' d.length capd')).heap.size := fun g h1 h2 => ⟨by omega, h2⟩
              have hrl := hl9.row.row hA
              rw [List.map_id'] at hrl
              have hrd := hd9.row.row hA2
              rw [List.length_map] at hrd
              have hsa := hS.keep (B := fun g => W.heap.size ≤ g ∧ g < (set5 wr (W.heap.size + 1) (.int .i64 k) (.int .i64 n) (.slice ao1 b.length cap1) (.slice aol' l.length capl') (.slice aod' d.length capd')).heap.size) (w' := set5 wr (W.heap.size + 1) (.int .i64 k) (.int .i64 n) (.slice ao1 b.length cap1) (.slice aol' l.length capl') (.slice aod' d.length capd')) (fun g hg => ⟨by have := hg.1; omega, by have := hg.2.1; exact Nat.lt_of_lt_of_le (Nat.lt_of_lt_of_le this (Nat.le_trans hco hso)) hsf⟩) (fun g hg h1 => hall g h1 hg.2.2 (by have := hg.1; omega))
              have hbel : Below W.heap.size W (set5 wr (W.heap.size + 1) (.int .i64 k) (.int .i64 n) (.slice ao1 b.length cap1) (.slice aol' l.length capl') (.slice aod' d.length capd')) := hWr.trans ((hf wr.heap.size).below hWr.size (by omega) (by omega))
              exact bodyPost_ret (v := .agg ([.int .i64 k, .int .i64 n, .slice ao1 b.length cap1, .slice aol' l.length capl', .slice aod' d.length capd']).toArray) (by simp [results, Tryz.results22, go_sem, k0, k1, k2, k3, k4]) rfl ⟨[.int .i64 k, .int .i64 n, .slice ao1 b.length cap1, .slice aol' l.length capl', .slice aod' d.length capd'], rfl, OV.make hsa hrl (hl9.wide keepOV hA) hrd (hd9.wide keepEV hA2) HZ.out, hbel⟩
theorem rcopyO_any {A : Nat → Prop} {w : World} {vs : List Value} {o : PO} (h : OV A w vs o) :
    Calls Tryz.prog 22 #[.agg vs.toArray] w fun e w' => ∃ vs' : List Value, e = .returned (.agg vs'.toArray) ∧ OV (fun g => w.heap.size ≤ g ∧ g < w'.heap.size) w' vs' o ∧ Below w.heap.size w w' := rcopy_of h w (fun _ _ _ => rfl)
end Go.Proofs.YtjkoiknjffldjaaGreatDoor

/-
  Plain: the document's 'with', one entry after the other. No program here.
-/
namespace Go.Proofs.YtjkoiknjffldjaaGreatDoor
set_option linter.unusedVariables false

theorem wi_null {e : List UInt8 × PO} (h : e.2.kind = 0) : ∀ d, wi e d = d.filter (fun y => !(y.1 == e.1))
  | [] => by rw [wi, if_pos h]; rfl
  | x :: d => by
    rw [wi, if_neg (fun q => q.1 h), List.filter_cons]
    by_cases hx : x.1 = e.1
    · rw [if_pos hx, wi_null h d]; simp [hx]
    · rw [if_neg hx, wi_null h d]; simp [hx]
/-- what is still to come: the entry is put, or it is not -/
def wp (e : List UInt8 × PO) : Bool → List (List UInt8 × PO) → List (List UInt8 × PO)
  | true, d => d.filter (fun y => !(y.1 == e.1))
  | false, d => wi e d
section
variable {e x : List UInt8 × PO} {d : List (List UInt8 × PO)}
theorem wp_start : wp e (e.2.kind == 0) d = wi e d := by
  by_cases h : e.2.kind = 0
  · have : (e.2.kind == 0) = true := by simp [h]
    rw [this, wi_null h]; rfl
  · have : (e.2.kind == 0) = false := by simp [h]
    rw [this]; rfl
theorem wp_done : wp e true [] = [] := rfl
theorem wp_last (h : ¬ e.2.kind = 0) : wp e false [] = [e] := by show wi e [] = [e]; rw [wi, if_neg h]
theorem wp_here (h : ¬ e.2.kind = 0) (hk : kle e.1 x.1 = true) : wp e false (x :: d) = e :: wp e true (x :: d) := by
  show wi e (x :: d) = _
  rw [wi, if_pos ⟨h, hk⟩]; rfl
theorem wp_skip (h : x.1 = e.1) : wp e true (x :: d) = wp e true d := by
  rw [wp, wp, List.filter_cons]; simp [h]
theorem wp_take (h : ¬ x.1 = e.1) : wp e true (x :: d) = x :: wp e true d := by
  rw [wp, wp, List.filter_cons]; simp [h]
theorem wp_past (h : ¬ e.2.kind = 0) (hk : kle e.1 x.1 = false) : wp e false (x :: d) = x :: wp e false d ∧ ¬ x.1 = e.1 := by
  have hne : ¬ x.1 = e.1 := fun q => by rw [q, kle_refl] at hk; cases hk
  refine ⟨?_, hne⟩
  show wi e (x :: d) = x :: wi e d
  rw [wi, if_neg (fun q => by rw [hk] at q; exact absurd q.2 (by decide)), if_neg hne]
end
end Go.Proofs.YtjkoiknjffldjaaGreatDoor

/-
  The document's 'with': entries with one more, by its key; of a Null without. Condition: the entries are no more than 3600000.
-/
namespace Go.Proofs.YtjkoiknjffldjaaGreatDoor
open Go.RowKit
set_option linter.unusedVariables false

/-- a row of the call's own of entries, whose values lie in blocks of the call's own or of A -/
structure RowW (A : Nat → Prop) (B : Nat) (w : World) (v : Value) (E : List KV) (x : List (List UInt8 × PO)) : Prop where
  row : OwX 6 41 w B v (E.map ecl)
  rel : EVs (fun g => A g ∨ (B ≤ g ∧ g < w.heap.size ∧ v.ownBlock ≠ some g)) w E x
section
variable {A : Nat → Prop} {B : Nat} {w w' : World} {v v' : Value} {E : List KV} {x : List (List UInt8 × PO)}
theorem RowW.nil (A : Nat → Prop) (B : Nat) (w : World) : RowW A B w (.slice Option.none 0 0) [] [] := ⟨OwX.nil _ _ _ _, .nil⟩
theorem RowW.up (h : RowW A B w v E x) (hb : Below w.heap.size w w') : RowW A B w' v E x :=
  ⟨h.row.up hb, h.rel.keep (fun g hg => hg.imp id (fun hg => ⟨hg.1, Nat.lt_of_lt_of_le hg.2.1 hb.size, hg.2.2⟩)) (fun g hg hlt => hb.block g hlt)⟩
theorem RowW.push (h : RowW A B w v E x) (hA : ∀ g, A g → g < B) {a : KV} {b : List UInt8 × PO} (hx : EV (fun g => A g ∨ (B ≤ g ∧ g < w.heap.size ∧ v.ownBlock ≠ some g)) w a b) (hrow : OwX 6 41 w' B v' (E.map ecl ++ [ecl a])) (hg : w.grownBy w' v.ownBlock) (hm : Moved w v v') : RowW A B w' v' (E ++ [a]) (x ++ [b]) := by
  have hne' : ∀ g, v'.ownBlock = Option.some g → v.ownBlock = Option.some g ∨ g = w.heap.size := by
    intro g hq
    rcases hm with hm | hm
    · left; rw [← hm]; exact hq
    · right; rw [hm] at hq; injection hq with hq; exact hq.symm
  have hA' : ∀ g, (A g ∨ (B ≤ g ∧ g < w.heap.size ∧ v.ownBlock ≠ Option.some g)) → (A g ∨ (B ≤ g ∧ g < w'.heap.size ∧ v'.ownBlock ≠ Option.some g)) := fun g hq => hq.imp id fun hq => ⟨hq.1, Nat.lt_of_lt_of_le hq.2.1 hg.size, fun q => by
    rcases hne' g q with q1 | q1
    · exact hq.2.2 q1
    · have := hq.2.1; omega⟩
  have hk : ∀ g, (A g ∨ (B ≤ g ∧ g < w.heap.size ∧ v.ownBlock ≠ Option.some g)) → g < w.heap.size → w'.heap[g]? = w.heap[g]? := fun g hq hlt => hg.block g hlt fun q => by
    rcases hq with hq | hq
    · have h1 := (h.row.lt g q.symm).1
      have h2 := hA g hq
      omega
    · exact hq.2.2 q.symm
  refine ⟨by rw [List.map_append]; exact hrow, (h.rel.keep hA' hk).app (.one ⟨hx.1, hx.2.keep hA' hk⟩)⟩
theorem RowW.len (h : RowW A B w v E x) : E.length = x.length := All2.len h.rel
end

set_option maxHeartbeats 3200000 in
set_option maxRecDepth 100000 in
theorem with_any {A : Nat → Prop} {w : World} {d : List (List UInt8 × PO)} {D : List KV} {vd : Value} (ke : List UInt8) {oe : PO} {ve : List Value} (hA : ∀ g, A g → g < w.heap.size) (hD : EVs A w D d) (hS : SlX 6 w vd (D.map ecl)) (he : OV A w ve oe) (hz : d.length ≤ 3600000) :
    Calls Tryz.prog 21 #[vd, ent ke ve] w fun e w' => ∃ v', e = .returned v' ∧ ∃ E, OwX 6 41 w' w.heap.size v' (E.map ecl) ∧ EVs (fun g => A g ∨ (w.heap.size ≤ g ∧ g < w'.heap.size)) w' E (wi (ke, oe) d) ∧ Below w.heap.size w w' := by
  have hDl : D.length = d.length := All2.len hD
  have hcp0 := fun W (hW : Below w.heap.size w W) => rcopyO_any (he.up hW)
  have hk0 := hid (fun (a b c : Value) (k n : Int) (h : ve = [.int .i64 k, .int .i64 n, a, b, c]) => (OV.kind (h ▸ he)))
  have HCP := hid hcp0
  have hv5 := he.v5
  obtain ⟨z1, z2, z3, z4, z5, z6, z7, z8, z9, z10, z11, rfl⟩ := hv5
  have hkd : oe.kind = z1 := hk0.out _ _ _ _ _ rfl
  obtain ⟨aod, capd, rfl, s1, s2, s3, s4, s5⟩ := id hS
  rw [List.length_map, hDl] at hS
  rw [List.length_map, hDl]
  have HE := hid he
  have HKD := hid hkd
  have HSD := hid hS
  have HD := hid hD
  have HST := hid (wp_start (e := (ke, oe)) (d := d))
  have hX0 := C5.new w _ rfl [.string (st ke), .int .i64 z1, .int .i64 z2, .slice z3 z6 z7, .slice z4 z8 z9, .slice z5 z10 z11] 41
  have hsw : (w.alloc (.cells #[.string (st ke), .int .i64 z1, .int .i64 z2, .slice z3 z6 z7, .slice z4 z8 z9, .slice z5 z10 z11] 41)).heap.size = w.heap.size + 1 := by simp
  clear hS hD he hkd hcp0 hk0 s5 s4 s3
  go_enter Tryz.func21, Tryz.ntmps21
  go_wp2
  go_loopw [5, 6, 7] (fun s5 s6 s7 wr => ∃ i : Nat, ∃ E o pt, s7 = .int .i64 i ∧ i ≤ d.length ∧ s6 = .bool pt ∧ Below (w.heap.size + 1) (w.alloc (.cells #[.string (st ke), .int .i64 z1, .int .i64 z2, .slice z3 z6 z7, .slice z4 z8 z9, .slice z5 z10 z11] 41)) wr ∧ RowW A (w.heap.size + 1) wr s5 E o ∧ o ++ wp (ke, oe) pt (d.drop i) = wi (ke, oe) d ∧ o.length ≤ i + 1 ∧ (pt = false → o.length ≤ i ∧ ¬ oe.kind = 0)) (fun _ _ s7 _ => d.length - (intOf s7).toNat)
  case atStart => exact ⟨0, [], [], z1 == 0, rfl, Nat.zero_le _, rfl, Below.refl _ _, RowW.nil _ _ _, by rw [List.drop_zero, List.nil_append, ← HKD.out]; exact HST.out, by simp, fun q => ⟨by simp, fun q2 => by rw [HKD.out] at q2; simp [q2] at q⟩⟩
  case round =>
    obtain ⟨i, E, o, pt, rfl, hi, rfl, hb, hR, hwp, hol, hpt⟩ := hrel
    have hEl := hR.len
    obtain ⟨aoO, capO, hvO⟩ := hR.row.lin
    rw [List.length_map, hEl] at hvO
    subst hvO
    have hXr := hX0.up (hb.mono (by rw [hsw]; exact Nat.le_refl _))
    have hWr : Below w.heap.size w wr := (alb w _).trans (hb.mono (by omega))
    have hzr : w.heap.size + 1 ≤ wr.heap.size := by have := hb.size; omega
    have HR := hid hR
    have HWP := hid hwp
    clear hR hwp
    obtain ⟨xc, xf, xs⟩ := id hXr
    by_cases hlt : i < d.length
    · have hiz : (i : Int) < (d.length : Int) := by omega
      obtain ⟨g, off, rfl, hcell⟩ := HSD.out.some (by omega)
      have l20 := hcell i (by rw [List.length_map]; omega)
      rw [List.getElem_map] at l20
      have l2 := fun j u hu => cell_up' hWr (l20 j u hu)
      obtain ⟨hkk, hov⟩ := HD.out.at i (by omega) hlt
      have hv5 := hov.v5
      have HDR := hid (show d.drop i = d[i] :: d.drop (i + 1) from (List.getElem_cons_drop hlt).symm)
      clear hcell
      generalize d[i] = e2 at hkk hov HDR
      generalize D[i]'(by omega) = di at l2 l20 hkk hv5 hov
      obtain ⟨kk, vv⟩ := di
      obtain ⟨kx, ox⟩ := e2
      obtain rfl : kk = kx := hkk
      have HOV := hid hov
      obtain ⟨p1, p2, p3, p4, p5, p6, p7, p8, p9, p10, p11, rfl⟩ := hv5
      have q0 := l2 0 _ rfl
      have q1 := l2 1 _ rfl
      have q2 := l2 2 _ rfl
      have q3 := l2 3 _ rfl
      have q4 := l2 4 _ rfl
      have q5 := l2 5 _ rfl
      rw [Nat.add_zero] at q0
      have HGL := hid (show g < w.heap.size from World.block_lt_of_cell? _ _ (l20 0 _ rfl))
      clear l20
      have HOX := hid (hov.up hWr)
      clear l2 hov
      have hsk := st_toList kk
      have hse := st_toList ke
      have honeX : ∀ c ∈ [ecl (kk, [.int .i64 p1, .int .i64 p2, .slice p3 p6 p7, .slice p4 p8 p9, .slice p5 p10 p11])], ∀ u ∈ c, u.oneCell' = true := fun c hc => by
        rw [List.mem_singleton] at hc; subst hc; exact ecl_one (e := (kk, _)) ⟨_, _, _, _, _, _, _, _, _, _, _, rfl⟩
      go_upto_region 6 with fail
      go_cut [29] from 12 to 53 (fun s29 wx => s29 = .bool (!pt && kle ke kk) ∧ Below wr.heap.size wr wx)
      case first =>
        cases pt with
        | true =>
          go_quiet (fail)
          go_wp2_with fail
          go_meet
          exact ⟨rfl, below_drewN (Below.refl _ _) _⟩
        | false =>
          have hlk := less_kle ke kk
          go_quiet (fail)
          go_wp2_with fail
          go_meet
          exact ⟨by simp, below_drewN (Below.refl _ _) _⟩
      case rest =>
        obtain ⟨rfl, hb6⟩ := hcut
        obtain ⟨w6, rfl⟩ : ∃ x : World, x = wc := ⟨_, rfl⟩
        have hW6 : Below w.heap.size w w6 := hWr.trans (hb6.mono (by omega))
        have hX6 := hXr.up hb6
        have hs6 : w.heap.size + 1 ≤ w6.heap.size := by have := hb6.size; omega
        have HR6 := hid (HR.out.up hb6)
        have honeY : ∀ vs : List Value, V5 vs → ∀ c ∈ [ecl (ke, vs)], ∀ u ∈ c, u.oneCell' = true := fun vs h c hc => by
          rw [List.mem_singleton] at hc; subst hc; exact ecl_one (e := (ke, vs)) h
        clear xc xf xs
        obtain ⟨xc, xf, xs⟩ := id hX6
        go_upto_if 29 with fail
        go_cut [5, 6] from 12 to 53 (fun s5 s6 wx => ∃ E2 o2 pt2 ao cap, s5 = .slice ao o2.length cap ∧ s6 = .bool pt2 ∧ Below (w.heap.size + 1) w6 wx ∧ RowW A (w.heap.size + 1) wx (.slice ao o2.length cap) E2 o2 ∧ o2 ++ wp (ke, oe) pt2 ((kk, ox) :: d.drop (i + 1)) = wi (ke, oe) d ∧ (pt2 = false → kle ke kk = false ∧ o2.length ≤ i ∧ ¬ oe.kind = 0) ∧ o2.length ≤ i + 1)
        case first =>
          cases hpk : (!pt && kle ke kk) with
          | false =>
            go_wp2_with fail
            go_meet
            exact ⟨E, o, pt, _, _, rfl, rfl, Below.refl _ _, HR6.out, by rw [← HDR.out]; exact HWP.out, fun q => ⟨by rw [q] at hpk; simpa using hpk, (hpt q).1, (hpt q).2⟩, hol⟩
          | true =>
            obtain ⟨rfl, hkl⟩ : pt = false ∧ kle ke kk = true := by simpa using hpk
            have hol2 := hid hpt
            clear hpk hpt
            go_upto_region 7 with fail
            go_region_held3 (fun w' => w'.cell? ⟨w.heap.size, 0, none⟩ = some (.string (st ke)) ∧ w'.cell? ⟨w.heap.size, 1, none⟩ = some (.int .i64 z1) ∧ w'.cell? ⟨w.heap.size, 2, none⟩ = some (.int .i64 z2) ∧ w'.cell? ⟨w.heap.size, 3, none⟩ = some (.slice z3 z6 z7) ∧ w'.cell? ⟨w.heap.size, 4, none⟩ = some (.slice z4 z8 z9) ∧ w'.cell? ⟨w.heap.size, 5, none⟩ = some (.slice z5 z10 z11)) (first | go_keep | exact C5.s6 hX6 | exact C5.s6 hX | exact C5.s6 (hX.up (alb _ _)) | skip) (first | (go_at_call 22; refine (HCP.out _ (below_drewN hW6 _)).mono ?_; rintro e w5 ⟨vs', rfl, hov, hb5⟩; have hb : Below w6.heap.size w6 w5 := (below_drewN (Below.refl _ _) _).trans hb5; have hX := hX6.up hb; have hV5 := hov.v5; have hone := honeY _ hV5; have hov2 := hid (hov.keep (B := fun g => w6.heap.size ≤ g ∧ g < w5.heap.size) (fun g hg => ⟨by have := hg.1; simp at this; omega, hg.2⟩) (fun _ _ _ => rfl)); clear hov; obtain ⟨y1, y2, y3, y4, y5, y6, y7, y8, y9, y10, y11, rfl⟩ := hV5; have hrow : OwX 6 41 w5 (w.heap.size + 1) (.slice aoO o.length capO) (E.map ecl) := (HR6.out.up hb).row; have hbs := hb.size) | (refine wp_append_slx _ _ 32 rfl (w.heap.size + 1) 41 zEnt 6 104 entTy' entIn rfl (by decide) (.slice aoO o.length capO) (E.map ecl) rfl (hrow.up (alb _ _)) _ [ecl (ke, [.int .i64 y1, .int .i64 y2, .slice y3 y6 y7, .slice y4 y8 y9, .slice y5 y10 y11])] rfl (SlX.lit1 w5 _ rfl (ecl (ke, [.int .i64 y1, .int .i64 y2, .slice y3 y6 y7, .slice y4 y8 y9, .slice y5 y10 y11])) _ 6 rfl) hone (by simp; omega) (by decide) (by simp; omega) ?_; intro v8 w8 r1 r2 r3; obtain ⟨g8, cap8, rfl⟩ := r1.cons (by simp); have e8 : (E.map ecl ++ ([ecl (ke, [.int .i64 y1, .int .i64 y2, .slice y3 y6 y7, .slice y4 y8 y9, .slice y5 y10 y11])] : List (List Value))).length = o.length + 1 := (by rw [List.length_append, List.length_map, hEl]; rfl); rw [e8] at r1 r3; have hX := (hX.up (alb _ _)).grown r2 (fun q => by have := (hrow.lt _ q).1; omega)))
            all_goals
              go_wp2_with fail
              go_meet
              refine ⟨E ++ [(ke, [.int .i64 y1, .int .i64 y2, .slice y3 y6 y7, .slice y4 y8 y9, .slice y5 y10 y11])], o ++ [(ke, oe)], true, some ⟨g8, 0, none⟩, cap8, by simp, rfl, ?_, ?_, ?_, fun q => (by cases q), by simp; exact (hol2.out (by trivial)).1⟩
              · exact (hb.mono hs6).trans (((alb w5 _).mono (by omega)).trans (Held.below (B := w.heap.size + 1) (p := w.heap.size + 1) (q := w.heap.size + 1) (Held.grown r2 (by simp; omega) (fun g q => (hrow.lt g q).1)) (Nat.le_refl _) (Nat.le_refl _) (Nat.le_refl _)))
              · have hL : (o ++ [(ke, oe)]).length = o.length + 1 := by simp
                rw [hL]
                refine ((HR6.out.up hb).up (alb w5 _)).push (fun g hg => by have := hA g hg; omega) ⟨rfl, hov2.out.keep (fun g hg => .inr ⟨by have := hg.1; omega, by simp; have := hg.2; omega, fun q => by have := (HR6.out.row.lt g q).2; have := hg.1; omega⟩) (fun g _ hlt => (alb w5 _).block g hlt)⟩ r1 r2 r3
              · rw [← HWP.out, HDR.out, wp_here (hol2.out (by trivial)).2 hkl, List.append_assoc]; rfl
        case rest =>
          obtain ⟨E2, o2, pt2, ao2, cap2, rfl, rfl, hb7, hR7, hwp7, hpt7, hol7⟩ := hcut
          obtain ⟨w7, rfl⟩ : ∃ x : World, x = wc := ⟨_, rfl⟩
          have hX7 := hX0.up ((hb.trans (hb6.mono hzr)).trans hb7 |>.mono (by rw [hsw]; exact Nat.le_refl _))
          have HR7 := hid hR7
          have HWP7 := hid hwp7
          have hW7 : Below (w.heap.size + 1) wr w7 := (hb6.mono hzr).trans hb7
          have hs7 := hb7.size
          have hEl7 := hR7.len
          clear hR7 hwp7 xc xf xs
          obtain ⟨xc, xf, xs⟩ := id hX7
          have hgl : g < w.heap.size := HGL.out
          have cU : ∀ o v, wr.cell? ⟨g, o, none⟩ = some v → w7.cell? ⟨g, o, none⟩ = some v := fun o v h => (World.cell?_of_block (w := wr) (hW7.block g (by omega))).trans h
          have q0 := cU _ _ q0
          have q1 := cU _ _ q1
          have q2 := cU _ _ q2
          have q3 := cU _ _ q3
          have q4 := cU _ _ q4
          have q5 := cU _ _ q5
          clear cU
          go_upto_region 9 with fail
          obtain ⟨bq, hbq⟩ : ∃ bq, bq = !(kk == ke) := ⟨_, rfl⟩
          have HBQ := hid hbq
          clear hbq
          go_cut [46] from 12 to 53 (fun s46 wx => s46 = .bool bq ∧ Below w7.heap.size w7 wx)
          case first =>
            go_quiet (fail)
            go_wp2_with fail
            go_meet
            exact ⟨by rw [HBQ.out], below_drewN (Below.refl _ _) _⟩
          case rest =>
            obtain ⟨rfl, hb8⟩ := hcut
            obtain ⟨w8, rfl⟩ : ∃ x : World, x = wc := ⟨_, rfl⟩
            have hs8 := hb8.size
            have q0 := cell_up' hb8 q0
            have q1 := cell_up' hb8 q1
            have q2 := cell_up' hb8 q2
            have q3 := cell_up' hb8 q3
            have q4 := cell_up' hb8 q4
            have q5 := cell_up' hb8 q5
            have HR8 := hid (HR7.out.up hb8)
            have hbF : Below (w.heap.size + 1) (w.alloc (.cells #[.string (st ke), .int .i64 z1, .int .i64 z2, .slice z3 z6 z7, .slice z4 z8 z9, .slice z5 z10 z11] 41)) w8 := ((hb.trans (hb6.mono hzr)).trans hb7).trans (hb8.mono (by omega))
            cases bq with
            | false =>
              have hkq : kk = ke := by have := HBQ.out; simpa using this.symm
              obtain rfl : pt2 = true := by
                cases pt2 with
                | true => rfl
                | false => have := (hpt7 rfl).1; rw [hkq, kle_refl] at this; cases this
              have HKQ := hid hkq
              clear hkq hpt7
              go_wp2
              go_roundw
              case rel => exact ⟨i + 1, E2, o2, true, by go_num, by omega, rfl, hbF, HR8.out, by rw [← HWP7.out, wp_skip HKQ.out], by omega, fun q => (by cases q)⟩
              case measure => simp [intOf]; omega
            | true =>
              have hkq : ¬ kk = ke := by have := HBQ.out; simpa using this.symm
              have HKQ := hid hkq
              have HPT := hid hpt7
              clear hkq hpt7
              go_wp2_with (at_builtin; refine wpList_append_slx rfl _ _ 32 rfl (w.heap.size + 1) 41 zEnt 6 104 entTy' entIn rfl (by decide) (.slice ao2 o2.length cap2) (E2.map ecl) rfl (HR8.out.row.up (alb _ _)) _ [ecl (kk, [.int .i64 p1, .int .i64 p2, .slice p3 p6 p7, .slice p4 p8 p9, .slice p5 p10 p11])] rfl (SlX.lit1 w8 w8.heap.size rfl (ecl (kk, [.int .i64 p1, .int .i64 p2, .slice p3 p6 p7, .slice p4 p8 p9, .slice p5 p10 p11])) _ 6 rfl) honeX (by simp; omega) (by decide) (by simp; omega) ?_; intro v9 w9 r1 r2 r3; obtain ⟨g9, cap9, rfl⟩ := r1.cons (by simp); have e9 : (E2.map ecl ++ ([ecl (kk, [.int .i64 p1, .int .i64 p2, .slice p3 p6 p7, .slice p4 p8 p9, .slice p5 p10 p11])] : List (List Value))).length = o2.length + 1 := (by rw [List.length_append, List.length_map, hEl7]; rfl); rw [e9] at r1 r3)
              go_roundw
              case rel =>
                have hrow := HR8.out.row
                have hL : (o2 ++ [(kk, ox)]).length = o2.length + 1 := by simp
                refine ⟨i + 1, E2 ++ [(kk, [.int .i64 p1, .int .i64 p2, .slice p3 p6 p7, .slice p4 p8 p9, .slice p5 p10 p11])], o2 ++ [(kk, ox)], pt2, by go_num, by omega, rfl, ?_, ?_, ?_, by rw [hL]; omega, fun q => ⟨by rw [hL]; have := (HPT.out q).2.1; omega, (HPT.out q).2.2⟩⟩
                · exact hbF.trans (((alb w8 _).mono (by omega)).trans (Held.below (B := w.heap.size + 1) (p := w.heap.size + 1) (q := w.heap.size + 1) (Held.grown r2 (by simp; omega) (fun g q => (hrow.lt g q).1)) (Nat.le_refl _) (Nat.le_refl _) (Nat.le_refl _)))
                · refine (HR8.out.up (alb w8 _)).push (fun g hg => by have := hA g hg; omega) ⟨rfl, HOV.out.keep (fun g hg => .inl hg) (fun g hg hlt => ?_)⟩ r1 r2 r3
                  exact ((alb w8 _).block g (by omega)).trans ((hb8.block g (by omega)).trans ((hW7.block g (by omega)).trans (hWr.block g hlt)))
                · rw [← HWP7.out]
                  cases pt2 with
                  | true => rw [wp_take HKQ.out, List.append_assoc]; rfl
                  | false => rw [(wp_past (x := (kk, ox)) (d := d.drop (i + 1)) (HPT.out (by trivial)).2.2 (HPT.out (by trivial)).1).1, List.append_assoc]; rfl
              case measure => simp [intOf]; omega
    · obtain rfl : i = d.length := by omega
      have hiz : ¬ (d.length : Int) < (d.length : Int) := by omega
      have HOL := hid hol
      have HPT := hid hpt
      clear hol hpt
      have hwp9 := HWP.out
      rw [List.drop_length] at hwp9
      have HW9 := hid hwp9
      clear hwp9
      cases pt with
      | true =>
        go_wp2
        go_ret
        exact ⟨_, rfl, E, (HR.out.row).base (by omega), by rw [← HW9.out, wp_done, List.append_nil]; exact HR.out.rel.keep (fun g hg => hg.imp id fun q => ⟨by have := q.1; omega, q.2.1⟩) (fun _ _ _ => rfl), hWr⟩
      | false =>
        obtain ⟨w6, rfl⟩ : ∃ x : World, x = wr := ⟨_, rfl⟩
        have hX6 := hXr
        have hW6 := hWr
        have HR6 := HR
        have honeY : ∀ vs : List Value, V5 vs → ∀ c ∈ [ecl (ke, vs)], ∀ u ∈ c, u.oneCell' = true := fun vs h c hc => by
          rw [List.mem_singleton] at hc; subst hc; exact ecl_one (e := (ke, vs)) h
        have hbo := (HPT.out (by trivial)).1
        go_upto_region 12 with fail
        go_region_held3 (fun w' => w'.cell? ⟨w.heap.size, 0, none⟩ = some (.string (st ke)) ∧ w'.cell? ⟨w.heap.size, 1, none⟩ = some (.int .i64 z1) ∧ w'.cell? ⟨w.heap.size, 2, none⟩ = some (.int .i64 z2) ∧ w'.cell? ⟨w.heap.size, 3, none⟩ = some (.slice z3 z6 z7) ∧ w'.cell? ⟨w.heap.size, 4, none⟩ = some (.slice z4 z8 z9) ∧ w'.cell? ⟨w.heap.size, 5, none⟩ = some (.slice z5 z10 z11)) (first | go_keep | exact C5.s6 hX6 | exact C5.s6 hX | exact C5.s6 (hX.up (alb _ _)) | skip) (first | (go_at_call 22; refine (HCP.out _ (below_drewN hW6 _)).mono ?_; rintro e w5 ⟨vs', rfl, hov, hb5⟩; have hb : Below w6.heap.size w6 w5 := (below_drewN (Below.refl _ _) _).trans hb5; have hX := hX6.up hb; have hV5 := hov.v5; have hone := honeY _ hV5; have hov2 := hid (hov.keep (B := fun g => w6.heap.size ≤ g ∧ g < w5.heap.size) (fun g hg => ⟨by have := hg.1; simp at this; omega, hg.2⟩) (fun _ _ _ => rfl)); clear hov; obtain ⟨y1, y2, y3, y4, y5, y6, y7, y8, y9, y10, y11, rfl⟩ := hV5; have hrow : OwX 6 41 w5 (w.heap.size + 1) (.slice aoO o.length capO) (E.map ecl) := (HR6.out.up hb).row; have hbs := hb.size) | (refine wp_append_slx _ _ 32 rfl (w.heap.size + 1) 41 zEnt 6 104 entTy' entIn rfl (by decide) (.slice aoO o.length capO) (E.map ecl) rfl (hrow.up (alb _ _)) _ [ecl (ke, [.int .i64 y1, .int .i64 y2, .slice y3 y6 y7, .slice y4 y8 y9, .slice y5 y10 y11])] rfl (SlX.lit1 w5 _ rfl (ecl (ke, [.int .i64 y1, .int .i64 y2, .slice y3 y6 y7, .slice y4 y8 y9, .slice y5 y10 y11])) _ 6 rfl) hone (by simp; omega) (by decide) (by simp; omega) ?_; intro v8 w8 r1 r2 r3; obtain ⟨g8, cap8, rfl⟩ := r1.cons (by simp); have e8 : (E.map ecl ++ ([ecl (ke, [.int .i64 y1, .int .i64 y2, .slice y3 y6 y7, .slice y4 y8 y9, .slice y5 y10 y11])] : List (List Value))).length = o.length + 1 := (by rw [List.length_append, List.length_map, hEl]; rfl); rw [e8] at r1 r3; have hX := (hX.up (alb _ _)).grown r2 (fun q => by have := (hrow.lt _ q).1; omega)))
        all_goals
          go_wp2_with fail
          go_ret
          have hR9 := ((HR6.out.up hb).up (alb w5 _)).push (fun g hg => by have := hA g hg; omega) (a := (ke, [.int .i64 y1, .int .i64 y2, .slice y3 y6 y7, .slice y4 y8 y9, .slice y5 y10 y11])) (b := (ke, oe)) ⟨rfl, hov2.out.keep (fun g hg => .inr ⟨by have := hg.1; omega, by simp; have := hg.2; omega, fun q => by have := (HR6.out.row.lt g q).2; have := hg.1; omega⟩) (fun g _ hlt => (alb w5 _).block g hlt)⟩ r1 r2 r3
          refine ⟨_, rfl, E ++ [(ke, [.int .i64 y1, .int .i64 y2, .slice y3 y6 y7, .slice y4 y8 y9, .slice y5 y10 y11])], ?_, ?_, ?_⟩
          · rw [List.map_append]; exact (r1.base (by omega))
          · rw [← HW9.out, wp_last (HPT.out (by trivial)).2]
            exact hR9.rel.keep (fun g hg => hg.imp id fun q => ⟨by have := q.1; omega, q.2.1⟩) (fun _ _ _ => rfl)
          · exact hW6.trans ((hb.mono hW6.size).trans (((alb w5 _).mono (by omega)).trans (Held.below (B := w.heap.size) (p := w.heap.size + 1) (q := w.heap.size + 1) (Held.grown r2 (by simp; omega) (fun g q => by have := (hrow.lt g q).1; omega)) (Nat.le_refl _) (by omega) (by omega))))
end Go.Proofs.YtjkoiknjffldjaaGreatDoor
