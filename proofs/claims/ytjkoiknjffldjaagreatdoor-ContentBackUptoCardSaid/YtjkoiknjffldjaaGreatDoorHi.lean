/-
  The program's parser beside the document's, over the same bytes, in one world; what each gives, in one form. Conditions: none but what is said.
-/
import Derived.Test.YtjkoiknjffldjaaGreatDoorJe
import Derived.Test.YtjkoiknjffldjaaGreatDoorHh
import Derived.Test.YtjkoiknjffldjaaGreatDoorHg
import Derived.Test.YtjkoiknjffldjaaGreatDoorHc
import Derived.Test.YtjkoiknjffldjaaGreatDoorKAwk
/-
  Stands; the document's Keyword; the walks. Condition: the lexer stands in its bytes.
-/
namespace Go.Proofs.YtjkoiknjffldjaaGreatDoor
open Go.RowKit
set_option linter.unusedVariables false

set_option maxHeartbeats 1600000 in
set_option maxRecDepth 100000 in
theorem stands (v : Value) (b : List UInt8) (i : Nat) (p : ByteArray) (w : World) (h : Sl w v b) (hi : i ≤ b.length) (hb : b.length ≤ 4000000) (hp : p.size ≤ 4000000) :
    Calls Tryz.prog 20 #[v, .int .i64 i, .string p] w fun e w' => e = .returned (.bool (pfx p.data.toList (b.drop i))) ∧ w = w' := by
  obtain ⟨ao, cap, rfl, c1, c2, c3, c4⟩ := h
  have hz : p.data.toList.length = p.size := by show p.data.toList.length = p.data.size; simp
  by_cases hlt : b.length < i + p.size
  · have hpf : pfx p.data.toList (b.drop i) = false := pfx_long (by rw [hz]; simp; omega)
    rw [hpf]
    clear hpf hz c4
    by_cases h2 : b.length < p.size
    · have t1 : decide (b.length < p.size) = true := decide_eq_true h2
      go_enter Tryz.func20, Tryz.ntmps20
      go_wp2
      go_ret
      exact ⟨rfl, rfl⟩
    · have t1 : decide (b.length < p.size) = false := decide_eq_false h2
      have t2 : decide ((b.length : Int) - (p.size : Int) < (i : Int)) = true := decide_eq_true (by omega)
      go_enter Tryz.func20, Tryz.ntmps20
      go_wp2
      go_ret
      exact ⟨rfl, rfl⟩
  · obtain ⟨u, hu, hrun⟩ := sl_part bytesTy (t := 24) c4 c1 c2 c3 i (i + p.size) (by omega) (by omega)
    have hrun : ∀ w', (Instr.slice 24 (.slice ao b.length cap) (some (.int .i64 (i : Int))) (some (.int .i64 ((i : Int) + (p.size : Int)))) none).run Tryz.prog w' = .ok u w' := fun w' => by simpa only [Int.natCast_add] using hrun w'
    have hconv : (convert 24 9 u).run Tryz.prog w = .ok (.string ⟨((b.drop i).take (i + p.size - i)).toArray⟩) w :=
      sl_string w 24 9 5 Tryz.underlying24 (by kernel_rfl) (by kernel_rfl) u _ hu
    have t1 : decide (b.length < p.size) = false := decide_eq_false (by omega)
    have t2 : decide ((b.length : Int) - (p.size : Int) < (i : Int)) = false := decide_eq_false (by omega)
    have q : ((⟨((b.drop i).take (i + p.size - i)).toArray⟩ : ByteArray).toList == p.toList) = pfx p.data.toList (b.drop i) := by
      rw [str_eq, Nat.add_sub_cancel_left]; unfold pfx; rw [hz]
    generalize hS : (⟨((b.drop i).take (i + p.size - i)).toArray⟩ : ByteArray) = S at hconv q
    clear hS c4 hz
    cases hpf : pfx p.data.toList (b.drop i) with
    | false =>
      rw [hpf] at q
      clear hpf
      go_enter Tryz.func20, Tryz.ntmps20
      go_wp2
      go_ret
      exact ⟨rfl, rfl⟩
    | true =>
      rw [hpf] at q
      clear hpf
      go_enter Tryz.func20, Tryz.ntmps20
      go_wp2
      go_ret
      exact ⟨rfl, rfl⟩

section
variable {w0 w w' : World} {cp tp : Nat} {b : List UInt8} {i j : Nat} {s t : List UInt8} {k a n : Int} {vb u : Value} {out : List UInt8} {x : UInt8}

end
end Go.Proofs.YtjkoiknjffldjaaGreatDoor

/-
  Two lexers over the same bytes, the program's and the document's, in one world. Condition: both stand in their bytes.
-/
namespace Go.Proofs.YtjkoiknjffldjaaGreatDoor
open Go.RowKit
set_option linter.unusedVariables false

/-- lp, cp a lexer of the program's at place i, mp one of the document's at place j, both over b; since w0 nothing of w0 was touched -/
structure Pr (w0 w : World) (lp cp mp : Nat) (b : List UInt8) (i j : Nat) : Prop where
  lex : ∃ ao cap m v, LexAt w lp cp ao cap b i m v ∧ (0 < b.length → ∀ a, ao = some a → a.block < mp)
  cur : ∃ ao cap, CurAt w mp ao cap b j ∧ (0 < b.length → ∀ a, ao = some a → a.block < w0.heap.size)
  bel : Below w0.heap.size w0 w
  lm : lp < mp
  cm : cp < mp
  wl : w0.heap.size ≤ lp
  wc : w0.heap.size ≤ cp

section
variable {w0 w w' : World} {lp cp mp : Nat} {b s : List UInt8} {i j k : Nat} {m v u : Value} {out : List UInt8}

theorem Pr.wm (h : Pr w0 w lp cp mp b i j) : w0.heap.size ≤ mp := Nat.le_trans h.wl (Nat.le_of_lt h.lm)
theorem Pr.hi (h : Pr w0 w lp cp mp b i j) : mp < w.heap.size := by
  obtain ⟨ao, cap, h1, _⟩ := h.cur; exact World.block_lt_of_cell? _ _ h1.c0
theorem Pr.lx (h : Pr w0 w lp cp mp b i j) : ∃ m v, Lx w w lp cp b i (b.drop i) m v (.slice none 0 0) [] := by
  obtain ⟨ao, cap, m, v, h1, _⟩ := h.lex; exact ⟨m, v, Lx.start h1⟩
theorem Pr.cx (h : Pr w0 w lp cp mp b i j) : Cx w w mp b j (b.drop j) (.slice none 0 0) [] := by
  obtain ⟨ao, cap, h1, _⟩ := h.cur; exact Cx.start h1
theorem Pr.p0 (h : Pr w0 w lp cp mp b i j) : w.cell? ⟨lp, 0, none⟩ = some (.pointer (some ⟨cp, 0, none⟩)) := by
  obtain ⟨ao, cap, m, v, h1, _⟩ := h.lex; exact h1.p0
theorem Pr.c1 (h : Pr w0 w lp cp mp b i j) : w.cell? ⟨mp, 1, none⟩ = some (.int .i64 j) := by
  obtain ⟨ao, cap, h1, _⟩ := h.cur; exact h1.c1
theorem Pr.f1 (h : Pr w0 w lp cp mp b i j) : w.frozen? ⟨mp, 1, none⟩ = false := by
  obtain ⟨ao, cap, h1, _⟩ := h.cur; exact h1.f1
theorem Pr.ile (h : Pr w0 w lp cp mp b i j) : i ≤ b.length := by
  obtain ⟨ao, cap, m, v, h1, _⟩ := h.lex; exact h1.cur.at_
theorem Pr.jle (h : Pr w0 w lp cp mp b i j) : j ≤ b.length := by
  obtain ⟨ao, cap, h1, _⟩ := h.cur; exact h1.at_

/-- the program's lexer went on -/
theorem Pr.stepL (h : Pr w0 w lp cp mp b i j) (hL : Lx w w' lp cp b k s m v u out) : Pr w0 w' lp cp mp b k j := by
  have hlm := h.lm
  have hcm := h.cm
  have hwl := h.wl
  have hwc := h.wc
  obtain ⟨ao, cap, m0, v0, h1, h2⟩ := h.lex
  obtain ⟨ao2, cap2, g1, g2⟩ := h.cur
  exact ⟨⟨ao, cap, _, _, Lx.fix h1 hL, h2⟩, ⟨ao2, cap2, g1.held hL.held (by omega) (by omega) (fun h0 a ha => by have := g2 h0 a ha; exact ⟨by omega, by omega⟩), g2⟩, h.bel.trans (hL.held.below h.bel.size hwl hwc), hlm, hcm, hwl, hwc⟩
/-- the document's went on -/
theorem Pr.stepC (h : Pr w0 w lp cp mp b i j) (hC : Cx w w' mp b k s u out) : Pr w0 w' lp cp mp b i k := by
  have hlm := h.lm
  have hcm := h.cm
  obtain ⟨ao, cap, m0, v0, h1, h2⟩ := h.lex
  obtain ⟨ao2, cap2, g1, g2⟩ := h.cur
  exact ⟨⟨ao, cap, _, _, h1.held hC.held ⟨by omega, by omega⟩ ⟨by omega, by omega⟩ (fun h0 a ha => by have := h2 h0 a ha; exact ⟨by omega, by omega⟩), h2⟩, ⟨ao2, cap2, Cx.fix g1 hC, g2⟩, h.bel.trans (hC.held.below h.bel.size h.wm h.wm), hlm, hcm, h.wl, h.wc⟩
theorem Pr.below (h : Pr w0 w lp cp mp b i j) (hb : Below w.heap.size w w') : Pr w0 w' lp cp mp b i j := by
  obtain ⟨ao, cap, m0, v0, h1, h2⟩ := h.lex
  obtain ⟨ao2, cap2, g1, g2⟩ := h.cur
  exact ⟨⟨ao, cap, _, _, h1.same hb, h2⟩, ⟨ao2, cap2, g1.same hb, g2⟩, h.bel.trans (hb.mono h.bel.size), h.lm, h.cm, h.wl, h.wc⟩
theorem Pr.alloc (h : Pr w0 w lp cp mp b i j) (o : Obj) : Pr w0 (w.alloc o) lp cp mp b i j := h.below (alb w o)
theorem Pr.drew (h : Pr w0 w lp cp mp b i j) (n : Nat) : Pr w0 (w.drewN n) lp cp mp b i j := h.below (below_drewN (Below.refl _ _) n)
theorem Pr.setM (h : Pr w0 w lp cp mp b i j) (n : Int) (hn : n = k) (hk : k ≤ b.length) : Pr w0 (w.setCell ⟨mp, 1, none⟩ (.int .i64 n)) lp cp mp b i k := h.stepC (h.cx.to k n hn hk)

/-- the document's lexer beside the program's, new, at a place -/
theorem Pr.new {w1 w2 : World} {ao : Option Addr} {cap : Nat} (h : Sl w0 (.slice ao b.length cap) b) (hl : b.length ≤ 4000000) (h1 : Below w0.heap.size w0 w1) (hL : Lx w2 w2 lp cp b 0 b m v u out) (h2 : Below w1.heap.size w1 w2) (hlp : w1.heap.size ≤ lp) (hcp : w1.heap.size ≤ cp) (n : Int) (hn : n = k) (hk : k ≤ b.length) (e : TypeId) :
    Pr w0 (w2.alloc (.cells #[.slice ao b.length cap, .int .i64 n] e)) lp cp w2.heap.size b 0 k := by
  subst hn
  have h3 := below_then h1 h2
  obtain ⟨ao1, cap1, hl0, hlow⟩ := hL.lex
  have hS := h.up h3
  have ha2 : 0 < b.length → ∀ a, ao = some a → a.block < w0.heap.size := fun h0 a ha => by
    obtain ⟨ao', cap', q1, _, _, _, q4⟩ := h
    injection q1 with e1 e2 e3
    subst e1
    obtain ⟨bb, off, q1, q2, _⟩ := q4.some h0
    rw [q1] at ha; injection ha with ha; subst ha; exact q2
  obtain ⟨ao', cap', q1, c1, c2, c3, c4⟩ := hS
  injection q1 with e1 e2 e3
  subst e1; subst e3
  refine ⟨⟨ao1, cap1, _, _, hl0.same (alb _ _), hlow.ao⟩, ⟨ao, cap, ⟨?_, ?_, ?_, c4.up (alb _ _), c1, c2, c3, hk, hl, ?_⟩, ha2⟩, below_then h3 (alb _ _), hlow.lp, hlow.cp, Nat.le_trans h1.size hlp, Nat.le_trans h1.size hcp⟩
  · rw [World.cell?_alloc_at _ _ _ _ rfl]; rfl
  · rw [World.cell?_alloc_at _ _ _ _ rfl]; rfl
  · exact World.frozen?_alloc_at _ _ _ _ rfl
  · intro h0 a ha
    have := ha2 h0 a ha
    have := h3.size
    omega
end
end Go.Proofs.YtjkoiknjffldjaaGreatDoor

/-
  What is read, in one form. No condition.
-/
namespace Go.Proofs.YtjkoiknjffldjaaGreatDoor
open Go.RowKit
set_option linter.unusedVariables false

def PRes.code : PRes → Int
  | .bad x _ => x
  | .ok _ _ => 0
def PRes.obj : PRes → PO
  | .bad _ _ => poNull
  | .ok o _ => o
def PRes.rest : PRes → List UInt8
  | .bad _ t => t
  | .ok _ r => r
def PRes.ac : PRes → Int
  | .bad x _ => x
  | .ok _ r => if r.drop (bl r false) = [] then 0 else 3
def PRes.ao : PRes → PO
  | .bad _ _ => poNull
  | .ok o r => if r.drop (bl r false) = [] then o else poNull

theorem VQ.both {q : Bool} {w w' : World} {pp lp cp : Nat} {b : List UInt8} {res : PRes} {e : Ending} (h : VQ q w pp lp cp b res e w') : ∃ vs : List Value, e = .returned (.tuple #[.agg vs.toArray, .int .i64 res.code]) ∧ OV (fun g => w.heap.size ≤ g ∧ g < w'.heap.size) w' vs res.obj ∧ ∃ j, Ps q w w' pp lp cp b j res.rest := by
  cases res with
  | bad x t => obtain ⟨h1, h2⟩ := h; exact ⟨[.int .i64 0, .int .i64 0, .slice none 0 0, .slice none 0 0, .slice none 0 0], h1, OV.num 0 0, h2⟩
  | ok o r => obtain ⟨vs, h1, h2, h3⟩ := h; exact ⟨vs, h1, h2, h3⟩
end Go.Proofs.YtjkoiknjffldjaaGreatDoor

/-
  The document's value at every depth; NewParser, Value, All. Condition: its bytes are no more than 3600000.
-/
namespace Go.Proofs.YtjkoiknjffldjaaGreatDoor
open Go.RowKit
set_option linter.unusedVariables false

/-- the parser that NewParser made -/
theorem Pd.new {w : World} {v : Value} {b : List UInt8} (h : Sl w v b) (hl : b.length ≤ 3600000) (n : Int) (T : TypeId) : Pd false (dep n) (w.alloc (.cells #[v, .int .i64 0, .int .i64 (min (max n 0) 28), .bool false] T)) (w.alloc (.cells #[v, .int .i64 0, .int .i64 (min (max n 0) 28), .bool false] T)) w.heap.size b 0 b := by
  obtain ⟨ao, cap, rfl, c1, c2, c3, c4⟩ := id h
  refine ⟨?_, ?_, ?_⟩
  · have hc : CurAt (w.alloc (.cells #[.slice ao b.length cap, .int .i64 0, .int .i64 (min (max n 0) 28), .bool false] T)) w.heap.size ao cap b 0 := by
      refine ⟨by rw [World.cell?_alloc_at _ _ _ _ rfl]; rfl, by rw [World.cell?_alloc_at _ _ _ _ rfl]; rfl, by simp, c4.up (alb _ _), c1, c2, c3, Nat.zero_le _, by omega, fun h0 a ha => ?_⟩
      subst ha
      rcases c4 with c4 | ⟨g, off, e, c5⟩
      · first | omega | (rw [c4] at h0; exact absurd h0 (by simp))
      · injection e with e
        subst e
        have := World.block_lt_of_cell? _ _ (c5 0 h0)
        exact Nat.ne_of_lt this
    have h2 := Cx.start hc
    rw [List.drop_zero] at h2
    exact h2
  · rw [World.cell?_alloc_at _ _ _ _ rfl, dep_cast]; rfl
  · rw [World.cell?_alloc_at _ _ _ _ rfl]; rfl

end Go.Proofs.YtjkoiknjffldjaaGreatDoor

/-
  The document's Same of two objects in memory that are the same: true. No condition but that they are read.
-/
namespace Go.Proofs.YtjkoiknjffldjaaGreatDoor
open Go.RowKit
set_option linter.unusedVariables false

/-- the call of Same on two objects, in a world where their blocks are as they were -/
def SameC (w : World) (vs us : List Value) : Prop := ∀ W : World, Below w.heap.size w W →
  Calls Tryz.prog 26 #[.agg vs.toArray, .agg us.toArray] W fun e w' => e = .returned (.bool true) ∧ Below W.heap.size W w'

set_option maxHeartbeats 4000000 in
set_option maxRecDepth 100000 in
theorem same_of {A : Nat → Prop} {w : World} {vs : List Value} {o : PO} (h : OV A w vs o) : ∀ (B : Nat → Prop) (us : List Value), OV B w us o → SameC w vs us := by
  induction h with
  | mk k n vb vl vd b l d cl cd hb hl hl' hd hkk hd' hz ih1 ih2 =>
    intro B us hu W hW
    obtain ⟨_, _, vb9, vl9, vd9, _, _, _, cl9, cd9, hb9, hl9, hl9', hd9, hkk9, hd9', -⟩ := hu
    obtain ⟨⟨aob, capb, rfl, -, -, -, -⟩, -⟩ := id hb
    obtain ⟨aol, capl, rfl, -⟩ := id hl
    obtain ⟨aod, capd, rfl, -⟩ := id hd
    obtain ⟨⟨aob9, capb9, rfl, -, -, -, -⟩, -⟩ := id hb9
    obtain ⟨aol9, capl9, rfl, -⟩ := id hl9
    obtain ⟨aod9, capd9, rfl, -⟩ := id hd9
    have hP0 := (C5.new W _ rfl [.int .i64 k, .int .i64 n, .slice aob b.length capb, .slice aol l.length capl, .slice aod d.length capd] 34).up (alb _ (.cells #[.int .i64 k, .int .i64 n, .slice aob9 b.length capb9, .slice aol9 l.length capl9, .slice aod9 d.length capd9] 34))
    have hQ0 := C5.new (W.alloc (.cells #[.int .i64 k, .int .i64 n, .slice aob b.length capb, .slice aol l.length capl, .slice aod d.length capd] 34)) (W.heap.size + 1) (by simp) [.int .i64 k, .int .i64 n, .slice aob9 b.length capb9, .slice aol9 l.length capl9, .slice aod9 d.length capd9] 34
    have hWW := below_then (alb W (.cells #[.int .i64 k, .int .i64 n, .slice aob b.length capb, .slice aol l.length capl, .slice aod d.length capd] 34)) (alb _ (.cells #[.int .i64 k, .int .i64 n, .slice aob9 b.length capb9, .slice aol9 l.length capl9, .slice aod9 d.length capd9] 34))
    have HB := hid ((hb.1.up hW).up hWW)
    have HB9 := hid ((hb9.1.up hW).up hWW)
    obtain ⟨C, hC, hCc⟩ := ov_of l cl hl'
    obtain ⟨D, hD, hDc⟩ := ev_of d cd hkk hd'
    obtain ⟨C9, hC9, hCc9⟩ := ov_of l cl9 hl9'
    obtain ⟨D9, hD9, hDc9⟩ := ev_of d cd9 hkk9 hd9'
    have hCl : C.length = l.length := All2.len hC
    have hDl : D.length = d.length := All2.len hD
    have hCl9 : C9.length = l.length := All2.len hC9
    have hDl9 : D9.length = d.length := All2.len hD9
    have HSL := hid ((hl.slx C hCl hCc).1.up hW)
    have HSD := hid ((hd.slx (D.map ecl) (by rw [List.length_map]; exact hDl) (fun i hi => by rw [List.getElem_map]; exact hDc i (by simpa using hi))).1.up hW)
    have HSL9 := hid ((hl9.slx C9 hCl9 hCc9).1.up hW)
    have HSD9 := hid ((hd9.slx (D9.map ecl) (by rw [List.length_map]; exact hDl9) (fun i hi => by rw [List.getElem_map]; exact hDc9 i (by simpa using hi))).1.up hW)
    have HI1 := hid (show ∀ i (h : i < C.length) (h9 : i < C9.length), SameC w C[i] C9[i] ∧ V5 C[i] ∧ V5 C9[i] from fun i h h9 => by
      refine ⟨?_, hC.len5 _ (List.getElem_mem h), hC9.len5 _ (List.getElem_mem h9)⟩
      rw [hCc i h]; exact ih1 i (by omega) B _ (hC9.at i h9 (by omega)))
    have HI2 := hid (show ∀ i (h : i < D.length) (h9 : i < D9.length), SameC w (D[i]).2 (D9[i]).2 ∧ (D[i]).1 = (D9[i]).1 ∧ V5 (D[i]).2 ∧ V5 (D9[i]).2 from fun i h h9 => by
      have e : (D[i]).2 = (cd i).tail := by rw [← hDc i h]; rfl
      refine ⟨?_, (hD.at i h (by omega)).1.trans (hD9.at i h9 (by omega)).1.symm, hD.allV _ (List.getElem_mem h), hD9.allV _ (List.getElem_mem h9)⟩
      rw [e]; exact ih2 i (by omega) B _ (hD9.at i h9 (by omega)).2)
    have hqk : (k == k) = true := by simp
    have hqn : (n == n) = true := by simp
    have HZ := hid hz
    clear hb hl hl' hd hkk hd' hz hb9 hl9 hl9' hd9 hkk9 hd9' ih1 ih2 hCc hDc hCc9 hDc9 hC hD hC9 hD9
    by_cases e1 : k = 1 ∨ k = 2 ∨ k = 3 ∨ k = 9
    · rcases e1 with rfl | rfl | rfl | rfl
      all_goals
        go_enter Tryz.func26, Tryz.ntmps26
        go_wp2
        go_ret
        exact ⟨by simp, hWW⟩
    by_cases e2 : k = 4 ∨ k = 5
    · rcases e2 with rfl | rfl
      all_goals
        clear e1
        go_enter Tryz.func26, Tryz.ntmps26
        go_wp2_with (go_at_call 25; refine (same_sl _ _ b b _ HB.out HB9.out).mono ?_; rintro e w1 ⟨rfl, m, rfl⟩)
        go_ret
        exact ⟨by simp, below_then hWW (below_drewN (Below.refl _ _) m)⟩
    by_cases e3 : k = 6
    · subst e3
      clear e1 e2
      go_enter Tryz.func26, Tryz.ntmps26
      go_wp2
      go_loopw [5] (fun s5 wr => ∃ i : Nat, s5 = .int .i64 i ∧ i ≤ l.length ∧ Below ((W.alloc (.cells #[.int .i64 6, .int .i64 n, .slice aob b.length capb, .slice aol l.length capl, .slice aod d.length capd] 34)).alloc (.cells #[.int .i64 6, .int .i64 n, .slice aob9 b.length capb9, .slice aol9 l.length capl9, .slice aod9 d.length capd9] 34)).heap.size ((W.alloc (.cells #[.int .i64 6, .int .i64 n, .slice aob b.length capb, .slice aol l.length capl, .slice aod d.length capd] 34)).alloc (.cells #[.int .i64 6, .int .i64 n, .slice aob9 b.length capb9, .slice aol9 l.length capl9, .slice aod9 d.length capd9] 34)) wr) (fun s5 _ => l.length - (intOf s5).toNat)
      case atStart => exact ⟨0, rfl, Nat.zero_le _, Below.refl _ _⟩
      case round =>
        obtain ⟨i, rfl, hi, hb⟩ := hrel
        have hP := hP0.up hb
        have hQ := hQ0.up hb
        have hWr := below_then hWW hb
        obtain ⟨rc, rf, rs⟩ := hP
        obtain ⟨oc, of_, os⟩ := hQ
        have hP := hid (hP0.up hb)
        have hlz := HZ.out.2.1
        by_cases hlt : i < l.length
        · have hiz : (i : Int) < (l.length : Int) := by omega
          obtain ⟨g, off, rfl, hcell⟩ := (HSL.out.up hWr).some (by omega)
          obtain ⟨g9, off9, rfl, hcell9⟩ := (HSL9.out.up hWr).some (by omega)
          have l2 := hcell i (by omega)
          have l9 := hcell9 i (by omega)
          obtain ⟨hcp, hv5, hv9⟩ := HI1.out i (by omega) (by omega)
          clear hcell hcell9
          generalize C[i]'(by omega) = ci at l2 hcp hv5
          generalize C9[i]'(by omega) = ci9 at l9 hcp hv9
          obtain ⟨p1, p2, p3, p4, p5, p6, p7, p8, p9, p10, p11, rfl⟩ := hv5
          obtain ⟨r1, r2, r3, r4, r5, r6, r7, r8, r9, r10, r11, rfl⟩ := hv9
          have c0 := l2 0 _ rfl
          have c1 := l2 1 _ rfl
          have c2 := l2 2 _ rfl
          have c3 := l2 3 _ rfl
          have c4 := l2 4 _ rfl
          rw [Nat.add_zero] at c0
          have d0 := l9 0 _ rfl
          have d1 := l9 1 _ rfl
          have d2 := l9 2 _ rfl
          have d3 := l9 3 _ rfl
          have d4 := l9 4 _ rfl
          rw [Nat.add_zero] at d0
          clear l2 l9
          have HCP := hid hcp
          clear hcp
          go_upto_region 18 with fail
          have HS := hid (show ∀ X, Below wr.heap.size wr X → X.cell? ⟨W.heap.size, 3, none⟩ = some (.slice (some ⟨g, off, none⟩) l.length capl) ∧ X.cell? ⟨W.heap.size + 1, 3, none⟩ = some (.slice (some ⟨g9, off9, none⟩) l.length capl9) ∧ X.cell? ⟨g, off + i * 5, none⟩ = some (.int .i64 p1) ∧ X.cell? ⟨g, off + i * 5 + 1, none⟩ = some (.int .i64 p2) ∧ X.cell? ⟨g, off + i * 5 + 2, none⟩ = some (.slice p3 p6 p7) ∧ X.cell? ⟨g, off + i * 5 + 3, none⟩ = some (.slice p4 p8 p9) ∧ X.cell? ⟨g, off + i * 5 + 4, none⟩ = some (.slice p5 p10 p11) ∧ X.cell? ⟨g9, off9 + i * 5, none⟩ = some (.int .i64 r1) ∧ X.cell? ⟨g9, off9 + i * 5 + 1, none⟩ = some (.int .i64 r2) ∧ X.cell? ⟨g9, off9 + i * 5 + 2, none⟩ = some (.slice r3 r6 r7) ∧ X.cell? ⟨g9, off9 + i * 5 + 3, none⟩ = some (.slice r4 r8 r9) ∧ X.cell? ⟨g9, off9 + i * 5 + 4, none⟩ = some (.slice r5 r10 r11) from fun X hX => ⟨cell_up' hX (rc 3), cell_up' hX (oc 3), cell_up' hX c0, cell_up' hX c1, cell_up' hX c2, cell_up' hX c3, cell_up' hX c4, cell_up' hX d0, cell_up' hX d1, cell_up' hX d2, cell_up' hX d3, cell_up' hX d4⟩)
          go_region_held3 (fun w' => w'.cell? ⟨W.heap.size, 3, none⟩ = some (.slice (some ⟨g, off, none⟩) l.length capl) ∧ w'.cell? ⟨W.heap.size + 1, 3, none⟩ = some (.slice (some ⟨g9, off9, none⟩) l.length capl9) ∧ w'.cell? ⟨g, off + i * 5, none⟩ = some (.int .i64 p1) ∧ w'.cell? ⟨g, off + i * 5 + 1, none⟩ = some (.int .i64 p2) ∧ w'.cell? ⟨g, off + i * 5 + 2, none⟩ = some (.slice p3 p6 p7) ∧ w'.cell? ⟨g, off + i * 5 + 3, none⟩ = some (.slice p4 p8 p9) ∧ w'.cell? ⟨g, off + i * 5 + 4, none⟩ = some (.slice p5 p10 p11) ∧ w'.cell? ⟨g9, off9 + i * 5, none⟩ = some (.int .i64 r1) ∧ w'.cell? ⟨g9, off9 + i * 5 + 1, none⟩ = some (.int .i64 r2) ∧ w'.cell? ⟨g9, off9 + i * 5 + 2, none⟩ = some (.slice r3 r6 r7) ∧ w'.cell? ⟨g9, off9 + i * 5 + 3, none⟩ = some (.slice r4 r8 r9) ∧ w'.cell? ⟨g9, off9 + i * 5 + 4, none⟩ = some (.slice r5 r10 r11)) (first | go_keep | exact HS.out _ (Below.refl _ _) | exact HS.out _ (by assumption) | skip) (first | (go_at_call 26; refine (HCP.out _ (below_drewN (hW.trans (hWr.mono hW.size)) _)).mono ?_; rintro e w5 ⟨rfl, hb5⟩; have hb6 : Below wr.heap.size wr w5 := ((below_drewN (Below.refl _ _) _).trans hb5)))
          all_goals
            go_wp2_with fail
            go_roundw
            case rel => exact ⟨i + 1, by go_num, by omega, hb.trans (hb6.mono hb.size)⟩
            case measure => simp [intOf]; omega
        · obtain rfl : i = l.length := by omega
          have hiz : ¬ (l.length : Int) < (l.length : Int) := by omega
          go_wp2
          go_ret
          exact ⟨rfl, hWr⟩
    by_cases e4 : k = 7
    · subst e4
      clear e1 e2 e3
      go_enter Tryz.func26, Tryz.ntmps26
      go_wp2
      go_loopw [6] (fun s5 wr => ∃ i : Nat, s5 = .int .i64 i ∧ i ≤ d.length ∧ Below ((W.alloc (.cells #[.int .i64 7, .int .i64 n, .slice aob b.length capb, .slice aol l.length capl, .slice aod d.length capd] 34)).alloc (.cells #[.int .i64 7, .int .i64 n, .slice aob9 b.length capb9, .slice aol9 l.length capl9, .slice aod9 d.length capd9] 34)).heap.size ((W.alloc (.cells #[.int .i64 7, .int .i64 n, .slice aob b.length capb, .slice aol l.length capl, .slice aod d.length capd] 34)).alloc (.cells #[.int .i64 7, .int .i64 n, .slice aob9 b.length capb9, .slice aol9 l.length capl9, .slice aod9 d.length capd9] 34)) wr) (fun s5 _ => d.length - (intOf s5).toNat)
      case atStart => exact ⟨0, rfl, Nat.zero_le _, Below.refl _ _⟩
      case round =>
        obtain ⟨i, rfl, hi, hb⟩ := hrel
        have hP := hP0.up hb
        have hQ := hQ0.up hb
        have hWr := below_then hWW hb
        obtain ⟨rc, rf, rs⟩ := hP
        obtain ⟨oc, of_, os⟩ := hQ
        have hlz := HZ.out.2.2
        by_cases hlt : i < d.length
        · have hiz : (i : Int) < (d.length : Int) := by omega
          obtain ⟨g, off, rfl, hcell⟩ := (HSD.out.up hWr).some (by omega)
          obtain ⟨g9, off9, rfl, hcell9⟩ := (HSD9.out.up hWr).some (by omega)
          have l2 := hcell i (by simp; omega)
          have l9 := hcell9 i (by simp; omega)
          rw [List.getElem_map] at l2 l9
          obtain ⟨hcp, hkk, hv5, hv9⟩ := HI2.out i (by omega) (by omega)
          clear hcell hcell9
          generalize D[i]'(by omega) = ci at l2 hcp hv5 hkk
          generalize D9[i]'(by omega) = ci9 at l9 hcp hv9 hkk
          obtain ⟨kk, vs⟩ := ci
          obtain ⟨kk9, us⟩ := ci9
          dsimp only at hkk hcp hv5 hv9
          subst hkk
          obtain ⟨p1, p2, p3, p4, p5, p6, p7, p8, p9, p10, p11, rfl⟩ := hv5
          obtain ⟨r1, r2, r3, r4, r5, r6, r7, r8, r9, r10, r11, rfl⟩ := hv9
          have c0 := l2 0 _ rfl
          have c1 := l2 1 _ rfl
          have c2 := l2 2 _ rfl
          have c3 := l2 3 _ rfl
          have c4 := l2 4 _ rfl
          have c5 := l2 5 _ rfl
          rw [Nat.add_zero] at c0
          have d0 := l9 0 _ rfl
          have d1 := l9 1 _ rfl
          have d2 := l9 2 _ rfl
          have d3 := l9 3 _ rfl
          have d4 := l9 4 _ rfl
          have d5 := l9 5 _ rfl
          rw [Nat.add_zero] at d0
          clear l2 l9
          have HCP := hid hcp
          clear hcp
          go_upto_region 27 with fail
          have HS := hid (show ∀ X, Below wr.heap.size wr X → X.cell? ⟨W.heap.size, 4, none⟩ = some (.slice (some ⟨g, off, none⟩) d.length capd) ∧ X.cell? ⟨W.heap.size + 1, 4, none⟩ = some (.slice (some ⟨g9, off9, none⟩) d.length capd9) ∧ X.cell? ⟨g, off + i * 6, none⟩ = some (.string (st kk)) ∧ X.cell? ⟨g, off + i * 6 + 1, none⟩ = some (.int .i64 p1) ∧ X.cell? ⟨g, off + i * 6 + 2, none⟩ = some (.int .i64 p2) ∧ X.cell? ⟨g, off + i * 6 + 3, none⟩ = some (.slice p3 p6 p7) ∧ X.cell? ⟨g, off + i * 6 + 4, none⟩ = some (.slice p4 p8 p9) ∧ X.cell? ⟨g, off + i * 6 + 5, none⟩ = some (.slice p5 p10 p11) ∧ X.cell? ⟨g9, off9 + i * 6, none⟩ = some (.string (st kk)) ∧ X.cell? ⟨g9, off9 + i * 6 + 1, none⟩ = some (.int .i64 r1) ∧ X.cell? ⟨g9, off9 + i * 6 + 2, none⟩ = some (.int .i64 r2) ∧ X.cell? ⟨g9, off9 + i * 6 + 3, none⟩ = some (.slice r3 r6 r7) ∧ X.cell? ⟨g9, off9 + i * 6 + 4, none⟩ = some (.slice r4 r8 r9) ∧ X.cell? ⟨g9, off9 + i * 6 + 5, none⟩ = some (.slice r5 r10 r11) from fun X hX => ⟨cell_up' hX (rc 4), cell_up' hX (oc 4), cell_up' hX c0, cell_up' hX c1, cell_up' hX c2, cell_up' hX c3, cell_up' hX c4, cell_up' hX c5, cell_up' hX d0, cell_up' hX d1, cell_up' hX d2, cell_up' hX d3, cell_up' hX d4, cell_up' hX d5⟩)
          go_region_held3 (fun w' => w'.cell? ⟨W.heap.size, 4, none⟩ = some (.slice (some ⟨g, off, none⟩) d.length capd) ∧ w'.cell? ⟨W.heap.size + 1, 4, none⟩ = some (.slice (some ⟨g9, off9, none⟩) d.length capd9) ∧ w'.cell? ⟨g, off + i * 6, none⟩ = some (.string (st kk)) ∧ w'.cell? ⟨g, off + i * 6 + 1, none⟩ = some (.int .i64 p1) ∧ w'.cell? ⟨g, off + i * 6 + 2, none⟩ = some (.int .i64 p2) ∧ w'.cell? ⟨g, off + i * 6 + 3, none⟩ = some (.slice p3 p6 p7) ∧ w'.cell? ⟨g, off + i * 6 + 4, none⟩ = some (.slice p4 p8 p9) ∧ w'.cell? ⟨g, off + i * 6 + 5, none⟩ = some (.slice p5 p10 p11) ∧ w'.cell? ⟨g9, off9 + i * 6, none⟩ = some (.string (st kk)) ∧ w'.cell? ⟨g9, off9 + i * 6 + 1, none⟩ = some (.int .i64 r1) ∧ w'.cell? ⟨g9, off9 + i * 6 + 2, none⟩ = some (.int .i64 r2) ∧ w'.cell? ⟨g9, off9 + i * 6 + 3, none⟩ = some (.slice r3 r6 r7) ∧ w'.cell? ⟨g9, off9 + i * 6 + 4, none⟩ = some (.slice r4 r8 r9) ∧ w'.cell? ⟨g9, off9 + i * 6 + 5, none⟩ = some (.slice r5 r10 r11)) (first | go_keep | exact HS.out _ (Below.refl _ _) | exact HS.out _ (by assumption) | skip) (first | (go_at_call 26; refine (HCP.out _ (below_drewN (hW.trans (hWr.mono hW.size)) _)).mono ?_; rintro e w5 ⟨rfl, hb5⟩; have hb6 : Below wr.heap.size wr w5 := ((below_drewN (Below.refl _ _) _).trans hb5)))
          all_goals
            go_wp2_with fail
            go_roundw
            case rel => exact ⟨i + 1, by go_num, by omega, hb.trans (hb6.mono hb.size)⟩
            case measure => simp [intOf]; omega
        · obtain rfl : i = d.length := by omega
          have hiz : ¬ (d.length : Int) < (d.length : Int) := by omega
          go_wp2
          go_ret
          exact ⟨rfl, hWr⟩
    by_cases e5 : k = 8
    · subst e5
      clear e1 e2 e3 e4
      go_enter Tryz.func26, Tryz.ntmps26
      go_wp2_with (go_at_call 25; refine (same_sl _ _ b b _ HB.out HB9.out).mono ?_; rintro e w1 ⟨rfl, m, rfl⟩; have hdd : decide (b = b) = true := decide_eq_true rfl)
      go_loopw [6] (fun s5 wr => ∃ i : Nat, s5 = .int .i64 i ∧ i ≤ d.length ∧ Below ((W.alloc (.cells #[.int .i64 8, .int .i64 n, .slice aob b.length capb, .slice aol l.length capl, .slice aod d.length capd] 34)).alloc (.cells #[.int .i64 8, .int .i64 n, .slice aob9 b.length capb9, .slice aol9 l.length capl9, .slice aod9 d.length capd9] 34)).heap.size ((W.alloc (.cells #[.int .i64 8, .int .i64 n, .slice aob b.length capb, .slice aol l.length capl, .slice aod d.length capd] 34)).alloc (.cells #[.int .i64 8, .int .i64 n, .slice aob9 b.length capb9, .slice aol9 l.length capl9, .slice aod9 d.length capd9] 34)) wr) (fun s5 _ => d.length - (intOf s5).toNat)
      case atStart => exact ⟨0, rfl, Nat.zero_le _, below_drewN (Below.refl _ _) _⟩
      case round =>
        obtain ⟨i, rfl, hi, hb⟩ := hrel
        have hP := hP0.up hb
        have hQ := hQ0.up hb
        have hWr := below_then hWW hb
        obtain ⟨rc, rf, rs⟩ := hP
        obtain ⟨oc, of_, os⟩ := hQ
        have hlz := HZ.out.2.2
        by_cases hlt : i < d.length
        · have hiz : (i : Int) < (d.length : Int) := by omega
          obtain ⟨g, off, rfl, hcell⟩ := (HSD.out.up hWr).some (by omega)
          obtain ⟨g9, off9, rfl, hcell9⟩ := (HSD9.out.up hWr).some (by omega)
          have l2 := hcell i (by simp; omega)
          have l9 := hcell9 i (by simp; omega)
          rw [List.getElem_map] at l2 l9
          obtain ⟨hcp, hkk, hv5, hv9⟩ := HI2.out i (by omega) (by omega)
          clear hcell hcell9
          generalize D[i]'(by omega) = ci at l2 hcp hv5 hkk
          generalize D9[i]'(by omega) = ci9 at l9 hcp hv9 hkk
          obtain ⟨kk, vs⟩ := ci
          obtain ⟨kk9, us⟩ := ci9
          dsimp only at hkk hcp hv5 hv9
          subst hkk
          obtain ⟨p1, p2, p3, p4, p5, p6, p7, p8, p9, p10, p11, rfl⟩ := hv5
          obtain ⟨r1, r2, r3, r4, r5, r6, r7, r8, r9, r10, r11, rfl⟩ := hv9
          have c0 := l2 0 _ rfl
          have c1 := l2 1 _ rfl
          have c2 := l2 2 _ rfl
          have c3 := l2 3 _ rfl
          have c4 := l2 4 _ rfl
          have c5 := l2 5 _ rfl
          rw [Nat.add_zero] at c0
          have d0 := l9 0 _ rfl
          have d1 := l9 1 _ rfl
          have d2 := l9 2 _ rfl
          have d3 := l9 3 _ rfl
          have d4 := l9 4 _ rfl
          have d5 := l9 5 _ rfl
          rw [Nat.add_zero] at d0
          clear l2 l9
          have HCP := hid hcp
          clear hcp
          go_upto_region 27 with fail
          have HS := hid (show ∀ X, Below wr.heap.size wr X → X.cell? ⟨W.heap.size, 4, none⟩ = some (.slice (some ⟨g, off, none⟩) d.length capd) ∧ X.cell? ⟨W.heap.size + 1, 4, none⟩ = some (.slice (some ⟨g9, off9, none⟩) d.length capd9) ∧ X.cell? ⟨g, off + i * 6, none⟩ = some (.string (st kk)) ∧ X.cell? ⟨g, off + i * 6 + 1, none⟩ = some (.int .i64 p1) ∧ X.cell? ⟨g, off + i * 6 + 2, none⟩ = some (.int .i64 p2) ∧ X.cell? ⟨g, off + i * 6 + 3, none⟩ = some (.slice p3 p6 p7) ∧ X.cell? ⟨g, off + i * 6 + 4, none⟩ = some (.slice p4 p8 p9) ∧ X.cell? ⟨g, off + i * 6 + 5, none⟩ = some (.slice p5 p10 p11) ∧ X.cell? ⟨g9, off9 + i * 6, none⟩ = some (.string (st kk)) ∧ X.cell? ⟨g9, off9 + i * 6 + 1, none⟩ = some (.int .i64 r1) ∧ X.cell? ⟨g9, off9 + i * 6 + 2, none⟩ = some (.int .i64 r2) ∧ X.cell? ⟨g9, off9 + i * 6 + 3, none⟩ = some (.slice r3 r6 r7) ∧ X.cell? ⟨g9, off9 + i * 6 + 4, none⟩ = some (.slice r4 r8 r9) ∧ X.cell? ⟨g9, off9 + i * 6 + 5, none⟩ = some (.slice r5 r10 r11) from fun X hX => ⟨cell_up' hX (rc 4), cell_up' hX (oc 4), cell_up' hX c0, cell_up' hX c1, cell_up' hX c2, cell_up' hX c3, cell_up' hX c4, cell_up' hX c5, cell_up' hX d0, cell_up' hX d1, cell_up' hX d2, cell_up' hX d3, cell_up' hX d4, cell_up' hX d5⟩)
          go_region_held3 (fun w' => w'.cell? ⟨W.heap.size, 4, none⟩ = some (.slice (some ⟨g, off, none⟩) d.length capd) ∧ w'.cell? ⟨W.heap.size + 1, 4, none⟩ = some (.slice (some ⟨g9, off9, none⟩) d.length capd9) ∧ w'.cell? ⟨g, off + i * 6, none⟩ = some (.string (st kk)) ∧ w'.cell? ⟨g, off + i * 6 + 1, none⟩ = some (.int .i64 p1) ∧ w'.cell? ⟨g, off + i * 6 + 2, none⟩ = some (.int .i64 p2) ∧ w'.cell? ⟨g, off + i * 6 + 3, none⟩ = some (.slice p3 p6 p7) ∧ w'.cell? ⟨g, off + i * 6 + 4, none⟩ = some (.slice p4 p8 p9) ∧ w'.cell? ⟨g, off + i * 6 + 5, none⟩ = some (.slice p5 p10 p11) ∧ w'.cell? ⟨g9, off9 + i * 6, none⟩ = some (.string (st kk)) ∧ w'.cell? ⟨g9, off9 + i * 6 + 1, none⟩ = some (.int .i64 r1) ∧ w'.cell? ⟨g9, off9 + i * 6 + 2, none⟩ = some (.int .i64 r2) ∧ w'.cell? ⟨g9, off9 + i * 6 + 3, none⟩ = some (.slice r3 r6 r7) ∧ w'.cell? ⟨g9, off9 + i * 6 + 4, none⟩ = some (.slice r4 r8 r9) ∧ w'.cell? ⟨g9, off9 + i * 6 + 5, none⟩ = some (.slice r5 r10 r11)) (first | go_keep | exact HS.out _ (Below.refl _ _) | exact HS.out _ (by assumption) | skip) (first | (go_at_call 26; refine (HCP.out _ (below_drewN (hW.trans (hWr.mono hW.size)) _)).mono ?_; rintro e w5 ⟨rfl, hb5⟩; have hb6 : Below wr.heap.size wr w5 := ((below_drewN (Below.refl _ _) _).trans hb5)))
          all_goals
            go_wp2_with fail
            go_roundw
            case rel => exact ⟨i + 1, by go_num, by omega, hb.trans (hb6.mono hb.size)⟩
            case measure => simp [intOf]; omega
        · obtain rfl : i = d.length := by omega
          have hiz : ¬ (d.length : Int) < (d.length : Int) := by omega
          go_wp2
          go_ret
          exact ⟨rfl, hWr⟩
    have q1 : (k == 1) = false := by simp; omega
    have q2 : (k == 2) = false := by simp; omega
    have q3 : (k == 3) = false := by simp; omega
    have q4 : (k == 4) = false := by simp; omega
    have q5 : (k == 5) = false := by simp; omega
    have q6 : (k == 6) = false := by simp; omega
    have q7 : (k == 7) = false := by simp; omega
    have q8 : (k == 8) = false := by simp; omega
    have q9 : (k == 9) = false := by simp; omega
    clear e1 e2 e3 e4 e5
    go_enter Tryz.func26, Tryz.ntmps26
    go_wp2
    go_ret
    exact ⟨rfl, hWW⟩
end Go.Proofs.YtjkoiknjffldjaaGreatDoor

/-
  The program's parser beside the document's, over the same bytes, in one world; what each gives, in one form. Conditions: none but what is said.
-/
namespace Go.Proofs.YtjkoiknjffldjaaGreatDoor
open Go.RowKit
set_option linter.unusedVariables false

theorem RVQ.both {q : Bool} {dp : Nat} {w w' : World} {pp : Nat} {b : List UInt8} {res : PRes} {e : Ending} (h : RVQ q dp w pp b res e w') : ∃ vs : List Value, e = .returned (.tuple #[.agg vs.toArray, .int .i64 res.code]) ∧ OV (fun g => w.heap.size ≤ g ∧ g < w'.heap.size) w' vs res.obj ∧ ∃ j, Pd q dp w w' pp b j res.rest := by
  cases res with
  | bad x t => obtain ⟨h1, h2⟩ := h; exact ⟨[.int .i64 0, .int .i64 0, .slice none 0 0, .slice none 0 0, .slice none 0 0], h1, OV.num 0 0, h2⟩
  | ok o r => obtain ⟨vs, h1, h2, h3⟩ := h; exact ⟨vs, h1, h2, h3⟩
theorem AQ.both {w w' : World} {res : PRes} {e : Ending} (h : AQ w res e w') : ∃ vs : List Value, e = .returned (.tuple #[.agg vs.toArray, .int .i64 res.ac]) ∧ OV (fun g => w.heap.size ≤ g ∧ g < w'.heap.size) w' vs res.ao ∧ Below w.heap.size w w' := by
  cases res with
  | bad x t => obtain ⟨h1, h2⟩ := h; exact ⟨[.int .i64 0, .int .i64 0, .slice none 0 0, .slice none 0 0, .slice none 0 0], h1, OV.num 0 0, h2⟩
  | ok o r =>
    unfold AQ at h
    simp only [] at h
    unfold PRes.ac PRes.ao
    simp only []
    by_cases hr : r.drop (bl r false) = []
    · rw [if_pos hr] at h ⊢
      rw [if_pos hr]
      obtain ⟨vs, h1, h2, h3⟩ := h; exact ⟨vs, h1, h2, h3⟩
    · rw [if_neg hr] at h ⊢
      rw [if_neg hr]
      obtain ⟨h1, h2⟩ := h; exact ⟨[.int .i64 0, .int .i64 0, .slice none 0 0, .slice none 0 0, .slice none 0 0], h1, OV.num 0 0, h2⟩

/-- both parsers at a place -/
structure Pq (q : Bool) (d : Nat) (w0 w : World) (pp lp cp mp : Nat) (b : List UInt8) (i j : Nat) : Prop where
  pr : Pr w0 w lp cp mp b i j
  p0 : w.cell? ⟨pp, 0, none⟩ = some (.pointer (some ⟨lp, 0, none⟩))
  p1 : w.cell? ⟨pp, 1, none⟩ = some (.int .i64 (d : Int))
  p2 : w.cell? ⟨pp, 2, none⟩ = some (.bool q)
  d2 : w.cell? ⟨mp, 2, none⟩ = some (.int .i64 d)
  d3 : w.cell? ⟨mp, 3, none⟩ = some (.bool q)
  nl : pp ≠ lp
  nc : pp ≠ cp
  pm : pp < mp
  wp : w0.heap.size ≤ pp
section
variable {q : Bool} {d : Nat} {w0 w w' : World} {pp lp cp mp : Nat} {b t : List UInt8} {i j k : Nat}
theorem Pq.ps (h : Pq q d w0 w pp lp cp mp b i j) : Ps q w w pp lp cp b i (b.drop i) := by
  obtain ⟨m, v, hL⟩ := h.pr.lx
  exact ⟨⟨m, v, hL⟩, h.p0, h.p2, h.nl, h.nc⟩
theorem Pq.pd (h : Pq q d w0 w pp lp cp mp b i j) : Pd q d w w mp b j (b.drop j) := ⟨h.pr.cx, h.d2, h.d3⟩
theorem Pq.below (h : Pq q d w0 w pp lp cp mp b i j) (hb : Below w.heap.size w w') : Pq q d w0 w' pp lp cp mp b i j :=
  ⟨h.pr.below hb, cell_up' hb h.p0, cell_up' hb h.p1, cell_up' hb h.p2, cell_up' hb h.d2, cell_up' hb h.d3, h.nl, h.nc, h.pm, h.wp⟩
theorem Pq.stepP (h : Pq q d w0 w pp lp cp mp b i j) (hp : Ps q w w' pp lp cp b k t) : Pq q d w0 w' pp lp cp mp b k j := by
  obtain ⟨m, v, hL⟩ := hp.lx
  have h1 := Nat.ne_of_gt h.pr.lm
  have h2 := Nat.ne_of_gt h.pr.cm
  exact ⟨h.pr.stepL hL, hp.p0, hL.held.cell' h.p1 h.nl h.nc, hp.p2, hL.held.cell' h.d2 h1 h2, hL.held.cell' h.d3 h1 h2, h.nl, h.nc, h.pm, h.wp⟩
theorem Pq.stepD (h : Pq q d w0 w pp lp cp mp b i j) (hp : Pd q d w w' mp b k t) : Pq q d w0 w' pp lp cp mp b i k := by
  have hm := Nat.ne_of_lt h.pm
  exact ⟨h.pr.stepC hp.cx, hp.cx.held.cell' h.p0 hm hm, hp.cx.held.cell' h.p1 hm hm, hp.cx.held.cell' h.p2 hm hm, hp.d2, hp.d3, h.nl, h.nc, h.pm, h.wp⟩
theorem Pq.new {w1 w2 : World} {ao : Option Addr} {cap : Nat} (h : Sl w0 (.slice ao b.length cap) b) (hl : b.length ≤ 3600000) (n : Int) (h1 : Below w0.heap.size w0 w1) (hP : Ps false w2 w2 pp lp cp b 0 b) (hd : w2.cell? ⟨pp, 1, none⟩ = some (.int .i64 (min (max n 0) 28))) (h2 : Below w1.heap.size w1 w2) (hpp : w1.heap.size ≤ pp) (hlp : w1.heap.size ≤ lp) (hcp : w1.heap.size ≤ cp) (T : TypeId) :
    Pq false (dep n) w0 (w2.alloc (.cells #[.slice ao b.length cap, .int .i64 0, .int .i64 (min (max n 0) 28), .bool false] T)) pp lp cp w2.heap.size b 0 0 := by
  obtain ⟨m, v, hL⟩ := hP.lx
  have h3 := below_then h1 h2
  have ha2 : 0 < b.length → ∀ a, ao = some a → a.block < w0.heap.size := fun h0 a ha => by
    obtain ⟨ao', cap', q1, _, _, _, q4⟩ := h
    injection q1 with e1 e2 e3
    subst e1
    obtain ⟨bb, off, q1, q2, _⟩ := q4.some h0
    rw [q1] at ha; injection ha with ha; subst ha; exact q2
  have hD := Pd.new (h.up h3) hl n T
  obtain ⟨ao1, cap1, hl0, hlow⟩ := hL.lex
  obtain ⟨ao2, cap2, g1, g2⟩ := hD.cx.cur
  have hzp := World.block_lt_of_cell? _ _ hP.p0
  have e0 := g1.c0
  rw [World.cell?_alloc_at _ _ _ _ rfl] at e0
  have e1 : ao2 = ao := by
    injection e0 with e0; injection e0 with e0; exact e0.symm
  subst e1
  rw [← dep_cast] at hd
  exact ⟨⟨⟨ao1, cap1, _, _, hl0.same (alb _ _), hlow.ao⟩, ⟨ao2, cap2, g1, ha2⟩, below_then h3 (alb _ _), hlow.lp, hlow.cp, Nat.le_trans h1.size hlp, Nat.le_trans h1.size hcp⟩, cell_up' (alb _ _) hP.p0, cell_up' (alb _ _) hd, cell_up' (alb _ _) hP.p2, hD.d2, hD.d3, hP.nl, hP.nc, hzp, Nat.le_trans h1.size hpp⟩
theorem Pq.at_ (h : Pq q d w0 w pp lp cp mp b i j) (ht : b.drop i = b.drop j) : i = j := by
  have h1 := h.pr.ile
  have h2 := h.pr.jle
  have h3 := congrArg List.length ht
  rw [List.length_drop, List.length_drop] at h3
  omega
end
end Go.Proofs.YtjkoiknjffldjaaGreatDoor
