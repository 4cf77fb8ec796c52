/-
  Plain: errors are no noughts; a token takes at least a byte, but the end. No program here.
-/
import Derived.Test.YtjkoiknjffldjaaGreatDoorJb
/-
  number, kept, token, Token, Keyword: the token that stands there; the program's walks. Condition: the lexer stands in its bytes.
-/
namespace Go.Proofs.YtjkoiknjffldjaaGreatDoor
open Go.RowKit
set_option linter.unusedVariables false

/-- what a reader of a token leaves; a: its place -/
def TokP (T : TRes) (w0 : World) (lp cp : Nat) (b : List UInt8) (a : Int) (e : Ending) (w' : World) : Prop :=
  match T with
  | .bad x => (∃ k n a ao l c, e = .returned (.tuple #[.agg #[.int .i64 k, .int .i64 a, .int .i64 n, .slice ao l c], .int .i64 x])) ∧ ∃ i s m v u out, Lx w0 w' lp cp b i s m v u out
  | .tok k n out rest => ∃ u, e = .returned (.tuple #[.agg #[.int .i64 k, .int .i64 a, .int .i64 n, u], .int .i64 0]) ∧ ∃ i m v, Lx w0 w' lp cp b i rest m v u out

theorem Lx.rcell {w0 w w1 : World} {o : Obj} {lp cp : Nat} {b s s' : List UInt8} {i j : Nat} {m v u m' v' u' : Value} {out out' : List UInt8} (h0 : Lx w0 w lp cp b i s m v u out) (h : Lx (w.alloc o) w1 lp cp b j s' m' v' u' out') :
    (∀ k, w1.cell? ⟨w.heap.size, k, none⟩ = (w.alloc o).cell? ⟨w.heap.size, k, none⟩) ∧ (∀ k, w1.frozen? ⟨w.heap.size, k, none⟩ = (w.alloc o).frozen? ⟨w.heap.size, k, none⟩) ∧ w.heap.size < w1.heap.size := by
  obtain ⟨ao, cap, h1, h2⟩ := h0.lex
  have q1 := World.block_lt_of_cell? _ _ h1.p0
  have q2 := World.block_lt_of_cell? _ _ h1.cur.c0
  have q3 : w.heap.size < (w.alloc o).heap.size := by simp
  refine ⟨fun k => h.held.cell (a := ⟨w.heap.size, k, none⟩) q3 ?_ ?_, fun k => h.held.frozen (a := ⟨w.heap.size, k, none⟩) q3 ?_ ?_, Nat.lt_of_lt_of_le q3 h.held.size⟩
  all_goals
    simp at q1 q2 ⊢
    omega

theorem Held.set4 (B p : Nat) (w : World) (x0 x1 x2 x3 : Value) : Held B p p w ((((w.setCell ⟨p, 0, none⟩ x0).setCell ⟨p, 1, none⟩ x1).setCell ⟨p, 2, none⟩ x2).setCell ⟨p, 3, none⟩ x3) :=
  (((Held.set w ⟨p, 0, none⟩ x0 (.inl rfl)).trans (Held.set _ ⟨p, 1, none⟩ x1 (.inl rfl))).trans (Held.set _ ⟨p, 2, none⟩ x2 (.inl rfl))).trans (Held.set _ ⟨p, 3, none⟩ x3 (.inl rfl))

/-- behind a store to the result's own block -/
theorem Lx.close {w0 w w2 w3 : World} {o : Obj} {lp cp : Nat} {b s s' : List UInt8} {i j : Nat} {m v u m' v' u' : Value} {out out' : List UInt8} (h0 : Lx w0 w lp cp b i s m v u out) (h : Lx (w.alloc o) w2 lp cp b j s' m' v' u' out')
    (hs : ∀ B, Held B w.heap.size w.heap.size w2 w3) : Lx w0 w3 lp cp b j s' m' v' u' out' := by
  have hA := h0.below (Below.alloc (Below.refl _ _) (Nat.le_refl _) o)
  have hJ := hA.join h
  obtain ⟨ao, cap, h1, h2⟩ := h0.lex
  obtain ⟨ao', cap', k1, k2⟩ := hJ.lex
  have q1 := World.block_lt_of_cell? _ _ h1.p0
  have q2 := World.block_lt_of_cell? _ _ h1.cur.c0
  have hz := h0.held.size
  have g1 : lp ≠ w.heap.size := by simp at q1; omega
  have g2 : cp ≠ w.heap.size := by simp at q2; omega
  refine ⟨hJ.drp, ⟨ao', cap', k1.held (hs _) ⟨g1, g1⟩ ⟨g2, g2⟩ (fun hb a ha => ?_), k2⟩, hJ.held.trans ((hs _).widen (.inr (.inr hz)) (.inr (.inr hz))), ?_⟩
  · have := k2.ao hb a ha
    exact ⟨by omega, by omega⟩
  · refine OwnB.base (OwnB.held h.row (hs _) fun g hg => ?_) (show w0.heap.size ≤ (w.alloc o).heap.size by simp; omega)
    have := (World.ownsRow.lt h.row g hg).1
    simp at this
    exact ⟨by omega, by omega⟩

section
variable {w0 w w' : World} {lp cp : Nat} {b : List UInt8} {i : Nat} {s t : List UInt8} {m v u : Value} {out : List UInt8} {x : UInt8}

set_option maxHeartbeats 1600000 in
theorem number_l (h : Lx w0 w lp cp b i s m v u out) :
    Calls Tryz.prog 85 #[.pointer (some ⟨lp, 0, none⟩)] w fun e w' => TokP (numT s) w0 lp cp b 0 e w' := by
  have hat := h.at_
  have hsm := h.sm
  have hl : (s.take (rn s)).length ≤ 4000000 := by rw [List.length_take]; omega
  have hL0 := h
  have HL0 := hid hL0
  generalize hR : np (s.take (rn s)) = R
  generalize hT : numT s = T
  unfold numT at hT
  rw [hR] at hT
  obtain ⟨n, whole, err⟩ := R
  have HR := hid hR
  have HT := hid hT
  clear hR hat hsm h hL0 hT
  cases whole with
  | true =>
    go_enter Tryz.func85, Tryz.ntmps85
    go_wp2_with (first
      | (go_at_call 87; refine (run_l (HL0.out.below (Below.alloc (Below.refl _ _) (Nat.le_refl _) _)).fresh).mono ?_; rintro e w1 ⟨u1, rfl, hL⟩)
      | (go_at_call 106; refine (parse_k _ _ _ (Sl.own hL.row) hl).mono ?_; rintro e w2 ⟨rfl, hb⟩; rw [HR.out]; have hL := hL.below hb; obtain ⟨rc, rf, rs⟩ := HL0.out.rcell hL))
    refine bodyPost_ret (v := .tuple #[.agg #[.int .i64 1, .int .i64 0, .int .i64 n, .slice none 0 0], .int .i64 err]) (by simp [results, Tryz.results85, go_sem, rc]) rfl ?_
    have hF := fun x0 x1 x2 x3 => HL0.out.close hL.bare (fun B => Held.set4 B _ _ x0 x1 x2 x3)
    rw [← HT.out]
    by_cases he : err = 0
    · subst he; exact ⟨_, rfl, _, _, _, hF _ _ _ _⟩
    · rw [if_neg he]; exact ⟨⟨_, _, _, _, _, _, rfl⟩, _, _, _, _, _, _, hF _ _ _ _⟩
  | false =>
    go_enter Tryz.func85, Tryz.ntmps85
    go_wp2_with (first
      | (go_at_call 87; refine (run_l (HL0.out.below (Below.alloc (Below.refl _ _) (Nat.le_refl _) _)).fresh).mono ?_; rintro e w1 ⟨u1, rfl, hL⟩)
      | (go_at_call 106; refine (parse_k _ _ _ (Sl.own hL.row) hl).mono ?_; rintro e w2 ⟨rfl, hb⟩; rw [HR.out]; have hL := hL.below hb; obtain ⟨rc, rf, rs⟩ := HL0.out.rcell hL))
    refine bodyPost_ret (v := .tuple #[.agg #[.int .i64 2, .int .i64 0, .int .i64 n, .slice none 0 0], .int .i64 err]) (by simp [results, Tryz.results85, go_sem, rc]) rfl ?_
    have hF := fun x0 x1 x2 x3 => HL0.out.close hL.bare (fun B => Held.set4 B _ _ x0 x1 x2 x3)
    rw [← HT.out]
    by_cases he : err = 0
    · subst he; exact ⟨_, rfl, _, _, _, hF _ _ _ _⟩
    · rw [if_neg he]; exact ⟨⟨_, _, _, _, _, _, rfl⟩, _, _, _, _, _, _, hF _ _ _ _⟩
end
end Go.Proofs.YtjkoiknjffldjaaGreatDoor

/-
  kept: a token that has bytes, for each of the three readers; the program's walks. Condition: the lexer stands in its bytes.
-/
namespace Go.Proofs.YtjkoiknjffldjaaGreatDoor
open Go.RowKit
set_option linter.unusedVariables false
section
variable {w0 w w' : World} {lp cp : Nat} {b : List UInt8} {i : Nat} {s t : List UInt8} {m v u : Value} {out : List UInt8} {x : UInt8}

set_option maxHeartbeats 1600000 in
set_option maxRecDepth 100000 in
theorem kept_name (kind : Int) (h : Lx w0 w lp cp b i s m v u out) :
    Calls Tryz.prog 81 #[.pointer (some ⟨lp, 0, none⟩), .int .i64 kind, .int .i64 127, .func (Fn.func 82) #[.pointer (some ⟨lp, 0, none⟩)] #[]] w fun e w' => TokP (wrp kind (nm s [])) w0 lp cp b 0 e w' := by
  have HL0 := hid h
  have hL := (h.below (Below.alloc (Below.refl _ _) (Nat.le_refl _) (Obj.cells #[Value.int IntKind.i64 0, Value.int IntKind.i64 0, Value.int IntKind.i64 0, Value.slice none 0 0] 85))).fresh
  have p1 := hL.p1
  have p2 := hL.p2
  have f1 := hL.f1
  have f2 := hL.f2
  have hL := ((hL.set1 (m' := .int .i64 (127 : Nat))).set2 (v' := .slice none 0 0)).bare
  generalize hR : nm s [] = R
  have HR := hid hR
  clear h hR
  rcases R with err | ⟨out1, rest⟩
  · go_enter Tryz.func81, Tryz.ntmps81
    go_wp2_with (first
      | (go_at_call 82; refine (name_l hL).mono ?_; rw [HR.out]; rintro e w1 ⟨rfl, j, s1, v1, o1, hL⟩; obtain ⟨ao1, cap1, rfl, -, -, -⟩ := Rd.own hL.row; have p2 := hL.p2; obtain ⟨rc, rf, rs⟩ := HL0.out.rcell hL))
    refine bodyPost_ret (v := .tuple #[.agg #[.int .i64 kind, .int .i64 0, .int .i64 0, .slice ao1 o1.length cap1], .int .i64 err]) (by simp [results, Tryz.results81, go_sem, rc]) rfl ?_
    have hF := fun x0 x1 x2 x3 => HL0.out.close hL (fun B => Held.set4 B _ _ x0 x1 x2 x3)
    exact ⟨⟨_, _, _, _, _, _, rfl⟩, _, _, _, _, _, _, hF _ _ _ _⟩
  · go_enter Tryz.func81, Tryz.ntmps81
    go_wp2_with (first
      | (go_at_call 82; refine (name_l hL).mono ?_; rw [HR.out]; rintro e w1 ⟨rfl, j, v1, hL⟩; obtain ⟨ao1, cap1, rfl, -, -, -⟩ := Rd.own hL.row; have p2 := hL.p2; obtain ⟨rc, rf, rs⟩ := HL0.out.rcell hL))
    refine bodyPost_ret (v := .tuple #[.agg #[.int .i64 kind, .int .i64 0, .int .i64 0, .slice ao1 out1.length cap1], .int .i64 0]) (by simp [results, Tryz.results81, go_sem, rc]) rfl ?_
    have hF := fun x0 x1 x2 x3 => HL0.out.close hL (fun B => Held.set4 B _ _ x0 x1 x2 x3)
    exact ⟨_, rfl, _, _, _, hF _ _ _ _⟩

set_option maxHeartbeats 1600000 in
set_option maxRecDepth 100000 in
theorem kept_text (kind : Int) (h : Lx w0 w lp cp b i s m v u out) :
    Calls Tryz.prog 81 #[.pointer (some ⟨lp, 0, none⟩), .int .i64 kind, .int .i64 32767, .func (Fn.func 83) #[.pointer (some ⟨lp, 0, none⟩)] #[]] w fun e w' => TokP (wrp kind (TX s 1 [])) w0 lp cp b 0 e w' := by
  have HL0 := hid h
  have hL := (h.below (Below.alloc (Below.refl _ _) (Nat.le_refl _) (Obj.cells #[Value.int IntKind.i64 0, Value.int IntKind.i64 0, Value.int IntKind.i64 0, Value.slice none 0 0] 85))).fresh
  have p1 := hL.p1
  have p2 := hL.p2
  have f1 := hL.f1
  have f2 := hL.f2
  have hL := ((hL.set1 (m' := .int .i64 (32767 : Nat))).set2 (v' := .slice none 0 0)).bare
  generalize hR : TX s 1 [] = R
  have HR := hid hR
  clear h hR
  rcases R with err | ⟨out1, rest⟩
  · go_enter Tryz.func81, Tryz.ntmps81
    go_wp2_with (first
      | (go_at_call 83; refine (text_l hL).mono ?_; rw [HR.out]; rintro e w1 ⟨rfl, j, s1, v1, o1, hL⟩; obtain ⟨ao1, cap1, rfl, -, -, -⟩ := Rd.own hL.row; have p2 := hL.p2; obtain ⟨rc, rf, rs⟩ := HL0.out.rcell hL))
    refine bodyPost_ret (v := .tuple #[.agg #[.int .i64 kind, .int .i64 0, .int .i64 0, .slice ao1 o1.length cap1], .int .i64 err]) (by simp [results, Tryz.results81, go_sem, rc]) rfl ?_
    have hF := fun x0 x1 x2 x3 => HL0.out.close hL (fun B => Held.set4 B _ _ x0 x1 x2 x3)
    exact ⟨⟨_, _, _, _, _, _, rfl⟩, _, _, _, _, _, _, hF _ _ _ _⟩
  · go_enter Tryz.func81, Tryz.ntmps81
    go_wp2_with (first
      | (go_at_call 83; refine (text_l hL).mono ?_; rw [HR.out]; rintro e w1 ⟨rfl, j, v1, hL⟩; obtain ⟨ao1, cap1, rfl, -, -, -⟩ := Rd.own hL.row; have p2 := hL.p2; obtain ⟨rc, rf, rs⟩ := HL0.out.rcell hL))
    refine bodyPost_ret (v := .tuple #[.agg #[.int .i64 kind, .int .i64 0, .int .i64 0, .slice ao1 out1.length cap1], .int .i64 0]) (by simp [results, Tryz.results81, go_sem, rc]) rfl ?_
    have hF := fun x0 x1 x2 x3 => HL0.out.close hL (fun B => Held.set4 B _ _ x0 x1 x2 x3)
    exact ⟨_, rfl, _, _, _, hF _ _ _ _⟩

set_option maxHeartbeats 1600000 in
set_option maxRecDepth 100000 in
theorem kept_hex (kind : Int) (h : Lx w0 w lp cp b i s m v u out) :
    Calls Tryz.prog 81 #[.pointer (some ⟨lp, 0, none⟩), .int .i64 kind, .int .i64 32767, .func (Fn.func 84) #[.pointer (some ⟨lp, 0, none⟩)] #[]] w fun e w' => TokP (wrp kind (hx s (-1) [])) w0 lp cp b 0 e w' := by
  have HL0 := hid h
  have hL := (h.below (Below.alloc (Below.refl _ _) (Nat.le_refl _) (Obj.cells #[Value.int IntKind.i64 0, Value.int IntKind.i64 0, Value.int IntKind.i64 0, Value.slice none 0 0] 85))).fresh
  have p1 := hL.p1
  have p2 := hL.p2
  have f1 := hL.f1
  have f2 := hL.f2
  have hL := ((hL.set1 (m' := .int .i64 (32767 : Nat))).set2 (v' := .slice none 0 0)).bare
  generalize hR : hx s (-1) [] = R
  have HR := hid hR
  clear h hR
  rcases R with err | ⟨out1, rest⟩
  · go_enter Tryz.func81, Tryz.ntmps81
    go_wp2_with (first
      | (go_at_call 84; refine (hex_l hL).mono ?_; rw [HR.out]; rintro e w1 ⟨rfl, j, s1, v1, o1, hL⟩; obtain ⟨ao1, cap1, rfl, -, -, -⟩ := Rd.own hL.row; have p2 := hL.p2; obtain ⟨rc, rf, rs⟩ := HL0.out.rcell hL))
    refine bodyPost_ret (v := .tuple #[.agg #[.int .i64 kind, .int .i64 0, .int .i64 0, .slice ao1 o1.length cap1], .int .i64 err]) (by simp [results, Tryz.results81, go_sem, rc]) rfl ?_
    have hF := fun x0 x1 x2 x3 => HL0.out.close hL (fun B => Held.set4 B _ _ x0 x1 x2 x3)
    exact ⟨⟨_, _, _, _, _, _, rfl⟩, _, _, _, _, _, _, hF _ _ _ _⟩
  · go_enter Tryz.func81, Tryz.ntmps81
    go_wp2_with (first
      | (go_at_call 84; refine (hex_l hL).mono ?_; rw [HR.out]; rintro e w1 ⟨rfl, j, v1, hL⟩; obtain ⟨ao1, cap1, rfl, -, -, -⟩ := Rd.own hL.row; have p2 := hL.p2; obtain ⟨rc, rf, rs⟩ := HL0.out.rcell hL))
    refine bodyPost_ret (v := .tuple #[.agg #[.int .i64 kind, .int .i64 0, .int .i64 0, .slice ao1 out1.length cap1], .int .i64 0]) (by simp [results, Tryz.results81, go_sem, rc]) rfl ?_
    have hF := fun x0 x1 x2 x3 => HL0.out.close hL (fun B => Held.set4 B _ _ x0 x1 x2 x3)
    exact ⟨_, rfl, _, _, _, hF _ _ _ _⟩
end
end Go.Proofs.YtjkoiknjffldjaaGreatDoor

/-
  token: what stands there, as the model reads it; the program's walk. Condition: the lexer stands in its bytes.
-/
namespace Go.Proofs.YtjkoiknjffldjaaGreatDoor
open Go.RowKit
set_option linter.unusedVariables false

theorem pfx2 (a c : UInt8) (s : List UInt8) : pfx [a, c] s = decide (hd s = c8 a ∧ hd s.tail = c8 c) := by
  have ha := c8_ge a
  have hc := c8_ge c
  rcases s with _ | ⟨x, _ | ⟨y, t⟩⟩
  · rw [decide_eq_false (by rw [hd_nil]; omega)]; rfl
  · rw [decide_eq_false (by rw [List.tail_cons, hd_nil]; omega)]; simp [pfx]
  · rw [hd_cons, List.tail_cons, hd_cons]
    by_cases h : x = a ∧ y = c
    · obtain ⟨rfl, rfl⟩ := h; simp [pfx]
    · rw [decide_eq_false (fun q => h ⟨c8_inj q.1, c8_inj q.2⟩)]
      simp only [pfx, List.length_cons, List.length_nil, List.take]
      rw [beq_eq_false_iff_ne]
      intro q
      injection q with q1 q2
      injection q2 with q3
      exact h ⟨q1, q3⟩

theorem Lx.eqs {w0 w : World} {lp cp : Nat} {b : List UInt8} {i : Nat} {s t : List UInt8} {m v u : Value} {out : List UInt8} (h : Lx w0 w lp cp b i s m v u out) (e : s = t) : Lx w0 w lp cp b i t m v u out := e ▸ h

section
variable {w0 w w' : World} {lp cp : Nat} {b : List UInt8} {i : Nat} {s t : List UInt8} {m v u : Value} {out : List UInt8} {x : UInt8}

set_option maxHeartbeats 1600000 in
set_option maxRecDepth 100000 in
theorem token_end (h : Lx w0 w lp cp b i [] m v u out) :
    Calls Tryz.prog 62 #[.pointer (some ⟨lp, 0, none⟩)] w fun e w' => TokP (.tok 0 0 [] []) w0 lp cp b 0 e w' := by
  have HL0 := hid h
  have hL := (h.below (Below.alloc (Below.refl _ _) (Nat.le_refl _) (Obj.cells #[Value.int IntKind.i64 0, Value.int IntKind.i64 0, Value.int IntKind.i64 0, Value.slice none 0 0] 85))).fresh
  have p0 := hL.p0
  clear h
  go_enter Tryz.func62, Tryz.ntmps62
  go_wp2_with (first | (go_at_call 77; refine (peek0 hL).mono ?_; rintro e w1 ⟨rfl, hL, -⟩; have p0 := hL.p0; obtain ⟨rc, rf, rs⟩ := HL0.out.rcell hL; first | rw [hd_cons] | rw [hd_nil] | skip))
  refine bodyPost_ret (v := .tuple #[.agg #[.int .i64 0, .int .i64 0, .int .i64 0, .slice none 0 0], .int .i64 0]) (by simp [results, Tryz.results62, go_sem, rc]) rfl ?_
  have hF := fun x0 x1 x2 x3 => HL0.out.close hL (fun B => Held.set4 B _ _ x0 x1 x2 x3)
  have hF := fun x0 x1 x2 x3 => HL0.out.close hL.bare (fun B => Held.set4 B _ _ x0 x1 x2 x3)
  exact ⟨_, rfl, _, _, _, hF _ _ _ _⟩

set_option maxHeartbeats 1600000 in
set_option maxRecDepth 100000 in
theorem token_91 (hcx : c8 x = 91) (h : Lx w0 w lp cp b i (x :: t) m v u out) :
    Calls Tryz.prog 62 #[.pointer (some ⟨lp, 0, none⟩)] w fun e w' => TokP (.tok 5 0 [] t) w0 lp cp b 0 e w' := by
  have x0 := c8_ge x
  have x1 := c8_le x
  have P91 : Hid (pfx [91] (x :: t) = true) := hid (by rw [pfx1, hd_cons]; exact decide_eq_true (hcx))
  clear hcx
  have HL0 := hid h
  have hL := (h.below (Below.alloc (Below.refl _ _) (Nat.le_refl _) (Obj.cells #[Value.int IntKind.i64 0, Value.int IntKind.i64 0, Value.int IntKind.i64 0, Value.slice none 0 0] 85))).fresh
  have p0 := hL.p0
  clear h
  go_enter Tryz.func62, Tryz.ntmps62
  go_wp2_with (first | (go_at_call 77; refine (peek0 hL).mono ?_; rintro e w1 ⟨rfl, hL, -⟩; have p0 := hL.p0; obtain ⟨rc, rf, rs⟩ := HL0.out.rcell hL; first | rw [hd_cons] | rw [hd_nil] | skip) | (go_at_call 80; refine (match_yes _ (by decide) P91.out hL).mono ?_; rintro e w1 ⟨rfl, hL⟩; have p0 := hL.p0; obtain ⟨rc, rf, rs⟩ := HL0.out.rcell hL))
  refine bodyPost_ret (v := .tuple #[.agg #[.int .i64 5, .int .i64 0, .int .i64 0, .slice none 0 0], .int .i64 0]) (by simp [results, Tryz.results62, go_sem, rc]) rfl ?_
  have hF := fun x0 x1 x2 x3 => HL0.out.close (hL.bare.eqs (show _ = t from rfl)) (fun B => Held.set4 B _ _ x0 x1 x2 x3)
  exact ⟨_, rfl, _, _, _, hF _ _ _ _⟩

set_option maxHeartbeats 1600000 in
set_option maxRecDepth 100000 in
theorem token_93 (hcx : c8 x = 93) (h : Lx w0 w lp cp b i (x :: t) m v u out) :
    Calls Tryz.prog 62 #[.pointer (some ⟨lp, 0, none⟩)] w fun e w' => TokP (.tok 6 0 [] t) w0 lp cp b 0 e w' := by
  have x0 := c8_ge x
  have x1 := c8_le x
  have P91 : Hid (pfx [91] (x :: t) = false) := hid (by rw [pfx1, hd_cons]; exact decide_eq_false (by rw [hcx]; decide))
  have P93 : Hid (pfx [93] (x :: t) = true) := hid (by rw [pfx1, hd_cons]; exact decide_eq_true (hcx))
  clear hcx
  have HL0 := hid h
  have hL := (h.below (Below.alloc (Below.refl _ _) (Nat.le_refl _) (Obj.cells #[Value.int IntKind.i64 0, Value.int IntKind.i64 0, Value.int IntKind.i64 0, Value.slice none 0 0] 85))).fresh
  have p0 := hL.p0
  clear h
  go_enter Tryz.func62, Tryz.ntmps62
  go_wp2_with (first | (go_at_call 77; refine (peek0 hL).mono ?_; rintro e w1 ⟨rfl, hL, -⟩; have p0 := hL.p0; obtain ⟨rc, rf, rs⟩ := HL0.out.rcell hL; first | rw [hd_cons] | rw [hd_nil] | skip) | (go_at_call 80; refine (match_no _ (by decide) P91.out hL).mono ?_; rintro e w1 ⟨rfl, hL⟩; have p0 := hL.p0) | (go_at_call 80; refine (match_yes _ (by decide) P93.out hL).mono ?_; rintro e w1 ⟨rfl, hL⟩; have p0 := hL.p0; obtain ⟨rc, rf, rs⟩ := HL0.out.rcell hL))
  refine bodyPost_ret (v := .tuple #[.agg #[.int .i64 6, .int .i64 0, .int .i64 0, .slice none 0 0], .int .i64 0]) (by simp [results, Tryz.results62, go_sem, rc]) rfl ?_
  have hF := fun x0 x1 x2 x3 => HL0.out.close (hL.bare.eqs (show _ = t from rfl)) (fun B => Held.set4 B _ _ x0 x1 x2 x3)
  exact ⟨_, rfl, _, _, _, hF _ _ _ _⟩

set_option maxHeartbeats 1600000 in
set_option maxRecDepth 100000 in
theorem token_6060 (hcx : c8 x = 60) (hy : hd t = 60) (h : Lx w0 w lp cp b i (x :: t) m v u out) :
    Calls Tryz.prog 62 #[.pointer (some ⟨lp, 0, none⟩)] w fun e w' => TokP (.tok 7 0 [] t.tail) w0 lp cp b 0 e w' := by
  have x0 := c8_ge x
  have x1 := c8_le x
  have P91 : Hid (pfx [91] (x :: t) = false) := hid (by rw [pfx1, hd_cons]; exact decide_eq_false (by rw [hcx]; decide))
  have P93 : Hid (pfx [93] (x :: t) = false) := hid (by rw [pfx1, hd_cons]; exact decide_eq_false (by rw [hcx]; decide))
  have P6060 : Hid (pfx [60, 60] (x :: t) = true) := hid (by rw [pfx2, hd_cons, List.tail_cons]; exact decide_eq_true (⟨hcx, hy⟩))
  clear hcx hy
  have HL0 := hid h
  have hL := (h.below (Below.alloc (Below.refl _ _) (Nat.le_refl _) (Obj.cells #[Value.int IntKind.i64 0, Value.int IntKind.i64 0, Value.int IntKind.i64 0, Value.slice none 0 0] 85))).fresh
  have p0 := hL.p0
  clear h
  go_enter Tryz.func62, Tryz.ntmps62
  go_wp2_with (first | (go_at_call 77; refine (peek0 hL).mono ?_; rintro e w1 ⟨rfl, hL, -⟩; have p0 := hL.p0; obtain ⟨rc, rf, rs⟩ := HL0.out.rcell hL; first | rw [hd_cons] | rw [hd_nil] | skip) | (go_at_call 80; refine (match_no _ (by decide) P91.out hL).mono ?_; rintro e w1 ⟨rfl, hL⟩; have p0 := hL.p0) | (go_at_call 80; refine (match_no _ (by decide) P93.out hL).mono ?_; rintro e w1 ⟨rfl, hL⟩; have p0 := hL.p0) | (go_at_call 80; refine (match_yes _ (by decide) P6060.out hL).mono ?_; rintro e w1 ⟨rfl, hL⟩; have p0 := hL.p0; obtain ⟨rc, rf, rs⟩ := HL0.out.rcell hL))
  refine bodyPost_ret (v := .tuple #[.agg #[.int .i64 7, .int .i64 0, .int .i64 0, .slice none 0 0], .int .i64 0]) (by simp [results, Tryz.results62, go_sem, rc]) rfl ?_
  have hF := fun x0 x1 x2 x3 => HL0.out.close (hL.bare.eqs (show _ = t.tail from List.drop_one)) (fun B => Held.set4 B _ _ x0 x1 x2 x3)
  exact ⟨_, rfl, _, _, _, hF _ _ _ _⟩

set_option maxHeartbeats 1600000 in
set_option maxRecDepth 100000 in
theorem token_6262 (hcx : c8 x = 62) (hy : hd t = 62) (h : Lx w0 w lp cp b i (x :: t) m v u out) :
    Calls Tryz.prog 62 #[.pointer (some ⟨lp, 0, none⟩)] w fun e w' => TokP (.tok 8 0 [] t.tail) w0 lp cp b 0 e w' := by
  have x0 := c8_ge x
  have x1 := c8_le x
  have P91 : Hid (pfx [91] (x :: t) = false) := hid (by rw [pfx1, hd_cons]; exact decide_eq_false (by rw [hcx]; decide))
  have P93 : Hid (pfx [93] (x :: t) = false) := hid (by rw [pfx1, hd_cons]; exact decide_eq_false (by rw [hcx]; decide))
  have P6060 : Hid (pfx [60, 60] (x :: t) = false) := hid (by rw [pfx2, hd_cons, List.tail_cons]; exact decide_eq_false (fun q => absurd q.1 (by rw [hcx]; decide)))
  have P6262 : Hid (pfx [62, 62] (x :: t) = true) := hid (by rw [pfx2, hd_cons, List.tail_cons]; exact decide_eq_true (⟨hcx, hy⟩))
  clear hcx hy
  have HL0 := hid h
  have hL := (h.below (Below.alloc (Below.refl _ _) (Nat.le_refl _) (Obj.cells #[Value.int IntKind.i64 0, Value.int IntKind.i64 0, Value.int IntKind.i64 0, Value.slice none 0 0] 85))).fresh
  have p0 := hL.p0
  clear h
  go_enter Tryz.func62, Tryz.ntmps62
  go_wp2_with (first | (go_at_call 77; refine (peek0 hL).mono ?_; rintro e w1 ⟨rfl, hL, -⟩; have p0 := hL.p0; obtain ⟨rc, rf, rs⟩ := HL0.out.rcell hL; first | rw [hd_cons] | rw [hd_nil] | skip) | (go_at_call 80; refine (match_no _ (by decide) P91.out hL).mono ?_; rintro e w1 ⟨rfl, hL⟩; have p0 := hL.p0) | (go_at_call 80; refine (match_no _ (by decide) P93.out hL).mono ?_; rintro e w1 ⟨rfl, hL⟩; have p0 := hL.p0) | (go_at_call 80; refine (match_no _ (by decide) P6060.out hL).mono ?_; rintro e w1 ⟨rfl, hL⟩; have p0 := hL.p0) | (go_at_call 80; refine (match_yes _ (by decide) P6262.out hL).mono ?_; rintro e w1 ⟨rfl, hL⟩; have p0 := hL.p0; obtain ⟨rc, rf, rs⟩ := HL0.out.rcell hL))
  refine bodyPost_ret (v := .tuple #[.agg #[.int .i64 8, .int .i64 0, .int .i64 0, .slice none 0 0], .int .i64 0]) (by simp [results, Tryz.results62, go_sem, rc]) rfl ?_
  have hF := fun x0 x1 x2 x3 => HL0.out.close (hL.bare.eqs (show _ = t.tail from List.drop_one)) (fun B => Held.set4 B _ _ x0 x1 x2 x3)
  exact ⟨_, rfl, _, _, _, hF _ _ _ _⟩

set_option maxHeartbeats 1600000 in
set_option maxRecDepth 100000 in
theorem token_47 (hcx : c8 x = 47) (h : Lx w0 w lp cp b i (x :: t) m v u out) :
    Calls Tryz.prog 62 #[.pointer (some ⟨lp, 0, none⟩)] w fun e w' => TokP (wrp 4 (nm t [])) w0 lp cp b 0 e w' := by
  have x0 := c8_ge x
  have x1 := c8_le x
  have P91 : Hid (pfx [91] (x :: t) = false) := hid (by rw [pfx1, hd_cons]; exact decide_eq_false (by rw [hcx]; decide))
  have P93 : Hid (pfx [93] (x :: t) = false) := hid (by rw [pfx1, hd_cons]; exact decide_eq_false (by rw [hcx]; decide))
  have P6060 : Hid (pfx [60, 60] (x :: t) = false) := hid (by rw [pfx2, hd_cons, List.tail_cons]; exact decide_eq_false (fun q => absurd q.1 (by rw [hcx]; decide)))
  have P6262 : Hid (pfx [62, 62] (x :: t) = false) := hid (by rw [pfx2, hd_cons, List.tail_cons]; exact decide_eq_false (fun q => absurd q.1 (by rw [hcx]; decide)))
  have P47 : Hid (pfx [47] (x :: t) = true) := hid (by rw [pfx1, hd_cons]; exact decide_eq_true (hcx))
  clear hcx
  generalize hR : nm t [] = R
  have HR := hid hR
  clear hR
  rcases R with err | ⟨out1, rest⟩
  · have HL0 := hid h
    have hL := (h.below (Below.alloc (Below.refl _ _) (Nat.le_refl _) (Obj.cells #[Value.int IntKind.i64 0, Value.int IntKind.i64 0, Value.int IntKind.i64 0, Value.slice none 0 0] 85))).fresh
    have p0 := hL.p0
    clear h
    go_enter Tryz.func62, Tryz.ntmps62
    go_wp2_with (first | (go_at_call 77; refine (peek0 hL).mono ?_; rintro e w1 ⟨rfl, hL, -⟩; have p0 := hL.p0; obtain ⟨rc, rf, rs⟩ := HL0.out.rcell hL; first | rw [hd_cons] | rw [hd_nil] | skip) | (go_at_call 80; refine (match_no _ (by decide) P91.out hL).mono ?_; rintro e w1 ⟨rfl, hL⟩; have p0 := hL.p0) | (go_at_call 80; refine (match_no _ (by decide) P93.out hL).mono ?_; rintro e w1 ⟨rfl, hL⟩; have p0 := hL.p0) | (go_at_call 80; refine (match_no _ (by decide) P6060.out hL).mono ?_; rintro e w1 ⟨rfl, hL⟩; have p0 := hL.p0) | (go_at_call 80; refine (match_no _ (by decide) P6262.out hL).mono ?_; rintro e w1 ⟨rfl, hL⟩; have p0 := hL.p0) | (go_at_call 80; refine (match_yes _ (by decide) P47.out hL).mono ?_; rintro e w1 ⟨rfl, hL⟩; have p0 := hL.p0; obtain ⟨rc, rf, rs⟩ := HL0.out.rcell hL) | (go_at_call 81; refine (kept_name 4 (hL.eqs (show _ = t from rfl))).mono ?_; rw [HR.out]; rintro e w1 ⟨⟨k1, n1, a1, ao1, l1, c1, rfl⟩, j, s1, m1, v1, u1, o1, hL⟩; obtain ⟨rc, rf, rs⟩ := HL0.out.rcell hL))
    refine bodyPost_ret (v := .tuple #[.agg #[.int .i64 k1, .int .i64 a1, .int .i64 n1, .slice ao1 l1 c1], .int .i64 err]) (by simp [results, Tryz.results62, go_sem, rc]) rfl ?_
    have hF := fun x0 x1 x2 x3 => HL0.out.close hL (fun B => Held.set4 B _ _ x0 x1 x2 x3)
    exact ⟨⟨_, _, _, _, _, _, rfl⟩, _, _, _, _, _, _, hF _ _ _ _⟩
  · have HL0 := hid h
    have hL := (h.below (Below.alloc (Below.refl _ _) (Nat.le_refl _) (Obj.cells #[Value.int IntKind.i64 0, Value.int IntKind.i64 0, Value.int IntKind.i64 0, Value.slice none 0 0] 85))).fresh
    have p0 := hL.p0
    clear h
    go_enter Tryz.func62, Tryz.ntmps62
    go_wp2_with (first | (go_at_call 77; refine (peek0 hL).mono ?_; rintro e w1 ⟨rfl, hL, -⟩; have p0 := hL.p0; obtain ⟨rc, rf, rs⟩ := HL0.out.rcell hL; first | rw [hd_cons] | rw [hd_nil] | skip) | (go_at_call 80; refine (match_no _ (by decide) P91.out hL).mono ?_; rintro e w1 ⟨rfl, hL⟩; have p0 := hL.p0) | (go_at_call 80; refine (match_no _ (by decide) P93.out hL).mono ?_; rintro e w1 ⟨rfl, hL⟩; have p0 := hL.p0) | (go_at_call 80; refine (match_no _ (by decide) P6060.out hL).mono ?_; rintro e w1 ⟨rfl, hL⟩; have p0 := hL.p0) | (go_at_call 80; refine (match_no _ (by decide) P6262.out hL).mono ?_; rintro e w1 ⟨rfl, hL⟩; have p0 := hL.p0) | (go_at_call 80; refine (match_yes _ (by decide) P47.out hL).mono ?_; rintro e w1 ⟨rfl, hL⟩; have p0 := hL.p0; obtain ⟨rc, rf, rs⟩ := HL0.out.rcell hL) | (go_at_call 81; refine (kept_name 4 (hL.eqs (show _ = t from rfl))).mono ?_; rw [HR.out]; rintro e w1 ⟨u1, rfl, j, m1, v1, hL⟩; obtain ⟨ao1, cap1, rfl, -, -, -⟩ := Rd.own hL.row; obtain ⟨rc, rf, rs⟩ := HL0.out.rcell hL))
    refine bodyPost_ret (v := .tuple #[.agg #[.int .i64 4, .int .i64 0, .int .i64 0, .slice ao1 out1.length cap1], .int .i64 0]) (by simp [results, Tryz.results62, go_sem, rc]) rfl ?_
    have hF := fun x0 x1 x2 x3 => HL0.out.close hL (fun B => Held.set4 B _ _ x0 x1 x2 x3)
    exact ⟨_, rfl, _, _, _, hF _ _ _ _⟩

set_option maxHeartbeats 1600000 in
set_option maxRecDepth 100000 in
theorem token_40 (hcx : c8 x = 40) (h : Lx w0 w lp cp b i (x :: t) m v u out) :
    Calls Tryz.prog 62 #[.pointer (some ⟨lp, 0, none⟩)] w fun e w' => TokP (wrp 3 (TX t 1 [])) w0 lp cp b 0 e w' := by
  have x0 := c8_ge x
  have x1 := c8_le x
  have P91 : Hid (pfx [91] (x :: t) = false) := hid (by rw [pfx1, hd_cons]; exact decide_eq_false (by rw [hcx]; decide))
  have P93 : Hid (pfx [93] (x :: t) = false) := hid (by rw [pfx1, hd_cons]; exact decide_eq_false (by rw [hcx]; decide))
  have P6060 : Hid (pfx [60, 60] (x :: t) = false) := hid (by rw [pfx2, hd_cons, List.tail_cons]; exact decide_eq_false (fun q => absurd q.1 (by rw [hcx]; decide)))
  have P6262 : Hid (pfx [62, 62] (x :: t) = false) := hid (by rw [pfx2, hd_cons, List.tail_cons]; exact decide_eq_false (fun q => absurd q.1 (by rw [hcx]; decide)))
  have P47 : Hid (pfx [47] (x :: t) = false) := hid (by rw [pfx1, hd_cons]; exact decide_eq_false (by rw [hcx]; decide))
  have P40 : Hid (pfx [40] (x :: t) = true) := hid (by rw [pfx1, hd_cons]; exact decide_eq_true (hcx))
  clear hcx
  generalize hR : TX t 1 [] = R
  have HR := hid hR
  clear hR
  rcases R with err | ⟨out1, rest⟩
  · have HL0 := hid h
    have hL := (h.below (Below.alloc (Below.refl _ _) (Nat.le_refl _) (Obj.cells #[Value.int IntKind.i64 0, Value.int IntKind.i64 0, Value.int IntKind.i64 0, Value.slice none 0 0] 85))).fresh
    have p0 := hL.p0
    clear h
    go_enter Tryz.func62, Tryz.ntmps62
    go_wp2_with (first | (go_at_call 77; refine (peek0 hL).mono ?_; rintro e w1 ⟨rfl, hL, -⟩; have p0 := hL.p0; obtain ⟨rc, rf, rs⟩ := HL0.out.rcell hL; first | rw [hd_cons] | rw [hd_nil] | skip) | (go_at_call 80; refine (match_no _ (by decide) P91.out hL).mono ?_; rintro e w1 ⟨rfl, hL⟩; have p0 := hL.p0) | (go_at_call 80; refine (match_no _ (by decide) P93.out hL).mono ?_; rintro e w1 ⟨rfl, hL⟩; have p0 := hL.p0) | (go_at_call 80; refine (match_no _ (by decide) P6060.out hL).mono ?_; rintro e w1 ⟨rfl, hL⟩; have p0 := hL.p0) | (go_at_call 80; refine (match_no _ (by decide) P6262.out hL).mono ?_; rintro e w1 ⟨rfl, hL⟩; have p0 := hL.p0) | (go_at_call 80; refine (match_no _ (by decide) P47.out hL).mono ?_; rintro e w1 ⟨rfl, hL⟩; have p0 := hL.p0) | (go_at_call 80; refine (match_yes _ (by decide) P40.out hL).mono ?_; rintro e w1 ⟨rfl, hL⟩; have p0 := hL.p0; obtain ⟨rc, rf, rs⟩ := HL0.out.rcell hL) | (go_at_call 81; refine (kept_text 3 (hL.eqs (show _ = t from rfl))).mono ?_; rw [HR.out]; rintro e w1 ⟨⟨k1, n1, a1, ao1, l1, c1, rfl⟩, j, s1, m1, v1, u1, o1, hL⟩; obtain ⟨rc, rf, rs⟩ := HL0.out.rcell hL))
    refine bodyPost_ret (v := .tuple #[.agg #[.int .i64 k1, .int .i64 a1, .int .i64 n1, .slice ao1 l1 c1], .int .i64 err]) (by simp [results, Tryz.results62, go_sem, rc]) rfl ?_
    have hF := fun x0 x1 x2 x3 => HL0.out.close hL (fun B => Held.set4 B _ _ x0 x1 x2 x3)
    exact ⟨⟨_, _, _, _, _, _, rfl⟩, _, _, _, _, _, _, hF _ _ _ _⟩
  · have HL0 := hid h
    have hL := (h.below (Below.alloc (Below.refl _ _) (Nat.le_refl _) (Obj.cells #[Value.int IntKind.i64 0, Value.int IntKind.i64 0, Value.int IntKind.i64 0, Value.slice none 0 0] 85))).fresh
    have p0 := hL.p0
    clear h
    go_enter Tryz.func62, Tryz.ntmps62
    go_wp2_with (first | (go_at_call 77; refine (peek0 hL).mono ?_; rintro e w1 ⟨rfl, hL, -⟩; have p0 := hL.p0; obtain ⟨rc, rf, rs⟩ := HL0.out.rcell hL; first | rw [hd_cons] | rw [hd_nil] | skip) | (go_at_call 80; refine (match_no _ (by decide) P91.out hL).mono ?_; rintro e w1 ⟨rfl, hL⟩; have p0 := hL.p0) | (go_at_call 80; refine (match_no _ (by decide) P93.out hL).mono ?_; rintro e w1 ⟨rfl, hL⟩; have p0 := hL.p0) | (go_at_call 80; refine (match_no _ (by decide) P6060.out hL).mono ?_; rintro e w1 ⟨rfl, hL⟩; have p0 := hL.p0) | (go_at_call 80; refine (match_no _ (by decide) P6262.out hL).mono ?_; rintro e w1 ⟨rfl, hL⟩; have p0 := hL.p0) | (go_at_call 80; refine (match_no _ (by decide) P47.out hL).mono ?_; rintro e w1 ⟨rfl, hL⟩; have p0 := hL.p0) | (go_at_call 80; refine (match_yes _ (by decide) P40.out hL).mono ?_; rintro e w1 ⟨rfl, hL⟩; have p0 := hL.p0; obtain ⟨rc, rf, rs⟩ := HL0.out.rcell hL) | (go_at_call 81; refine (kept_text 3 (hL.eqs (show _ = t from rfl))).mono ?_; rw [HR.out]; rintro e w1 ⟨u1, rfl, j, m1, v1, hL⟩; obtain ⟨ao1, cap1, rfl, -, -, -⟩ := Rd.own hL.row; obtain ⟨rc, rf, rs⟩ := HL0.out.rcell hL))
    refine bodyPost_ret (v := .tuple #[.agg #[.int .i64 3, .int .i64 0, .int .i64 0, .slice ao1 out1.length cap1], .int .i64 0]) (by simp [results, Tryz.results62, go_sem, rc]) rfl ?_
    have hF := fun x0 x1 x2 x3 => HL0.out.close hL (fun B => Held.set4 B _ _ x0 x1 x2 x3)
    exact ⟨_, rfl, _, _, _, hF _ _ _ _⟩

set_option maxHeartbeats 1600000 in
set_option maxRecDepth 100000 in
theorem token_60 (hcx : c8 x = 60) (hy : ¬ hd t = 60) (h : Lx w0 w lp cp b i (x :: t) m v u out) :
    Calls Tryz.prog 62 #[.pointer (some ⟨lp, 0, none⟩)] w fun e w' => TokP (wrp 3 (hx t (-1) [])) w0 lp cp b 0 e w' := by
  have x0 := c8_ge x
  have x1 := c8_le x
  have P91 : Hid (pfx [91] (x :: t) = false) := hid (by rw [pfx1, hd_cons]; exact decide_eq_false (by rw [hcx]; decide))
  have P93 : Hid (pfx [93] (x :: t) = false) := hid (by rw [pfx1, hd_cons]; exact decide_eq_false (by rw [hcx]; decide))
  have P6060 : Hid (pfx [60, 60] (x :: t) = false) := hid (by rw [pfx2, hd_cons, List.tail_cons]; exact decide_eq_false (fun q => hy q.2))
  have P6262 : Hid (pfx [62, 62] (x :: t) = false) := hid (by rw [pfx2, hd_cons, List.tail_cons]; exact decide_eq_false (fun q => absurd q.1 (by rw [hcx]; decide)))
  have P47 : Hid (pfx [47] (x :: t) = false) := hid (by rw [pfx1, hd_cons]; exact decide_eq_false (by rw [hcx]; decide))
  have P40 : Hid (pfx [40] (x :: t) = false) := hid (by rw [pfx1, hd_cons]; exact decide_eq_false (by rw [hcx]; decide))
  have P60 : Hid (pfx [60] (x :: t) = true) := hid (by rw [pfx1, hd_cons]; exact decide_eq_true (hcx))
  clear hcx hy
  generalize hR : hx t (-1) [] = R
  have HR := hid hR
  clear hR
  rcases R with err | ⟨out1, rest⟩
  · have HL0 := hid h
    have hL := (h.below (Below.alloc (Below.refl _ _) (Nat.le_refl _) (Obj.cells #[Value.int IntKind.i64 0, Value.int IntKind.i64 0, Value.int IntKind.i64 0, Value.slice none 0 0] 85))).fresh
    have p0 := hL.p0
    clear h
    go_enter Tryz.func62, Tryz.ntmps62
    go_wp2_with (first | (go_at_call 77; refine (peek0 hL).mono ?_; rintro e w1 ⟨rfl, hL, -⟩; have p0 := hL.p0; obtain ⟨rc, rf, rs⟩ := HL0.out.rcell hL; first | rw [hd_cons] | rw [hd_nil] | skip) | (go_at_call 80; refine (match_no _ (by decide) P91.out hL).mono ?_; rintro e w1 ⟨rfl, hL⟩; have p0 := hL.p0) | (go_at_call 80; refine (match_no _ (by decide) P93.out hL).mono ?_; rintro e w1 ⟨rfl, hL⟩; have p0 := hL.p0) | (go_at_call 80; refine (match_no _ (by decide) P6060.out hL).mono ?_; rintro e w1 ⟨rfl, hL⟩; have p0 := hL.p0) | (go_at_call 80; refine (match_no _ (by decide) P6262.out hL).mono ?_; rintro e w1 ⟨rfl, hL⟩; have p0 := hL.p0) | (go_at_call 80; refine (match_no _ (by decide) P47.out hL).mono ?_; rintro e w1 ⟨rfl, hL⟩; have p0 := hL.p0) | (go_at_call 80; refine (match_no _ (by decide) P40.out hL).mono ?_; rintro e w1 ⟨rfl, hL⟩; have p0 := hL.p0) | (go_at_call 80; refine (match_yes _ (by decide) P60.out hL).mono ?_; rintro e w1 ⟨rfl, hL⟩; have p0 := hL.p0; obtain ⟨rc, rf, rs⟩ := HL0.out.rcell hL) | (go_at_call 81; refine (kept_hex 3 (hL.eqs (show _ = t from rfl))).mono ?_; rw [HR.out]; rintro e w1 ⟨⟨k1, n1, a1, ao1, l1, c1, rfl⟩, j, s1, m1, v1, u1, o1, hL⟩; obtain ⟨rc, rf, rs⟩ := HL0.out.rcell hL))
    refine bodyPost_ret (v := .tuple #[.agg #[.int .i64 k1, .int .i64 a1, .int .i64 n1, .slice ao1 l1 c1], .int .i64 err]) (by simp [results, Tryz.results62, go_sem, rc]) rfl ?_
    have hF := fun x0 x1 x2 x3 => HL0.out.close hL (fun B => Held.set4 B _ _ x0 x1 x2 x3)
    exact ⟨⟨_, _, _, _, _, _, rfl⟩, _, _, _, _, _, _, hF _ _ _ _⟩
  · have HL0 := hid h
    have hL := (h.below (Below.alloc (Below.refl _ _) (Nat.le_refl _) (Obj.cells #[Value.int IntKind.i64 0, Value.int IntKind.i64 0, Value.int IntKind.i64 0, Value.slice none 0 0] 85))).fresh
    have p0 := hL.p0
    clear h
    go_enter Tryz.func62, Tryz.ntmps62
    go_wp2_with (first | (go_at_call 77; refine (peek0 hL).mono ?_; rintro e w1 ⟨rfl, hL, -⟩; have p0 := hL.p0; obtain ⟨rc, rf, rs⟩ := HL0.out.rcell hL; first | rw [hd_cons] | rw [hd_nil] | skip) | (go_at_call 80; refine (match_no _ (by decide) P91.out hL).mono ?_; rintro e w1 ⟨rfl, hL⟩; have p0 := hL.p0) | (go_at_call 80; refine (match_no _ (by decide) P93.out hL).mono ?_; rintro e w1 ⟨rfl, hL⟩; have p0 := hL.p0) | (go_at_call 80; refine (match_no _ (by decide) P6060.out hL).mono ?_; rintro e w1 ⟨rfl, hL⟩; have p0 := hL.p0) | (go_at_call 80; refine (match_no _ (by decide) P6262.out hL).mono ?_; rintro e w1 ⟨rfl, hL⟩; have p0 := hL.p0) | (go_at_call 80; refine (match_no _ (by decide) P47.out hL).mono ?_; rintro e w1 ⟨rfl, hL⟩; have p0 := hL.p0) | (go_at_call 80; refine (match_no _ (by decide) P40.out hL).mono ?_; rintro e w1 ⟨rfl, hL⟩; have p0 := hL.p0) | (go_at_call 80; refine (match_yes _ (by decide) P60.out hL).mono ?_; rintro e w1 ⟨rfl, hL⟩; have p0 := hL.p0; obtain ⟨rc, rf, rs⟩ := HL0.out.rcell hL) | (go_at_call 81; refine (kept_hex 3 (hL.eqs (show _ = t from rfl))).mono ?_; rw [HR.out]; rintro e w1 ⟨u1, rfl, j, m1, v1, hL⟩; obtain ⟨ao1, cap1, rfl, -, -, -⟩ := Rd.own hL.row; obtain ⟨rc, rf, rs⟩ := HL0.out.rcell hL))
    refine bodyPost_ret (v := .tuple #[.agg #[.int .i64 3, .int .i64 0, .int .i64 0, .slice ao1 out1.length cap1], .int .i64 0]) (by simp [results, Tryz.results62, go_sem, rc]) rfl ?_
    have hF := fun x0 x1 x2 x3 => HL0.out.close hL (fun B => Held.set4 B _ _ x0 x1 x2 x3)
    exact ⟨_, rfl, _, _, _, hF _ _ _ _⟩

set_option maxHeartbeats 1600000 in
set_option maxRecDepth 100000 in
theorem token_num (h91 : ¬ c8 x = 91) (h93 : ¬ c8 x = 93) (h6060 : ¬ (c8 x = 60 ∧ hd t = 60)) (h6262 : ¬ (c8 x = 62 ∧ hd t = 62)) (h47 : ¬ c8 x = 47) (h40 : ¬ c8 x = 40) (h60 : ¬ c8 x = 60) (hn : c8 x = 43 ∨ c8 x = 45 ∨ c8 x = 46 ∨ 48 ≤ c8 x ∧ c8 x ≤ 57) (h : Lx w0 w lp cp b i (x :: t) m v u out) :
    Calls Tryz.prog 62 #[.pointer (some ⟨lp, 0, none⟩)] w fun e w' => TokP (numT (x :: t)) w0 lp cp b 0 e w' := by
  have x0 := c8_ge x
  have x1 := c8_le x
  have P91 : Hid (pfx [91] (x :: t) = false) := hid (by rw [pfx1, hd_cons]; exact decide_eq_false h91)
  have P93 : Hid (pfx [93] (x :: t) = false) := hid (by rw [pfx1, hd_cons]; exact decide_eq_false h93)
  have P47 : Hid (pfx [47] (x :: t) = false) := hid (by rw [pfx1, hd_cons]; exact decide_eq_false h47)
  have P40 : Hid (pfx [40] (x :: t) = false) := hid (by rw [pfx1, hd_cons]; exact decide_eq_false h40)
  have P60 : Hid (pfx [60] (x :: t) = false) := hid (by rw [pfx1, hd_cons]; exact decide_eq_false h60)
  have P6060 : Hid (pfx [60, 60] (x :: t) = false) := hid (by rw [pfx2, hd_cons, List.tail_cons]; exact decide_eq_false h6060)
  have P6262 : Hid (pfx [62, 62] (x :: t) = false) := hid (by rw [pfx2, hd_cons, List.tail_cons]; exact decide_eq_false h6262)
  clear h91 h93 h6060 h6262 h47 h40 h60
  have hb : (c8 x == 43) = true ∨ ((c8 x == 43) = false ∧ (c8 x == 45) = true) ∨ ((c8 x == 43) = false ∧ (c8 x == 45) = false ∧ (c8 x == 46) = true) ∨ ((c8 x == 43) = false ∧ (c8 x == 45) = false ∧ (c8 x == 46) = false ∧ decide (48 ≤ c8 x) = true ∧ decide (c8 x ≤ 57) = true) := by
    rcases hn with q | q | q | q
    · exact .inl (by simpa using q)
    · exact .inr (.inl ⟨by simp [q], by simpa using q⟩)
    · exact .inr (.inr (.inl ⟨by simp [q], by simp [q], by simpa using q⟩))
    · exact .inr (.inr (.inr ⟨by simp; omega, by simp; omega, by simp; omega, decide_eq_true q.1, decide_eq_true q.2⟩))
  clear hn
  generalize hR : numT (x :: t) = R
  have HR := hid hR
  clear hR
  rcases R with err | ⟨k0, n0, out1, rest⟩
  · have HL0 := hid h
    have hL := (h.below (Below.alloc (Below.refl _ _) (Nat.le_refl _) (Obj.cells #[Value.int IntKind.i64 0, Value.int IntKind.i64 0, Value.int IntKind.i64 0, Value.slice none 0 0] 85))).fresh
    have p0 := hL.p0
    clear h
    rcases hb with q1 | ⟨q1, q2⟩ | ⟨q1, q2, q3⟩ | ⟨q1, q2, q3, q4, q5⟩
    all_goals
      go_enter Tryz.func62, Tryz.ntmps62
      go_wp2_with (first | (go_at_call 77; refine (peek0 hL).mono ?_; rintro e w1 ⟨rfl, hL, -⟩; have p0 := hL.p0; obtain ⟨rc, rf, rs⟩ := HL0.out.rcell hL; first | rw [hd_cons] | rw [hd_nil] | skip) | (go_at_call 80; refine (match_no _ (by decide) P91.out hL).mono ?_; rintro e w1 ⟨rfl, hL⟩; have p0 := hL.p0) | (go_at_call 80; refine (match_no _ (by decide) P93.out hL).mono ?_; rintro e w1 ⟨rfl, hL⟩; have p0 := hL.p0) | (go_at_call 80; refine (match_no _ (by decide) P6060.out hL).mono ?_; rintro e w1 ⟨rfl, hL⟩; have p0 := hL.p0) | (go_at_call 80; refine (match_no _ (by decide) P6262.out hL).mono ?_; rintro e w1 ⟨rfl, hL⟩; have p0 := hL.p0) | (go_at_call 80; refine (match_no _ (by decide) P47.out hL).mono ?_; rintro e w1 ⟨rfl, hL⟩; have p0 := hL.p0) | (go_at_call 80; refine (match_no _ (by decide) P40.out hL).mono ?_; rintro e w1 ⟨rfl, hL⟩; have p0 := hL.p0) | (go_at_call 80; refine (match_no _ (by decide) P60.out hL).mono ?_; rintro e w1 ⟨rfl, hL⟩; have p0 := hL.p0) | (go_at_call 85; refine (number_l hL).mono ?_; rw [HR.out]; rintro e w1 ⟨⟨k1, n1, a1, ao1, l1, c1, rfl⟩, j, s1, m1, v1, u1, o1, hL⟩; obtain ⟨rc, rf, rs⟩ := HL0.out.rcell hL))
      refine bodyPost_ret (v := .tuple #[.agg #[.int .i64 k1, .int .i64 a1, .int .i64 n1, .slice ao1 l1 c1], .int .i64 err]) (by simp [results, Tryz.results62, go_sem, rc]) rfl ?_
      have hF := fun x0 x1 x2 x3 => HL0.out.close hL (fun B => Held.set4 B _ _ x0 x1 x2 x3)
      exact ⟨⟨_, _, _, _, _, _, rfl⟩, _, _, _, _, _, _, hF _ _ _ _⟩
  · have HL0 := hid h
    have hL := (h.below (Below.alloc (Below.refl _ _) (Nat.le_refl _) (Obj.cells #[Value.int IntKind.i64 0, Value.int IntKind.i64 0, Value.int IntKind.i64 0, Value.slice none 0 0] 85))).fresh
    have p0 := hL.p0
    clear h
    rcases hb with q1 | ⟨q1, q2⟩ | ⟨q1, q2, q3⟩ | ⟨q1, q2, q3, q4, q5⟩
    all_goals
      go_enter Tryz.func62, Tryz.ntmps62
      go_wp2_with (first | (go_at_call 77; refine (peek0 hL).mono ?_; rintro e w1 ⟨rfl, hL, -⟩; have p0 := hL.p0; obtain ⟨rc, rf, rs⟩ := HL0.out.rcell hL; first | rw [hd_cons] | rw [hd_nil] | skip) | (go_at_call 80; refine (match_no _ (by decide) P91.out hL).mono ?_; rintro e w1 ⟨rfl, hL⟩; have p0 := hL.p0) | (go_at_call 80; refine (match_no _ (by decide) P93.out hL).mono ?_; rintro e w1 ⟨rfl, hL⟩; have p0 := hL.p0) | (go_at_call 80; refine (match_no _ (by decide) P6060.out hL).mono ?_; rintro e w1 ⟨rfl, hL⟩; have p0 := hL.p0) | (go_at_call 80; refine (match_no _ (by decide) P6262.out hL).mono ?_; rintro e w1 ⟨rfl, hL⟩; have p0 := hL.p0) | (go_at_call 80; refine (match_no _ (by decide) P47.out hL).mono ?_; rintro e w1 ⟨rfl, hL⟩; have p0 := hL.p0) | (go_at_call 80; refine (match_no _ (by decide) P40.out hL).mono ?_; rintro e w1 ⟨rfl, hL⟩; have p0 := hL.p0) | (go_at_call 80; refine (match_no _ (by decide) P60.out hL).mono ?_; rintro e w1 ⟨rfl, hL⟩; have p0 := hL.p0) | (go_at_call 85; refine (number_l hL).mono ?_; rw [HR.out]; rintro e w1 ⟨u1, rfl, j, m1, v1, hL⟩; obtain ⟨ao1, cap1, rfl, -, -, -⟩ := Rd.own hL.row; obtain ⟨rc, rf, rs⟩ := HL0.out.rcell hL))
      refine bodyPost_ret (v := .tuple #[.agg #[.int .i64 k0, .int .i64 0, .int .i64 n0, .slice ao1 out1.length cap1], .int .i64 0]) (by simp [results, Tryz.results62, go_sem, rc]) rfl ?_
      have hF := fun x0 x1 x2 x3 => HL0.out.close hL (fun B => Held.set4 B _ _ x0 x1 x2 x3)
      exact ⟨_, rfl, _, _, _, hF _ _ _ _⟩

theorem nonum {c : Int} (hn : ¬ (c = 43 ∨ c = 45 ∨ c = 46 ∨ 48 ≤ c ∧ c ≤ 57)) : ((c == 43) = false ∧ (c == 45) = false ∧ (c == 46) = false) ∧ (decide (48 ≤ c) = false ∨ (decide (48 ≤ c) = true ∧ decide (c ≤ 57) = false)) := by
  refine ⟨⟨by simp; omega, by simp; omega, by simp; omega⟩, ?_⟩
  by_cases h : 48 ≤ c
  · exact .inr ⟨decide_eq_true h, decide_eq_false (by omega)⟩
  · exact .inl (decide_eq_false h)

set_option maxHeartbeats 1600000 in
set_option maxRecDepth 100000 in
theorem token_none (h91 : ¬ c8 x = 91) (h93 : ¬ c8 x = 93) (h6060 : ¬ (c8 x = 60 ∧ hd t = 60)) (h6262 : ¬ (c8 x = 62 ∧ hd t = 62)) (h47 : ¬ c8 x = 47) (h40 : ¬ c8 x = 40) (h60 : ¬ c8 x = 60) (hn : ¬ (c8 x = 43 ∨ c8 x = 45 ∨ c8 x = 46 ∨ 48 ≤ c8 x ∧ c8 x ≤ 57)) (hr : rg (c8 x) = false) (h : Lx w0 w lp cp b i (x :: t) m v u out) :
    Calls Tryz.prog 62 #[.pointer (some ⟨lp, 0, none⟩)] w fun e w' => TokP (.bad 4) w0 lp cp b 0 e w' := by
  have x0 := c8_ge x
  have x1 := c8_le x
  have P91 : Hid (pfx [91] (x :: t) = false) := hid (by rw [pfx1, hd_cons]; exact decide_eq_false h91)
  have P93 : Hid (pfx [93] (x :: t) = false) := hid (by rw [pfx1, hd_cons]; exact decide_eq_false h93)
  have P47 : Hid (pfx [47] (x :: t) = false) := hid (by rw [pfx1, hd_cons]; exact decide_eq_false h47)
  have P40 : Hid (pfx [40] (x :: t) = false) := hid (by rw [pfx1, hd_cons]; exact decide_eq_false h40)
  have P60 : Hid (pfx [60] (x :: t) = false) := hid (by rw [pfx1, hd_cons]; exact decide_eq_false h60)
  have P6060 : Hid (pfx [60, 60] (x :: t) = false) := hid (by rw [pfx2, hd_cons, List.tail_cons]; exact decide_eq_false h6060)
  have P6262 : Hid (pfx [62, 62] (x :: t) = false) := hid (by rw [pfx2, hd_cons, List.tail_cons]; exact decide_eq_false h6262)
  clear h91 h93 h6060 h6262 h47 h40 h60
  obtain ⟨⟨q1, q2, q3⟩, q4⟩ := nonum hn
  clear hn
  have Hr := hid hr
  clear hr
  have HL0 := hid h
  have hL := (h.below (Below.alloc (Below.refl _ _) (Nat.le_refl _) (Obj.cells #[Value.int IntKind.i64 0, Value.int IntKind.i64 0, Value.int IntKind.i64 0, Value.slice none 0 0] 85))).fresh
  have p0 := hL.p0
  clear h
  rcases q4 with q4 | ⟨q4, q5⟩
  all_goals
    go_enter Tryz.func62, Tryz.ntmps62
    go_wp2_with (first | (go_at_call 77; refine (peek0 hL).mono ?_; rintro e w1 ⟨rfl, hL, -⟩; have p0 := hL.p0; obtain ⟨rc, rf, rs⟩ := HL0.out.rcell hL; first | rw [hd_cons] | rw [hd_nil] | skip) | (go_at_call 80; refine (match_no _ (by decide) P91.out hL).mono ?_; rintro e w1 ⟨rfl, hL⟩; have p0 := hL.p0) | (go_at_call 80; refine (match_no _ (by decide) P93.out hL).mono ?_; rintro e w1 ⟨rfl, hL⟩; have p0 := hL.p0) | (go_at_call 80; refine (match_no _ (by decide) P6060.out hL).mono ?_; rintro e w1 ⟨rfl, hL⟩; have p0 := hL.p0) | (go_at_call 80; refine (match_no _ (by decide) P6262.out hL).mono ?_; rintro e w1 ⟨rfl, hL⟩; have p0 := hL.p0) | (go_at_call 80; refine (match_no _ (by decide) P47.out hL).mono ?_; rintro e w1 ⟨rfl, hL⟩; have p0 := hL.p0) | (go_at_call 80; refine (match_no _ (by decide) P40.out hL).mono ?_; rintro e w1 ⟨rfl, hL⟩; have p0 := hL.p0) | (go_at_call 80; refine (match_no _ (by decide) P60.out hL).mono ?_; rintro e w1 ⟨rfl, hL⟩; have p0 := hL.p0) | (go_at_call 86; refine (regular_l _ hL).mono ?_; rintro e w1 ⟨rfl, hL⟩; have p0 := hL.p0; obtain ⟨rc, rf, rs⟩ := HL0.out.rcell hL; rw [Hr.out]))
    refine bodyPost_ret (v := .tuple #[.agg #[.int .i64 0, .int .i64 0, .int .i64 0, .slice none 0 0], .int .i64 4]) (by simp [results, Tryz.results62, go_sem, rc]) rfl ?_
    have hF := fun x0 x1 x2 x3 => HL0.out.close hL (fun B => Held.set4 B _ _ x0 x1 x2 x3)
    exact ⟨⟨_, _, _, _, _, _, rfl⟩, _, _, _, _, _, _, hF _ _ _ _⟩

set_option maxHeartbeats 1600000 in
set_option maxRecDepth 100000 in
theorem token_long (h91 : ¬ c8 x = 91) (h93 : ¬ c8 x = 93) (h6060 : ¬ (c8 x = 60 ∧ hd t = 60)) (h6262 : ¬ (c8 x = 62 ∧ hd t = 62)) (h47 : ¬ c8 x = 47) (h40 : ¬ c8 x = 40) (h60 : ¬ c8 x = 60) (hn : ¬ (c8 x = 43 ∨ c8 x = 45 ∨ c8 x = 46 ∨ 48 ≤ c8 x ∧ c8 x ≤ 57)) (hr : rg (c8 x) = true) (hlo : 127 < rn (x :: t)) (h : Lx w0 w lp cp b i (x :: t) m v u out) :
    Calls Tryz.prog 62 #[.pointer (some ⟨lp, 0, none⟩)] w fun e w' => TokP (.bad 3) w0 lp cp b 0 e w' := by
  have x0 := c8_ge x
  have x1 := c8_le x
  have P91 : Hid (pfx [91] (x :: t) = false) := hid (by rw [pfx1, hd_cons]; exact decide_eq_false h91)
  have P93 : Hid (pfx [93] (x :: t) = false) := hid (by rw [pfx1, hd_cons]; exact decide_eq_false h93)
  have P47 : Hid (pfx [47] (x :: t) = false) := hid (by rw [pfx1, hd_cons]; exact decide_eq_false h47)
  have P40 : Hid (pfx [40] (x :: t) = false) := hid (by rw [pfx1, hd_cons]; exact decide_eq_false h40)
  have P60 : Hid (pfx [60] (x :: t) = false) := hid (by rw [pfx1, hd_cons]; exact decide_eq_false h60)
  have P6060 : Hid (pfx [60, 60] (x :: t) = false) := hid (by rw [pfx2, hd_cons, List.tail_cons]; exact decide_eq_false h6060)
  have P6262 : Hid (pfx [62, 62] (x :: t) = false) := hid (by rw [pfx2, hd_cons, List.tail_cons]; exact decide_eq_false h6262)
  clear h91 h93 h6060 h6262 h47 h40 h60
  obtain ⟨⟨q1, q2, q3⟩, q4⟩ := nonum hn
  clear hn
  have Hr := hid hr
  clear hr
  have hlen : ((x :: t).take (rn (x :: t))).length = rn (x :: t) := by rw [List.length_take]; exact Nat.min_eq_left (rn_le _)
  have HLEN := hid hlen
  have hbd : rn (x :: t) ≤ 4000000 := by have h1 := rn_le (x :: t); have h2 := h.at_; have h3 := h.sm; omega
  clear hlen
  have t1 : decide (127 < rn (x :: t)) = true := decide_eq_true hlo
  have t2 : decide ((127 : Int) < rn (x :: t)) = true := decide_eq_true (by omega)
  have HL0 := hid h
  have hL := (h.below (Below.alloc (Below.refl _ _) (Nat.le_refl _) (Obj.cells #[Value.int IntKind.i64 0, Value.int IntKind.i64 0, Value.int IntKind.i64 0, Value.slice none 0 0] 85))).fresh
  have p0 := hL.p0
  clear h
  rcases q4 with q4 | ⟨q4, q5⟩
  all_goals
    go_enter Tryz.func62, Tryz.ntmps62
    go_wp2_with (first | (go_at_call 77; refine (peek0 hL).mono ?_; rintro e w1 ⟨rfl, hL, -⟩; have p0 := hL.p0; obtain ⟨rc, rf, rs⟩ := HL0.out.rcell hL; first | rw [hd_cons] | rw [hd_nil] | skip) | (go_at_call 80; refine (match_no _ (by decide) P91.out hL).mono ?_; rintro e w1 ⟨rfl, hL⟩; have p0 := hL.p0) | (go_at_call 80; refine (match_no _ (by decide) P93.out hL).mono ?_; rintro e w1 ⟨rfl, hL⟩; have p0 := hL.p0) | (go_at_call 80; refine (match_no _ (by decide) P6060.out hL).mono ?_; rintro e w1 ⟨rfl, hL⟩; have p0 := hL.p0) | (go_at_call 80; refine (match_no _ (by decide) P6262.out hL).mono ?_; rintro e w1 ⟨rfl, hL⟩; have p0 := hL.p0) | (go_at_call 80; refine (match_no _ (by decide) P47.out hL).mono ?_; rintro e w1 ⟨rfl, hL⟩; have p0 := hL.p0) | (go_at_call 80; refine (match_no _ (by decide) P40.out hL).mono ?_; rintro e w1 ⟨rfl, hL⟩; have p0 := hL.p0) | (go_at_call 80; refine (match_no _ (by decide) P60.out hL).mono ?_; rintro e w1 ⟨rfl, hL⟩; have p0 := hL.p0) | (go_at_call 86; refine (regular_l _ hL).mono ?_; rintro e w1 ⟨rfl, hL⟩; have p0 := hL.p0; obtain ⟨rc, rf, rs⟩ := HL0.out.rcell hL; rw [Hr.out]) | (go_at_call 87; refine (run_l hL).mono ?_; rintro e w1 ⟨u1, rfl, hL⟩; obtain ⟨ao1, cap1, rfl, -, -, -⟩ := Rd.own hL.row; have p0 := hL.p0; rw [HLEN.out] at hL; obtain ⟨rc, rf, rs⟩ := HL0.out.rcell hL; rw [HLEN.out]))
    refine bodyPost_ret (v := .tuple #[.agg #[.int .i64 0, .int .i64 0, .int .i64 0, .slice none 0 0], .int .i64 3]) (by simp [results, Tryz.results62, go_sem, rc]) rfl ?_
    have hF := fun x0 x1 x2 x3 => HL0.out.close hL.bare (fun B => Held.set4 B _ _ x0 x1 x2 x3)
    exact ⟨⟨_, _, _, _, _, _, rfl⟩, _, _, _, _, _, _, hF _ _ _ _⟩

set_option maxHeartbeats 1600000 in
set_option maxRecDepth 100000 in
theorem token_word (h91 : ¬ c8 x = 91) (h93 : ¬ c8 x = 93) (h6060 : ¬ (c8 x = 60 ∧ hd t = 60)) (h6262 : ¬ (c8 x = 62 ∧ hd t = 62)) (h47 : ¬ c8 x = 47) (h40 : ¬ c8 x = 40) (h60 : ¬ c8 x = 60) (hn : ¬ (c8 x = 43 ∨ c8 x = 45 ∨ c8 x = 46 ∨ 48 ≤ c8 x ∧ c8 x ≤ 57)) (hr : rg (c8 x) = true) (hlo : ¬ 127 < rn (x :: t)) (h : Lx w0 w lp cp b i (x :: t) m v u out) :
    Calls Tryz.prog 62 #[.pointer (some ⟨lp, 0, none⟩)] w fun e w' => TokP (.tok 9 0 ((x :: t).take (rn (x :: t))) ((x :: t).drop (rn (x :: t)))) w0 lp cp b 0 e w' := by
  have x0 := c8_ge x
  have x1 := c8_le x
  have P91 : Hid (pfx [91] (x :: t) = false) := hid (by rw [pfx1, hd_cons]; exact decide_eq_false h91)
  have P93 : Hid (pfx [93] (x :: t) = false) := hid (by rw [pfx1, hd_cons]; exact decide_eq_false h93)
  have P47 : Hid (pfx [47] (x :: t) = false) := hid (by rw [pfx1, hd_cons]; exact decide_eq_false h47)
  have P40 : Hid (pfx [40] (x :: t) = false) := hid (by rw [pfx1, hd_cons]; exact decide_eq_false h40)
  have P60 : Hid (pfx [60] (x :: t) = false) := hid (by rw [pfx1, hd_cons]; exact decide_eq_false h60)
  have P6060 : Hid (pfx [60, 60] (x :: t) = false) := hid (by rw [pfx2, hd_cons, List.tail_cons]; exact decide_eq_false h6060)
  have P6262 : Hid (pfx [62, 62] (x :: t) = false) := hid (by rw [pfx2, hd_cons, List.tail_cons]; exact decide_eq_false h6262)
  clear h91 h93 h6060 h6262 h47 h40 h60
  obtain ⟨⟨q1, q2, q3⟩, q4⟩ := nonum hn
  clear hn
  have Hr := hid hr
  clear hr
  have hlen : ((x :: t).take (rn (x :: t))).length = rn (x :: t) := by rw [List.length_take]; exact Nat.min_eq_left (rn_le _)
  have HLEN := hid hlen
  have hbd : rn (x :: t) ≤ 4000000 := by have h1 := rn_le (x :: t); have h2 := h.at_; have h3 := h.sm; omega
  clear hlen
  have t1 : decide (127 < rn (x :: t)) = false := decide_eq_false hlo
  have t2 : decide ((127 : Int) < rn (x :: t)) = false := decide_eq_false (by omega)
  have HL0 := hid h
  have hL := (h.below (Below.alloc (Below.refl _ _) (Nat.le_refl _) (Obj.cells #[Value.int IntKind.i64 0, Value.int IntKind.i64 0, Value.int IntKind.i64 0, Value.slice none 0 0] 85))).fresh
  have p0 := hL.p0
  clear h
  rcases q4 with q4 | ⟨q4, q5⟩
  all_goals
    go_enter Tryz.func62, Tryz.ntmps62
    go_wp2_with (first | (go_at_call 77; refine (peek0 hL).mono ?_; rintro e w1 ⟨rfl, hL, -⟩; have p0 := hL.p0; obtain ⟨rc, rf, rs⟩ := HL0.out.rcell hL; first | rw [hd_cons] | rw [hd_nil] | skip) | (go_at_call 80; refine (match_no _ (by decide) P91.out hL).mono ?_; rintro e w1 ⟨rfl, hL⟩; have p0 := hL.p0) | (go_at_call 80; refine (match_no _ (by decide) P93.out hL).mono ?_; rintro e w1 ⟨rfl, hL⟩; have p0 := hL.p0) | (go_at_call 80; refine (match_no _ (by decide) P6060.out hL).mono ?_; rintro e w1 ⟨rfl, hL⟩; have p0 := hL.p0) | (go_at_call 80; refine (match_no _ (by decide) P6262.out hL).mono ?_; rintro e w1 ⟨rfl, hL⟩; have p0 := hL.p0) | (go_at_call 80; refine (match_no _ (by decide) P47.out hL).mono ?_; rintro e w1 ⟨rfl, hL⟩; have p0 := hL.p0) | (go_at_call 80; refine (match_no _ (by decide) P40.out hL).mono ?_; rintro e w1 ⟨rfl, hL⟩; have p0 := hL.p0) | (go_at_call 80; refine (match_no _ (by decide) P60.out hL).mono ?_; rintro e w1 ⟨rfl, hL⟩; have p0 := hL.p0) | (go_at_call 86; refine (regular_l _ hL).mono ?_; rintro e w1 ⟨rfl, hL⟩; have p0 := hL.p0; obtain ⟨rc, rf, rs⟩ := HL0.out.rcell hL; rw [Hr.out]) | (go_at_call 87; refine (run_l hL).mono ?_; rintro e w1 ⟨u1, rfl, hL⟩; obtain ⟨ao1, cap1, rfl, -, -, -⟩ := Rd.own hL.row; have p0 := hL.p0; rw [HLEN.out] at hL; obtain ⟨rc, rf, rs⟩ := HL0.out.rcell hL; rw [HLEN.out]))
    refine bodyPost_ret (v := .tuple #[.agg #[.int .i64 9, .int .i64 0, .int .i64 0, .slice ao1 (rn (x :: t)) cap1], .int .i64 0]) (by simp [results, Tryz.results62, go_sem, rc]) rfl ?_
    have hF := fun x0 x1 x2 x3 => HL0.out.close hL (fun B => Held.set4 B _ _ x0 x1 x2 x3)
    exact ⟨_, rfl, _, _, _, hF _ _ _ _⟩
end
end Go.Proofs.YtjkoiknjffldjaaGreatDoor

/-
  token, Token, Keyword: the token that stands there, behind blanks; a word is passed; the program's walks. Condition: the lexer stands in its bytes.
-/
namespace Go.Proofs.YtjkoiknjffldjaaGreatDoor
open Go.RowKit
set_option linter.unusedVariables false

section
variable {w0 w w' : World} {lp cp : Nat} {b : List UInt8} {i : Nat} {s t : List UInt8} {m v u : Value} {out : List UInt8} {x : UInt8}

theorem token_l (h : Lx w0 w lp cp b i s m v u out) :
    Calls Tryz.prog 62 #[.pointer (some ⟨lp, 0, none⟩)] w fun e w' => TokP (tk s) w0 lp cp b 0 e w' := by
  rcases s with _ | ⟨x, t⟩
  · exact token_end h
  rw [tk]
  by_cases h91 : c8 x = 91
  · rw [if_pos h91]; exact token_91 h91 h
  rw [if_neg h91]
  by_cases h93 : c8 x = 93
  · rw [if_pos h93]; exact token_93 h93 h
  rw [if_neg h93]
  by_cases h6060 : c8 x = 60 ∧ hd t = 60
  · rw [if_pos h6060]; exact token_6060 h6060.1 h6060.2 h
  rw [if_neg h6060]
  by_cases h6262 : c8 x = 62 ∧ hd t = 62
  · rw [if_pos h6262]; exact token_6262 h6262.1 h6262.2 h
  rw [if_neg h6262]
  by_cases h47 : c8 x = 47
  · rw [if_pos h47]; exact token_47 h47 h
  rw [if_neg h47]
  by_cases h40 : c8 x = 40
  · rw [if_pos h40]; exact token_40 h40 h
  rw [if_neg h40]
  by_cases h60 : c8 x = 60
  · rw [if_pos h60]; exact token_60 h60 (fun q => h6060 ⟨h60, q⟩) h
  rw [if_neg h60]
  by_cases hn : c8 x = 43 ∨ c8 x = 45 ∨ c8 x = 46 ∨ 48 ≤ c8 x ∧ c8 x ≤ 57
  · rw [if_pos hn]; exact token_num h91 h93 h6060 h6262 h47 h40 h60 hn h
  rw [if_neg hn]
  by_cases hr : rg (c8 x) = true
  · rw [if_pos hr]
    by_cases hl : 127 < rn (x :: t)
    · rw [if_pos hl]; exact token_long h91 h93 h6060 h6262 h47 h40 h60 hn hr hl h
    · rw [if_neg hl]; exact token_word h91 h93 h6060 h6262 h47 h40 h60 hn hr hl h
  · rw [if_neg hr]; exact token_none h91 h93 h6060 h6262 h47 h40 h60 hn (by simpa using hr) h

theorem Lx.p0a (h : Lx w0 w lp cp b i s m v u out) (o : Obj) : (w.alloc o).cell? ⟨lp, 0, none⟩ = some (.pointer (some ⟨cp, 0, none⟩)) := (h.below (Below.alloc (Below.refl _ _) (Nat.le_refl _) o)).p0

/-- what Token leaves: at the token's place behind an error -/
def TokQ (T : TRes) (w0 : World) (lp cp : Nat) (b : List UInt8) (a : Nat) (e : Ending) (w' : World) : Prop :=
  match T with
  | .bad x => e = .returned (.tuple #[.agg #[.int .i64 0, .int .i64 a, .int .i64 0, .slice none 0 0], .int .i64 x]) ∧ ∃ m v u out, Lx w0 w' lp cp b a (b.drop a) m v u out
  | .tok k n out rest => ∃ u, e = .returned (.tuple #[.agg #[.int .i64 k, .int .i64 a, .int .i64 n, u], .int .i64 0]) ∧ ∃ i m v, Lx w0 w' lp cp b i rest m v u out

/-- an error's number is no nought -/
def TRes.good : TRes → Prop
  | .bad x => (x == 0) = false ∧ ∃ k : Nat, x = k ∧ k ≤ 100
  | .tok .. => True

set_option maxHeartbeats 1600000 in
set_option maxRecDepth 100000 in
theorem token_q (hg : (TK s).good) (h : Lx w0 w lp cp b i s m v u out) :
    Calls Tryz.prog 39 #[.pointer (some ⟨lp, 0, none⟩)] w fun e w' => TokQ (TK s) w0 lp cp b (i + bl s false) e w' := by
  have HL0 := hid h
  have hL := (h.below (Below.alloc (Below.refl _ _) (Nat.le_refl _) (Obj.cells #[Value.int IntKind.i64 0, Value.int IntKind.i64 0, Value.int IntKind.i64 0, Value.slice none 0 0] 85))).fresh
  have p0 := hL.p0
  have hpl := h.at_
  have hpm := h.sm
  have hbl := bl_le s false
  have hle : i + bl s false ≤ b.length := by omega
  have hdr := hid h.drp
  clear h hpl hbl
  unfold TK at *
  generalize hR : tk (s.drop (bl s false)) = R at hg ⊢
  have HR := hid hR
  generalize hz : i + bl s false = z at hle ⊢
  have HZ := hid hz
  clear hR hz
  rcases R with err | ⟨k0, n0, out1, rest⟩
  · have q1 := hg.1
    obtain ⟨-, kk, rfl, hkk⟩ := hg
    have q2 : (((kk : Nat) : Int) != 0) = true := by rw [bne, q1]; rfl
    clear q1
    go_enter Tryz.func39, Tryz.ntmps39
    go_wp2_with (first | (go_at_call 60; refine (made_any lp cp _ p0).mono ?_; rintro e w1 ⟨rfl, rfl⟩) | (go_at_call 61; refine (blank_l hL).mono ?_; rw [HZ.out]; rintro e w1 ⟨rfl, hL⟩; have p0 := hL.p0; obtain ⟨rc, rf, rs⟩ := HL0.out.rcell hL) | (go_at_call 38; refine (pos_l hL).mono ?_; rintro e w1 ⟨rfl, rfl⟩) | (go_at_call 62; refine (token_l hL).mono ?_; rw [HR.out]; rintro e w1 ⟨⟨k1, n1, a1, ao1, l1, c1, rfl⟩, j, s1, m1, v1, u1, o1, hL⟩; have p0 := hL.p0a) | (go_at_call 42; refine (seek_l z _ rfl hle (hL.below (Below.alloc (Below.refl _ _) (Nat.le_refl _) _))).mono ?_; rintro e w1 ⟨rfl, hL⟩; obtain ⟨rc, rf, rs⟩ := HL0.out.rcell hL))
    refine bodyPost_ret (v := .tuple #[.agg #[.int .i64 0, .int .i64 z, .int .i64 0, .slice none 0 0], .int .i64 kk]) (by simp [results, Tryz.results39, go_sem, rc]) rfl ?_
    have hF := fun x0 x1 x2 x3 => HL0.out.close hL (fun B => Held.set4 B _ _ x0 x1 x2 x3)
    exact ⟨rfl, _, _, _, _, hF _ _ _ _⟩
  · go_enter Tryz.func39, Tryz.ntmps39
    go_wp2_with (first | (go_at_call 60; refine (made_any lp cp _ p0).mono ?_; rintro e w1 ⟨rfl, rfl⟩) | (go_at_call 61; refine (blank_l hL).mono ?_; rw [HZ.out]; rintro e w1 ⟨rfl, hL⟩; have p0 := hL.p0; obtain ⟨rc, rf, rs⟩ := HL0.out.rcell hL) | (go_at_call 38; refine (pos_l hL).mono ?_; rintro e w1 ⟨rfl, rfl⟩) | (go_at_call 62; refine (token_l hL).mono ?_; rw [HR.out]; rintro e w1 ⟨u1, rfl, j, m1, v1, hL⟩; obtain ⟨ao1, cap1, rfl, -, -, -⟩ := Rd.own hL.row; have p0 := hL.p0a; obtain ⟨rc, rf, rs⟩ := HL0.out.rcell hL))
    refine bodyPost_ret (v := .tuple #[.agg #[.int .i64 k0, .int .i64 z, .int .i64 n0, .slice ao1 out1.length cap1], .int .i64 0]) (by simp [results, Tryz.results39, go_sem, rc, rs]) rfl ?_
    have hF := fun o x0 x1 x2 x3 => (HL0.out.close hL (fun B => Held.set4 B _ _ x0 x1 x2 x3)).below (Below.alloc (Below.refl _ _) (Nat.le_refl _) o)
    exact ⟨_, rfl, _, _, _, hF _ _ _ _ _⟩

/-- the word p stands behind the blanks of s, and a delimiter behind it -/
def KW (p s : List UInt8) : Bool := pfx p (s.drop (bl s false)) && !rg (hd ((s.drop (bl s false)).drop p.length))

end
end Go.Proofs.YtjkoiknjffldjaaGreatDoor

/-
  Plain: errors are no noughts; a token takes at least a byte, but the end. No program here.
-/
namespace Go.Proofs.YtjkoiknjffldjaaGreatDoor
set_option linter.unusedVariables false

/-- an error there is; what stands behind is no longer than s -/
def Res.fit (n : Nat) : Res → Prop
  | .bad x => x = 2 ∨ x = 3 ∨ x = 4
  | .ok out rest => rest.length ≤ n

theorem Res.fit_up {r : Res} {n m : Nat} (h : r.fit n) (hm : n ≤ m) : r.fit m := by
  cases r with
  | bad x => exact h
  | ok out rest => exact Nat.le_trans h hm

theorem fit_ite {c : Prop} [Decidable c] {a b : Res} {n : Nat} (ha : a.fit n) (hb : b.fit n) : (if c then a else b).fit n := by split <;> assumption

theorem nm_fit : ∀ (k : Nat) (s out : List UInt8), s.length ≤ k → (nm s out).fit s.length
  | k, [], out, _ => Nat.le_refl _
  | 0, x :: s, out, h => by simp at h
  | k + 1, x :: s, out, h => by
    rw [List.length_cons] at h
    rw [nm_cons]
    refine fit_ite (fit_ite (fit_ite (.inr (.inr rfl)) (fit_ite (.inr (.inl rfl)) ?_)) (fit_ite (.inr (.inl rfl)) ?_)) (Nat.le_refl _)
    · exact Res.fit_up (nm_fit k (s.drop 2) _ (by rw [List.length_drop]; omega)) (by rw [List.length_drop, List.length_cons]; omega)
    · exact Res.fit_up (nm_fit k s _ (by omega)) (by rw [List.length_cons]; omega)

theorem TX_fit : ∀ (k : Nat) (s : List UInt8) (o : Nat) (out : List UInt8), s.length ≤ k → (TX s o out).fit s.length
  | k, [], o, out, _ => .inl rfl
  | 0, x :: s, o, out, h => by simp at h
  | k + 1, x :: s, o, out, h => by
    rw [List.length_cons] at h
    have h1 := sk_len s
    have h2 := es_len (hd s) s.tail
    rw [List.length_tail] at h2
    have ih := fun s' o' out' (hs : List.length s' ≤ s.length) => Res.fit_up (m := (x :: s).length) (TX_fit k s' o' out' (by omega)) (by rw [List.length_cons]; omega)
    rw [TX_cons]
    refine fit_ite (fit_ite (.inl rfl) (fit_ite (ih _ _ _ (by omega)) (fit_ite (.inr (.inl rfl)) (ih _ _ _ (by omega))))) (fit_ite (show s.length ≤ (x :: s).length by simp) (fit_ite (.inr (.inl rfl)) (fit_ite (ih _ _ _ (Nat.le_refl _)) (fit_ite (ih _ _ _ (by omega)) (ih _ _ _ (Nat.le_refl _))))))

theorem hx_fit : ∀ (s : List UInt8) (g : Int) (out : List UInt8), (hx s g out).fit s.length
  | [], g, out => .inl rfl
  | x :: s, g, out => by
    have ih := fun g out => Res.fit_up (m := (x :: s).length) (hx_fit s g out) (by rw [List.length_cons]; omega)
    rw [hx]
    refine fit_ite (ih _ _) (fit_ite (fit_ite (show s.length ≤ (x :: s).length by simp) (fit_ite (.inr (.inl rfl)) (show s.length ≤ (x :: s).length by simp))) (fit_ite (.inr (.inr rfl)) (fit_ite (ih _ _) (fit_ite (.inr (.inl rfl)) (ih _ _)))))

/-- a token: an error; or at least a byte, and no end -/
def TRes.fit (n : Nat) : TRes → Prop
  | .bad x => (x == 0) = false ∧ ∃ k : Nat, x = k ∧ k ≤ 100
  | .tok k _ _ rest => (k == 0) = false ∧ rest.length < n

theorem tfit_ite {c : Prop} [Decidable c] {a b : TRes} {n : Nat} (ha : a.fit n) (hb : b.fit n) : (if c then a else b).fit n := by split <;> assumption
theorem wrp_fit {k : Int} {r : Res} {n m : Nat} (h : r.fit n) (hk : (k == 0) = false) (hm : n < m) : (wrp k r).fit m := by
  cases r with
  | bad x => rcases h with rfl | rfl | rfl; exact ⟨by decide, 2, rfl, by decide⟩; exact ⟨by decide, 3, rfl, by decide⟩; exact ⟨by decide, 4, rfl, by decide⟩
  | ok out rest => exact ⟨hk, Nat.lt_of_le_of_lt h hm⟩

theorem numb_err (g : Int) (a r : List UInt8) : (numb g a r).2.2 = 0 ∨ (numb g a r).2.2 = 4 ∨ (numb g a r).2.2 = 5 := by
  unfold numb
  cases r with
  | nil => simp only []; split; · simp
           split <;> simp
  | cons x f => simp only []; split; · split <;> simp
                simp

theorem rn_pos {x : UInt8} {t : List UInt8} (h : rg (c8 x) = true) : 0 < rn (x :: t) := by rw [rn, if_pos h]; omega
theorem drop_lt {x : UInt8} {t : List UInt8} {n : Nat} (h : 0 < n) : ((x :: t).drop n).length < (x :: t).length := by rw [List.length_drop, List.length_cons]; omega

theorem rg_num {c : Int} (h : c = 43 ∨ c = 45 ∨ c = 46 ∨ 48 ≤ c ∧ c ≤ 57) : rg c = true := by
  rcases h with rfl | rfl | rfl | h
  · decide
  · decide
  · decide
  · have : c = 48 ∨ c = 49 ∨ c = 50 ∨ c = 51 ∨ c = 52 ∨ c = 53 ∨ c = 54 ∨ c = 55 ∨ c = 56 ∨ c = 57 := by omega
    rcases this with rfl | rfl | rfl | rfl | rfl | rfl | rfl | rfl | rfl | rfl <;> decide

theorem tk_fit (x : UInt8) (t : List UInt8) : (tk (x :: t)).fit (x :: t).length := by
  have hn := nm_fit _ t [] (Nat.le_refl _)
  have ht := TX_fit _ t 1 [] (Nat.le_refl _)
  have hh := hx_fit t (-1) []
  have hl : t.length < (x :: t).length := by simp
  have hl2 : t.tail.length < (x :: t).length := by simp; omega
  rw [tk]
  refine tfit_ite ⟨by decide, hl⟩ (tfit_ite ⟨by decide, hl⟩ (tfit_ite ⟨by decide, hl2⟩ (tfit_ite ⟨by decide, hl2⟩ (tfit_ite (wrp_fit hn (by decide) hl) (tfit_ite (wrp_fit ht (by decide) hl) (tfit_ite (wrp_fit hh (by decide) hl) ?_))))))
  by_cases hc : c8 x = 43 ∨ c8 x = 45 ∨ c8 x = 46 ∨ 48 ≤ c8 x ∧ c8 x ≤ 57
  · rw [if_pos hc]
    unfold numT
    by_cases he : (np ((x :: t).take (rn (x :: t)))).2.2 = 0
    · rw [if_pos he]
      refine ⟨?_, drop_lt (rn_pos (rg_num hc))⟩
      split <;> decide
    · rw [if_neg he]
      unfold np at he ⊢
      rcases numb_err (sgn ((x :: t).take (rn (x :: t)))) ((uns ((x :: t).take (rn (x :: t)))).take (dgs (uns ((x :: t).take (rn (x :: t)))))) ((uns ((x :: t).take (rn (x :: t)))).drop (dgs (uns ((x :: t).take (rn (x :: t)))))) with q | q | q
      · exact absurd q he
      · rw [q]; exact ⟨by decide, 4, rfl, by decide⟩
      · rw [q]; exact ⟨by decide, 5, rfl, by decide⟩
  · rw [if_neg hc]
    by_cases hr : rg (c8 x) = true
    · rw [if_pos hr]
      exact tfit_ite ⟨by decide, 3, rfl, by decide⟩ ⟨by decide, drop_lt (rn_pos hr)⟩
    · rw [if_neg hr]; exact ⟨by decide, 4, rfl, by decide⟩

theorem tk_good (s : List UInt8) : (tk s).good := by
  cases s with
  | nil => trivial
  | cons x t =>
    have h := tk_fit x t
    cases hq : tk (x :: t) with
    | bad e => rw [hq] at h; exact h
    | tok k n out rest => trivial
theorem TK_good (s : List UInt8) : (TK s).good := tk_good _
/-- the end, or at least a byte -/
theorem TK_fit (s : List UInt8) : TK s = .tok 0 0 [] [] ∨ (TK s).fit s.length := by
  unfold TK
  cases hq : s.drop (bl s false) with
  | nil => exact .inl rfl
  | cons x t =>
    have h := tk_fit x t
    have hl : (x :: t).length ≤ s.length := by rw [← hq, List.length_drop]; omega
    right
    cases hz : tk (x :: t) with
    | bad e => rw [hz] at h; exact h
    | tok k n out rest => rw [hz] at h; exact ⟨h.1, Nat.lt_of_lt_of_le h.2 hl⟩
end Go.Proofs.YtjkoiknjffldjaaGreatDoor
