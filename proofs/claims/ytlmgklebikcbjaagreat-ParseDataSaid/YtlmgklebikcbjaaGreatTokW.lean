/-
  token: what stands there, as the model reads it; the program's walk. Condition: the lexer stands in its bytes.
-/
import Derived.Test.YtlmgklebikcbjaaGreatKept
namespace Go.Proofs.YtlmgklebikcbjaaGreat
open Go.RowKit
set_option linter.unusedVariables false

theorem pfx2 (a c : UInt8) (s : List UInt8) : pfx [a, c] s = decide (hd s = c8 a ∧ hd s.tail = c8 c) := by
  have ha := c8_ge a
  have hc := c8_ge c
  rcases s with _ | ⟨x, _ | ⟨y, t⟩⟩
  · rw [decide_eq_false (by rw [hd_nil]; omega)]; rfl
  · rw [decide_eq_false (by rw [List.tail_cons, hd_nil]; omega)]; simp [pfx]
  · rw [hd_cons, List.tail_cons, hd_cons]
    by_cases h : x = a ∧ y = c
    · obtain ⟨rfl, rfl⟩ := h; simp [pfx]
    · rw [decide_eq_false (fun q => h ⟨c8_inj q.1, c8_inj q.2⟩)]
      simp only [pfx, List.length_cons, List.length_nil, List.take]
      rw [beq_eq_false_iff_ne]
      intro q
      injection q with q1 q2
      injection q2 with q3
      exact h ⟨q1, q3⟩

theorem Lx.eqs {w0 w : World} {lp cp : Nat} {b : List UInt8} {i : Nat} {s t : List UInt8} {m v u : Value} {out : List UInt8} (h : Lx w0 w lp cp b i s m v u out) (e : s = t) : Lx w0 w lp cp b i t m v u out := e ▸ h

section
variable {w0 w w' : World} {lp cp : Nat} {b : List UInt8} {i : Nat} {s t : List UInt8} {m v u : Value} {out : List UInt8} {x : UInt8}

set_option maxHeartbeats 1600000 in
set_option maxRecDepth 100000 in
theorem token_end (h : Lx w0 w lp cp b i [] m v u out) :
    Calls Tryz.prog 82 #[.pointer (some ⟨lp, 0, none⟩)] w fun e w' => TokP (.tok 0 0 [] []) w0 lp cp b 0 e w' := by
  have HL0 := hid h
  have hL := (h.below (Below.alloc (Below.refl _ _) (Nat.le_refl _) (Obj.cells #[Value.int IntKind.i64 0, Value.int IntKind.i64 0, Value.int IntKind.i64 0, Value.slice none 0 0] 79))).fresh
  have p0 := hL.p0
  clear h
  go_enter Tryz.func82, Tryz.ntmps82
  go_wp2_with (first | (go_at_call 39; refine (peek0 hL).mono ?_; rintro e w1 ⟨rfl, hL, -⟩; have p0 := hL.p0; obtain ⟨rc, rf, rs⟩ := HL0.out.rcell hL; first | rw [hd_cons] | rw [hd_nil] | skip))
  refine bodyPost_ret (v := .tuple #[.agg #[.int .i64 0, .int .i64 0, .int .i64 0, .slice none 0 0], .int .i64 0]) (by simp [results, Tryz.results82, go_sem, rc]) rfl ?_
  have hF := fun x0 x1 x2 x3 => HL0.out.close hL (fun B => Held.set4 B _ _ x0 x1 x2 x3)
  have hF := fun x0 x1 x2 x3 => HL0.out.close hL.bare (fun B => Held.set4 B _ _ x0 x1 x2 x3)
  exact ⟨_, rfl, _, _, _, hF _ _ _ _⟩

set_option maxHeartbeats 1600000 in
set_option maxRecDepth 100000 in
theorem token_91 (hcx : c8 x = 91) (h : Lx w0 w lp cp b i (x :: t) m v u out) :
    Calls Tryz.prog 82 #[.pointer (some ⟨lp, 0, none⟩)] w fun e w' => TokP (.tok 5 0 [] t) w0 lp cp b 0 e w' := by
  have x0 := c8_ge x
  have x1 := c8_le x
  have P91 : Hid (pfx [91] (x :: t) = true) := hid (by rw [pfx1, hd_cons]; exact decide_eq_true (hcx))
  clear hcx
  have HL0 := hid h
  have hL := (h.below (Below.alloc (Below.refl _ _) (Nat.le_refl _) (Obj.cells #[Value.int IntKind.i64 0, Value.int IntKind.i64 0, Value.int IntKind.i64 0, Value.slice none 0 0] 79))).fresh
  have p0 := hL.p0
  clear h
  go_enter Tryz.func82, Tryz.ntmps82
  go_wp2_with (first | (go_at_call 39; refine (peek0 hL).mono ?_; rintro e w1 ⟨rfl, hL, -⟩; have p0 := hL.p0; obtain ⟨rc, rf, rs⟩ := HL0.out.rcell hL; first | rw [hd_cons] | rw [hd_nil] | skip) | (go_at_call 37; refine (match_yes _ (by decide) P91.out hL).mono ?_; rintro e w1 ⟨rfl, hL⟩; have p0 := hL.p0; obtain ⟨rc, rf, rs⟩ := HL0.out.rcell hL))
  refine bodyPost_ret (v := .tuple #[.agg #[.int .i64 5, .int .i64 0, .int .i64 0, .slice none 0 0], .int .i64 0]) (by simp [results, Tryz.results82, go_sem, rc]) rfl ?_
  have hF := fun x0 x1 x2 x3 => HL0.out.close (hL.bare.eqs (show _ = t from rfl)) (fun B => Held.set4 B _ _ x0 x1 x2 x3)
  exact ⟨_, rfl, _, _, _, hF _ _ _ _⟩

set_option maxHeartbeats 1600000 in
set_option maxRecDepth 100000 in
theorem token_93 (hcx : c8 x = 93) (h : Lx w0 w lp cp b i (x :: t) m v u out) :
    Calls Tryz.prog 82 #[.pointer (some ⟨lp, 0, none⟩)] w fun e w' => TokP (.tok 6 0 [] t) w0 lp cp b 0 e w' := by
  have x0 := c8_ge x
  have x1 := c8_le x
  have P91 : Hid (pfx [91] (x :: t) = false) := hid (by rw [pfx1, hd_cons]; exact decide_eq_false (by rw [hcx]; decide))
  have P93 : Hid (pfx [93] (x :: t) = true) := hid (by rw [pfx1, hd_cons]; exact decide_eq_true (hcx))
  clear hcx
  have HL0 := hid h
  have hL := (h.below (Below.alloc (Below.refl _ _) (Nat.le_refl _) (Obj.cells #[Value.int IntKind.i64 0, Value.int IntKind.i64 0, Value.int IntKind.i64 0, Value.slice none 0 0] 79))).fresh
  have p0 := hL.p0
  clear h
  go_enter Tryz.func82, Tryz.ntmps82
  go_wp2_with (first | (go_at_call 39; refine (peek0 hL).mono ?_; rintro e w1 ⟨rfl, hL, -⟩; have p0 := hL.p0; obtain ⟨rc, rf, rs⟩ := HL0.out.rcell hL; first | rw [hd_cons] | rw [hd_nil] | skip) | (go_at_call 37; refine (match_no _ (by decide) P91.out hL).mono ?_; rintro e w1 ⟨rfl, hL⟩; have p0 := hL.p0) | (go_at_call 37; refine (match_yes _ (by decide) P93.out hL).mono ?_; rintro e w1 ⟨rfl, hL⟩; have p0 := hL.p0; obtain ⟨rc, rf, rs⟩ := HL0.out.rcell hL))
  refine bodyPost_ret (v := .tuple #[.agg #[.int .i64 6, .int .i64 0, .int .i64 0, .slice none 0 0], .int .i64 0]) (by simp [results, Tryz.results82, go_sem, rc]) rfl ?_
  have hF := fun x0 x1 x2 x3 => HL0.out.close (hL.bare.eqs (show _ = t from rfl)) (fun B => Held.set4 B _ _ x0 x1 x2 x3)
  exact ⟨_, rfl, _, _, _, hF _ _ _ _⟩

set_option maxHeartbeats 1600000 in
set_option maxRecDepth 100000 in
theorem token_6060 (hcx : c8 x = 60) (hy : hd t = 60) (h : Lx w0 w lp cp b i (x :: t) m v u out) :
    Calls Tryz.prog 82 #[.pointer (some ⟨lp, 0, none⟩)] w fun e w' => TokP (.tok 7 0 [] t.tail) w0 lp cp b 0 e w' := by
  have x0 := c8_ge x
  have x1 := c8_le x
  have P91 : Hid (pfx [91] (x :: t) = false) := hid (by rw [pfx1, hd_cons]; exact decide_eq_false (by rw [hcx]; decide))
  have P93 : Hid (pfx [93] (x :: t) = false) := hid (by rw [pfx1, hd_cons]; exact decide_eq_false (by rw [hcx]; decide))
  have P6060 : Hid (pfx [60, 60] (x :: t) = true) := hid (by rw [pfx2, hd_cons, List.tail_cons]; exact decide_eq_true (⟨hcx, hy⟩))
  clear hcx hy
  have HL0 := hid h
  have hL := (h.below (Below.alloc (Below.refl _ _) (Nat.le_refl _) (Obj.cells #[Value.int IntKind.i64 0, Value.int IntKind.i64 0, Value.int IntKind.i64 0, Value.slice none 0 0] 79))).fresh
  have p0 := hL.p0
  clear h
  go_enter Tryz.func82, Tryz.ntmps82
  go_wp2_with (first | (go_at_call 39; refine (peek0 hL).mono ?_; rintro e w1 ⟨rfl, hL, -⟩; have p0 := hL.p0; obtain ⟨rc, rf, rs⟩ := HL0.out.rcell hL; first | rw [hd_cons] | rw [hd_nil] | skip) | (go_at_call 37; refine (match_no _ (by decide) P91.out hL).mono ?_; rintro e w1 ⟨rfl, hL⟩; have p0 := hL.p0) | (go_at_call 37; refine (match_no _ (by decide) P93.out hL).mono ?_; rintro e w1 ⟨rfl, hL⟩; have p0 := hL.p0) | (go_at_call 37; refine (match_yes _ (by decide) P6060.out hL).mono ?_; rintro e w1 ⟨rfl, hL⟩; have p0 := hL.p0; obtain ⟨rc, rf, rs⟩ := HL0.out.rcell hL))
  refine bodyPost_ret (v := .tuple #[.agg #[.int .i64 7, .int .i64 0, .int .i64 0, .slice none 0 0], .int .i64 0]) (by simp [results, Tryz.results82, go_sem, rc]) rfl ?_
  have hF := fun x0 x1 x2 x3 => HL0.out.close (hL.bare.eqs (show _ = t.tail from List.drop_one)) (fun B => Held.set4 B _ _ x0 x1 x2 x3)
  exact ⟨_, rfl, _, _, _, hF _ _ _ _⟩

set_option maxHeartbeats 1600000 in
set_option maxRecDepth 100000 in
theorem token_6262 (hcx : c8 x = 62) (hy : hd t = 62) (h : Lx w0 w lp cp b i (x :: t) m v u out) :
    Calls Tryz.prog 82 #[.pointer (some ⟨lp, 0, none⟩)] w fun e w' => TokP (.tok 8 0 [] t.tail) w0 lp cp b 0 e w' := by
  have x0 := c8_ge x
  have x1 := c8_le x
  have P91 : Hid (pfx [91] (x :: t) = false) := hid (by rw [pfx1, hd_cons]; exact decide_eq_false (by rw [hcx]; decide))
  have P93 : Hid (pfx [93] (x :: t) = false) := hid (by rw [pfx1, hd_cons]; exact decide_eq_false (by rw [hcx]; decide))
  have P6060 : Hid (pfx [60, 60] (x :: t) = false) := hid (by rw [pfx2, hd_cons, List.tail_cons]; exact decide_eq_false (fun q => absurd q.1 (by rw [hcx]; decide)))
  have P6262 : Hid (pfx [62, 62] (x :: t) = true) := hid (by rw [pfx2, hd_cons, List.tail_cons]; exact decide_eq_true (⟨hcx, hy⟩))
  clear hcx hy
  have HL0 := hid h
  have hL := (h.below (Below.alloc (Below.refl _ _) (Nat.le_refl _) (Obj.cells #[Value.int IntKind.i64 0, Value.int IntKind.i64 0, Value.int IntKind.i64 0, Value.slice none 0 0] 79))).fresh
  have p0 := hL.p0
  clear h
  go_enter Tryz.func82, Tryz.ntmps82
  go_wp2_with (first | (go_at_call 39; refine (peek0 hL).mono ?_; rintro e w1 ⟨rfl, hL, -⟩; have p0 := hL.p0; obtain ⟨rc, rf, rs⟩ := HL0.out.rcell hL; first | rw [hd_cons] | rw [hd_nil] | skip) | (go_at_call 37; refine (match_no _ (by decide) P91.out hL).mono ?_; rintro e w1 ⟨rfl, hL⟩; have p0 := hL.p0) | (go_at_call 37; refine (match_no _ (by decide) P93.out hL).mono ?_; rintro e w1 ⟨rfl, hL⟩; have p0 := hL.p0) | (go_at_call 37; refine (match_no _ (by decide) P6060.out hL).mono ?_; rintro e w1 ⟨rfl, hL⟩; have p0 := hL.p0) | (go_at_call 37; refine (match_yes _ (by decide) P6262.out hL).mono ?_; rintro e w1 ⟨rfl, hL⟩; have p0 := hL.p0; obtain ⟨rc, rf, rs⟩ := HL0.out.rcell hL))
  refine bodyPost_ret (v := .tuple #[.agg #[.int .i64 8, .int .i64 0, .int .i64 0, .slice none 0 0], .int .i64 0]) (by simp [results, Tryz.results82, go_sem, rc]) rfl ?_
  have hF := fun x0 x1 x2 x3 => HL0.out.close (hL.bare.eqs (show _ = t.tail from List.drop_one)) (fun B => Held.set4 B _ _ x0 x1 x2 x3)
  exact ⟨_, rfl, _, _, _, hF _ _ _ _⟩

set_option maxHeartbeats 1600000 in
set_option maxRecDepth 100000 in
theorem token_47 (hcx : c8 x = 47) (h : Lx w0 w lp cp b i (x :: t) m v u out) :
    Calls Tryz.prog 82 #[.pointer (some ⟨lp, 0, none⟩)] w fun e w' => TokP (wrp 4 (nm t [])) w0 lp cp b 0 e w' := by
  have x0 := c8_ge x
  have x1 := c8_le x
  have P91 : Hid (pfx [91] (x :: t) = false) := hid (by rw [pfx1, hd_cons]; exact decide_eq_false (by rw [hcx]; decide))
  have P93 : Hid (pfx [93] (x :: t) = false) := hid (by rw [pfx1, hd_cons]; exact decide_eq_false (by rw [hcx]; decide))
  have P6060 : Hid (pfx [60, 60] (x :: t) = false) := hid (by rw [pfx2, hd_cons, List.tail_cons]; exact decide_eq_false (fun q => absurd q.1 (by rw [hcx]; decide)))
  have P6262 : Hid (pfx [62, 62] (x :: t) = false) := hid (by rw [pfx2, hd_cons, List.tail_cons]; exact decide_eq_false (fun q => absurd q.1 (by rw [hcx]; decide)))
  have P47 : Hid (pfx [47] (x :: t) = true) := hid (by rw [pfx1, hd_cons]; exact decide_eq_true (hcx))
  clear hcx
  generalize hR : nm t [] = R
  have HR := hid hR
  clear hR
  rcases R with err | ⟨out1, rest⟩
  · have HL0 := hid h
    have hL := (h.below (Below.alloc (Below.refl _ _) (Nat.le_refl _) (Obj.cells #[Value.int IntKind.i64 0, Value.int IntKind.i64 0, Value.int IntKind.i64 0, Value.slice none 0 0] 79))).fresh
    have p0 := hL.p0
    clear h
    go_enter Tryz.func82, Tryz.ntmps82
    go_wp2_with (first | (go_at_call 39; refine (peek0 hL).mono ?_; rintro e w1 ⟨rfl, hL, -⟩; have p0 := hL.p0; obtain ⟨rc, rf, rs⟩ := HL0.out.rcell hL; first | rw [hd_cons] | rw [hd_nil] | skip) | (go_at_call 37; refine (match_no _ (by decide) P91.out hL).mono ?_; rintro e w1 ⟨rfl, hL⟩; have p0 := hL.p0) | (go_at_call 37; refine (match_no _ (by decide) P93.out hL).mono ?_; rintro e w1 ⟨rfl, hL⟩; have p0 := hL.p0) | (go_at_call 37; refine (match_no _ (by decide) P6060.out hL).mono ?_; rintro e w1 ⟨rfl, hL⟩; have p0 := hL.p0) | (go_at_call 37; refine (match_no _ (by decide) P6262.out hL).mono ?_; rintro e w1 ⟨rfl, hL⟩; have p0 := hL.p0) | (go_at_call 37; refine (match_yes _ (by decide) P47.out hL).mono ?_; rintro e w1 ⟨rfl, hL⟩; have p0 := hL.p0; obtain ⟨rc, rf, rs⟩ := HL0.out.rcell hL) | (go_at_call 92; refine (kept_name 4 (hL.eqs (show _ = t from rfl))).mono ?_; rw [HR.out]; rintro e w1 ⟨⟨k1, n1, a1, ao1, l1, c1, rfl⟩, j, s1, m1, v1, u1, o1, hL⟩; obtain ⟨rc, rf, rs⟩ := HL0.out.rcell hL))
    refine bodyPost_ret (v := .tuple #[.agg #[.int .i64 k1, .int .i64 a1, .int .i64 n1, .slice ao1 l1 c1], .int .i64 err]) (by simp [results, Tryz.results82, go_sem, rc]) rfl ?_
    have hF := fun x0 x1 x2 x3 => HL0.out.close hL (fun B => Held.set4 B _ _ x0 x1 x2 x3)
    exact ⟨⟨_, _, _, _, _, _, rfl⟩, _, _, _, _, _, _, hF _ _ _ _⟩
  · have HL0 := hid h
    have hL := (h.below (Below.alloc (Below.refl _ _) (Nat.le_refl _) (Obj.cells #[Value.int IntKind.i64 0, Value.int IntKind.i64 0, Value.int IntKind.i64 0, Value.slice none 0 0] 79))).fresh
    have p0 := hL.p0
    clear h
    go_enter Tryz.func82, Tryz.ntmps82
    go_wp2_with (first | (go_at_call 39; refine (peek0 hL).mono ?_; rintro e w1 ⟨rfl, hL, -⟩; have p0 := hL.p0; obtain ⟨rc, rf, rs⟩ := HL0.out.rcell hL; first | rw [hd_cons] | rw [hd_nil] | skip) | (go_at_call 37; refine (match_no _ (by decide) P91.out hL).mono ?_; rintro e w1 ⟨rfl, hL⟩; have p0 := hL.p0) | (go_at_call 37; refine (match_no _ (by decide) P93.out hL).mono ?_; rintro e w1 ⟨rfl, hL⟩; have p0 := hL.p0) | (go_at_call 37; refine (match_no _ (by decide) P6060.out hL).mono ?_; rintro e w1 ⟨rfl, hL⟩; have p0 := hL.p0) | (go_at_call 37; refine (match_no _ (by decide) P6262.out hL).mono ?_; rintro e w1 ⟨rfl, hL⟩; have p0 := hL.p0) | (go_at_call 37; refine (match_yes _ (by decide) P47.out hL).mono ?_; rintro e w1 ⟨rfl, hL⟩; have p0 := hL.p0; obtain ⟨rc, rf, rs⟩ := HL0.out.rcell hL) | (go_at_call 92; refine (kept_name 4 (hL.eqs (show _ = t from rfl))).mono ?_; rw [HR.out]; rintro e w1 ⟨u1, rfl, j, m1, v1, hL⟩; obtain ⟨ao1, cap1, rfl, -, -, -⟩ := Rd.own hL.row; obtain ⟨rc, rf, rs⟩ := HL0.out.rcell hL))
    refine bodyPost_ret (v := .tuple #[.agg #[.int .i64 4, .int .i64 0, .int .i64 0, .slice ao1 out1.length cap1], .int .i64 0]) (by simp [results, Tryz.results82, go_sem, rc]) rfl ?_
    have hF := fun x0 x1 x2 x3 => HL0.out.close hL (fun B => Held.set4 B _ _ x0 x1 x2 x3)
    exact ⟨_, rfl, _, _, _, hF _ _ _ _⟩

set_option maxHeartbeats 1600000 in
set_option maxRecDepth 100000 in
theorem token_40 (hcx : c8 x = 40) (h : Lx w0 w lp cp b i (x :: t) m v u out) :
    Calls Tryz.prog 82 #[.pointer (some ⟨lp, 0, none⟩)] w fun e w' => TokP (wrp 3 (TX t 1 [])) w0 lp cp b 0 e w' := by
  have x0 := c8_ge x
  have x1 := c8_le x
  have P91 : Hid (pfx [91] (x :: t) = false) := hid (by rw [pfx1, hd_cons]; exact decide_eq_false (by rw [hcx]; decide))
  have P93 : Hid (pfx [93] (x :: t) = false) := hid (by rw [pfx1, hd_cons]; exact decide_eq_false (by rw [hcx]; decide))
  have P6060 : Hid (pfx [60, 60] (x :: t) = false) := hid (by rw [pfx2, hd_cons, List.tail_cons]; exact decide_eq_false (fun q => absurd q.1 (by rw [hcx]; decide)))
  have P6262 : Hid (pfx [62, 62] (x :: t) = false) := hid (by rw [pfx2, hd_cons, List.tail_cons]; exact decide_eq_false (fun q => absurd q.1 (by rw [hcx]; decide)))
  have P47 : Hid (pfx [47] (x :: t) = false) := hid (by rw [pfx1, hd_cons]; exact decide_eq_false (by rw [hcx]; decide))
  have P40 : Hid (pfx [40] (x :: t) = true) := hid (by rw [pfx1, hd_cons]; exact decide_eq_true (hcx))
  clear hcx
  generalize hR : TX t 1 [] = R
  have HR := hid hR
  clear hR
  rcases R with err | ⟨out1, rest⟩
  · have HL0 := hid h
    have hL := (h.below (Below.alloc (Below.refl _ _) (Nat.le_refl _) (Obj.cells #[Value.int IntKind.i64 0, Value.int IntKind.i64 0, Value.int IntKind.i64 0, Value.slice none 0 0] 79))).fresh
    have p0 := hL.p0
    clear h
    go_enter Tryz.func82, Tryz.ntmps82
    go_wp2_with (first | (go_at_call 39; refine (peek0 hL).mono ?_; rintro e w1 ⟨rfl, hL, -⟩; have p0 := hL.p0; obtain ⟨rc, rf, rs⟩ := HL0.out.rcell hL; first | rw [hd_cons] | rw [hd_nil] | skip) | (go_at_call 37; refine (match_no _ (by decide) P91.out hL).mono ?_; rintro e w1 ⟨rfl, hL⟩; have p0 := hL.p0) | (go_at_call 37; refine (match_no _ (by decide) P93.out hL).mono ?_; rintro e w1 ⟨rfl, hL⟩; have p0 := hL.p0) | (go_at_call 37; refine (match_no _ (by decide) P6060.out hL).mono ?_; rintro e w1 ⟨rfl, hL⟩; have p0 := hL.p0) | (go_at_call 37; refine (match_no _ (by decide) P6262.out hL).mono ?_; rintro e w1 ⟨rfl, hL⟩; have p0 := hL.p0) | (go_at_call 37; refine (match_no _ (by decide) P47.out hL).mono ?_; rintro e w1 ⟨rfl, hL⟩; have p0 := hL.p0) | (go_at_call 37; refine (match_yes _ (by decide) P40.out hL).mono ?_; rintro e w1 ⟨rfl, hL⟩; have p0 := hL.p0; obtain ⟨rc, rf, rs⟩ := HL0.out.rcell hL) | (go_at_call 92; refine (kept_text 3 (hL.eqs (show _ = t from rfl))).mono ?_; rw [HR.out]; rintro e w1 ⟨⟨k1, n1, a1, ao1, l1, c1, rfl⟩, j, s1, m1, v1, u1, o1, hL⟩; obtain ⟨rc, rf, rs⟩ := HL0.out.rcell hL))
    refine bodyPost_ret (v := .tuple #[.agg #[.int .i64 k1, .int .i64 a1, .int .i64 n1, .slice ao1 l1 c1], .int .i64 err]) (by simp [results, Tryz.results82, go_sem, rc]) rfl ?_
    have hF := fun x0 x1 x2 x3 => HL0.out.close hL (fun B => Held.set4 B _ _ x0 x1 x2 x3)
    exact ⟨⟨_, _, _, _, _, _, rfl⟩, _, _, _, _, _, _, hF _ _ _ _⟩
  · have HL0 := hid h
    have hL := (h.below (Below.alloc (Below.refl _ _) (Nat.le_refl _) (Obj.cells #[Value.int IntKind.i64 0, Value.int IntKind.i64 0, Value.int IntKind.i64 0, Value.slice none 0 0] 79))).fresh
    have p0 := hL.p0
    clear h
    go_enter Tryz.func82, Tryz.ntmps82
    go_wp2_with (first | (go_at_call 39; refine (peek0 hL).mono ?_; rintro e w1 ⟨rfl, hL, -⟩; have p0 := hL.p0; obtain ⟨rc, rf, rs⟩ := HL0.out.rcell hL; first | rw [hd_cons] | rw [hd_nil] | skip) | (go_at_call 37; refine (match_no _ (by decide) P91.out hL).mono ?_; rintro e w1 ⟨rfl, hL⟩; have p0 := hL.p0) | (go_at_call 37; refine (match_no _ (by decide) P93.out hL).mono ?_; rintro e w1 ⟨rfl, hL⟩; have p0 := hL.p0) | (go_at_call 37; refine (match_no _ (by decide) P6060.out hL).mono ?_; rintro e w1 ⟨rfl, hL⟩; have p0 := hL.p0) | (go_at_call 37; refine (match_no _ (by decide) P6262.out hL).mono ?_; rintro e w1 ⟨rfl, hL⟩; have p0 := hL.p0) | (go_at_call 37; refine (match_no _ (by decide) P47.out hL).mono ?_; rintro e w1 ⟨rfl, hL⟩; have p0 := hL.p0) | (go_at_call 37; refine (match_yes _ (by decide) P40.out hL).mono ?_; rintro e w1 ⟨rfl, hL⟩; have p0 := hL.p0; obtain ⟨rc, rf, rs⟩ := HL0.out.rcell hL) | (go_at_call 92; refine (kept_text 3 (hL.eqs (show _ = t from rfl))).mono ?_; rw [HR.out]; rintro e w1 ⟨u1, rfl, j, m1, v1, hL⟩; obtain ⟨ao1, cap1, rfl, -, -, -⟩ := Rd.own hL.row; obtain ⟨rc, rf, rs⟩ := HL0.out.rcell hL))
    refine bodyPost_ret (v := .tuple #[.agg #[.int .i64 3, .int .i64 0, .int .i64 0, .slice ao1 out1.length cap1], .int .i64 0]) (by simp [results, Tryz.results82, go_sem, rc]) rfl ?_
    have hF := fun x0 x1 x2 x3 => HL0.out.close hL (fun B => Held.set4 B _ _ x0 x1 x2 x3)
    exact ⟨_, rfl, _, _, _, hF _ _ _ _⟩

set_option maxHeartbeats 1600000 in
set_option maxRecDepth 100000 in
theorem token_60 (hcx : c8 x = 60) (hy : ¬ hd t = 60) (h : Lx w0 w lp cp b i (x :: t) m v u out) :
    Calls Tryz.prog 82 #[.pointer (some ⟨lp, 0, none⟩)] w fun e w' => TokP (wrp 3 (hx t (-1) [])) w0 lp cp b 0 e w' := by
  have x0 := c8_ge x
  have x1 := c8_le x
  have P91 : Hid (pfx [91] (x :: t) = false) := hid (by rw [pfx1, hd_cons]; exact decide_eq_false (by rw [hcx]; decide))
  have P93 : Hid (pfx [93] (x :: t) = false) := hid (by rw [pfx1, hd_cons]; exact decide_eq_false (by rw [hcx]; decide))
  have P6060 : Hid (pfx [60, 60] (x :: t) = false) := hid (by rw [pfx2, hd_cons, List.tail_cons]; exact decide_eq_false (fun q => hy q.2))
  have P6262 : Hid (pfx [62, 62] (x :: t) = false) := hid (by rw [pfx2, hd_cons, List.tail_cons]; exact decide_eq_false (fun q => absurd q.1 (by rw [hcx]; decide)))
  have P47 : Hid (pfx [47] (x :: t) = false) := hid (by rw [pfx1, hd_cons]; exact decide_eq_false (by rw [hcx]; decide))
  have P40 : Hid (pfx [40] (x :: t) = false) := hid (by rw [pfx1, hd_cons]; exact decide_eq_false (by rw [hcx]; decide))
  have P60 : Hid (pfx [60] (x :: t) = true) := hid (by rw [pfx1, hd_cons]; exact decide_eq_true (hcx))
  clear hcx hy
  generalize hR : hx t (-1) [] = R
  have HR := hid hR
  clear hR
  rcases R with err | ⟨out1, rest⟩
  · have HL0 := hid h
    have hL := (h.below (Below.alloc (Below.refl _ _) (Nat.le_refl _) (Obj.cells #[Value.int IntKind.i64 0, Value.int IntKind.i64 0, Value.int IntKind.i64 0, Value.slice none 0 0] 79))).fresh
    have p0 := hL.p0
    clear h
    go_enter Tryz.func82, Tryz.ntmps82
    go_wp2_with (first | (go_at_call 39; refine (peek0 hL).mono ?_; rintro e w1 ⟨rfl, hL, -⟩; have p0 := hL.p0; obtain ⟨rc, rf, rs⟩ := HL0.out.rcell hL; first | rw [hd_cons] | rw [hd_nil] | skip) | (go_at_call 37; refine (match_no _ (by decide) P91.out hL).mono ?_; rintro e w1 ⟨rfl, hL⟩; have p0 := hL.p0) | (go_at_call 37; refine (match_no _ (by decide) P93.out hL).mono ?_; rintro e w1 ⟨rfl, hL⟩; have p0 := hL.p0) | (go_at_call 37; refine (match_no _ (by decide) P6060.out hL).mono ?_; rintro e w1 ⟨rfl, hL⟩; have p0 := hL.p0) | (go_at_call 37; refine (match_no _ (by decide) P6262.out hL).mono ?_; rintro e w1 ⟨rfl, hL⟩; have p0 := hL.p0) | (go_at_call 37; refine (match_no _ (by decide) P47.out hL).mono ?_; rintro e w1 ⟨rfl, hL⟩; have p0 := hL.p0) | (go_at_call 37; refine (match_no _ (by decide) P40.out hL).mono ?_; rintro e w1 ⟨rfl, hL⟩; have p0 := hL.p0) | (go_at_call 37; refine (match_yes _ (by decide) P60.out hL).mono ?_; rintro e w1 ⟨rfl, hL⟩; have p0 := hL.p0; obtain ⟨rc, rf, rs⟩ := HL0.out.rcell hL) | (go_at_call 92; refine (kept_hex 3 (hL.eqs (show _ = t from rfl))).mono ?_; rw [HR.out]; rintro e w1 ⟨⟨k1, n1, a1, ao1, l1, c1, rfl⟩, j, s1, m1, v1, u1, o1, hL⟩; obtain ⟨rc, rf, rs⟩ := HL0.out.rcell hL))
    refine bodyPost_ret (v := .tuple #[.agg #[.int .i64 k1, .int .i64 a1, .int .i64 n1, .slice ao1 l1 c1], .int .i64 err]) (by simp [results, Tryz.results82, go_sem, rc]) rfl ?_
    have hF := fun x0 x1 x2 x3 => HL0.out.close hL (fun B => Held.set4 B _ _ x0 x1 x2 x3)
    exact ⟨⟨_, _, _, _, _, _, rfl⟩, _, _, _, _, _, _, hF _ _ _ _⟩
  · have HL0 := hid h
    have hL := (h.below (Below.alloc (Below.refl _ _) (Nat.le_refl _) (Obj.cells #[Value.int IntKind.i64 0, Value.int IntKind.i64 0, Value.int IntKind.i64 0, Value.slice none 0 0] 79))).fresh
    have p0 := hL.p0
    clear h
    go_enter Tryz.func82, Tryz.ntmps82
    go_wp2_with (first | (go_at_call 39; refine (peek0 hL).mono ?_; rintro e w1 ⟨rfl, hL, -⟩; have p0 := hL.p0; obtain ⟨rc, rf, rs⟩ := HL0.out.rcell hL; first | rw [hd_cons] | rw [hd_nil] | skip) | (go_at_call 37; refine (match_no _ (by decide) P91.out hL).mono ?_; rintro e w1 ⟨rfl, hL⟩; have p0 := hL.p0) | (go_at_call 37; refine (match_no _ (by decide) P93.out hL).mono ?_; rintro e w1 ⟨rfl, hL⟩; have p0 := hL.p0) | (go_at_call 37; refine (match_no _ (by decide) P6060.out hL).mono ?_; rintro e w1 ⟨rfl, hL⟩; have p0 := hL.p0) | (go_at_call 37; refine (match_no _ (by decide) P6262.out hL).mono ?_; rintro e w1 ⟨rfl, hL⟩; have p0 := hL.p0) | (go_at_call 37; refine (match_no _ (by decide) P47.out hL).mono ?_; rintro e w1 ⟨rfl, hL⟩; have p0 := hL.p0) | (go_at_call 37; refine (match_no _ (by decide) P40.out hL).mono ?_; rintro e w1 ⟨rfl, hL⟩; have p0 := hL.p0) | (go_at_call 37; refine (match_yes _ (by decide) P60.out hL).mono ?_; rintro e w1 ⟨rfl, hL⟩; have p0 := hL.p0; obtain ⟨rc, rf, rs⟩ := HL0.out.rcell hL) | (go_at_call 92; refine (kept_hex 3 (hL.eqs (show _ = t from rfl))).mono ?_; rw [HR.out]; rintro e w1 ⟨u1, rfl, j, m1, v1, hL⟩; obtain ⟨ao1, cap1, rfl, -, -, -⟩ := Rd.own hL.row; obtain ⟨rc, rf, rs⟩ := HL0.out.rcell hL))
    refine bodyPost_ret (v := .tuple #[.agg #[.int .i64 3, .int .i64 0, .int .i64 0, .slice ao1 out1.length cap1], .int .i64 0]) (by simp [results, Tryz.results82, go_sem, rc]) rfl ?_
    have hF := fun x0 x1 x2 x3 => HL0.out.close hL (fun B => Held.set4 B _ _ x0 x1 x2 x3)
    exact ⟨_, rfl, _, _, _, hF _ _ _ _⟩

set_option maxHeartbeats 1600000 in
set_option maxRecDepth 100000 in
theorem token_num (h91 : ¬ c8 x = 91) (h93 : ¬ c8 x = 93) (h6060 : ¬ (c8 x = 60 ∧ hd t = 60)) (h6262 : ¬ (c8 x = 62 ∧ hd t = 62)) (h47 : ¬ c8 x = 47) (h40 : ¬ c8 x = 40) (h60 : ¬ c8 x = 60) (hn : c8 x = 43 ∨ c8 x = 45 ∨ c8 x = 46 ∨ 48 ≤ c8 x ∧ c8 x ≤ 57) (h : Lx w0 w lp cp b i (x :: t) m v u out) :
    Calls Tryz.prog 82 #[.pointer (some ⟨lp, 0, none⟩)] w fun e w' => TokP (numT (x :: t)) w0 lp cp b 0 e w' := by
  have x0 := c8_ge x
  have x1 := c8_le x
  have P91 : Hid (pfx [91] (x :: t) = false) := hid (by rw [pfx1, hd_cons]; exact decide_eq_false h91)
  have P93 : Hid (pfx [93] (x :: t) = false) := hid (by rw [pfx1, hd_cons]; exact decide_eq_false h93)
  have P47 : Hid (pfx [47] (x :: t) = false) := hid (by rw [pfx1, hd_cons]; exact decide_eq_false h47)
  have P40 : Hid (pfx [40] (x :: t) = false) := hid (by rw [pfx1, hd_cons]; exact decide_eq_false h40)
  have P60 : Hid (pfx [60] (x :: t) = false) := hid (by rw [pfx1, hd_cons]; exact decide_eq_false h60)
  have P6060 : Hid (pfx [60, 60] (x :: t) = false) := hid (by rw [pfx2, hd_cons, List.tail_cons]; exact decide_eq_false h6060)
  have P6262 : Hid (pfx [62, 62] (x :: t) = false) := hid (by rw [pfx2, hd_cons, List.tail_cons]; exact decide_eq_false h6262)
  clear h91 h93 h6060 h6262 h47 h40 h60
  have hb : (c8 x == 43) = true ∨ ((c8 x == 43) = false ∧ (c8 x == 45) = true) ∨ ((c8 x == 43) = false ∧ (c8 x == 45) = false ∧ (c8 x == 46) = true) ∨ ((c8 x == 43) = false ∧ (c8 x == 45) = false ∧ (c8 x == 46) = false ∧ decide (48 ≤ c8 x) = true ∧ decide (c8 x ≤ 57) = true) := by
    rcases hn with q | q | q | q
    · exact .inl (by simpa using q)
    · exact .inr (.inl ⟨by simp [q], by simpa using q⟩)
    · exact .inr (.inr (.inl ⟨by simp [q], by simp [q], by simpa using q⟩))
    · exact .inr (.inr (.inr ⟨by simp; omega, by simp; omega, by simp; omega, decide_eq_true q.1, decide_eq_true q.2⟩))
  clear hn
  generalize hR : numT (x :: t) = R
  have HR := hid hR
  clear hR
  rcases R with err | ⟨k0, n0, out1, rest⟩
  · have HL0 := hid h
    have hL := (h.below (Below.alloc (Below.refl _ _) (Nat.le_refl _) (Obj.cells #[Value.int IntKind.i64 0, Value.int IntKind.i64 0, Value.int IntKind.i64 0, Value.slice none 0 0] 79))).fresh
    have p0 := hL.p0
    clear h
    rcases hb with q1 | ⟨q1, q2⟩ | ⟨q1, q2, q3⟩ | ⟨q1, q2, q3, q4, q5⟩
    all_goals
      go_enter Tryz.func82, Tryz.ntmps82
      go_wp2_with (first | (go_at_call 39; refine (peek0 hL).mono ?_; rintro e w1 ⟨rfl, hL, -⟩; have p0 := hL.p0; obtain ⟨rc, rf, rs⟩ := HL0.out.rcell hL; first | rw [hd_cons] | rw [hd_nil] | skip) | (go_at_call 37; refine (match_no _ (by decide) P91.out hL).mono ?_; rintro e w1 ⟨rfl, hL⟩; have p0 := hL.p0) | (go_at_call 37; refine (match_no _ (by decide) P93.out hL).mono ?_; rintro e w1 ⟨rfl, hL⟩; have p0 := hL.p0) | (go_at_call 37; refine (match_no _ (by decide) P6060.out hL).mono ?_; rintro e w1 ⟨rfl, hL⟩; have p0 := hL.p0) | (go_at_call 37; refine (match_no _ (by decide) P6262.out hL).mono ?_; rintro e w1 ⟨rfl, hL⟩; have p0 := hL.p0) | (go_at_call 37; refine (match_no _ (by decide) P47.out hL).mono ?_; rintro e w1 ⟨rfl, hL⟩; have p0 := hL.p0) | (go_at_call 37; refine (match_no _ (by decide) P40.out hL).mono ?_; rintro e w1 ⟨rfl, hL⟩; have p0 := hL.p0) | (go_at_call 37; refine (match_no _ (by decide) P60.out hL).mono ?_; rintro e w1 ⟨rfl, hL⟩; have p0 := hL.p0) | (go_at_call 96; refine (number_l hL).mono ?_; rw [HR.out]; rintro e w1 ⟨⟨k1, n1, a1, ao1, l1, c1, rfl⟩, j, s1, m1, v1, u1, o1, hL⟩; obtain ⟨rc, rf, rs⟩ := HL0.out.rcell hL))
      refine bodyPost_ret (v := .tuple #[.agg #[.int .i64 k1, .int .i64 a1, .int .i64 n1, .slice ao1 l1 c1], .int .i64 err]) (by simp [results, Tryz.results82, go_sem, rc]) rfl ?_
      have hF := fun x0 x1 x2 x3 => HL0.out.close hL (fun B => Held.set4 B _ _ x0 x1 x2 x3)
      exact ⟨⟨_, _, _, _, _, _, rfl⟩, _, _, _, _, _, _, hF _ _ _ _⟩
  · have HL0 := hid h
    have hL := (h.below (Below.alloc (Below.refl _ _) (Nat.le_refl _) (Obj.cells #[Value.int IntKind.i64 0, Value.int IntKind.i64 0, Value.int IntKind.i64 0, Value.slice none 0 0] 79))).fresh
    have p0 := hL.p0
    clear h
    rcases hb with q1 | ⟨q1, q2⟩ | ⟨q1, q2, q3⟩ | ⟨q1, q2, q3, q4, q5⟩
    all_goals
      go_enter Tryz.func82, Tryz.ntmps82
      go_wp2_with (first | (go_at_call 39; refine (peek0 hL).mono ?_; rintro e w1 ⟨rfl, hL, -⟩; have p0 := hL.p0; obtain ⟨rc, rf, rs⟩ := HL0.out.rcell hL; first | rw [hd_cons] | rw [hd_nil] | skip) | (go_at_call 37; refine (match_no _ (by decide) P91.out hL).mono ?_; rintro e w1 ⟨rfl, hL⟩; have p0 := hL.p0) | (go_at_call 37; refine (match_no _ (by decide) P93.out hL).mono ?_; rintro e w1 ⟨rfl, hL⟩; have p0 := hL.p0) | (go_at_call 37; refine (match_no _ (by decide) P6060.out hL).mono ?_; rintro e w1 ⟨rfl, hL⟩; have p0 := hL.p0) | (go_at_call 37; refine (match_no _ (by decide) P6262.out hL).mono ?_; rintro e w1 ⟨rfl, hL⟩; have p0 := hL.p0) | (go_at_call 37; refine (match_no _ (by decide) P47.out hL).mono ?_; rintro e w1 ⟨rfl, hL⟩; have p0 := hL.p0) | (go_at_call 37; refine (match_no _ (by decide) P40.out hL).mono ?_; rintro e w1 ⟨rfl, hL⟩; have p0 := hL.p0) | (go_at_call 37; refine (match_no _ (by decide) P60.out hL).mono ?_; rintro e w1 ⟨rfl, hL⟩; have p0 := hL.p0) | (go_at_call 96; refine (number_l hL).mono ?_; rw [HR.out]; rintro e w1 ⟨u1, rfl, j, m1, v1, hL⟩; obtain ⟨ao1, cap1, rfl, -, -, -⟩ := Rd.own hL.row; obtain ⟨rc, rf, rs⟩ := HL0.out.rcell hL))
      refine bodyPost_ret (v := .tuple #[.agg #[.int .i64 k0, .int .i64 0, .int .i64 n0, .slice ao1 out1.length cap1], .int .i64 0]) (by simp [results, Tryz.results82, go_sem, rc]) rfl ?_
      have hF := fun x0 x1 x2 x3 => HL0.out.close hL (fun B => Held.set4 B _ _ x0 x1 x2 x3)
      exact ⟨_, rfl, _, _, _, hF _ _ _ _⟩

theorem nonum {c : Int} (hn : ¬ (c = 43 ∨ c = 45 ∨ c = 46 ∨ 48 ≤ c ∧ c ≤ 57)) : ((c == 43) = false ∧ (c == 45) = false ∧ (c == 46) = false) ∧ (decide (48 ≤ c) = false ∨ (decide (48 ≤ c) = true ∧ decide (c ≤ 57) = false)) := by
  refine ⟨⟨by simp; omega, by simp; omega, by simp; omega⟩, ?_⟩
  by_cases h : 48 ≤ c
  · exact .inr ⟨decide_eq_true h, decide_eq_false (by omega)⟩
  · exact .inl (decide_eq_false h)

set_option maxHeartbeats 1600000 in
set_option maxRecDepth 100000 in
theorem token_none (h91 : ¬ c8 x = 91) (h93 : ¬ c8 x = 93) (h6060 : ¬ (c8 x = 60 ∧ hd t = 60)) (h6262 : ¬ (c8 x = 62 ∧ hd t = 62)) (h47 : ¬ c8 x = 47) (h40 : ¬ c8 x = 40) (h60 : ¬ c8 x = 60) (hn : ¬ (c8 x = 43 ∨ c8 x = 45 ∨ c8 x = 46 ∨ 48 ≤ c8 x ∧ c8 x ≤ 57)) (hr : rg (c8 x) = false) (h : Lx w0 w lp cp b i (x :: t) m v u out) :
    Calls Tryz.prog 82 #[.pointer (some ⟨lp, 0, none⟩)] w fun e w' => TokP (.bad 4) w0 lp cp b 0 e w' := by
  have x0 := c8_ge x
  have x1 := c8_le x
  have P91 : Hid (pfx [91] (x :: t) = false) := hid (by rw [pfx1, hd_cons]; exact decide_eq_false h91)
  have P93 : Hid (pfx [93] (x :: t) = false) := hid (by rw [pfx1, hd_cons]; exact decide_eq_false h93)
  have P47 : Hid (pfx [47] (x :: t) = false) := hid (by rw [pfx1, hd_cons]; exact decide_eq_false h47)
  have P40 : Hid (pfx [40] (x :: t) = false) := hid (by rw [pfx1, hd_cons]; exact decide_eq_false h40)
  have P60 : Hid (pfx [60] (x :: t) = false) := hid (by rw [pfx1, hd_cons]; exact decide_eq_false h60)
  have P6060 : Hid (pfx [60, 60] (x :: t) = false) := hid (by rw [pfx2, hd_cons, List.tail_cons]; exact decide_eq_false h6060)
  have P6262 : Hid (pfx [62, 62] (x :: t) = false) := hid (by rw [pfx2, hd_cons, List.tail_cons]; exact decide_eq_false h6262)
  clear h91 h93 h6060 h6262 h47 h40 h60
  obtain ⟨⟨q1, q2, q3⟩, q4⟩ := nonum hn
  clear hn
  have Hr := hid hr
  clear hr
  have HL0 := hid h
  have hL := (h.below (Below.alloc (Below.refl _ _) (Nat.le_refl _) (Obj.cells #[Value.int IntKind.i64 0, Value.int IntKind.i64 0, Value.int IntKind.i64 0, Value.slice none 0 0] 79))).fresh
  have p0 := hL.p0
  clear h
  rcases q4 with q4 | ⟨q4, q5⟩
  all_goals
    go_enter Tryz.func82, Tryz.ntmps82
    go_wp2_with (first | (go_at_call 39; refine (peek0 hL).mono ?_; rintro e w1 ⟨rfl, hL, -⟩; have p0 := hL.p0; obtain ⟨rc, rf, rs⟩ := HL0.out.rcell hL; first | rw [hd_cons] | rw [hd_nil] | skip) | (go_at_call 37; refine (match_no _ (by decide) P91.out hL).mono ?_; rintro e w1 ⟨rfl, hL⟩; have p0 := hL.p0) | (go_at_call 37; refine (match_no _ (by decide) P93.out hL).mono ?_; rintro e w1 ⟨rfl, hL⟩; have p0 := hL.p0) | (go_at_call 37; refine (match_no _ (by decide) P6060.out hL).mono ?_; rintro e w1 ⟨rfl, hL⟩; have p0 := hL.p0) | (go_at_call 37; refine (match_no _ (by decide) P6262.out hL).mono ?_; rintro e w1 ⟨rfl, hL⟩; have p0 := hL.p0) | (go_at_call 37; refine (match_no _ (by decide) P47.out hL).mono ?_; rintro e w1 ⟨rfl, hL⟩; have p0 := hL.p0) | (go_at_call 37; refine (match_no _ (by decide) P40.out hL).mono ?_; rintro e w1 ⟨rfl, hL⟩; have p0 := hL.p0) | (go_at_call 37; refine (match_no _ (by decide) P60.out hL).mono ?_; rintro e w1 ⟨rfl, hL⟩; have p0 := hL.p0) | (go_at_call 38; refine (regular_l _ hL).mono ?_; rintro e w1 ⟨rfl, hL⟩; have p0 := hL.p0; obtain ⟨rc, rf, rs⟩ := HL0.out.rcell hL; rw [Hr.out]))
    refine bodyPost_ret (v := .tuple #[.agg #[.int .i64 0, .int .i64 0, .int .i64 0, .slice none 0 0], .int .i64 4]) (by simp [results, Tryz.results82, go_sem, rc]) rfl ?_
    have hF := fun x0 x1 x2 x3 => HL0.out.close hL (fun B => Held.set4 B _ _ x0 x1 x2 x3)
    exact ⟨⟨_, _, _, _, _, _, rfl⟩, _, _, _, _, _, _, hF _ _ _ _⟩

set_option maxHeartbeats 1600000 in
set_option maxRecDepth 100000 in
theorem token_long (h91 : ¬ c8 x = 91) (h93 : ¬ c8 x = 93) (h6060 : ¬ (c8 x = 60 ∧ hd t = 60)) (h6262 : ¬ (c8 x = 62 ∧ hd t = 62)) (h47 : ¬ c8 x = 47) (h40 : ¬ c8 x = 40) (h60 : ¬ c8 x = 60) (hn : ¬ (c8 x = 43 ∨ c8 x = 45 ∨ c8 x = 46 ∨ 48 ≤ c8 x ∧ c8 x ≤ 57)) (hr : rg (c8 x) = true) (hlo : 127 < rn (x :: t)) (h : Lx w0 w lp cp b i (x :: t) m v u out) :
    Calls Tryz.prog 82 #[.pointer (some ⟨lp, 0, none⟩)] w fun e w' => TokP (.bad 3) w0 lp cp b 0 e w' := by
  have x0 := c8_ge x
  have x1 := c8_le x
  have P91 : Hid (pfx [91] (x :: t) = false) := hid (by rw [pfx1, hd_cons]; exact decide_eq_false h91)
  have P93 : Hid (pfx [93] (x :: t) = false) := hid (by rw [pfx1, hd_cons]; exact decide_eq_false h93)
  have P47 : Hid (pfx [47] (x :: t) = false) := hid (by rw [pfx1, hd_cons]; exact decide_eq_false h47)
  have P40 : Hid (pfx [40] (x :: t) = false) := hid (by rw [pfx1, hd_cons]; exact decide_eq_false h40)
  have P60 : Hid (pfx [60] (x :: t) = false) := hid (by rw [pfx1, hd_cons]; exact decide_eq_false h60)
  have P6060 : Hid (pfx [60, 60] (x :: t) = false) := hid (by rw [pfx2, hd_cons, List.tail_cons]; exact decide_eq_false h6060)
  have P6262 : Hid (pfx [62, 62] (x :: t) = false) := hid (by rw [pfx2, hd_cons, List.tail_cons]; exact decide_eq_false h6262)
  clear h91 h93 h6060 h6262 h47 h40 h60
  obtain ⟨⟨q1, q2, q3⟩, q4⟩ := nonum hn
  clear hn
  have Hr := hid hr
  clear hr
  have hlen : ((x :: t).take (rn (x :: t))).length = rn (x :: t) := by rw [List.length_take]; exact Nat.min_eq_left (rn_le _)
  have HLEN := hid hlen
  have hbd : rn (x :: t) ≤ 1000000 := by have h1 := rn_le (x :: t); have h2 := h.at_; have h3 := h.sm; omega
  clear hlen
  have t1 : decide (127 < rn (x :: t)) = true := decide_eq_true hlo
  have t2 : decide ((127 : Int) < rn (x :: t)) = true := decide_eq_true (by omega)
  have HL0 := hid h
  have hL := (h.below (Below.alloc (Below.refl _ _) (Nat.le_refl _) (Obj.cells #[Value.int IntKind.i64 0, Value.int IntKind.i64 0, Value.int IntKind.i64 0, Value.slice none 0 0] 79))).fresh
  have p0 := hL.p0
  clear h
  rcases q4 with q4 | ⟨q4, q5⟩
  all_goals
    go_enter Tryz.func82, Tryz.ntmps82
    go_wp2_with (first | (go_at_call 39; refine (peek0 hL).mono ?_; rintro e w1 ⟨rfl, hL, -⟩; have p0 := hL.p0; obtain ⟨rc, rf, rs⟩ := HL0.out.rcell hL; first | rw [hd_cons] | rw [hd_nil] | skip) | (go_at_call 37; refine (match_no _ (by decide) P91.out hL).mono ?_; rintro e w1 ⟨rfl, hL⟩; have p0 := hL.p0) | (go_at_call 37; refine (match_no _ (by decide) P93.out hL).mono ?_; rintro e w1 ⟨rfl, hL⟩; have p0 := hL.p0) | (go_at_call 37; refine (match_no _ (by decide) P6060.out hL).mono ?_; rintro e w1 ⟨rfl, hL⟩; have p0 := hL.p0) | (go_at_call 37; refine (match_no _ (by decide) P6262.out hL).mono ?_; rintro e w1 ⟨rfl, hL⟩; have p0 := hL.p0) | (go_at_call 37; refine (match_no _ (by decide) P47.out hL).mono ?_; rintro e w1 ⟨rfl, hL⟩; have p0 := hL.p0) | (go_at_call 37; refine (match_no _ (by decide) P40.out hL).mono ?_; rintro e w1 ⟨rfl, hL⟩; have p0 := hL.p0) | (go_at_call 37; refine (match_no _ (by decide) P60.out hL).mono ?_; rintro e w1 ⟨rfl, hL⟩; have p0 := hL.p0) | (go_at_call 38; refine (regular_l _ hL).mono ?_; rintro e w1 ⟨rfl, hL⟩; have p0 := hL.p0; obtain ⟨rc, rf, rs⟩ := HL0.out.rcell hL; rw [Hr.out]) | (go_at_call 97; refine (run_l hL).mono ?_; rintro e w1 ⟨u1, rfl, hL⟩; obtain ⟨ao1, cap1, rfl, -, -, -⟩ := Rd.own hL.row; have p0 := hL.p0; rw [HLEN.out] at hL; obtain ⟨rc, rf, rs⟩ := HL0.out.rcell hL; rw [HLEN.out]))
    refine bodyPost_ret (v := .tuple #[.agg #[.int .i64 0, .int .i64 0, .int .i64 0, .slice none 0 0], .int .i64 3]) (by simp [results, Tryz.results82, go_sem, rc]) rfl ?_
    have hF := fun x0 x1 x2 x3 => HL0.out.close hL.bare (fun B => Held.set4 B _ _ x0 x1 x2 x3)
    exact ⟨⟨_, _, _, _, _, _, rfl⟩, _, _, _, _, _, _, hF _ _ _ _⟩

set_option maxHeartbeats 1600000 in
set_option maxRecDepth 100000 in
theorem token_word (h91 : ¬ c8 x = 91) (h93 : ¬ c8 x = 93) (h6060 : ¬ (c8 x = 60 ∧ hd t = 60)) (h6262 : ¬ (c8 x = 62 ∧ hd t = 62)) (h47 : ¬ c8 x = 47) (h40 : ¬ c8 x = 40) (h60 : ¬ c8 x = 60) (hn : ¬ (c8 x = 43 ∨ c8 x = 45 ∨ c8 x = 46 ∨ 48 ≤ c8 x ∧ c8 x ≤ 57)) (hr : rg (c8 x) = true) (hlo : ¬ 127 < rn (x :: t)) (h : Lx w0 w lp cp b i (x :: t) m v u out) :
    Calls Tryz.prog 82 #[.pointer (some ⟨lp, 0, none⟩)] w fun e w' => TokP (.tok 9 0 ((x :: t).take (rn (x :: t))) ((x :: t).drop (rn (x :: t)))) w0 lp cp b 0 e w' := by
  have x0 := c8_ge x
  have x1 := c8_le x
  have P91 : Hid (pfx [91] (x :: t) = false) := hid (by rw [pfx1, hd_cons]; exact decide_eq_false h91)
  have P93 : Hid (pfx [93] (x :: t) = false) := hid (by rw [pfx1, hd_cons]; exact decide_eq_false h93)
  have P47 : Hid (pfx [47] (x :: t) = false) := hid (by rw [pfx1, hd_cons]; exact decide_eq_false h47)
  have P40 : Hid (pfx [40] (x :: t) = false) := hid (by rw [pfx1, hd_cons]; exact decide_eq_false h40)
  have P60 : Hid (pfx [60] (x :: t) = false) := hid (by rw [pfx1, hd_cons]; exact decide_eq_false h60)
  have P6060 : Hid (pfx [60, 60] (x :: t) = false) := hid (by rw [pfx2, hd_cons, List.tail_cons]; exact decide_eq_false h6060)
  have P6262 : Hid (pfx [62, 62] (x :: t) = false) := hid (by rw [pfx2, hd_cons, List.tail_cons]; exact decide_eq_false h6262)
  clear h91 h93 h6060 h6262 h47 h40 h60
  obtain ⟨⟨q1, q2, q3⟩, q4⟩ := nonum hn
  clear hn
  have Hr := hid hr
  clear hr
  have hlen : ((x :: t).take (rn (x :: t))).length = rn (x :: t) := by rw [List.length_take]; exact Nat.min_eq_left (rn_le _)
  have HLEN := hid hlen
  have hbd : rn (x :: t) ≤ 1000000 := by have h1 := rn_le (x :: t); have h2 := h.at_; have h3 := h.sm; omega
  clear hlen
  have t1 : decide (127 < rn (x :: t)) = false := decide_eq_false hlo
  have t2 : decide ((127 : Int) < rn (x :: t)) = false := decide_eq_false (by omega)
  have HL0 := hid h
  have hL := (h.below (Below.alloc (Below.refl _ _) (Nat.le_refl _) (Obj.cells #[Value.int IntKind.i64 0, Value.int IntKind.i64 0, Value.int IntKind.i64 0, Value.slice none 0 0] 79))).fresh
  have p0 := hL.p0
  clear h
  rcases q4 with q4 | ⟨q4, q5⟩
  all_goals
    go_enter Tryz.func82, Tryz.ntmps82
    go_wp2_with (first | (go_at_call 39; refine (peek0 hL).mono ?_; rintro e w1 ⟨rfl, hL, -⟩; have p0 := hL.p0; obtain ⟨rc, rf, rs⟩ := HL0.out.rcell hL; first | rw [hd_cons] | rw [hd_nil] | skip) | (go_at_call 37; refine (match_no _ (by decide) P91.out hL).mono ?_; rintro e w1 ⟨rfl, hL⟩; have p0 := hL.p0) | (go_at_call 37; refine (match_no _ (by decide) P93.out hL).mono ?_; rintro e w1 ⟨rfl, hL⟩; have p0 := hL.p0) | (go_at_call 37; refine (match_no _ (by decide) P6060.out hL).mono ?_; rintro e w1 ⟨rfl, hL⟩; have p0 := hL.p0) | (go_at_call 37; refine (match_no _ (by decide) P6262.out hL).mono ?_; rintro e w1 ⟨rfl, hL⟩; have p0 := hL.p0) | (go_at_call 37; refine (match_no _ (by decide) P47.out hL).mono ?_; rintro e w1 ⟨rfl, hL⟩; have p0 := hL.p0) | (go_at_call 37; refine (match_no _ (by decide) P40.out hL).mono ?_; rintro e w1 ⟨rfl, hL⟩; have p0 := hL.p0) | (go_at_call 37; refine (match_no _ (by decide) P60.out hL).mono ?_; rintro e w1 ⟨rfl, hL⟩; have p0 := hL.p0) | (go_at_call 38; refine (regular_l _ hL).mono ?_; rintro e w1 ⟨rfl, hL⟩; have p0 := hL.p0; obtain ⟨rc, rf, rs⟩ := HL0.out.rcell hL; rw [Hr.out]) | (go_at_call 97; refine (run_l hL).mono ?_; rintro e w1 ⟨u1, rfl, hL⟩; obtain ⟨ao1, cap1, rfl, -, -, -⟩ := Rd.own hL.row; have p0 := hL.p0; rw [HLEN.out] at hL; obtain ⟨rc, rf, rs⟩ := HL0.out.rcell hL; rw [HLEN.out]))
    refine bodyPost_ret (v := .tuple #[.agg #[.int .i64 9, .int .i64 0, .int .i64 0, .slice ao1 (rn (x :: t)) cap1], .int .i64 0]) (by simp [results, Tryz.results82, go_sem, rc]) rfl ?_
    have hF := fun x0 x1 x2 x3 => HL0.out.close hL (fun B => Held.set4 B _ _ x0 x1 x2 x3)
    exact ⟨_, rfl, _, _, _, hF _ _ _ _⟩
end
end Go.Proofs.YtlmgklebikcbjaaGreat
