/-
  kept: a token that has bytes, for each of the three readers; the program's walks. Condition: the lexer stands in its bytes.
-/
import Derived.Test.YtlmgklebikcbjaaGreatToken
namespace Go.Proofs.YtlmgklebikcbjaaGreat
open Go.RowKit
set_option linter.unusedVariables false
section
variable {w0 w w' : World} {lp cp : Nat} {b : List UInt8} {i : Nat} {s t : List UInt8} {m v u : Value} {out : List UInt8} {x : UInt8}

set_option maxHeartbeats 1600000 in
set_option maxRecDepth 100000 in
theorem kept_name (kind : Int) (h : Lx w0 w lp cp b i s m v u out) :
    Calls Tryz.prog 92 #[.pointer (some ⟨lp, 0, none⟩), .int .i64 kind, .int .i64 127, .func (Fn.func 93) #[.pointer (some ⟨lp, 0, none⟩)] #[]] w fun e w' => TokP (wrp kind (nm s [])) w0 lp cp b 0 e w' := by
  have HL0 := hid h
  have hL := (h.below (Below.alloc (Below.refl _ _) (Nat.le_refl _) (Obj.cells #[Value.int IntKind.i64 0, Value.int IntKind.i64 0, Value.int IntKind.i64 0, Value.slice none 0 0] 79))).fresh
  have p1 := hL.p1
  have p2 := hL.p2
  have f1 := hL.f1
  have f2 := hL.f2
  have hL := ((hL.set1 (m' := .int .i64 (127 : Nat))).set2 (v' := .slice none 0 0)).bare
  generalize hR : nm s [] = R
  have HR := hid hR
  clear h hR
  rcases R with err | ⟨out1, rest⟩
  · go_enter Tryz.func92, Tryz.ntmps92
    go_wp2_with (first
      | (go_at_call 93; refine (name_l hL).mono ?_; rw [HR.out]; rintro e w1 ⟨rfl, j, s1, v1, o1, hL⟩; obtain ⟨ao1, cap1, rfl, -, -, -⟩ := Rd.own hL.row; have p2 := hL.p2; obtain ⟨rc, rf, rs⟩ := HL0.out.rcell hL))
    refine bodyPost_ret (v := .tuple #[.agg #[.int .i64 kind, .int .i64 0, .int .i64 0, .slice ao1 o1.length cap1], .int .i64 err]) (by simp [results, Tryz.results92, go_sem, rc]) rfl ?_
    have hF := fun x0 x1 x2 x3 => HL0.out.close hL (fun B => Held.set4 B _ _ x0 x1 x2 x3)
    exact ⟨⟨_, _, _, _, _, _, rfl⟩, _, _, _, _, _, _, hF _ _ _ _⟩
  · go_enter Tryz.func92, Tryz.ntmps92
    go_wp2_with (first
      | (go_at_call 93; refine (name_l hL).mono ?_; rw [HR.out]; rintro e w1 ⟨rfl, j, v1, hL⟩; obtain ⟨ao1, cap1, rfl, -, -, -⟩ := Rd.own hL.row; have p2 := hL.p2; obtain ⟨rc, rf, rs⟩ := HL0.out.rcell hL))
    refine bodyPost_ret (v := .tuple #[.agg #[.int .i64 kind, .int .i64 0, .int .i64 0, .slice ao1 out1.length cap1], .int .i64 0]) (by simp [results, Tryz.results92, go_sem, rc]) rfl ?_
    have hF := fun x0 x1 x2 x3 => HL0.out.close hL (fun B => Held.set4 B _ _ x0 x1 x2 x3)
    exact ⟨_, rfl, _, _, _, hF _ _ _ _⟩

set_option maxHeartbeats 1600000 in
set_option maxRecDepth 100000 in
theorem kept_text (kind : Int) (h : Lx w0 w lp cp b i s m v u out) :
    Calls Tryz.prog 92 #[.pointer (some ⟨lp, 0, none⟩), .int .i64 kind, .int .i64 32767, .func (Fn.func 94) #[.pointer (some ⟨lp, 0, none⟩)] #[]] w fun e w' => TokP (wrp kind (TX s 1 [])) w0 lp cp b 0 e w' := by
  have HL0 := hid h
  have hL := (h.below (Below.alloc (Below.refl _ _) (Nat.le_refl _) (Obj.cells #[Value.int IntKind.i64 0, Value.int IntKind.i64 0, Value.int IntKind.i64 0, Value.slice none 0 0] 79))).fresh
  have p1 := hL.p1
  have p2 := hL.p2
  have f1 := hL.f1
  have f2 := hL.f2
  have hL := ((hL.set1 (m' := .int .i64 (32767 : Nat))).set2 (v' := .slice none 0 0)).bare
  generalize hR : TX s 1 [] = R
  have HR := hid hR
  clear h hR
  rcases R with err | ⟨out1, rest⟩
  · go_enter Tryz.func92, Tryz.ntmps92
    go_wp2_with (first
      | (go_at_call 94; refine (text_l hL).mono ?_; rw [HR.out]; rintro e w1 ⟨rfl, j, s1, v1, o1, hL⟩; obtain ⟨ao1, cap1, rfl, -, -, -⟩ := Rd.own hL.row; have p2 := hL.p2; obtain ⟨rc, rf, rs⟩ := HL0.out.rcell hL))
    refine bodyPost_ret (v := .tuple #[.agg #[.int .i64 kind, .int .i64 0, .int .i64 0, .slice ao1 o1.length cap1], .int .i64 err]) (by simp [results, Tryz.results92, go_sem, rc]) rfl ?_
    have hF := fun x0 x1 x2 x3 => HL0.out.close hL (fun B => Held.set4 B _ _ x0 x1 x2 x3)
    exact ⟨⟨_, _, _, _, _, _, rfl⟩, _, _, _, _, _, _, hF _ _ _ _⟩
  · go_enter Tryz.func92, Tryz.ntmps92
    go_wp2_with (first
      | (go_at_call 94; refine (text_l hL).mono ?_; rw [HR.out]; rintro e w1 ⟨rfl, j, v1, hL⟩; obtain ⟨ao1, cap1, rfl, -, -, -⟩ := Rd.own hL.row; have p2 := hL.p2; obtain ⟨rc, rf, rs⟩ := HL0.out.rcell hL))
    refine bodyPost_ret (v := .tuple #[.agg #[.int .i64 kind, .int .i64 0, .int .i64 0, .slice ao1 out1.length cap1], .int .i64 0]) (by simp [results, Tryz.results92, go_sem, rc]) rfl ?_
    have hF := fun x0 x1 x2 x3 => HL0.out.close hL (fun B => Held.set4 B _ _ x0 x1 x2 x3)
    exact ⟨_, rfl, _, _, _, hF _ _ _ _⟩

set_option maxHeartbeats 1600000 in
set_option maxRecDepth 100000 in
theorem kept_hex (kind : Int) (h : Lx w0 w lp cp b i s m v u out) :
    Calls Tryz.prog 92 #[.pointer (some ⟨lp, 0, none⟩), .int .i64 kind, .int .i64 32767, .func (Fn.func 95) #[.pointer (some ⟨lp, 0, none⟩)] #[]] w fun e w' => TokP (wrp kind (hx s (-1) [])) w0 lp cp b 0 e w' := by
  have HL0 := hid h
  have hL := (h.below (Below.alloc (Below.refl _ _) (Nat.le_refl _) (Obj.cells #[Value.int IntKind.i64 0, Value.int IntKind.i64 0, Value.int IntKind.i64 0, Value.slice none 0 0] 79))).fresh
  have p1 := hL.p1
  have p2 := hL.p2
  have f1 := hL.f1
  have f2 := hL.f2
  have hL := ((hL.set1 (m' := .int .i64 (32767 : Nat))).set2 (v' := .slice none 0 0)).bare
  generalize hR : hx s (-1) [] = R
  have HR := hid hR
  clear h hR
  rcases R with err | ⟨out1, rest⟩
  · go_enter Tryz.func92, Tryz.ntmps92
    go_wp2_with (first
      | (go_at_call 95; refine (hex_l hL).mono ?_; rw [HR.out]; rintro e w1 ⟨rfl, j, s1, v1, o1, hL⟩; obtain ⟨ao1, cap1, rfl, -, -, -⟩ := Rd.own hL.row; have p2 := hL.p2; obtain ⟨rc, rf, rs⟩ := HL0.out.rcell hL))
    refine bodyPost_ret (v := .tuple #[.agg #[.int .i64 kind, .int .i64 0, .int .i64 0, .slice ao1 o1.length cap1], .int .i64 err]) (by simp [results, Tryz.results92, go_sem, rc]) rfl ?_
    have hF := fun x0 x1 x2 x3 => HL0.out.close hL (fun B => Held.set4 B _ _ x0 x1 x2 x3)
    exact ⟨⟨_, _, _, _, _, _, rfl⟩, _, _, _, _, _, _, hF _ _ _ _⟩
  · go_enter Tryz.func92, Tryz.ntmps92
    go_wp2_with (first
      | (go_at_call 95; refine (hex_l hL).mono ?_; rw [HR.out]; rintro e w1 ⟨rfl, j, v1, hL⟩; obtain ⟨ao1, cap1, rfl, -, -, -⟩ := Rd.own hL.row; have p2 := hL.p2; obtain ⟨rc, rf, rs⟩ := HL0.out.rcell hL))
    refine bodyPost_ret (v := .tuple #[.agg #[.int .i64 kind, .int .i64 0, .int .i64 0, .slice ao1 out1.length cap1], .int .i64 0]) (by simp [results, Tryz.results92, go_sem, rc]) rfl ?_
    have hF := fun x0 x1 x2 x3 => HL0.out.close hL (fun B => Held.set4 B _ _ x0 x1 x2 x3)
    exact ⟨_, rfl, _, _, _, hF _ _ _ _⟩
end
end Go.Proofs.YtlmgklebikcbjaaGreat
