/-
  LexNames: any bytes but noughts, written as a name or a string, are read as they were; the statement's walk. Condition: its arguments read as bytes.
-/
import Derived.Test.YtlmgklebikcbjaaGreatDoorJd
import Derived.Test.YtlmgklebikcbjaaGreatDoorJc
import Derived.Lib.SlBytesConst
import Derived.Lib.SmallJoins
import Derived.Test.YtlmgklebikcbjaaGreatDoorJb
/-
  The document's token: what stands there, as the model reads it; the walk. Condition: the lexer stands in its bytes.
-/
namespace Go.Proofs.YtlmgklebikcbjaaGreatDoor
open Go.RowKit
set_option linter.unusedVariables false

section
variable {w0 w w' : World} {cp tp : Nat} {b : List UInt8} {i j : Nat} {s t : List UInt8} {k a n : Int} {vb u : Value} {out : List UInt8} {x : UInt8}

set_option maxHeartbeats 1600000 in
set_option maxRecDepth 100000 in
theorem rtok_end (h : Tx w0 w cp tp b i [] 0 a 0 (.slice none 0 0) u out) :
    Calls Tryz.prog 109 #[.pointer (some ⟨cp, 0, none⟩), .pointer (some ⟨tp, 0, none⟩)] w fun e w' => TokR (.tok 0 0 [] []) w0 cp tp b a e w' := by
  have hT := h.bare
  have c1 := hT.cx.c1; have f1 := hT.cx.f1; have t0 := hT.t0; have t1 := hT.t1; have t2 := hT.t2; have t3 := hT.t3; have g0 := hT.g0; have g2 := hT.g2; have g3 := hT.g3; have hne := hT.ne; have hne' := hT.ne'
  have hi : i ≤ 4000000 := by have h1 := hT.cx.at_; have h2 := hT.cx.sm; omega
  clear h
  go_enter Tryz.func109, Tryz.ntmps109
  go_wp2_with (first | (go_at_call 134; (with_reducible refine (tpeek0 hT).mono ?_); rintro e w1 ⟨rfl, hT⟩; have c1 := hT.cx.c1; have f1 := hT.cx.f1; have t0 := hT.t0; have t1 := hT.t1; have t2 := hT.t2; have t3 := hT.t3; have g0 := hT.g0; have g2 := hT.g2; have g3 := hT.g3; first | rw [hd_cons] | rw [hd_nil] | skip))
  go_ret
  exact ⟨rfl, _, _, hT⟩

set_option maxHeartbeats 1600000 in
set_option maxRecDepth 100000 in
theorem rtok_91 (hcx : c8 x = 91) (h : Tx w0 w cp tp b i (x :: t) 0 a 0 (.slice none 0 0) u out) :
    Calls Tryz.prog 109 #[.pointer (some ⟨cp, 0, none⟩), .pointer (some ⟨tp, 0, none⟩)] w fun e w' => TokR (.tok 5 0 [] t) w0 cp tp b a e w' := by
  have hT := h.bare
  have c1 := hT.cx.c1; have f1 := hT.cx.f1; have t0 := hT.t0; have t1 := hT.t1; have t2 := hT.t2; have t3 := hT.t3; have g0 := hT.g0; have g2 := hT.g2; have g3 := hT.g3; have hne := hT.ne; have hne' := hT.ne'
  have hi : i ≤ 4000000 := by have h1 := hT.cx.at_; have h2 := hT.cx.sm; omega
  have x0 := c8_ge x
  have x1 := c8_le x
  clear h
  have b91 : (c8 x == 91) = true := by simpa using hcx
  clear hcx
  go_enter Tryz.func109, Tryz.ntmps109
  go_wp2_with (first | (go_at_call 134; (with_reducible refine (tpeek0 hT).mono ?_); rintro e w1 ⟨rfl, hT⟩; have c1 := hT.cx.c1; have f1 := hT.cx.f1; have t0 := hT.t0; have t1 := hT.t1; have t2 := hT.t2; have t3 := hT.t3; have g0 := hT.g0; have g2 := hT.g2; have g3 := hT.g3; first | rw [hd_cons] | rw [hd_nil] | skip))
  go_ret
  exact ⟨rfl, _, _, (hT.kind 5).adv _ rfl⟩

set_option maxHeartbeats 1600000 in
set_option maxRecDepth 100000 in
theorem rtok_93 (hcx : c8 x = 93) (h : Tx w0 w cp tp b i (x :: t) 0 a 0 (.slice none 0 0) u out) :
    Calls Tryz.prog 109 #[.pointer (some ⟨cp, 0, none⟩), .pointer (some ⟨tp, 0, none⟩)] w fun e w' => TokR (.tok 6 0 [] t) w0 cp tp b a e w' := by
  have hT := h.bare
  have c1 := hT.cx.c1; have f1 := hT.cx.f1; have t0 := hT.t0; have t1 := hT.t1; have t2 := hT.t2; have t3 := hT.t3; have g0 := hT.g0; have g2 := hT.g2; have g3 := hT.g3; have hne := hT.ne; have hne' := hT.ne'
  have hi : i ≤ 4000000 := by have h1 := hT.cx.at_; have h2 := hT.cx.sm; omega
  have x0 := c8_ge x
  have x1 := c8_le x
  clear h
  have b91 : (c8 x == 91) = false := by simp; omega
  have b93 : (c8 x == 93) = true := by simpa using hcx
  clear hcx
  go_enter Tryz.func109, Tryz.ntmps109
  go_wp2_with (first | (go_at_call 134; (with_reducible refine (tpeek0 hT).mono ?_); rintro e w1 ⟨rfl, hT⟩; have c1 := hT.cx.c1; have f1 := hT.cx.f1; have t0 := hT.t0; have t1 := hT.t1; have t2 := hT.t2; have t3 := hT.t3; have g0 := hT.g0; have g2 := hT.g2; have g3 := hT.g3; first | rw [hd_cons] | rw [hd_nil] | skip))
  go_ret
  exact ⟨rfl, _, _, (hT.kind 6).adv _ rfl⟩

set_option maxHeartbeats 1600000 in
set_option maxRecDepth 100000 in
theorem rtok_6060 (hcx : c8 x = 60) (hy : hd t = 60) (h : Tx w0 w cp tp b i (x :: t) 0 a 0 (.slice none 0 0) u out) :
    Calls Tryz.prog 109 #[.pointer (some ⟨cp, 0, none⟩), .pointer (some ⟨tp, 0, none⟩)] w fun e w' => TokR (.tok 7 0 [] t.tail) w0 cp tp b a e w' := by
  have hT := h.bare
  have c1 := hT.cx.c1; have f1 := hT.cx.f1; have t0 := hT.t0; have t1 := hT.t1; have t2 := hT.t2; have t3 := hT.t3; have g0 := hT.g0; have g2 := hT.g2; have g3 := hT.g3; have hne := hT.ne; have hne' := hT.ne'
  have hi : i ≤ 4000000 := by have h1 := hT.cx.at_; have h2 := hT.cx.sm; omega
  have x0 := c8_ge x
  have x1 := c8_le x
  clear h
  have b91 : (c8 x == 91) = false := by simp; omega
  have b93 : (c8 x == 93) = false := by simp; omega
  have b60 : (c8 x == 60) = true := by simpa using hcx
  have d60 : (hd t == 60) = true := by simpa using hy
  have hb : i + 2 ≤ b.length := by
    rcases t with _ | ⟨y, t⟩
    · rw [hd_nil] at hy; omega
    · have := hT.cx.at_; simp at this; omega
  have HD : Hid (b.drop (i + 2) = t.tail) := hid (by rw [← List.drop_drop, hT.cx.drp]; simp)
  clear hcx hy
  go_enter Tryz.func109, Tryz.ntmps109
  go_wp2_with (first | (go_at_call 134; (with_reducible refine (tpeek0 hT).mono ?_); rintro e w1 ⟨rfl, hT⟩; have c1 := hT.cx.c1; have f1 := hT.cx.f1; have t0 := hT.t0; have t1 := hT.t1; have t2 := hT.t2; have t3 := hT.t3; have g0 := hT.g0; have g2 := hT.g2; have g3 := hT.g3; first | rw [hd_cons] | rw [hd_nil] | skip) | (go_at_call 134; (with_reducible refine (tpeek1 hT).mono ?_); rintro e w1 ⟨rfl, hT⟩; have c1 := hT.cx.c1; have f1 := hT.cx.f1; have t0 := hT.t0; have t1 := hT.t1; have t2 := hT.t2; have t3 := hT.t3; have g0 := hT.g0; have g2 := hT.g2; have g3 := hT.g3; rw [List.tail_cons]))
  go_ret
  have hF := (hT.kind 7).to (i + 2) ((i : Int) + 2) (by omega) hb
  rw [HD.out] at hF
  exact ⟨rfl, _, _, hF⟩

set_option maxHeartbeats 1600000 in
set_option maxRecDepth 100000 in
theorem rtok_6262 (hcx : c8 x = 62) (hy : hd t = 62) (h : Tx w0 w cp tp b i (x :: t) 0 a 0 (.slice none 0 0) u out) :
    Calls Tryz.prog 109 #[.pointer (some ⟨cp, 0, none⟩), .pointer (some ⟨tp, 0, none⟩)] w fun e w' => TokR (.tok 8 0 [] t.tail) w0 cp tp b a e w' := by
  have hT := h.bare
  have c1 := hT.cx.c1; have f1 := hT.cx.f1; have t0 := hT.t0; have t1 := hT.t1; have t2 := hT.t2; have t3 := hT.t3; have g0 := hT.g0; have g2 := hT.g2; have g3 := hT.g3; have hne := hT.ne; have hne' := hT.ne'
  have hi : i ≤ 4000000 := by have h1 := hT.cx.at_; have h2 := hT.cx.sm; omega
  have x0 := c8_ge x
  have x1 := c8_le x
  clear h
  have b91 : (c8 x == 91) = false := by simp; omega
  have b93 : (c8 x == 93) = false := by simp; omega
  have b60 : (c8 x == 60) = false := by simp; omega
  have b62 : (c8 x == 62) = true := by simpa using hcx
  have d62 : (hd t == 62) = true := by simpa using hy
  have hb : i + 2 ≤ b.length := by
    rcases t with _ | ⟨y, t⟩
    · rw [hd_nil] at hy; omega
    · have := hT.cx.at_; simp at this; omega
  have HD : Hid (b.drop (i + 2) = t.tail) := hid (by rw [← List.drop_drop, hT.cx.drp]; simp)
  clear hcx hy
  go_enter Tryz.func109, Tryz.ntmps109
  go_wp2_with (first | (go_at_call 134; (with_reducible refine (tpeek0 hT).mono ?_); rintro e w1 ⟨rfl, hT⟩; have c1 := hT.cx.c1; have f1 := hT.cx.f1; have t0 := hT.t0; have t1 := hT.t1; have t2 := hT.t2; have t3 := hT.t3; have g0 := hT.g0; have g2 := hT.g2; have g3 := hT.g3; first | rw [hd_cons] | rw [hd_nil] | skip) | (go_at_call 134; (with_reducible refine (tpeek1 hT).mono ?_); rintro e w1 ⟨rfl, hT⟩; have c1 := hT.cx.c1; have f1 := hT.cx.f1; have t0 := hT.t0; have t1 := hT.t1; have t2 := hT.t2; have t3 := hT.t3; have g0 := hT.g0; have g2 := hT.g2; have g3 := hT.g3; rw [List.tail_cons]))
  go_ret
  have hF := (hT.kind 8).to (i + 2) ((i : Int) + 2) (by omega) hb
  rw [HD.out] at hF
  exact ⟨rfl, _, _, hF⟩

set_option maxHeartbeats 1600000 in
set_option maxRecDepth 100000 in
theorem rtok_47 (hcx : c8 x = 47) (h : Tx w0 w cp tp b i (x :: t) 0 a 0 (.slice none 0 0) u out) :
    Calls Tryz.prog 109 #[.pointer (some ⟨cp, 0, none⟩), .pointer (some ⟨tp, 0, none⟩)] w fun e w' => TokR (wrp 4 (nm t [])) w0 cp tp b a e w' := by
  have hT := h.bare
  have c1 := hT.cx.c1; have f1 := hT.cx.f1; have t0 := hT.t0; have t1 := hT.t1; have t2 := hT.t2; have t3 := hT.t3; have g0 := hT.g0; have g2 := hT.g2; have g3 := hT.g3; have hne := hT.ne; have hne' := hT.ne'
  have hi : i ≤ 4000000 := by have h1 := hT.cx.at_; have h2 := hT.cx.sm; omega
  have x0 := c8_ge x
  have x1 := c8_le x
  clear h
  have b91 : (c8 x == 91) = false := by simp; omega
  have b93 : (c8 x == 93) = false := by simp; omega
  have b60 : (c8 x == 60) = false := by simp; omega
  have b62 : (c8 x == 62) = false := by simp; omega
  have b47 : (c8 x == 47) = true := by simpa using hcx
  clear hcx
  generalize hR : nm t [] = R
  have HR := hid hR
  clear hR
  rcases R with err | ⟨out1, rest⟩
  · go_enter Tryz.func109, Tryz.ntmps109
    go_wp2_with (first | (go_at_call 134; (with_reducible refine (tpeek0 hT).mono ?_); rintro e w1 ⟨rfl, hT⟩; have c1 := hT.cx.c1; have f1 := hT.cx.f1; have t0 := hT.t0; have t1 := hT.t1; have t2 := hT.t2; have t3 := hT.t3; have g0 := hT.g0; have g2 := hT.g2; have g3 := hT.g3; first | rw [hd_cons] | rw [hd_nil] | skip) | (go_at_call 134; (with_reducible refine (tpeek1 hT).mono ?_); rintro e w1 ⟨rfl, hT⟩; have c1 := hT.cx.c1; have f1 := hT.cx.f1; have t0 := hT.t0; have t1 := hT.t1; have t2 := hT.t2; have t3 := hT.t3; have g0 := hT.g0; have g2 := hT.g2; have g3 := hT.g3; rw [List.tail_cons]) | (go_at_call 135; refine (rname ((hT.adv _ rfl).kind 4).cx.fresh).mono ?_; rw [HR.out]; rintro e w2 ⟨rfl, hY⟩; obtain ⟨hy, ht1, ht3, hf3, hs3⟩ := ((hT.adv _ rfl).kind 4).bad hY))
    go_ret
    exact ⟨rfl, hy.store hT.lo _ _, by rw [cset_ne (by simp)]; exact ht1, by simpa using hs3⟩
  · go_enter Tryz.func109, Tryz.ntmps109
    go_wp2_with (first | (go_at_call 134; (with_reducible refine (tpeek0 hT).mono ?_); rintro e w1 ⟨rfl, hT⟩; have c1 := hT.cx.c1; have f1 := hT.cx.f1; have t0 := hT.t0; have t1 := hT.t1; have t2 := hT.t2; have t3 := hT.t3; have g0 := hT.g0; have g2 := hT.g2; have g3 := hT.g3; first | rw [hd_cons] | rw [hd_nil] | skip) | (go_at_call 134; (with_reducible refine (tpeek1 hT).mono ?_); rintro e w1 ⟨rfl, hT⟩; have c1 := hT.cx.c1; have f1 := hT.cx.f1; have t0 := hT.t0; have t1 := hT.t1; have t2 := hT.t2; have t3 := hT.t3; have g0 := hT.g0; have g2 := hT.g2; have g3 := hT.g3; rw [List.tail_cons]) | (go_at_call 135; refine (rname ((hT.adv _ rfl).kind 4).cx.fresh).mono ?_; rw [HR.out]; rintro e w2 ⟨u1, rfl, j, hC⟩; have hT2 := ((hT.adv _ rfl).kind 4).after hC; have ht3 := hT2.t3; have hf3 := hT2.g3; obtain ⟨ao1, cap1, rfl, -, -, -⟩ := Rd.own hC.row))
    go_ret
    exact ⟨rfl, _, _, hT2.byt _⟩

set_option maxHeartbeats 1600000 in
set_option maxRecDepth 100000 in
theorem rtok_40 (hcx : c8 x = 40) (h : Tx w0 w cp tp b i (x :: t) 0 a 0 (.slice none 0 0) u out) :
    Calls Tryz.prog 109 #[.pointer (some ⟨cp, 0, none⟩), .pointer (some ⟨tp, 0, none⟩)] w fun e w' => TokR (wrp 3 (TX t 1 [])) w0 cp tp b a e w' := by
  have hT := h.bare
  have c1 := hT.cx.c1; have f1 := hT.cx.f1; have t0 := hT.t0; have t1 := hT.t1; have t2 := hT.t2; have t3 := hT.t3; have g0 := hT.g0; have g2 := hT.g2; have g3 := hT.g3; have hne := hT.ne; have hne' := hT.ne'
  have hi : i ≤ 4000000 := by have h1 := hT.cx.at_; have h2 := hT.cx.sm; omega
  have x0 := c8_ge x
  have x1 := c8_le x
  clear h
  have b91 : (c8 x == 91) = false := by simp; omega
  have b93 : (c8 x == 93) = false := by simp; omega
  have b60 : (c8 x == 60) = false := by simp; omega
  have b62 : (c8 x == 62) = false := by simp; omega
  have b47 : (c8 x == 47) = false := by simp; omega
  have b40 : (c8 x == 40) = true := by simpa using hcx
  clear hcx
  generalize hR : TX t 1 [] = R
  have HR := hid hR
  clear hR
  rcases R with err | ⟨out1, rest⟩
  · go_enter Tryz.func109, Tryz.ntmps109
    go_wp2_with (first | (go_at_call 134; (with_reducible refine (tpeek0 hT).mono ?_); rintro e w1 ⟨rfl, hT⟩; have c1 := hT.cx.c1; have f1 := hT.cx.f1; have t0 := hT.t0; have t1 := hT.t1; have t2 := hT.t2; have t3 := hT.t3; have g0 := hT.g0; have g2 := hT.g2; have g3 := hT.g3; first | rw [hd_cons] | rw [hd_nil] | skip) | (go_at_call 134; (with_reducible refine (tpeek1 hT).mono ?_); rintro e w1 ⟨rfl, hT⟩; have c1 := hT.cx.c1; have f1 := hT.cx.f1; have t0 := hT.t0; have t1 := hT.t1; have t2 := hT.t2; have t3 := hT.t3; have g0 := hT.g0; have g2 := hT.g2; have g3 := hT.g3; rw [List.tail_cons]) | (go_at_call 136; refine (rtext ((hT.adv _ rfl).kind 3).cx.fresh).mono ?_; rw [HR.out]; rintro e w2 ⟨rfl, hY⟩; obtain ⟨hy, ht1, ht3, hf3, hs3⟩ := ((hT.adv _ rfl).kind 3).bad hY))
    go_ret
    exact ⟨rfl, hy.store hT.lo _ _, by rw [cset_ne (by simp)]; exact ht1, by simpa using hs3⟩
  · go_enter Tryz.func109, Tryz.ntmps109
    go_wp2_with (first | (go_at_call 134; (with_reducible refine (tpeek0 hT).mono ?_); rintro e w1 ⟨rfl, hT⟩; have c1 := hT.cx.c1; have f1 := hT.cx.f1; have t0 := hT.t0; have t1 := hT.t1; have t2 := hT.t2; have t3 := hT.t3; have g0 := hT.g0; have g2 := hT.g2; have g3 := hT.g3; first | rw [hd_cons] | rw [hd_nil] | skip) | (go_at_call 134; (with_reducible refine (tpeek1 hT).mono ?_); rintro e w1 ⟨rfl, hT⟩; have c1 := hT.cx.c1; have f1 := hT.cx.f1; have t0 := hT.t0; have t1 := hT.t1; have t2 := hT.t2; have t3 := hT.t3; have g0 := hT.g0; have g2 := hT.g2; have g3 := hT.g3; rw [List.tail_cons]) | (go_at_call 136; refine (rtext ((hT.adv _ rfl).kind 3).cx.fresh).mono ?_; rw [HR.out]; rintro e w2 ⟨u1, rfl, j, hC⟩; have hT2 := ((hT.adv _ rfl).kind 3).after hC; have ht3 := hT2.t3; have hf3 := hT2.g3; obtain ⟨ao1, cap1, rfl, -, -, -⟩ := Rd.own hC.row))
    go_ret
    exact ⟨rfl, _, _, hT2.byt _⟩

set_option maxHeartbeats 1600000 in
set_option maxRecDepth 100000 in
theorem rtok_60 (hcx : c8 x = 60) (hy : ¬ hd t = 60) (h : Tx w0 w cp tp b i (x :: t) 0 a 0 (.slice none 0 0) u out) :
    Calls Tryz.prog 109 #[.pointer (some ⟨cp, 0, none⟩), .pointer (some ⟨tp, 0, none⟩)] w fun e w' => TokR (wrp 3 (hx t (-1) [])) w0 cp tp b a e w' := by
  have hT := h.bare
  have c1 := hT.cx.c1; have f1 := hT.cx.f1; have t0 := hT.t0; have t1 := hT.t1; have t2 := hT.t2; have t3 := hT.t3; have g0 := hT.g0; have g2 := hT.g2; have g3 := hT.g3; have hne := hT.ne; have hne' := hT.ne'
  have hi : i ≤ 4000000 := by have h1 := hT.cx.at_; have h2 := hT.cx.sm; omega
  have x0 := c8_ge x
  have x1 := c8_le x
  clear h
  have b91 : (c8 x == 91) = false := by simp; omega
  have b93 : (c8 x == 93) = false := by simp; omega
  have b62 : (c8 x == 62) = false := by simp; omega
  have b47 : (c8 x == 47) = false := by simp; omega
  have b40 : (c8 x == 40) = false := by simp; omega
  have b60 : (c8 x == 60) = true := by simpa using hcx
  have d60 : (hd t == 60) = false := by simpa using hy
  clear hcx hy
  generalize hR : hx t (-1) [] = R
  have HR := hid hR
  clear hR
  rcases R with err | ⟨out1, rest⟩
  · go_enter Tryz.func109, Tryz.ntmps109
    go_wp2_with (first | (go_at_call 134; (with_reducible refine (tpeek0 hT).mono ?_); rintro e w1 ⟨rfl, hT⟩; have c1 := hT.cx.c1; have f1 := hT.cx.f1; have t0 := hT.t0; have t1 := hT.t1; have t2 := hT.t2; have t3 := hT.t3; have g0 := hT.g0; have g2 := hT.g2; have g3 := hT.g3; first | rw [hd_cons] | rw [hd_nil] | skip) | (go_at_call 134; (with_reducible refine (tpeek1 hT).mono ?_); rintro e w1 ⟨rfl, hT⟩; have c1 := hT.cx.c1; have f1 := hT.cx.f1; have t0 := hT.t0; have t1 := hT.t1; have t2 := hT.t2; have t3 := hT.t3; have g0 := hT.g0; have g2 := hT.g2; have g3 := hT.g3; rw [List.tail_cons]) | (go_at_call 137; refine (rhex ((hT.adv _ rfl).kind 3).cx.fresh).mono ?_; rw [HR.out]; rintro e w2 ⟨rfl, hY⟩; obtain ⟨hy, ht1, ht3, hf3, hs3⟩ := ((hT.adv _ rfl).kind 3).bad hY))
    go_ret
    exact ⟨rfl, hy.store hT.lo _ _, by rw [cset_ne (by simp)]; exact ht1, by simpa using hs3⟩
  · go_enter Tryz.func109, Tryz.ntmps109
    go_wp2_with (first | (go_at_call 134; (with_reducible refine (tpeek0 hT).mono ?_); rintro e w1 ⟨rfl, hT⟩; have c1 := hT.cx.c1; have f1 := hT.cx.f1; have t0 := hT.t0; have t1 := hT.t1; have t2 := hT.t2; have t3 := hT.t3; have g0 := hT.g0; have g2 := hT.g2; have g3 := hT.g3; first | rw [hd_cons] | rw [hd_nil] | skip) | (go_at_call 134; (with_reducible refine (tpeek1 hT).mono ?_); rintro e w1 ⟨rfl, hT⟩; have c1 := hT.cx.c1; have f1 := hT.cx.f1; have t0 := hT.t0; have t1 := hT.t1; have t2 := hT.t2; have t3 := hT.t3; have g0 := hT.g0; have g2 := hT.g2; have g3 := hT.g3; rw [List.tail_cons]) | (go_at_call 137; refine (rhex ((hT.adv _ rfl).kind 3).cx.fresh).mono ?_; rw [HR.out]; rintro e w2 ⟨u1, rfl, j, hC⟩; have hT2 := ((hT.adv _ rfl).kind 3).after hC; have ht3 := hT2.t3; have hf3 := hT2.g3; obtain ⟨ao1, cap1, rfl, -, -, -⟩ := Rd.own hC.row))
    go_ret
    exact ⟨rfl, _, _, hT2.byt _⟩

set_option maxHeartbeats 1600000 in
set_option maxRecDepth 100000 in
theorem rtok_num (h91 : ¬ c8 x = 91) (h93 : ¬ c8 x = 93) (h6060 : ¬ (c8 x = 60 ∧ hd t = 60)) (h6262 : ¬ (c8 x = 62 ∧ hd t = 62)) (h47 : ¬ c8 x = 47) (h40 : ¬ c8 x = 40) (h60 : ¬ c8 x = 60) (hn : c8 x = 43 ∨ c8 x = 45 ∨ c8 x = 46 ∨ 48 ≤ c8 x ∧ c8 x ≤ 57) (h : Tx w0 w cp tp b i (x :: t) 0 a 0 (.slice none 0 0) u out) :
    Calls Tryz.prog 109 #[.pointer (some ⟨cp, 0, none⟩), .pointer (some ⟨tp, 0, none⟩)] w fun e w' => TokR (numT (x :: t)) w0 cp tp b a e w' := by
  have hT := h.bare
  have c1 := hT.cx.c1; have f1 := hT.cx.f1; have t0 := hT.t0; have t1 := hT.t1; have t2 := hT.t2; have t3 := hT.t3; have g0 := hT.g0; have g2 := hT.g2; have g3 := hT.g3; have hne := hT.ne; have hne' := hT.ne'
  have hi : i ≤ 4000000 := by have h1 := hT.cx.at_; have h2 := hT.cx.sm; omega
  have x0 := c8_ge x
  have x1 := c8_le x
  clear h
  have b91 : (c8 x == 91) = false := by simpa using h91
  have b93 : (c8 x == 93) = false := by simpa using h93
  have b60 : (c8 x == 60) = false := by simpa using h60
  have b47 : (c8 x == 47) = false := by simpa using h47
  have b40 : (c8 x == 40) = false := by simpa using h40
  have b62 : (c8 x == 62) = false ∨ ((c8 x == 62) = true ∧ (hd t == 62) = false) := by
    by_cases q : c8 x = 62
    · exact .inr ⟨by simpa using q, by simpa using fun e => h6262 ⟨q, e⟩⟩
    · exact .inl (by simpa using q)
  clear h91 h93 h6060 h6262 h47 h40 h60
  have hb : (c8 x == 43) = true ∨ ((c8 x == 43) = false ∧ (c8 x == 45) = true) ∨ ((c8 x == 43) = false ∧ (c8 x == 45) = false ∧ (c8 x == 46) = true) ∨ ((c8 x == 43) = false ∧ (c8 x == 45) = false ∧ (c8 x == 46) = false ∧ decide (48 ≤ c8 x) = true ∧ decide (c8 x ≤ 57) = true) := by
    rcases hn with q | q | q | q
    · exact .inl (by simpa using q)
    · exact .inr (.inl ⟨by simp [q], by simpa using q⟩)
    · exact .inr (.inr (.inl ⟨by simp [q], by simp [q], by simpa using q⟩))
    · exact .inr (.inr (.inr ⟨by simp; omega, by simp; omega, by simp; omega, decide_eq_true q.1, decide_eq_true q.2⟩))
  clear hn
  have b62' : (c8 x == 62) = false := by
    rcases b62 with q | ⟨q, _⟩
    · exact q
    · rw [beq_iff_eq] at q
      rcases hb with h | ⟨_, h⟩ | ⟨_, _, h⟩ | ⟨_, _, _, _, h⟩
      · rw [q] at h; cases h
      · rw [q] at h; cases h
      · rw [q] at h; cases h
      · rw [decide_eq_true_eq] at h; omega
  clear b62
  generalize hTT : numT (x :: t) = T
  have HTT := hid hTT
  clear hTT
  rcases T with err | ⟨k0, n0, out1, rest⟩
  · rcases hb with q1 | ⟨q1, q2⟩ | ⟨q1, q2, q3⟩ | ⟨q1, q2, q3, q4, q5⟩
    all_goals
      go_enter Tryz.func109, Tryz.ntmps109
      go_wp2_with (first | (go_at_call 134; (with_reducible refine (tpeek0 hT).mono ?_); rintro e w1 ⟨rfl, hT⟩; have c1 := hT.cx.c1; have f1 := hT.cx.f1; have t0 := hT.t0; have t1 := hT.t1; have t2 := hT.t2; have t3 := hT.t3; have g0 := hT.g0; have g2 := hT.g2; have g3 := hT.g3; first | rw [hd_cons] | rw [hd_nil] | skip) | (go_at_call 134; (with_reducible refine (tpeek1 hT).mono ?_); rintro e w1 ⟨rfl, hT⟩; have c1 := hT.cx.c1; have f1 := hT.cx.f1; have t0 := hT.t0; have t1 := hT.t1; have t2 := hT.t2; have t3 := hT.t3; have g0 := hT.g0; have g2 := hT.g2; have g3 := hT.g3; rw [List.tail_cons]) | (go_at_call 138; refine (rnumber hT).mono ?_; rw [HTT.out]; rintro e w2 ⟨rfl, hq⟩))
      go_ret
      exact ⟨rfl, hq⟩
  · rcases hb with q1 | ⟨q1, q2⟩ | ⟨q1, q2, q3⟩ | ⟨q1, q2, q3, q4, q5⟩
    all_goals
      go_enter Tryz.func109, Tryz.ntmps109
      go_wp2_with (first | (go_at_call 134; (with_reducible refine (tpeek0 hT).mono ?_); rintro e w1 ⟨rfl, hT⟩; have c1 := hT.cx.c1; have f1 := hT.cx.f1; have t0 := hT.t0; have t1 := hT.t1; have t2 := hT.t2; have t3 := hT.t3; have g0 := hT.g0; have g2 := hT.g2; have g3 := hT.g3; first | rw [hd_cons] | rw [hd_nil] | skip) | (go_at_call 134; (with_reducible refine (tpeek1 hT).mono ?_); rintro e w1 ⟨rfl, hT⟩; have c1 := hT.cx.c1; have f1 := hT.cx.f1; have t0 := hT.t0; have t1 := hT.t1; have t2 := hT.t2; have t3 := hT.t3; have g0 := hT.g0; have g2 := hT.g2; have g3 := hT.g3; rw [List.tail_cons]) | (go_at_call 138; refine (rnumber hT).mono ?_; rw [HTT.out]; rintro e w2 ⟨rfl, hq⟩))
      go_ret
      exact ⟨rfl, hq⟩

set_option maxHeartbeats 1600000 in
set_option maxRecDepth 100000 in
theorem rtok_none (h91 : ¬ c8 x = 91) (h93 : ¬ c8 x = 93) (h6060 : ¬ (c8 x = 60 ∧ hd t = 60)) (h6262 : ¬ (c8 x = 62 ∧ hd t = 62)) (h47 : ¬ c8 x = 47) (h40 : ¬ c8 x = 40) (h60 : ¬ c8 x = 60) (hn : ¬ (c8 x = 43 ∨ c8 x = 45 ∨ c8 x = 46 ∨ 48 ≤ c8 x ∧ c8 x ≤ 57)) (hr : rg (c8 x) = false) (h : Tx w0 w cp tp b i (x :: t) 0 a 0 (.slice none 0 0) u out) :
    Calls Tryz.prog 109 #[.pointer (some ⟨cp, 0, none⟩), .pointer (some ⟨tp, 0, none⟩)] w fun e w' => TokR (.bad 4) w0 cp tp b a e w' := by
  have hT := h.bare
  have c1 := hT.cx.c1; have f1 := hT.cx.f1; have t0 := hT.t0; have t1 := hT.t1; have t2 := hT.t2; have t3 := hT.t3; have g0 := hT.g0; have g2 := hT.g2; have g3 := hT.g3; have hne := hT.ne; have hne' := hT.ne'
  have hi : i ≤ 4000000 := by have h1 := hT.cx.at_; have h2 := hT.cx.sm; omega
  have x0 := c8_ge x
  have x1 := c8_le x
  clear h
  have b91 : (c8 x == 91) = false := by simpa using h91
  have b93 : (c8 x == 93) = false := by simpa using h93
  have b60 : (c8 x == 60) = false := by simpa using h60
  have b47 : (c8 x == 47) = false := by simpa using h47
  have b40 : (c8 x == 40) = false := by simpa using h40
  have b62 : (c8 x == 62) = false ∨ ((c8 x == 62) = true ∧ (hd t == 62) = false) := by
    by_cases q : c8 x = 62
    · exact .inr ⟨by simpa using q, by simpa using fun e => h6262 ⟨q, e⟩⟩
    · exact .inl (by simpa using q)
  clear h91 h93 h6060 h6262 h47 h40 h60
  obtain ⟨⟨q1, q2, q3⟩, q4⟩ := nonum hn
  clear hn
  have Hr := hid hr
  clear hr
  rcases q4 with q4 | ⟨q4, q5⟩
  all_goals
    rcases b62 with b62 | ⟨b62, d62⟩
    all_goals
      go_enter Tryz.func109, Tryz.ntmps109
      go_wp2_with (first | (go_at_call 134; (with_reducible refine (tpeek0 hT).mono ?_); rintro e w1 ⟨rfl, hT⟩; have c1 := hT.cx.c1; have f1 := hT.cx.f1; have t0 := hT.t0; have t1 := hT.t1; have t2 := hT.t2; have t3 := hT.t3; have g0 := hT.g0; have g2 := hT.g2; have g3 := hT.g3; first | rw [hd_cons] | rw [hd_nil] | skip) | (go_at_call 134; (with_reducible refine (tpeek1 hT).mono ?_); rintro e w1 ⟨rfl, hT⟩; have c1 := hT.cx.c1; have f1 := hT.cx.f1; have t0 := hT.t0; have t1 := hT.t1; have t2 := hT.t2; have t3 := hT.t3; have g0 := hT.g0; have g2 := hT.g2; have g3 := hT.g3; rw [List.tail_cons]) | (go_at_call 116; (with_reducible refine (tregular _ hT).mono ?_); rintro e w1 ⟨rfl, hT⟩; have c1 := hT.cx.c1; have f1 := hT.cx.f1; have t0 := hT.t0; have t1 := hT.t1; have t2 := hT.t2; have t3 := hT.t3; have g0 := hT.g0; have g2 := hT.g2; have g3 := hT.g3; rw [Hr.out]))
      go_ret
      exact ⟨rfl, hT.cx.cy, hT.t1, hT.hi⟩

set_option maxHeartbeats 1600000 in
set_option maxRecDepth 100000 in
theorem rtok_long (h91 : ¬ c8 x = 91) (h93 : ¬ c8 x = 93) (h6060 : ¬ (c8 x = 60 ∧ hd t = 60)) (h6262 : ¬ (c8 x = 62 ∧ hd t = 62)) (h47 : ¬ c8 x = 47) (h40 : ¬ c8 x = 40) (h60 : ¬ c8 x = 60) (hn : ¬ (c8 x = 43 ∨ c8 x = 45 ∨ c8 x = 46 ∨ 48 ≤ c8 x ∧ c8 x ≤ 57)) (hr : rg (c8 x) = true) (hlo : 127 < rn (x :: t)) (h : Tx w0 w cp tp b i (x :: t) 0 a 0 (.slice none 0 0) u out) :
    Calls Tryz.prog 109 #[.pointer (some ⟨cp, 0, none⟩), .pointer (some ⟨tp, 0, none⟩)] w fun e w' => TokR (.bad 3) w0 cp tp b a e w' := by
  have hT := h.bare
  have c1 := hT.cx.c1; have f1 := hT.cx.f1; have t0 := hT.t0; have t1 := hT.t1; have t2 := hT.t2; have t3 := hT.t3; have g0 := hT.g0; have g2 := hT.g2; have g3 := hT.g3; have hne := hT.ne; have hne' := hT.ne'
  have hi : i ≤ 4000000 := by have h1 := hT.cx.at_; have h2 := hT.cx.sm; omega
  have x0 := c8_ge x
  have x1 := c8_le x
  clear h
  have b91 : (c8 x == 91) = false := by simpa using h91
  have b93 : (c8 x == 93) = false := by simpa using h93
  have b60 : (c8 x == 60) = false := by simpa using h60
  have b47 : (c8 x == 47) = false := by simpa using h47
  have b40 : (c8 x == 40) = false := by simpa using h40
  have b62 : (c8 x == 62) = false ∨ ((c8 x == 62) = true ∧ (hd t == 62) = false) := by
    by_cases q : c8 x = 62
    · exact .inr ⟨by simpa using q, by simpa using fun e => h6262 ⟨q, e⟩⟩
    · exact .inl (by simpa using q)
  clear h91 h93 h6060 h6262 h47 h40 h60
  obtain ⟨⟨q1, q2, q3⟩, q4⟩ := nonum hn
  clear hn
  have Hr := hid hr
  clear hr
  have hlen : ((x :: t).take (rn (x :: t))).length = rn (x :: t) := by rw [List.length_take]; exact Nat.min_eq_left (rn_le _)
  have HLEN := hid hlen
  have hbd : rn (x :: t) ≤ 4000000 := by have h1 := rn_le (x :: t); have h2 := hT.cx.at_; have h3 := hT.cx.sm; omega
  clear hlen
  have tt1 : decide (127 < rn (x :: t)) = true := decide_eq_true hlo
  have tt2 : decide ((127 : Int) < rn (x :: t)) = true := decide_eq_true (by omega)
  rcases q4 with q4 | ⟨q4, q5⟩
  all_goals
    rcases b62 with b62 | ⟨b62, d62⟩
    all_goals
      go_enter Tryz.func109, Tryz.ntmps109
      go_wp2_with (first | (go_at_call 134; (with_reducible refine (tpeek0 hT).mono ?_); rintro e w1 ⟨rfl, hT⟩; have c1 := hT.cx.c1; have f1 := hT.cx.f1; have t0 := hT.t0; have t1 := hT.t1; have t2 := hT.t2; have t3 := hT.t3; have g0 := hT.g0; have g2 := hT.g2; have g3 := hT.g3; first | rw [hd_cons] | rw [hd_nil] | skip) | (go_at_call 134; (with_reducible refine (tpeek1 hT).mono ?_); rintro e w1 ⟨rfl, hT⟩; have c1 := hT.cx.c1; have f1 := hT.cx.f1; have t0 := hT.t0; have t1 := hT.t1; have t2 := hT.t2; have t3 := hT.t3; have g0 := hT.g0; have g2 := hT.g2; have g3 := hT.g3; rw [List.tail_cons]) | (go_at_call 116; (with_reducible refine (tregular _ hT).mono ?_); rintro e w1 ⟨rfl, hT⟩; have c1 := hT.cx.c1; have f1 := hT.cx.f1; have t0 := hT.t0; have t1 := hT.t1; have t2 := hT.t2; have t3 := hT.t3; have g0 := hT.g0; have g2 := hT.g2; have g3 := hT.g3; rw [Hr.out]) | (go_at_call 139; refine (rrun (hT.kind 9).cx.fresh).mono ?_; rintro e w2 ⟨u1, rfl, hC⟩; have hT2 := (hT.kind 9).after hC; obtain ⟨ao1, cap1, rfl, -, -, -⟩ := Rd.own hC.row; rw [HLEN.out] at hT2; have ht3 := hT2.t3; have hf3 := hT2.g3; rw [HLEN.out]))
      go_ret
      have hF := hT2.byt (.slice ao1 (rn (x :: t)) cap1)
      exact ⟨rfl, hF.cx.cy, hF.t1, hF.hi⟩

set_option maxHeartbeats 1600000 in
set_option maxRecDepth 100000 in
theorem rtok_word (h91 : ¬ c8 x = 91) (h93 : ¬ c8 x = 93) (h6060 : ¬ (c8 x = 60 ∧ hd t = 60)) (h6262 : ¬ (c8 x = 62 ∧ hd t = 62)) (h47 : ¬ c8 x = 47) (h40 : ¬ c8 x = 40) (h60 : ¬ c8 x = 60) (hn : ¬ (c8 x = 43 ∨ c8 x = 45 ∨ c8 x = 46 ∨ 48 ≤ c8 x ∧ c8 x ≤ 57)) (hr : rg (c8 x) = true) (hlo : ¬ 127 < rn (x :: t)) (h : Tx w0 w cp tp b i (x :: t) 0 a 0 (.slice none 0 0) u out) :
    Calls Tryz.prog 109 #[.pointer (some ⟨cp, 0, none⟩), .pointer (some ⟨tp, 0, none⟩)] w fun e w' => TokR (.tok 9 0 ((x :: t).take (rn (x :: t))) ((x :: t).drop (rn (x :: t)))) w0 cp tp b a e w' := by
  have hT := h.bare
  have c1 := hT.cx.c1; have f1 := hT.cx.f1; have t0 := hT.t0; have t1 := hT.t1; have t2 := hT.t2; have t3 := hT.t3; have g0 := hT.g0; have g2 := hT.g2; have g3 := hT.g3; have hne := hT.ne; have hne' := hT.ne'
  have hi : i ≤ 4000000 := by have h1 := hT.cx.at_; have h2 := hT.cx.sm; omega
  have x0 := c8_ge x
  have x1 := c8_le x
  clear h
  have b91 : (c8 x == 91) = false := by simpa using h91
  have b93 : (c8 x == 93) = false := by simpa using h93
  have b60 : (c8 x == 60) = false := by simpa using h60
  have b47 : (c8 x == 47) = false := by simpa using h47
  have b40 : (c8 x == 40) = false := by simpa using h40
  have b62 : (c8 x == 62) = false ∨ ((c8 x == 62) = true ∧ (hd t == 62) = false) := by
    by_cases q : c8 x = 62
    · exact .inr ⟨by simpa using q, by simpa using fun e => h6262 ⟨q, e⟩⟩
    · exact .inl (by simpa using q)
  clear h91 h93 h6060 h6262 h47 h40 h60
  obtain ⟨⟨q1, q2, q3⟩, q4⟩ := nonum hn
  clear hn
  have Hr := hid hr
  clear hr
  have hlen : ((x :: t).take (rn (x :: t))).length = rn (x :: t) := by rw [List.length_take]; exact Nat.min_eq_left (rn_le _)
  have HLEN := hid hlen
  have hbd : rn (x :: t) ≤ 4000000 := by have h1 := rn_le (x :: t); have h2 := hT.cx.at_; have h3 := hT.cx.sm; omega
  clear hlen
  have tt1 : decide (127 < rn (x :: t)) = false := decide_eq_false hlo
  have tt2 : decide ((127 : Int) < rn (x :: t)) = false := decide_eq_false (by omega)
  rcases q4 with q4 | ⟨q4, q5⟩
  all_goals
    rcases b62 with b62 | ⟨b62, d62⟩
    all_goals
      go_enter Tryz.func109, Tryz.ntmps109
      go_wp2_with (first | (go_at_call 134; (with_reducible refine (tpeek0 hT).mono ?_); rintro e w1 ⟨rfl, hT⟩; have c1 := hT.cx.c1; have f1 := hT.cx.f1; have t0 := hT.t0; have t1 := hT.t1; have t2 := hT.t2; have t3 := hT.t3; have g0 := hT.g0; have g2 := hT.g2; have g3 := hT.g3; first | rw [hd_cons] | rw [hd_nil] | skip) | (go_at_call 134; (with_reducible refine (tpeek1 hT).mono ?_); rintro e w1 ⟨rfl, hT⟩; have c1 := hT.cx.c1; have f1 := hT.cx.f1; have t0 := hT.t0; have t1 := hT.t1; have t2 := hT.t2; have t3 := hT.t3; have g0 := hT.g0; have g2 := hT.g2; have g3 := hT.g3; rw [List.tail_cons]) | (go_at_call 116; (with_reducible refine (tregular _ hT).mono ?_); rintro e w1 ⟨rfl, hT⟩; have c1 := hT.cx.c1; have f1 := hT.cx.f1; have t0 := hT.t0; have t1 := hT.t1; have t2 := hT.t2; have t3 := hT.t3; have g0 := hT.g0; have g2 := hT.g2; have g3 := hT.g3; rw [Hr.out]) | (go_at_call 139; refine (rrun (hT.kind 9).cx.fresh).mono ?_; rintro e w2 ⟨u1, rfl, hC⟩; have hT2 := (hT.kind 9).after hC; obtain ⟨ao1, cap1, rfl, -, -, -⟩ := Rd.own hC.row; rw [HLEN.out] at hT2; have ht3 := hT2.t3; have hf3 := hT2.g3; rw [HLEN.out]))
      go_ret
      have hF := hT2.byt (.slice ao1 (rn (x :: t)) cap1)
      exact ⟨rfl, _, _, hF⟩

theorem rtoken (h : Tx w0 w cp tp b i s 0 a 0 (.slice none 0 0) u out) :
    Calls Tryz.prog 109 #[.pointer (some ⟨cp, 0, none⟩), .pointer (some ⟨tp, 0, none⟩)] w fun e w' => TokR (tk s) w0 cp tp b a e w' := by
  rcases s with _ | ⟨x, t⟩
  · exact rtok_end h
  rw [tk]
  by_cases h91 : c8 x = 91
  · rw [if_pos h91]; exact rtok_91 h91 h
  rw [if_neg h91]
  by_cases h93 : c8 x = 93
  · rw [if_pos h93]; exact rtok_93 h93 h
  rw [if_neg h93]
  by_cases h6060 : c8 x = 60 ∧ hd t = 60
  · rw [if_pos h6060]; exact rtok_6060 h6060.1 h6060.2 h
  rw [if_neg h6060]
  by_cases h6262 : c8 x = 62 ∧ hd t = 62
  · rw [if_pos h6262]; exact rtok_6262 h6262.1 h6262.2 h
  rw [if_neg h6262]
  by_cases h47 : c8 x = 47
  · rw [if_pos h47]; exact rtok_47 h47 h
  rw [if_neg h47]
  by_cases h40 : c8 x = 40
  · rw [if_pos h40]; exact rtok_40 h40 h
  rw [if_neg h40]
  by_cases h60 : c8 x = 60
  · rw [if_pos h60]; exact rtok_60 h60 (fun q => h6060 ⟨h60, q⟩) h
  rw [if_neg h60]
  by_cases hn : c8 x = 43 ∨ c8 x = 45 ∨ c8 x = 46 ∨ 48 ≤ c8 x ∧ c8 x ≤ 57
  · rw [if_pos hn]; exact rtok_num h91 h93 h6060 h6262 h47 h40 h60 hn h
  rw [if_neg hn]
  by_cases hr : rg (c8 x) = true
  · rw [if_pos hr]
    by_cases hl : 127 < rn (x :: t)
    · rw [if_pos hl]; exact rtok_long h91 h93 h6060 h6262 h47 h40 h60 hn hr hl h
    · rw [if_neg hl]; exact rtok_word h91 h93 h6060 h6262 h47 h40 h60 hn hr hl h
  · rw [if_neg hr]; exact rtok_none h91 h93 h6060 h6262 h47 h40 h60 hn (by simpa using hr) h
end
end Go.Proofs.YtlmgklebikcbjaaGreatDoor

/-
  The document's Token and Keyword; Stands; the walks. Condition: the lexer stands in its bytes.
-/
namespace Go.Proofs.YtlmgklebikcbjaaGreatDoor
open Go.RowKit
set_option linter.unusedVariables false

theorem Cx.rcell {w0 w w1 : World} {o : Obj} {cp : Nat} {b s s' : List UInt8} {i j : Nat} {u u' : Value} {out out' : List UInt8} (h0 : Cx w0 w cp b i s u out) (h : Cx (w.alloc o) w1 cp b j s' u' out') :
    (∀ k, w1.cell? ⟨w.heap.size, k, none⟩ = (w.alloc o).cell? ⟨w.heap.size, k, none⟩) ∧ (∀ k, w1.frozen? ⟨w.heap.size, k, none⟩ = (w.alloc o).frozen? ⟨w.heap.size, k, none⟩) ∧ w.heap.size < w1.heap.size ∧ cp < w.heap.size := by
  obtain ⟨ao, cap, h1, h2⟩ := h0.cur
  have q2 := World.block_lt_of_cell? _ _ h1.c0
  have q3 : w.heap.size < (w.alloc o).heap.size := by simp
  refine ⟨fun k => h.held.cell (a := ⟨w.heap.size, k, none⟩) q3 ?_ ?_, fun k => h.held.frozen (a := ⟨w.heap.size, k, none⟩) q3 ?_ ?_, Nat.lt_of_lt_of_le q3 h.held.size, q2⟩
  all_goals
    simp at q2 ⊢
    omega

section
variable {w0 w w' : World} {cp tp : Nat} {b : List UInt8} {i j : Nat} {s t : List UInt8} {k a n : Int} {vb u : Value} {out : List UInt8} {x : UInt8}

theorem Held.rcell {w1 w3 : World} {r : Nat} (h : Held w1.heap.size cp cp w1 w3) (hr : r < w1.heap.size) (hc : cp < r) :
    (∀ k, w3.cell? ⟨r, k, none⟩ = w1.cell? ⟨r, k, none⟩) ∧ (∀ k, w3.frozen? ⟨r, k, none⟩ = w1.frozen? ⟨r, k, none⟩) :=
  ⟨fun k => h.cell (a := ⟨r, k, none⟩) hr (by simp; omega) (by simp; omega), fun k => h.frozen (a := ⟨r, k, none⟩) hr (by simp; omega) (by simp; omega)⟩

/-- the stores to the result's own block -/
theorem Cx.close {w1 w3 : World} {u1 : Value} {o1 : List UInt8} {o : Obj} (h0 : Cx w0 w cp b i s u out) (h1 : Cx (w.alloc o) w1 cp b j t vb o1) {s3 : List UInt8} {i3 : Nat} {out3 : List UInt8} (h3 : Cx w1 w3 cp b i3 s3 u1 out3) (x0 x1 x2 x3 : Value) :
    Cx w0 ((((w3.setCell ⟨w.heap.size, 0, none⟩ x0).setCell ⟨w.heap.size, 1, none⟩ x1).setCell ⟨w.heap.size, 2, none⟩ x2).setCell ⟨w.heap.size, 3, none⟩ x3) cp b i3 s3 u1 out3 := by
  have hJ := ((h0.below (Below.alloc (Below.refl _ _) (Nat.le_refl _) o)).join h1).join h3
  have hz := h0.held.size
  have hu : u1.ownBlock ≠ some w.heap.size := fun q => by
    have g1 := (World.ownsRow.lt h3.row _ q).1
    have g2 := h1.held.size
    simp at g2
    omega
  exact (((hJ.store hz hu 0 x0).store hz hu 1 x1).store hz hu 2 x2).store hz hu 3 x3

/-- what the document's Token leaves -/
def TokS (T : TRes) (w0 : World) (cp : Nat) (b : List UInt8) (a : Nat) (e : Ending) (w' : World) : Prop :=
  match T with
  | .bad x => e = .returned (.tuple #[.agg #[.int .i64 0, .int .i64 a, .int .i64 0, .slice none 0 0], .int .i64 x]) ∧ Cx w0 w' cp b a (b.drop a) (.slice none 0 0) []
  | .tok k n out rest => ∃ u, e = .returned (.tuple #[.agg #[.int .i64 k, .int .i64 a, .int .i64 n, u], .int .i64 0]) ∧ ∃ i, Cx w0 w' cp b i rest u out

/-- a token of the document's, new -/
theorem Tx.new {w1 : World} {z : Nat} (h : Cx w0 w1 cp b j s u out) : Tx w1 (w1.alloc (.cells #[.int .i64 0, .int .i64 z, .int .i64 0, .slice none 0 0] 130)) cp w1.heap.size b j s 0 z 0 (.slice none 0 0) (.slice none 0 0) [] := by
  refine ⟨h.fresh.below (Below.alloc (Below.refl _ _) (Nat.le_refl _) _), Nat.le_refl _, by simp, (fun q => by cases q), ?_, ?_, ?_, ?_, ?_, ?_, ?_⟩
  · rw [World.cell?_alloc_at _ _ _ _ rfl]; rfl
  · rw [World.cell?_alloc_at _ _ _ _ rfl]; rfl
  · rw [World.cell?_alloc_at _ _ _ _ rfl]; rfl
  · rw [World.cell?_alloc_at _ _ _ _ rfl]; rfl
  · exact World.frozen?_alloc_at _ _ _ _ rfl
  · exact World.frozen?_alloc_at _ _ _ _ rfl
  · exact World.frozen?_alloc_at _ _ _ _ rfl

set_option maxHeartbeats 3200000 in
set_option maxRecDepth 100000 in
theorem rtoken_q (hg : (TK s).good) (h : Cx w0 w cp b i s u out) :
    Calls Tryz.prog 68 #[.pointer (some ⟨cp, 0, none⟩)] w fun e w' => TokS (TK s) w0 cp b (i + bl s false) e w' := by
  have HC0 := hid h
  have hC := (h.below (Below.alloc (Below.refl _ _) (Nat.le_refl _) (Obj.cells #[Value.int IntKind.i64 0, Value.int IntKind.i64 0, Value.int IntKind.i64 0, Value.slice none 0 0] 130))).fresh
  have hpl := h.at_
  have hpm := h.sm
  have hbl := bl_le s false
  have hle : i + bl s false ≤ b.length := by omega
  clear h hpl hbl
  unfold TK at *
  generalize hR : tk (s.drop (bl s false)) = R at hg ⊢
  have HR := hid hR
  generalize hz : i + bl s false = z at hle ⊢
  have HZ := hid hz
  clear hR hz
  rcases R with err | ⟨k0, n0, out1, rest⟩
  · have q1 := hg.1
    obtain ⟨-, kk, rfl, hkk⟩ := hg
    have q2 : (((kk : Nat) : Int) != 0) = true := by rw [bne, q1]; rfl
    clear q1
    go_enter Tryz.func68, Tryz.ntmps68
    go_wp2_with (first | (go_at_call 108; refine (rblank hC).mono ?_; rw [HZ.out]; rintro e w1 ⟨rfl, hC⟩; have c1 := hC.c1; obtain ⟨rc, rf, rs, rb⟩ := HC0.out.rcell hC) | (go_at_call 109; refine (rtoken (Tx.new hC)).mono ?_; rw [HR.out]; rintro e w3 ⟨rfl, hY, ht1, hs3⟩; obtain ⟨nn, c13⟩ := hY.c1; have f13 := hY.f1; obtain ⟨rc3, rf3⟩ := hY.held.rcell rs rb))
    refine bodyPost_ret (v := .tuple #[.agg #[.int .i64 0, .int .i64 z, .int .i64 0, .slice none 0 0], .int .i64 kk]) (by simp [results, Tryz.results68, go_sem, rc, rc3]) rfl ?_
    exact ⟨rfl, HC0.out.close hC (hY.to z hle) _ _ _ _⟩
  · go_enter Tryz.func68, Tryz.ntmps68
    go_wp2_with (first | (go_at_call 108; refine (rblank hC).mono ?_; rw [HZ.out]; rintro e w1 ⟨rfl, hC⟩; have c1 := hC.c1; obtain ⟨rc, rf, rs, rb⟩ := HC0.out.rcell hC) | (go_at_call 109; refine (rtoken (Tx.new hC)).mono ?_; rw [HR.out]; rintro e w3 ⟨rfl, j3, u3, hT⟩; obtain ⟨ao3, cap3, rfl, -, -, -⟩ := Rd.own hT.cx.row; have t0 := hT.t0; have t1 := hT.t1; have t2 := hT.t2; have t3 := hT.t3; obtain ⟨rc3, rf3⟩ := hT.cx.held.rcell rs rb))
    refine bodyPost_ret (v := .tuple #[.agg #[.int .i64 k0, .int .i64 z, .int .i64 n0, .slice ao3 out1.length cap3], .int .i64 0]) (by simp [results, Tryz.results68, go_sem, rc, rc3]) rfl ?_
    exact ⟨_, rfl, _, HC0.out.close hC hT.cx _ _ _ _⟩
end
end Go.Proofs.YtlmgklebikcbjaaGreatDoor

/-
  Same, SameToken, a token as the document has it; the statements of chapter 11 are awake; the walks. Conditions: sizes.
-/
namespace Go.Proofs.YtlmgklebikcbjaaGreatDoor
open Go.RowKit
set_option linter.unusedVariables false

set_option maxHeartbeats 800000 in
theorem same_any (aa ab : Option Addr) (ca cb : Nat) (la lb : List UInt8) (w : World) (ha : Rd w aa la) (hb : Rd w ab lb) (hla : la.length ≤ maxLen) (hlb : lb.length ≤ maxLen) :
    Calls Tryz.prog 42 #[.slice aa la.length ca, .slice ab lb.length cb] w fun e w' => e = .returned (.bool (decide (la = lb))) ∧ ∃ n, w' = w.drewN n := by
  unfold maxLen at hla hlb
  by_cases hl : la.length = lb.length
  · rw [← hl] at hlb ⊢
    have HL := hid hl
    clear hl
    go_enter Tryz.func42, Tryz.ntmps42
    go_wp2
    go_loopw [5] (fun i wr => (∃ n, wr = w.drewN n) ∧ ∃ k : Nat, k ≤ la.length ∧ i = .int .i64 k ∧ ∀ j, j < k → b8 la j = b8 lb j) (fun i _ => la.length - (intOf i).toNat)
    case atStart => exact ⟨⟨0, rfl⟩, 0, Nat.zero_le _, rfl, fun _ h => by omega⟩
    case round =>
      obtain ⟨⟨n, rfl⟩, k, hk, rfl, hall⟩ := hrel
      by_cases hlt : k < la.length
      · obtain ⟨b1, o1, rfl, hs1, hc1⟩ := ha.some (by omega)
        obtain ⟨b2, o2, rfl, hs2, hc2⟩ := hb.some (by have := HL.out; omega)
        have hc1 := hc1 k hlt
        have hc2 := hc2 k (by have := HL.out; omega)
        by_cases heq : b8 la k = b8 lb k
        · have hz : (b8 la k != b8 lb k) = false := by simp [heq]
          have HE := hid heq
          have HA := hid hall
          clear heq hall ha hb
          go_wp2
          go_quiet (fail)
          go_wp2
          go_roundw
          case rel => exact ⟨by first | exact ⟨_, rfl⟩ | exact ⟨_, World.drewN_drewN _ _ _⟩, k + 1, by omega, by go_num, fun j hj => by
            by_cases hjk : j = k
            · subst hjk; exact HE.out
            · exact HA.out j (by omega)⟩
          case measure => simp [intOf]; omega
        · have hz : (b8 la k != b8 lb k) = true := by simp [heq]
          have HE := hid heq
          clear heq hall ha hb
          go_wp2
          go_quiet (fail)
          go_wp2
          go_ret
          exact ⟨ret_bool (decide_eq_false (ne_of_b8 HE.out)).symm, by first | exact ⟨_, rfl⟩ | exact ⟨_, World.drewN_drewN _ _ _⟩⟩
      · have HA := hid hall
        clear hall ha hb
        go_wp2
        go_ret
        have : la = lb := eq_of_b8 HL.out (fun j hj => HA.out j (by omega))
        exact ⟨ret_bool (decide_eq_true this).symm, _, rfl⟩
  · have hz : ((la.length : Int) != (lb.length : Int)) = true := by simp; omega
    have HL := hid hl
    clear hl
    go_enter Tryz.func42, Tryz.ntmps42
    go_wp2
    go_ret
    exact ⟨ret_bool (decide_eq_false (fun h => HL.out (by rw [h]))).symm, 0, rfl⟩
theorem same_sl (u v : Value) (la lb : List UInt8) (w : World) (hu : Sl w u la) (hv : Sl w v lb) :
    Calls Tryz.prog 42 #[u, v] w fun e w' => e = .returned (.bool (decide (la = lb))) ∧ ∃ n, w' = w.drewN n := by
  obtain ⟨aa, ca, rfl, h1, h2, h3, h4⟩ := hu
  obtain ⟨ab, cb, rfl, g1, g2, g3, g4⟩ := hv
  exact same_any aa ab ca cb la lb w h4 g4 (by omega) (by omega)

theorem alb (w : World) (o : Obj) : Below w.heap.size w (w.alloc o) := Below.alloc (Below.refl _ _) (Nat.le_refl _) _

theorem Sl.litM (w : World) (vs : Array Value) (l : List UInt8) (n : Nat) (e : TypeId) (fr : Nat × Nat) (h : vs = (l.map bv).toArray) (hn : n = l.length) (hl : l.length ≤ 4000000) : Sl (w.alloc (.cells vs e fr)) (.slice (Option.some ⟨w.heap.size, 0, none⟩) n n) l := by
  subst h; subst hn
  refine ⟨_, _, rfl, Nat.le_refl _, by unfold maxLen; omega, (fun q => by cases q), .inr ⟨w.heap.size, 0, rfl, fun j hj => ?_⟩⟩
  rw [Nat.zero_add, World.cell?_alloc_mark]
  simp [List.getD, hj, bv, b8]

theorem lex_made (v : Value) (b : List UInt8) (w : World) (h : Sl w v b) (hl : b.length ≤ 4000000) :
    Calls Tryz.prog 54 #[v] w fun e w' => ∃ lp cp, e = .returned (.pointer (some ⟨lp, 0, none⟩)) ∧ w.heap.size ≤ lp ∧ w.heap.size ≤ cp ∧ Lx w' w' lp cp b 0 b (.int .i64 0) (.slice none 0 0) (.slice none 0 0) [] ∧ Below w.heap.size w w' := by
  refine (lex_new v b w h hl).mono ?_
  rintro e w' ⟨rfl, ⟨ao, cap, hq⟩, hb⟩
  exact ⟨_, _, rfl, by omega, Nat.le_refl _, Lx.start hq, hb⟩

theorem tk_awake1 : TK [47, 65, 35, 52, 50, 32] = .tok 4 0 [65, 66] [32] := by decide +kernel
theorem tk_awake2 : TK [32] = .tok 0 0 [] [] := by decide +kernel

/-- what a lexer's calls leave of the rest -/
theorem Lx.out0 {w0 w1 w : World} {lp cp : Nat} {b s : List UInt8} {i : Nat} {m v u : Value} {out : List UInt8} (h : Lx w1 w lp cp b i s m v u out) (hb : Below w0.heap.size w0 w1) (h1 : w0.heap.size ≤ lp) (h2 : w0.heap.size ≤ cp) : Below w0.heap.size w0 w :=
  hb.trans (h.held.below hb.size h1 h2)

end Go.Proofs.YtlmgklebikcbjaaGreatDoor

/-
  LexTokens: any bytes: token by token, to the end or the first that is none; the statement's walk. Condition: none but what its argument reads as.
-/
namespace Go.Proofs.YtlmgklebikcbjaaGreatDoor
open Go.RowKit
set_option linter.unusedVariables false

theorem Lx.fix {w0 w : World} {lp cp : Nat} {ao : Option Addr} {cap : Nat} {b s : List UInt8} {i j : Nat} {m0 v0 m v u : Value} {out : List UInt8} (h : LexAt w0 lp cp ao cap b i m0 v0) (k : Lx w0 w lp cp b j s m v u out) : LexAt w lp cp ao cap b j m v := by
  obtain ⟨ao', cap', k1, k2⟩ := k.lex
  have e := k2.c0
  rw [h.cur.c0] at e
  injection e with e
  injection e with e1 e2 e3
  subst e1; subst e3
  exact k1
theorem Cx.fix {w0 w : World} {cp : Nat} {ao : Option Addr} {cap : Nat} {b s : List UInt8} {i j : Nat} {u : Value} {out : List UInt8} (h : CurAt w0 cp ao cap b i) (k : Cx w0 w cp b j s u out) : CurAt w cp ao cap b j := by
  obtain ⟨ao', cap', k1, k2⟩ := k.cur
  have e := k2.c0
  rw [h.c0] at e
  injection e with e
  injection e with e1 e2 e3
  subst e1; subst e3
  exact k1

/-- a lexer of the document's, new -/
theorem cur_box {w : World} {ao : Option Addr} {cap : Nat} {b : List UInt8} (h : Sl w (.slice ao b.length cap) b) (hl : b.length ≤ 4000000) (e : TypeId) :
    CurAt (w.alloc (.cells #[.slice ao b.length cap, .int .i64 0] e)) w.heap.size ao cap b 0 := by
  obtain ⟨ao', cap', h1, c1, c2, c3, c4⟩ := h
  injection h1 with e1 e2 e3
  subst e1; subst e3
  refine ⟨?_, ?_, ?_, c4.up (alb _ _), c1, c2, c3, Nat.zero_le _, hl, ?_⟩
  · rw [World.cell?_alloc_at _ _ _ _ rfl]; rfl
  · rw [World.cell?_alloc_at _ _ _ _ rfl]; rfl
  · exact World.frozen?_alloc_at _ _ _ _ rfl
  · intro h0 a ha
    obtain ⟨bb, off, h1, h2, _⟩ := c4.some h0
    rw [h1] at ha; injection ha with ha; subst ha
    show bb ≠ w.heap.size
    omega

end Go.Proofs.YtlmgklebikcbjaaGreatDoor

/-
  LexNames: any bytes but noughts, written as a name or a string, are read as they were; the statement's walk. Condition: its arguments read as bytes.
-/
namespace Go.Proofs.YtlmgklebikcbjaaGreatDoor
open Go.RowKit
set_option linter.unusedVariables false

theorem TK_at (x : UInt8) (t : List UInt8) (h : wh (c8 x) = false) (h' : ¬ c8 x = 37) : bl (x :: t) false = 0 ∧ TK (x :: t) = tk (x :: t) := by
  have hb : bl (x :: t) false = 0 := by rw [bl, if_neg (by rw [h]; decide), if_neg h']
  exact ⟨hb, by unfold TK; rw [hb]; rfl⟩
theorem ptx_hd (s : List UInt8) : ∃ x t, ptx s = x :: t ∧ (x = 40 ∨ x = 60) := by
  unfold ptx; split
  · exact ⟨_, _, rfl, .inl rfl⟩
  · exact ⟨_, _, rfl, .inr rfl⟩
theorem ptx_len (s : List UInt8) : (ptx s).length ≤ 2 * s.length + 2 := by
  unfold ptx; split
  · simp; omega
  · simp [dgts_len]
theorem TK_ptx (s : List UInt8) (hs : s.length ≤ 32767) : bl (ptx s) false = 0 ∧ TK (ptx s) = .tok 3 0 s [] := by
  have h := tk_ptx s [] hs
  rw [List.append_nil] at h
  obtain ⟨x, t, e, hx⟩ := ptx_hd s
  rw [e] at h ⊢
  rw [← h]
  rcases hx with rfl | rfl <;> exact TK_at _ _ (by decide) (by decide)
theorem TK_pnm (b s : List UInt8) (h0 : ∀ c ∈ b, ¬ c = 0) (hl : b.length ≤ 127) : bl (47 :: b.flatMap pn1 ++ ptx s) false = 0 ∧ TK (47 :: b.flatMap pn1 ++ ptx s) = .tok 4 0 b (ptx s) := by
  have hr : rg (hd (ptx s)) = false := by
    obtain ⟨x, t, e, hx⟩ := ptx_hd s
    rw [e, hd_cons]
    rcases hx with rfl | rfl <;> decide
  have h := tk_pnm b (ptx s) h0 hl hr
  have h2 := TK_at 47 (b.flatMap pn1 ++ ptx s) (by decide) (by decide)
  rw [List.cons_append]
  exact ⟨h2.1, h2.2.trans h⟩
theorem TK_nil : TK [] = .tok 0 0 [] [] := rfl

/-- a cell that is not the lexer's stays, whatever the lexer reads -/
theorem Lx.ckeep {w0 w w' : World} {o : Obj} {lp cp : Nat} {b s s' : List UInt8} {i j : Nat} {m v u m' v' u' : Value} {out out' : List UInt8} (h : Lx w0 w lp cp b i s m v u out) (h' : Lx (w.alloc o) w' lp cp b j s' m' v' u' out') (hz : w0.heap.size ≤ w.heap.size := by exact Nat.le_refl _) {a : Addr} {x : Value} (ha : w0.heap.size ≤ a.block) (hc : (w.alloc o).cell? a = Option.some x) : w'.cell? a = Option.some x := by
  obtain ⟨ao, cap, h1, h2⟩ := h.lex
  have q1 := h2.lp
  have q2 := h2.cp
  rw [h'.held.cell (World.block_lt_of_cell? _ _ hc) (by omega) (by omega)]
  exact hc

end Go.Proofs.YtlmgklebikcbjaaGreatDoor
