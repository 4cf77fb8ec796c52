/-
  The document's token: what stands there, as the model reads it; the walk. Condition: the lexer stands in its bytes.
-/
import Derived.Test.YtlmgklebikcbjaaGreatRtx
import Derived.Test.YtlmgklebikcbjaaGreatTokL
namespace Go.Proofs.YtlmgklebikcbjaaGreat
open Go.RowKit
set_option linter.unusedVariables false

section
variable {w0 w w' : World} {cp tp : Nat} {b : List UInt8} {i j : Nat} {s t : List UInt8} {k a n : Int} {vb u : Value} {out : List UInt8} {x : UInt8}

set_option maxHeartbeats 1600000 in
set_option maxRecDepth 100000 in
theorem rtok_end (h : Tx w0 w cp tp b i [] 0 a 0 (.slice none 0 0) u out) :
    Calls Tryz.prog 91 #[.pointer (some ⟨cp, 0, none⟩), .pointer (some ⟨tp, 0, none⟩)] w fun e w' => TokR (.tok 0 0 [] []) w0 cp tp b a e w' := by
  have hT := h.bare
  have c1 := hT.cx.c1; have f1 := hT.cx.f1; have t0 := hT.t0; have t1 := hT.t1; have t2 := hT.t2; have t3 := hT.t3; have g0 := hT.g0; have g2 := hT.g2; have g3 := hT.g3; have hne := hT.ne; have hne' := hT.ne'
  have hi : i ≤ 1000000 := by have h1 := hT.cx.at_; have h2 := hT.cx.sm; omega
  clear h
  go_enter Tryz.func91, Tryz.ntmps91
  go_wp2_with (first | (go_at_call 49; (with_reducible refine (tpeek0 hT).mono ?_); rintro e w1 ⟨rfl, hT⟩; have c1 := hT.cx.c1; have f1 := hT.cx.f1; have t0 := hT.t0; have t1 := hT.t1; have t2 := hT.t2; have t3 := hT.t3; have g0 := hT.g0; have g2 := hT.g2; have g3 := hT.g3; first | rw [hd_cons] | rw [hd_nil] | skip))
  go_ret
  exact ⟨rfl, _, _, hT⟩

set_option maxHeartbeats 1600000 in
set_option maxRecDepth 100000 in
theorem rtok_91 (hcx : c8 x = 91) (h : Tx w0 w cp tp b i (x :: t) 0 a 0 (.slice none 0 0) u out) :
    Calls Tryz.prog 91 #[.pointer (some ⟨cp, 0, none⟩), .pointer (some ⟨tp, 0, none⟩)] w fun e w' => TokR (.tok 5 0 [] t) w0 cp tp b a e w' := by
  have hT := h.bare
  have c1 := hT.cx.c1; have f1 := hT.cx.f1; have t0 := hT.t0; have t1 := hT.t1; have t2 := hT.t2; have t3 := hT.t3; have g0 := hT.g0; have g2 := hT.g2; have g3 := hT.g3; have hne := hT.ne; have hne' := hT.ne'
  have hi : i ≤ 1000000 := by have h1 := hT.cx.at_; have h2 := hT.cx.sm; omega
  have x0 := c8_ge x
  have x1 := c8_le x
  clear h
  have b91 : (c8 x == 91) = true := by simpa using hcx
  clear hcx
  go_enter Tryz.func91, Tryz.ntmps91
  go_wp2_with (first | (go_at_call 49; (with_reducible refine (tpeek0 hT).mono ?_); rintro e w1 ⟨rfl, hT⟩; have c1 := hT.cx.c1; have f1 := hT.cx.f1; have t0 := hT.t0; have t1 := hT.t1; have t2 := hT.t2; have t3 := hT.t3; have g0 := hT.g0; have g2 := hT.g2; have g3 := hT.g3; first | rw [hd_cons] | rw [hd_nil] | skip))
  go_ret
  exact ⟨rfl, _, _, (hT.kind 5).adv _ rfl⟩

set_option maxHeartbeats 1600000 in
set_option maxRecDepth 100000 in
theorem rtok_93 (hcx : c8 x = 93) (h : Tx w0 w cp tp b i (x :: t) 0 a 0 (.slice none 0 0) u out) :
    Calls Tryz.prog 91 #[.pointer (some ⟨cp, 0, none⟩), .pointer (some ⟨tp, 0, none⟩)] w fun e w' => TokR (.tok 6 0 [] t) w0 cp tp b a e w' := by
  have hT := h.bare
  have c1 := hT.cx.c1; have f1 := hT.cx.f1; have t0 := hT.t0; have t1 := hT.t1; have t2 := hT.t2; have t3 := hT.t3; have g0 := hT.g0; have g2 := hT.g2; have g3 := hT.g3; have hne := hT.ne; have hne' := hT.ne'
  have hi : i ≤ 1000000 := by have h1 := hT.cx.at_; have h2 := hT.cx.sm; omega
  have x0 := c8_ge x
  have x1 := c8_le x
  clear h
  have b91 : (c8 x == 91) = false := by simp; omega
  have b93 : (c8 x == 93) = true := by simpa using hcx
  clear hcx
  go_enter Tryz.func91, Tryz.ntmps91
  go_wp2_with (first | (go_at_call 49; (with_reducible refine (tpeek0 hT).mono ?_); rintro e w1 ⟨rfl, hT⟩; have c1 := hT.cx.c1; have f1 := hT.cx.f1; have t0 := hT.t0; have t1 := hT.t1; have t2 := hT.t2; have t3 := hT.t3; have g0 := hT.g0; have g2 := hT.g2; have g3 := hT.g3; first | rw [hd_cons] | rw [hd_nil] | skip))
  go_ret
  exact ⟨rfl, _, _, (hT.kind 6).adv _ rfl⟩

set_option maxHeartbeats 1600000 in
set_option maxRecDepth 100000 in
theorem rtok_6060 (hcx : c8 x = 60) (hy : hd t = 60) (h : Tx w0 w cp tp b i (x :: t) 0 a 0 (.slice none 0 0) u out) :
    Calls Tryz.prog 91 #[.pointer (some ⟨cp, 0, none⟩), .pointer (some ⟨tp, 0, none⟩)] w fun e w' => TokR (.tok 7 0 [] t.tail) w0 cp tp b a e w' := by
  have hT := h.bare
  have c1 := hT.cx.c1; have f1 := hT.cx.f1; have t0 := hT.t0; have t1 := hT.t1; have t2 := hT.t2; have t3 := hT.t3; have g0 := hT.g0; have g2 := hT.g2; have g3 := hT.g3; have hne := hT.ne; have hne' := hT.ne'
  have hi : i ≤ 1000000 := by have h1 := hT.cx.at_; have h2 := hT.cx.sm; omega
  have x0 := c8_ge x
  have x1 := c8_le x
  clear h
  have b91 : (c8 x == 91) = false := by simp; omega
  have b93 : (c8 x == 93) = false := by simp; omega
  have b60 : (c8 x == 60) = true := by simpa using hcx
  have d60 : (hd t == 60) = true := by simpa using hy
  have hb : i + 2 ≤ b.length := by
    rcases t with _ | ⟨y, t⟩
    · rw [hd_nil] at hy; omega
    · have := hT.cx.at_; simp at this; omega
  have HD : Hid (b.drop (i + 2) = t.tail) := hid (by rw [← List.drop_drop, hT.cx.drp]; simp)
  clear hcx hy
  go_enter Tryz.func91, Tryz.ntmps91
  go_wp2_with (first | (go_at_call 49; (with_reducible refine (tpeek0 hT).mono ?_); rintro e w1 ⟨rfl, hT⟩; have c1 := hT.cx.c1; have f1 := hT.cx.f1; have t0 := hT.t0; have t1 := hT.t1; have t2 := hT.t2; have t3 := hT.t3; have g0 := hT.g0; have g2 := hT.g2; have g3 := hT.g3; first | rw [hd_cons] | rw [hd_nil] | skip) | (go_at_call 49; (with_reducible refine (tpeek1 hT).mono ?_); rintro e w1 ⟨rfl, hT⟩; have c1 := hT.cx.c1; have f1 := hT.cx.f1; have t0 := hT.t0; have t1 := hT.t1; have t2 := hT.t2; have t3 := hT.t3; have g0 := hT.g0; have g2 := hT.g2; have g3 := hT.g3; rw [List.tail_cons]))
  go_ret
  have hF := (hT.kind 7).to (i + 2) ((i : Int) + 2) (by omega) hb
  rw [HD.out] at hF
  exact ⟨rfl, _, _, hF⟩

set_option maxHeartbeats 1600000 in
set_option maxRecDepth 100000 in
theorem rtok_6262 (hcx : c8 x = 62) (hy : hd t = 62) (h : Tx w0 w cp tp b i (x :: t) 0 a 0 (.slice none 0 0) u out) :
    Calls Tryz.prog 91 #[.pointer (some ⟨cp, 0, none⟩), .pointer (some ⟨tp, 0, none⟩)] w fun e w' => TokR (.tok 8 0 [] t.tail) w0 cp tp b a e w' := by
  have hT := h.bare
  have c1 := hT.cx.c1; have f1 := hT.cx.f1; have t0 := hT.t0; have t1 := hT.t1; have t2 := hT.t2; have t3 := hT.t3; have g0 := hT.g0; have g2 := hT.g2; have g3 := hT.g3; have hne := hT.ne; have hne' := hT.ne'
  have hi : i ≤ 1000000 := by have h1 := hT.cx.at_; have h2 := hT.cx.sm; omega
  have x0 := c8_ge x
  have x1 := c8_le x
  clear h
  have b91 : (c8 x == 91) = false := by simp; omega
  have b93 : (c8 x == 93) = false := by simp; omega
  have b60 : (c8 x == 60) = false := by simp; omega
  have b62 : (c8 x == 62) = true := by simpa using hcx
  have d62 : (hd t == 62) = true := by simpa using hy
  have hb : i + 2 ≤ b.length := by
    rcases t with _ | ⟨y, t⟩
    · rw [hd_nil] at hy; omega
    · have := hT.cx.at_; simp at this; omega
  have HD : Hid (b.drop (i + 2) = t.tail) := hid (by rw [← List.drop_drop, hT.cx.drp]; simp)
  clear hcx hy
  go_enter Tryz.func91, Tryz.ntmps91
  go_wp2_with (first | (go_at_call 49; (with_reducible refine (tpeek0 hT).mono ?_); rintro e w1 ⟨rfl, hT⟩; have c1 := hT.cx.c1; have f1 := hT.cx.f1; have t0 := hT.t0; have t1 := hT.t1; have t2 := hT.t2; have t3 := hT.t3; have g0 := hT.g0; have g2 := hT.g2; have g3 := hT.g3; first | rw [hd_cons] | rw [hd_nil] | skip) | (go_at_call 49; (with_reducible refine (tpeek1 hT).mono ?_); rintro e w1 ⟨rfl, hT⟩; have c1 := hT.cx.c1; have f1 := hT.cx.f1; have t0 := hT.t0; have t1 := hT.t1; have t2 := hT.t2; have t3 := hT.t3; have g0 := hT.g0; have g2 := hT.g2; have g3 := hT.g3; rw [List.tail_cons]))
  go_ret
  have hF := (hT.kind 8).to (i + 2) ((i : Int) + 2) (by omega) hb
  rw [HD.out] at hF
  exact ⟨rfl, _, _, hF⟩

set_option maxHeartbeats 1600000 in
set_option maxRecDepth 100000 in
theorem rtok_47 (hcx : c8 x = 47) (h : Tx w0 w cp tp b i (x :: t) 0 a 0 (.slice none 0 0) u out) :
    Calls Tryz.prog 91 #[.pointer (some ⟨cp, 0, none⟩), .pointer (some ⟨tp, 0, none⟩)] w fun e w' => TokR (wrp 4 (nm t [])) w0 cp tp b a e w' := by
  have hT := h.bare
  have c1 := hT.cx.c1; have f1 := hT.cx.f1; have t0 := hT.t0; have t1 := hT.t1; have t2 := hT.t2; have t3 := hT.t3; have g0 := hT.g0; have g2 := hT.g2; have g3 := hT.g3; have hne := hT.ne; have hne' := hT.ne'
  have hi : i ≤ 1000000 := by have h1 := hT.cx.at_; have h2 := hT.cx.sm; omega
  have x0 := c8_ge x
  have x1 := c8_le x
  clear h
  have b91 : (c8 x == 91) = false := by simp; omega
  have b93 : (c8 x == 93) = false := by simp; omega
  have b60 : (c8 x == 60) = false := by simp; omega
  have b62 : (c8 x == 62) = false := by simp; omega
  have b47 : (c8 x == 47) = true := by simpa using hcx
  clear hcx
  generalize hR : nm t [] = R
  have HR := hid hR
  clear hR
  rcases R with err | ⟨out1, rest⟩
  · go_enter Tryz.func91, Tryz.ntmps91
    go_wp2_with (first | (go_at_call 49; (with_reducible refine (tpeek0 hT).mono ?_); rintro e w1 ⟨rfl, hT⟩; have c1 := hT.cx.c1; have f1 := hT.cx.f1; have t0 := hT.t0; have t1 := hT.t1; have t2 := hT.t2; have t3 := hT.t3; have g0 := hT.g0; have g2 := hT.g2; have g3 := hT.g3; first | rw [hd_cons] | rw [hd_nil] | skip) | (go_at_call 49; (with_reducible refine (tpeek1 hT).mono ?_); rintro e w1 ⟨rfl, hT⟩; have c1 := hT.cx.c1; have f1 := hT.cx.f1; have t0 := hT.t0; have t1 := hT.t1; have t2 := hT.t2; have t3 := hT.t3; have g0 := hT.g0; have g2 := hT.g2; have g3 := hT.g3; rw [List.tail_cons]) | (go_at_call 105; refine (rname ((hT.adv _ rfl).kind 4).cx.fresh).mono ?_; rw [HR.out]; rintro e w2 ⟨rfl, hY⟩; obtain ⟨hy, ht1, ht3, hf3, hs3⟩ := ((hT.adv _ rfl).kind 4).bad hY))
    go_ret
    exact ⟨rfl, hy.store hT.lo _ _, by rw [cset_ne (by simp)]; exact ht1, by simpa using hs3⟩
  · go_enter Tryz.func91, Tryz.ntmps91
    go_wp2_with (first | (go_at_call 49; (with_reducible refine (tpeek0 hT).mono ?_); rintro e w1 ⟨rfl, hT⟩; have c1 := hT.cx.c1; have f1 := hT.cx.f1; have t0 := hT.t0; have t1 := hT.t1; have t2 := hT.t2; have t3 := hT.t3; have g0 := hT.g0; have g2 := hT.g2; have g3 := hT.g3; first | rw [hd_cons] | rw [hd_nil] | skip) | (go_at_call 49; (with_reducible refine (tpeek1 hT).mono ?_); rintro e w1 ⟨rfl, hT⟩; have c1 := hT.cx.c1; have f1 := hT.cx.f1; have t0 := hT.t0; have t1 := hT.t1; have t2 := hT.t2; have t3 := hT.t3; have g0 := hT.g0; have g2 := hT.g2; have g3 := hT.g3; rw [List.tail_cons]) | (go_at_call 105; refine (rname ((hT.adv _ rfl).kind 4).cx.fresh).mono ?_; rw [HR.out]; rintro e w2 ⟨u1, rfl, j, hC⟩; have hT2 := ((hT.adv _ rfl).kind 4).after hC; have ht3 := hT2.t3; have hf3 := hT2.g3; obtain ⟨ao1, cap1, rfl, -, -, -⟩ := Rd.own hC.row))
    go_ret
    exact ⟨rfl, _, _, hT2.byt _⟩

set_option maxHeartbeats 1600000 in
set_option maxRecDepth 100000 in
theorem rtok_40 (hcx : c8 x = 40) (h : Tx w0 w cp tp b i (x :: t) 0 a 0 (.slice none 0 0) u out) :
    Calls Tryz.prog 91 #[.pointer (some ⟨cp, 0, none⟩), .pointer (some ⟨tp, 0, none⟩)] w fun e w' => TokR (wrp 3 (TX t 1 [])) w0 cp tp b a e w' := by
  have hT := h.bare
  have c1 := hT.cx.c1; have f1 := hT.cx.f1; have t0 := hT.t0; have t1 := hT.t1; have t2 := hT.t2; have t3 := hT.t3; have g0 := hT.g0; have g2 := hT.g2; have g3 := hT.g3; have hne := hT.ne; have hne' := hT.ne'
  have hi : i ≤ 1000000 := by have h1 := hT.cx.at_; have h2 := hT.cx.sm; omega
  have x0 := c8_ge x
  have x1 := c8_le x
  clear h
  have b91 : (c8 x == 91) = false := by simp; omega
  have b93 : (c8 x == 93) = false := by simp; omega
  have b60 : (c8 x == 60) = false := by simp; omega
  have b62 : (c8 x == 62) = false := by simp; omega
  have b47 : (c8 x == 47) = false := by simp; omega
  have b40 : (c8 x == 40) = true := by simpa using hcx
  clear hcx
  generalize hR : TX t 1 [] = R
  have HR := hid hR
  clear hR
  rcases R with err | ⟨out1, rest⟩
  · go_enter Tryz.func91, Tryz.ntmps91
    go_wp2_with (first | (go_at_call 49; (with_reducible refine (tpeek0 hT).mono ?_); rintro e w1 ⟨rfl, hT⟩; have c1 := hT.cx.c1; have f1 := hT.cx.f1; have t0 := hT.t0; have t1 := hT.t1; have t2 := hT.t2; have t3 := hT.t3; have g0 := hT.g0; have g2 := hT.g2; have g3 := hT.g3; first | rw [hd_cons] | rw [hd_nil] | skip) | (go_at_call 49; (with_reducible refine (tpeek1 hT).mono ?_); rintro e w1 ⟨rfl, hT⟩; have c1 := hT.cx.c1; have f1 := hT.cx.f1; have t0 := hT.t0; have t1 := hT.t1; have t2 := hT.t2; have t3 := hT.t3; have g0 := hT.g0; have g2 := hT.g2; have g3 := hT.g3; rw [List.tail_cons]) | (go_at_call 106; refine (rtext ((hT.adv _ rfl).kind 3).cx.fresh).mono ?_; rw [HR.out]; rintro e w2 ⟨rfl, hY⟩; obtain ⟨hy, ht1, ht3, hf3, hs3⟩ := ((hT.adv _ rfl).kind 3).bad hY))
    go_ret
    exact ⟨rfl, hy.store hT.lo _ _, by rw [cset_ne (by simp)]; exact ht1, by simpa using hs3⟩
  · go_enter Tryz.func91, Tryz.ntmps91
    go_wp2_with (first | (go_at_call 49; (with_reducible refine (tpeek0 hT).mono ?_); rintro e w1 ⟨rfl, hT⟩; have c1 := hT.cx.c1; have f1 := hT.cx.f1; have t0 := hT.t0; have t1 := hT.t1; have t2 := hT.t2; have t3 := hT.t3; have g0 := hT.g0; have g2 := hT.g2; have g3 := hT.g3; first | rw [hd_cons] | rw [hd_nil] | skip) | (go_at_call 49; (with_reducible refine (tpeek1 hT).mono ?_); rintro e w1 ⟨rfl, hT⟩; have c1 := hT.cx.c1; have f1 := hT.cx.f1; have t0 := hT.t0; have t1 := hT.t1; have t2 := hT.t2; have t3 := hT.t3; have g0 := hT.g0; have g2 := hT.g2; have g3 := hT.g3; rw [List.tail_cons]) | (go_at_call 106; refine (rtext ((hT.adv _ rfl).kind 3).cx.fresh).mono ?_; rw [HR.out]; rintro e w2 ⟨u1, rfl, j, hC⟩; have hT2 := ((hT.adv _ rfl).kind 3).after hC; have ht3 := hT2.t3; have hf3 := hT2.g3; obtain ⟨ao1, cap1, rfl, -, -, -⟩ := Rd.own hC.row))
    go_ret
    exact ⟨rfl, _, _, hT2.byt _⟩

set_option maxHeartbeats 1600000 in
set_option maxRecDepth 100000 in
theorem rtok_60 (hcx : c8 x = 60) (hy : ¬ hd t = 60) (h : Tx w0 w cp tp b i (x :: t) 0 a 0 (.slice none 0 0) u out) :
    Calls Tryz.prog 91 #[.pointer (some ⟨cp, 0, none⟩), .pointer (some ⟨tp, 0, none⟩)] w fun e w' => TokR (wrp 3 (hx t (-1) [])) w0 cp tp b a e w' := by
  have hT := h.bare
  have c1 := hT.cx.c1; have f1 := hT.cx.f1; have t0 := hT.t0; have t1 := hT.t1; have t2 := hT.t2; have t3 := hT.t3; have g0 := hT.g0; have g2 := hT.g2; have g3 := hT.g3; have hne := hT.ne; have hne' := hT.ne'
  have hi : i ≤ 1000000 := by have h1 := hT.cx.at_; have h2 := hT.cx.sm; omega
  have x0 := c8_ge x
  have x1 := c8_le x
  clear h
  have b91 : (c8 x == 91) = false := by simp; omega
  have b93 : (c8 x == 93) = false := by simp; omega
  have b62 : (c8 x == 62) = false := by simp; omega
  have b47 : (c8 x == 47) = false := by simp; omega
  have b40 : (c8 x == 40) = false := by simp; omega
  have b60 : (c8 x == 60) = true := by simpa using hcx
  have d60 : (hd t == 60) = false := by simpa using hy
  clear hcx hy
  generalize hR : hx t (-1) [] = R
  have HR := hid hR
  clear hR
  rcases R with err | ⟨out1, rest⟩
  · go_enter Tryz.func91, Tryz.ntmps91
    go_wp2_with (first | (go_at_call 49; (with_reducible refine (tpeek0 hT).mono ?_); rintro e w1 ⟨rfl, hT⟩; have c1 := hT.cx.c1; have f1 := hT.cx.f1; have t0 := hT.t0; have t1 := hT.t1; have t2 := hT.t2; have t3 := hT.t3; have g0 := hT.g0; have g2 := hT.g2; have g3 := hT.g3; first | rw [hd_cons] | rw [hd_nil] | skip) | (go_at_call 49; (with_reducible refine (tpeek1 hT).mono ?_); rintro e w1 ⟨rfl, hT⟩; have c1 := hT.cx.c1; have f1 := hT.cx.f1; have t0 := hT.t0; have t1 := hT.t1; have t2 := hT.t2; have t3 := hT.t3; have g0 := hT.g0; have g2 := hT.g2; have g3 := hT.g3; rw [List.tail_cons]) | (go_at_call 107; refine (rhex ((hT.adv _ rfl).kind 3).cx.fresh).mono ?_; rw [HR.out]; rintro e w2 ⟨rfl, hY⟩; obtain ⟨hy, ht1, ht3, hf3, hs3⟩ := ((hT.adv _ rfl).kind 3).bad hY))
    go_ret
    exact ⟨rfl, hy.store hT.lo _ _, by rw [cset_ne (by simp)]; exact ht1, by simpa using hs3⟩
  · go_enter Tryz.func91, Tryz.ntmps91
    go_wp2_with (first | (go_at_call 49; (with_reducible refine (tpeek0 hT).mono ?_); rintro e w1 ⟨rfl, hT⟩; have c1 := hT.cx.c1; have f1 := hT.cx.f1; have t0 := hT.t0; have t1 := hT.t1; have t2 := hT.t2; have t3 := hT.t3; have g0 := hT.g0; have g2 := hT.g2; have g3 := hT.g3; first | rw [hd_cons] | rw [hd_nil] | skip) | (go_at_call 49; (with_reducible refine (tpeek1 hT).mono ?_); rintro e w1 ⟨rfl, hT⟩; have c1 := hT.cx.c1; have f1 := hT.cx.f1; have t0 := hT.t0; have t1 := hT.t1; have t2 := hT.t2; have t3 := hT.t3; have g0 := hT.g0; have g2 := hT.g2; have g3 := hT.g3; rw [List.tail_cons]) | (go_at_call 107; refine (rhex ((hT.adv _ rfl).kind 3).cx.fresh).mono ?_; rw [HR.out]; rintro e w2 ⟨u1, rfl, j, hC⟩; have hT2 := ((hT.adv _ rfl).kind 3).after hC; have ht3 := hT2.t3; have hf3 := hT2.g3; obtain ⟨ao1, cap1, rfl, -, -, -⟩ := Rd.own hC.row))
    go_ret
    exact ⟨rfl, _, _, hT2.byt _⟩

set_option maxHeartbeats 1600000 in
set_option maxRecDepth 100000 in
theorem rtok_num (h91 : ¬ c8 x = 91) (h93 : ¬ c8 x = 93) (h6060 : ¬ (c8 x = 60 ∧ hd t = 60)) (h6262 : ¬ (c8 x = 62 ∧ hd t = 62)) (h47 : ¬ c8 x = 47) (h40 : ¬ c8 x = 40) (h60 : ¬ c8 x = 60) (hn : c8 x = 43 ∨ c8 x = 45 ∨ c8 x = 46 ∨ 48 ≤ c8 x ∧ c8 x ≤ 57) (h : Tx w0 w cp tp b i (x :: t) 0 a 0 (.slice none 0 0) u out) :
    Calls Tryz.prog 91 #[.pointer (some ⟨cp, 0, none⟩), .pointer (some ⟨tp, 0, none⟩)] w fun e w' => TokR (numT (x :: t)) w0 cp tp b a e w' := by
  have hT := h.bare
  have c1 := hT.cx.c1; have f1 := hT.cx.f1; have t0 := hT.t0; have t1 := hT.t1; have t2 := hT.t2; have t3 := hT.t3; have g0 := hT.g0; have g2 := hT.g2; have g3 := hT.g3; have hne := hT.ne; have hne' := hT.ne'
  have hi : i ≤ 1000000 := by have h1 := hT.cx.at_; have h2 := hT.cx.sm; omega
  have x0 := c8_ge x
  have x1 := c8_le x
  clear h
  have b91 : (c8 x == 91) = false := by simpa using h91
  have b93 : (c8 x == 93) = false := by simpa using h93
  have b60 : (c8 x == 60) = false := by simpa using h60
  have b47 : (c8 x == 47) = false := by simpa using h47
  have b40 : (c8 x == 40) = false := by simpa using h40
  have b62 : (c8 x == 62) = false ∨ ((c8 x == 62) = true ∧ (hd t == 62) = false) := by
    by_cases q : c8 x = 62
    · exact .inr ⟨by simpa using q, by simpa using fun e => h6262 ⟨q, e⟩⟩
    · exact .inl (by simpa using q)
  clear h91 h93 h6060 h6262 h47 h40 h60
  have hb : (c8 x == 43) = true ∨ ((c8 x == 43) = false ∧ (c8 x == 45) = true) ∨ ((c8 x == 43) = false ∧ (c8 x == 45) = false ∧ (c8 x == 46) = true) ∨ ((c8 x == 43) = false ∧ (c8 x == 45) = false ∧ (c8 x == 46) = false ∧ decide (48 ≤ c8 x) = true ∧ decide (c8 x ≤ 57) = true) := by
    rcases hn with q | q | q | q
    · exact .inl (by simpa using q)
    · exact .inr (.inl ⟨by simp [q], by simpa using q⟩)
    · exact .inr (.inr (.inl ⟨by simp [q], by simp [q], by simpa using q⟩))
    · exact .inr (.inr (.inr ⟨by simp; omega, by simp; omega, by simp; omega, decide_eq_true q.1, decide_eq_true q.2⟩))
  clear hn
  have b62' : (c8 x == 62) = false := by
    rcases b62 with q | ⟨q, _⟩
    · exact q
    · rw [beq_iff_eq] at q
      rcases hb with h | ⟨_, h⟩ | ⟨_, _, h⟩ | ⟨_, _, _, _, h⟩
      · rw [q] at h; cases h
      · rw [q] at h; cases h
      · rw [q] at h; cases h
      · rw [decide_eq_true_eq] at h; omega
  clear b62
  generalize hTT : numT (x :: t) = T
  have HTT := hid hTT
  clear hTT
  rcases T with err | ⟨k0, n0, out1, rest⟩
  · rcases hb with q1 | ⟨q1, q2⟩ | ⟨q1, q2, q3⟩ | ⟨q1, q2, q3, q4, q5⟩
    all_goals
      go_enter Tryz.func91, Tryz.ntmps91
      go_wp2_with (first | (go_at_call 49; (with_reducible refine (tpeek0 hT).mono ?_); rintro e w1 ⟨rfl, hT⟩; have c1 := hT.cx.c1; have f1 := hT.cx.f1; have t0 := hT.t0; have t1 := hT.t1; have t2 := hT.t2; have t3 := hT.t3; have g0 := hT.g0; have g2 := hT.g2; have g3 := hT.g3; first | rw [hd_cons] | rw [hd_nil] | skip) | (go_at_call 49; (with_reducible refine (tpeek1 hT).mono ?_); rintro e w1 ⟨rfl, hT⟩; have c1 := hT.cx.c1; have f1 := hT.cx.f1; have t0 := hT.t0; have t1 := hT.t1; have t2 := hT.t2; have t3 := hT.t3; have g0 := hT.g0; have g2 := hT.g2; have g3 := hT.g3; rw [List.tail_cons]) | (go_at_call 108; refine (rnumber hT).mono ?_; rw [HTT.out]; rintro e w2 ⟨rfl, hq⟩))
      go_ret
      exact ⟨rfl, hq⟩
  · rcases hb with q1 | ⟨q1, q2⟩ | ⟨q1, q2, q3⟩ | ⟨q1, q2, q3, q4, q5⟩
    all_goals
      go_enter Tryz.func91, Tryz.ntmps91
      go_wp2_with (first | (go_at_call 49; (with_reducible refine (tpeek0 hT).mono ?_); rintro e w1 ⟨rfl, hT⟩; have c1 := hT.cx.c1; have f1 := hT.cx.f1; have t0 := hT.t0; have t1 := hT.t1; have t2 := hT.t2; have t3 := hT.t3; have g0 := hT.g0; have g2 := hT.g2; have g3 := hT.g3; first | rw [hd_cons] | rw [hd_nil] | skip) | (go_at_call 49; (with_reducible refine (tpeek1 hT).mono ?_); rintro e w1 ⟨rfl, hT⟩; have c1 := hT.cx.c1; have f1 := hT.cx.f1; have t0 := hT.t0; have t1 := hT.t1; have t2 := hT.t2; have t3 := hT.t3; have g0 := hT.g0; have g2 := hT.g2; have g3 := hT.g3; rw [List.tail_cons]) | (go_at_call 108; refine (rnumber hT).mono ?_; rw [HTT.out]; rintro e w2 ⟨rfl, hq⟩))
      go_ret
      exact ⟨rfl, hq⟩

set_option maxHeartbeats 1600000 in
set_option maxRecDepth 100000 in
theorem rtok_none (h91 : ¬ c8 x = 91) (h93 : ¬ c8 x = 93) (h6060 : ¬ (c8 x = 60 ∧ hd t = 60)) (h6262 : ¬ (c8 x = 62 ∧ hd t = 62)) (h47 : ¬ c8 x = 47) (h40 : ¬ c8 x = 40) (h60 : ¬ c8 x = 60) (hn : ¬ (c8 x = 43 ∨ c8 x = 45 ∨ c8 x = 46 ∨ 48 ≤ c8 x ∧ c8 x ≤ 57)) (hr : rg (c8 x) = false) (h : Tx w0 w cp tp b i (x :: t) 0 a 0 (.slice none 0 0) u out) :
    Calls Tryz.prog 91 #[.pointer (some ⟨cp, 0, none⟩), .pointer (some ⟨tp, 0, none⟩)] w fun e w' => TokR (.bad 4) w0 cp tp b a e w' := by
  have hT := h.bare
  have c1 := hT.cx.c1; have f1 := hT.cx.f1; have t0 := hT.t0; have t1 := hT.t1; have t2 := hT.t2; have t3 := hT.t3; have g0 := hT.g0; have g2 := hT.g2; have g3 := hT.g3; have hne := hT.ne; have hne' := hT.ne'
  have hi : i ≤ 1000000 := by have h1 := hT.cx.at_; have h2 := hT.cx.sm; omega
  have x0 := c8_ge x
  have x1 := c8_le x
  clear h
  have b91 : (c8 x == 91) = false := by simpa using h91
  have b93 : (c8 x == 93) = false := by simpa using h93
  have b60 : (c8 x == 60) = false := by simpa using h60
  have b47 : (c8 x == 47) = false := by simpa using h47
  have b40 : (c8 x == 40) = false := by simpa using h40
  have b62 : (c8 x == 62) = false ∨ ((c8 x == 62) = true ∧ (hd t == 62) = false) := by
    by_cases q : c8 x = 62
    · exact .inr ⟨by simpa using q, by simpa using fun e => h6262 ⟨q, e⟩⟩
    · exact .inl (by simpa using q)
  clear h91 h93 h6060 h6262 h47 h40 h60
  obtain ⟨⟨q1, q2, q3⟩, q4⟩ := nonum hn
  clear hn
  have Hr := hid hr
  clear hr
  rcases q4 with q4 | ⟨q4, q5⟩
  all_goals
    rcases b62 with b62 | ⟨b62, d62⟩
    all_goals
      go_enter Tryz.func91, Tryz.ntmps91
      go_wp2_with (first | (go_at_call 49; (with_reducible refine (tpeek0 hT).mono ?_); rintro e w1 ⟨rfl, hT⟩; have c1 := hT.cx.c1; have f1 := hT.cx.f1; have t0 := hT.t0; have t1 := hT.t1; have t2 := hT.t2; have t3 := hT.t3; have g0 := hT.g0; have g2 := hT.g2; have g3 := hT.g3; first | rw [hd_cons] | rw [hd_nil] | skip) | (go_at_call 49; (with_reducible refine (tpeek1 hT).mono ?_); rintro e w1 ⟨rfl, hT⟩; have c1 := hT.cx.c1; have f1 := hT.cx.f1; have t0 := hT.t0; have t1 := hT.t1; have t2 := hT.t2; have t3 := hT.t3; have g0 := hT.g0; have g2 := hT.g2; have g3 := hT.g3; rw [List.tail_cons]) | (go_at_call 48; (with_reducible refine (tregular _ hT).mono ?_); rintro e w1 ⟨rfl, hT⟩; have c1 := hT.cx.c1; have f1 := hT.cx.f1; have t0 := hT.t0; have t1 := hT.t1; have t2 := hT.t2; have t3 := hT.t3; have g0 := hT.g0; have g2 := hT.g2; have g3 := hT.g3; rw [Hr.out]))
      go_ret
      exact ⟨rfl, hT.cx.cy, hT.t1, hT.hi⟩

set_option maxHeartbeats 1600000 in
set_option maxRecDepth 100000 in
theorem rtok_long (h91 : ¬ c8 x = 91) (h93 : ¬ c8 x = 93) (h6060 : ¬ (c8 x = 60 ∧ hd t = 60)) (h6262 : ¬ (c8 x = 62 ∧ hd t = 62)) (h47 : ¬ c8 x = 47) (h40 : ¬ c8 x = 40) (h60 : ¬ c8 x = 60) (hn : ¬ (c8 x = 43 ∨ c8 x = 45 ∨ c8 x = 46 ∨ 48 ≤ c8 x ∧ c8 x ≤ 57)) (hr : rg (c8 x) = true) (hlo : 127 < rn (x :: t)) (h : Tx w0 w cp tp b i (x :: t) 0 a 0 (.slice none 0 0) u out) :
    Calls Tryz.prog 91 #[.pointer (some ⟨cp, 0, none⟩), .pointer (some ⟨tp, 0, none⟩)] w fun e w' => TokR (.bad 3) w0 cp tp b a e w' := by
  have hT := h.bare
  have c1 := hT.cx.c1; have f1 := hT.cx.f1; have t0 := hT.t0; have t1 := hT.t1; have t2 := hT.t2; have t3 := hT.t3; have g0 := hT.g0; have g2 := hT.g2; have g3 := hT.g3; have hne := hT.ne; have hne' := hT.ne'
  have hi : i ≤ 1000000 := by have h1 := hT.cx.at_; have h2 := hT.cx.sm; omega
  have x0 := c8_ge x
  have x1 := c8_le x
  clear h
  have b91 : (c8 x == 91) = false := by simpa using h91
  have b93 : (c8 x == 93) = false := by simpa using h93
  have b60 : (c8 x == 60) = false := by simpa using h60
  have b47 : (c8 x == 47) = false := by simpa using h47
  have b40 : (c8 x == 40) = false := by simpa using h40
  have b62 : (c8 x == 62) = false ∨ ((c8 x == 62) = true ∧ (hd t == 62) = false) := by
    by_cases q : c8 x = 62
    · exact .inr ⟨by simpa using q, by simpa using fun e => h6262 ⟨q, e⟩⟩
    · exact .inl (by simpa using q)
  clear h91 h93 h6060 h6262 h47 h40 h60
  obtain ⟨⟨q1, q2, q3⟩, q4⟩ := nonum hn
  clear hn
  have Hr := hid hr
  clear hr
  have hlen : ((x :: t).take (rn (x :: t))).length = rn (x :: t) := by rw [List.length_take]; exact Nat.min_eq_left (rn_le _)
  have HLEN := hid hlen
  have hbd : rn (x :: t) ≤ 1000000 := by have h1 := rn_le (x :: t); have h2 := hT.cx.at_; have h3 := hT.cx.sm; omega
  clear hlen
  have tt1 : decide (127 < rn (x :: t)) = true := decide_eq_true hlo
  have tt2 : decide ((127 : Int) < rn (x :: t)) = true := decide_eq_true (by omega)
  rcases q4 with q4 | ⟨q4, q5⟩
  all_goals
    rcases b62 with b62 | ⟨b62, d62⟩
    all_goals
      go_enter Tryz.func91, Tryz.ntmps91
      go_wp2_with (first | (go_at_call 49; (with_reducible refine (tpeek0 hT).mono ?_); rintro e w1 ⟨rfl, hT⟩; have c1 := hT.cx.c1; have f1 := hT.cx.f1; have t0 := hT.t0; have t1 := hT.t1; have t2 := hT.t2; have t3 := hT.t3; have g0 := hT.g0; have g2 := hT.g2; have g3 := hT.g3; first | rw [hd_cons] | rw [hd_nil] | skip) | (go_at_call 49; (with_reducible refine (tpeek1 hT).mono ?_); rintro e w1 ⟨rfl, hT⟩; have c1 := hT.cx.c1; have f1 := hT.cx.f1; have t0 := hT.t0; have t1 := hT.t1; have t2 := hT.t2; have t3 := hT.t3; have g0 := hT.g0; have g2 := hT.g2; have g3 := hT.g3; rw [List.tail_cons]) | (go_at_call 48; (with_reducible refine (tregular _ hT).mono ?_); rintro e w1 ⟨rfl, hT⟩; have c1 := hT.cx.c1; have f1 := hT.cx.f1; have t0 := hT.t0; have t1 := hT.t1; have t2 := hT.t2; have t3 := hT.t3; have g0 := hT.g0; have g2 := hT.g2; have g3 := hT.g3; rw [Hr.out]) | (go_at_call 109; refine (rrun (hT.kind 9).cx.fresh).mono ?_; rintro e w2 ⟨u1, rfl, hC⟩; have hT2 := (hT.kind 9).after hC; obtain ⟨ao1, cap1, rfl, -, -, -⟩ := Rd.own hC.row; rw [HLEN.out] at hT2; have ht3 := hT2.t3; have hf3 := hT2.g3; rw [HLEN.out]))
      go_ret
      have hF := hT2.byt (.slice ao1 (rn (x :: t)) cap1)
      exact ⟨rfl, hF.cx.cy, hF.t1, hF.hi⟩

set_option maxHeartbeats 1600000 in
set_option maxRecDepth 100000 in
theorem rtok_word (h91 : ¬ c8 x = 91) (h93 : ¬ c8 x = 93) (h6060 : ¬ (c8 x = 60 ∧ hd t = 60)) (h6262 : ¬ (c8 x = 62 ∧ hd t = 62)) (h47 : ¬ c8 x = 47) (h40 : ¬ c8 x = 40) (h60 : ¬ c8 x = 60) (hn : ¬ (c8 x = 43 ∨ c8 x = 45 ∨ c8 x = 46 ∨ 48 ≤ c8 x ∧ c8 x ≤ 57)) (hr : rg (c8 x) = true) (hlo : ¬ 127 < rn (x :: t)) (h : Tx w0 w cp tp b i (x :: t) 0 a 0 (.slice none 0 0) u out) :
    Calls Tryz.prog 91 #[.pointer (some ⟨cp, 0, none⟩), .pointer (some ⟨tp, 0, none⟩)] w fun e w' => TokR (.tok 9 0 ((x :: t).take (rn (x :: t))) ((x :: t).drop (rn (x :: t)))) w0 cp tp b a e w' := by
  have hT := h.bare
  have c1 := hT.cx.c1; have f1 := hT.cx.f1; have t0 := hT.t0; have t1 := hT.t1; have t2 := hT.t2; have t3 := hT.t3; have g0 := hT.g0; have g2 := hT.g2; have g3 := hT.g3; have hne := hT.ne; have hne' := hT.ne'
  have hi : i ≤ 1000000 := by have h1 := hT.cx.at_; have h2 := hT.cx.sm; omega
  have x0 := c8_ge x
  have x1 := c8_le x
  clear h
  have b91 : (c8 x == 91) = false := by simpa using h91
  have b93 : (c8 x == 93) = false := by simpa using h93
  have b60 : (c8 x == 60) = false := by simpa using h60
  have b47 : (c8 x == 47) = false := by simpa using h47
  have b40 : (c8 x == 40) = false := by simpa using h40
  have b62 : (c8 x == 62) = false ∨ ((c8 x == 62) = true ∧ (hd t == 62) = false) := by
    by_cases q : c8 x = 62
    · exact .inr ⟨by simpa using q, by simpa using fun e => h6262 ⟨q, e⟩⟩
    · exact .inl (by simpa using q)
  clear h91 h93 h6060 h6262 h47 h40 h60
  obtain ⟨⟨q1, q2, q3⟩, q4⟩ := nonum hn
  clear hn
  have Hr := hid hr
  clear hr
  have hlen : ((x :: t).take (rn (x :: t))).length = rn (x :: t) := by rw [List.length_take]; exact Nat.min_eq_left (rn_le _)
  have HLEN := hid hlen
  have hbd : rn (x :: t) ≤ 1000000 := by have h1 := rn_le (x :: t); have h2 := hT.cx.at_; have h3 := hT.cx.sm; omega
  clear hlen
  have tt1 : decide (127 < rn (x :: t)) = false := decide_eq_false hlo
  have tt2 : decide ((127 : Int) < rn (x :: t)) = false := decide_eq_false (by omega)
  rcases q4 with q4 | ⟨q4, q5⟩
  all_goals
    rcases b62 with b62 | ⟨b62, d62⟩
    all_goals
      go_enter Tryz.func91, Tryz.ntmps91
      go_wp2_with (first | (go_at_call 49; (with_reducible refine (tpeek0 hT).mono ?_); rintro e w1 ⟨rfl, hT⟩; have c1 := hT.cx.c1; have f1 := hT.cx.f1; have t0 := hT.t0; have t1 := hT.t1; have t2 := hT.t2; have t3 := hT.t3; have g0 := hT.g0; have g2 := hT.g2; have g3 := hT.g3; first | rw [hd_cons] | rw [hd_nil] | skip) | (go_at_call 49; (with_reducible refine (tpeek1 hT).mono ?_); rintro e w1 ⟨rfl, hT⟩; have c1 := hT.cx.c1; have f1 := hT.cx.f1; have t0 := hT.t0; have t1 := hT.t1; have t2 := hT.t2; have t3 := hT.t3; have g0 := hT.g0; have g2 := hT.g2; have g3 := hT.g3; rw [List.tail_cons]) | (go_at_call 48; (with_reducible refine (tregular _ hT).mono ?_); rintro e w1 ⟨rfl, hT⟩; have c1 := hT.cx.c1; have f1 := hT.cx.f1; have t0 := hT.t0; have t1 := hT.t1; have t2 := hT.t2; have t3 := hT.t3; have g0 := hT.g0; have g2 := hT.g2; have g3 := hT.g3; rw [Hr.out]) | (go_at_call 109; refine (rrun (hT.kind 9).cx.fresh).mono ?_; rintro e w2 ⟨u1, rfl, hC⟩; have hT2 := (hT.kind 9).after hC; obtain ⟨ao1, cap1, rfl, -, -, -⟩ := Rd.own hC.row; rw [HLEN.out] at hT2; have ht3 := hT2.t3; have hf3 := hT2.g3; rw [HLEN.out]))
      go_ret
      have hF := hT2.byt (.slice ao1 (rn (x :: t)) cap1)
      exact ⟨rfl, _, _, hF⟩

theorem rtoken (h : Tx w0 w cp tp b i s 0 a 0 (.slice none 0 0) u out) :
    Calls Tryz.prog 91 #[.pointer (some ⟨cp, 0, none⟩), .pointer (some ⟨tp, 0, none⟩)] w fun e w' => TokR (tk s) w0 cp tp b a e w' := by
  rcases s with _ | ⟨x, t⟩
  · exact rtok_end h
  rw [tk]
  by_cases h91 : c8 x = 91
  · rw [if_pos h91]; exact rtok_91 h91 h
  rw [if_neg h91]
  by_cases h93 : c8 x = 93
  · rw [if_pos h93]; exact rtok_93 h93 h
  rw [if_neg h93]
  by_cases h6060 : c8 x = 60 ∧ hd t = 60
  · rw [if_pos h6060]; exact rtok_6060 h6060.1 h6060.2 h
  rw [if_neg h6060]
  by_cases h6262 : c8 x = 62 ∧ hd t = 62
  · rw [if_pos h6262]; exact rtok_6262 h6262.1 h6262.2 h
  rw [if_neg h6262]
  by_cases h47 : c8 x = 47
  · rw [if_pos h47]; exact rtok_47 h47 h
  rw [if_neg h47]
  by_cases h40 : c8 x = 40
  · rw [if_pos h40]; exact rtok_40 h40 h
  rw [if_neg h40]
  by_cases h60 : c8 x = 60
  · rw [if_pos h60]; exact rtok_60 h60 (fun q => h6060 ⟨h60, q⟩) h
  rw [if_neg h60]
  by_cases hn : c8 x = 43 ∨ c8 x = 45 ∨ c8 x = 46 ∨ 48 ≤ c8 x ∧ c8 x ≤ 57
  · rw [if_pos hn]; exact rtok_num h91 h93 h6060 h6262 h47 h40 h60 hn h
  rw [if_neg hn]
  by_cases hr : rg (c8 x) = true
  · rw [if_pos hr]
    by_cases hl : 127 < rn (x :: t)
    · rw [if_pos hl]; exact rtok_long h91 h93 h6060 h6262 h47 h40 h60 hn hr hl h
    · rw [if_neg hl]; exact rtok_word h91 h93 h6060 h6262 h47 h40 h60 hn hr hl h
  · rw [if_neg hr]; exact rtok_none h91 h93 h6060 h6262 h47 h40 h60 hn (by simpa using hr) h
end
end Go.Proofs.YtlmgklebikcbjaaGreat
