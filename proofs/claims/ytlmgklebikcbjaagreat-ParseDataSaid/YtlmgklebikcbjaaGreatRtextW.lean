/-
  The document's strings: text, hex; the walks. Condition: the lexer stands in its bytes.
-/
import Derived.Test.YtlmgklebikcbjaaGreatRtext
import Derived.Test.YtlmgklebikcbjaaGreatHex
import Derived.Test.YtlmgklebikcbjaaGreatTextW
namespace Go.Proofs.YtlmgklebikcbjaaGreat
open Go.RowKit
set_option linter.unusedVariables false

section
variable {w0 w w' : World} {cp : Nat} {b : List UInt8} {i : Nat} {s t : List UInt8} {u : Value} {out : List UInt8} {x : UInt8}

theorem es_le (c : Int) (s : List UInt8) (h0 : 0 ≤ c) (h : c ≤ 255) : (es c s).1 ≤ 255 := by
  unfold es
  have := Int.emod_lt_of_pos (oc 2 (c - 48) s).1 (show (0 : Int) < 256 by decide)
  repeat (split; · first | (simp; done) | (simp only []; omega))
  exact h

set_option maxHeartbeats 6400000 in
set_option maxRecDepth 100000 in
theorem rtext (h : Cx w0 w cp b i s u out) :
    Calls Tryz.prog 106 #[.pointer (some ⟨cp, 0, none⟩)] w fun e w' => ResC (TX s 1 []) w0 cp b e w' := by
  generalize hR : TX s 1 [] = R
  have hs0 := h.at_
  have hs1 := h.sm
  go_enter Tryz.func106, Tryz.ntmps106
  go_wp2_with (fail)
  go_loopw [4, 5] (fun v4 v5 wr => ∃ i s out o, Cx w0 wr cp b i s v4 out ∧ TX s o out = R ∧ v5 = .int .i64 (o : Nat) ∧ 1 ≤ o ∧ o + s.length ≤ 1000001) (fun v4 v5 wr => remOf wr cp)
  case atStart => exact ⟨i, s, [], 1, h.bare, hR, rfl, Nat.le_refl _, by omega⟩
  case round =>
    clear h hR hs0 hs1
    obtain ⟨i, s, out, o, hC, hR, rfl, ho, hos⟩ := hrel
    obtain ⟨wo, rfl⟩ : ∃ wo : World, wo = wr := ⟨_, rfl⟩
    have c1 := hC.c1
    have f1 := hC.f1
    have hm := hid hC.rem
    have hi : i ≤ 1000000 := by have h1 := hC.at_; have h2 := hC.sm; omega
    obtain ⟨ao1, cap1, rfl, -, -, -⟩ := Rd.own hC.row
    have bo1 : (((o : Nat) : Int) == 0) = false := by simp; omega
    have bo2 : (o == 0) = false := by simp; omega
    rcases s with _ | ⟨x, s⟩
    · rw [TX_nil] at hR
      subst hR
      go_wp2_with (first | (go_at_call 49; (with_reducible refine (rpeek0 hC).mono ?_); rintro e w1 ⟨rfl, hC, -⟩; have c1 := hC.c1; have f1 := hC.f1; first | rw [hd_cons] | rw [hd_nil] | skip))
      go_ret2
      exact ⟨rfl, hC.cy⟩
    rw [TX_cons] at hR
    rw [List.length_cons] at hos
    have x0 := c8_ge x
    have x1 := c8_le x
    by_cases q92 : c8 x = 92
    · rw [if_pos q92] at hR
      have b92 : (c8 x == 92) = true := by simpa using q92
      clear q92
      rcases s with _ | ⟨y, s⟩
      · rw [if_pos (by decide)] at hR
        subst hR
        go_wp2_with (first | (go_at_call 49; (with_reducible refine (rpeek0 hC).mono ?_); rintro e w1 ⟨rfl, hC, -⟩; have c1 := hC.c1; have f1 := hC.f1; first | rw [hd_cons] | rw [hd_nil] | skip) | (go_at_call 49; (with_reducible refine (rpeek0 (hC.adv _ rfl)).mono ?_); rintro e w1 ⟨rfl, hC, -⟩; have c1 := hC.c1; have f1 := hC.f1; first | rw [hd_cons] | rw [hd_nil] | skip))
        go_ret2
        exact ⟨rfl, hC.cy⟩
      have y0 := c8_ge y
      have y1 := c8_le y
      rw [hd_cons, List.tail_cons, if_neg (by omega)] at hR
      have he := es_len (c8 y) s
      have hz := es_le (c8 y) s y0 y1
      by_cases hn : (es (c8 y) s).1 < 0
      · rw [if_pos hn] at hR
        have HR := hid hR
        have t1 : decide (0 ≤ (es (c8 y) s).1) = false := decide_eq_false (by omega)
        clear hR hn
        go_wp2_with (first | (go_at_call 49; (with_reducible refine (rpeek0 hC).mono ?_); rintro e w1 ⟨rfl, hC, -⟩; have c1 := hC.c1; have f1 := hC.f1; first | rw [hd_cons] | rw [hd_nil] | skip) | (go_at_call 49; (with_reducible refine (rpeek0 (hC.adv _ rfl)).mono ?_); rintro e w1 ⟨rfl, hC, -⟩; have c1 := hC.c1; have f1 := hC.f1; first | rw [hd_cons] | rw [hd_nil] | skip) | (go_at_call 117; (with_reducible refine (rescape hC).mono ?_); rintro e w1 ⟨rfl, i, hC⟩; have c1 := hC.c1; have f1 := hC.f1))
        exact ⟨⟨_, _, _, o, hC, HR.out, rfl, ho, by simp at hos; omega⟩, by rw [hC.rem, hm.out]; simp; omega⟩
      rw [if_neg hn] at hR
      have t1 : decide (0 ≤ (es (c8 y) s).1) = true := decide_eq_true (by omega)
      by_cases hf : 32767 ≤ out.length
      · rw [if_pos hf] at hR
        subst hR
        have QQ : ∀ t, binOp .geq t (.int .i64 (out.length : Int)) (.int .i64 32767) = pure (.bool true) := fun t => by rw [binOp_geq]; congr 2; exact decide_eq_true (by omega)
        clear hf
        go_wp2_with (first | (go_at_call 49; (with_reducible refine (rpeek0 hC).mono ?_); rintro e w1 ⟨rfl, hC, -⟩; have c1 := hC.c1; have f1 := hC.f1; first | rw [hd_cons] | rw [hd_nil] | skip) | (go_at_call 49; (with_reducible refine (rpeek0 (hC.adv _ rfl)).mono ?_); rintro e w1 ⟨rfl, hC, -⟩; have c1 := hC.c1; have f1 := hC.f1; first | rw [hd_cons] | rw [hd_nil] | skip) | (go_at_call 117; (with_reducible refine (rescape hC).mono ?_); rintro e w1 ⟨rfl, i, hC⟩; have c1 := hC.c1; have f1 := hC.f1))
        go_ret2
        exact ⟨rfl, hC.cy⟩
      · rw [if_neg hf] at hR
        have HR := hid hR
        clear hR
        have QQ : ∀ t, binOp .geq t (.int .i64 (out.length : Int)) (.int .i64 32767) = pure (.bool false) := fun t => by rw [binOp_geq]; congr 2; exact decide_eq_false (by omega)
        have hb3 : out.length ≤ 40000 := by omega
        clear hf
        go_wp2_with (first | (go_at_call 49; (with_reducible refine (rpeek0 hC).mono ?_); rintro e w1 ⟨rfl, hC, -⟩; have c1 := hC.c1; have f1 := hC.f1; first | rw [hd_cons] | rw [hd_nil] | skip) | (go_at_call 49; (with_reducible refine (rpeek0 (hC.adv _ rfl)).mono ?_); rintro e w1 ⟨rfl, hC, -⟩; have c1 := hC.c1; have f1 := hC.f1; first | rw [hd_cons] | rw [hd_nil] | skip) | (go_at_call 117; (with_reducible refine (rescape hC).mono ?_); rintro e w1 ⟨rfl, i, hC⟩; have c1 := hC.c1; have f1 := hC.f1) | (at_builtin; refine wpList_append_bytes (t := 22) (e := 5) bytesTy rfl _ _ rfl w0.heap.size _ out [byteOf ((es (c8 y) s).1)] rfl ((hC).row.alloc _) _ 1 1 rfl rfl (fun q => by cases q) (Rd.byteM _ _ _ _ (by simp) (by omega) (by omega)) (by simp; omega) (by have := hC.size; simp; omega) ?_; intro v1 w2 q1 q2 q3; have hC := (hC).app q1 q2; clear q1 q2 q3))
        exact ⟨⟨_, _, _, o, hC, HR.out, rfl, ho, by simp at hos; omega⟩, by rw [hC.rem, hm.out]; simp; omega⟩
    rw [if_neg q92] at hR
    have b92 : (c8 x == 92) = false := by simpa using q92
    clear q92
    by_cases q41 : c8 x = 41
    · have b41 : (c8 x == 41) = true := by simpa using q41
      have b40 : (c8 x == 40) = false := by simp [q41]
      have H10 : Hid (¬ hd (x :: s) = 10) := hid (by rw [hd_cons]; omega)
      have H13 : Hid (¬ hd (x :: s) = 13) := hid (by rw [hd_cons]; omega)
      by_cases q1 : o = 1
      · rw [if_pos ⟨q41, q1⟩] at hR
        subst hR
        subst q1
        clear q41
        go_wp2_with (first | (go_at_call 49; (with_reducible refine (rpeek0 hC).mono ?_); rintro e w1 ⟨rfl, hC, -⟩; have c1 := hC.c1; have f1 := hC.f1; first | rw [hd_cons] | rw [hd_nil] | skip) | (go_at_call 53; (with_reducible refine (reol_no H10.out H13.out hC).mono ?_); rintro e w1 ⟨rfl, hC⟩; have c1 := hC.c1; have f1 := hC.f1))
        go_ret2
        exact ⟨_, rfl, _, hC.adv _ rfl⟩
      rw [if_neg (fun q => q1 q.2)] at hR
      have bo : (((o : Nat) : Int) - 1 == 0) = false := by simp; omega
      have N : ((o - 1 : Nat) : Int) = (o : Int) - 1 := by omega
      have N := hid N
      by_cases hf : 32767 ≤ out.length
      · rw [if_pos hf] at hR
        subst hR
        clear q41
        have QQ : ∀ t, binOp .geq t (.int .i64 (out.length : Int)) (.int .i64 32767) = pure (.bool true) := fun t => by rw [binOp_geq]; congr 2; exact decide_eq_true (by omega)
        clear hf
        go_wp2_with (first | (go_at_call 49; (with_reducible refine (rpeek0 hC).mono ?_); rintro e w1 ⟨rfl, hC, -⟩; have c1 := hC.c1; have f1 := hC.f1; first | rw [hd_cons] | rw [hd_nil] | skip) | (go_at_call 53; (with_reducible refine (reol_no H10.out H13.out hC).mono ?_); rintro e w1 ⟨rfl, hC⟩; have c1 := hC.c1; have f1 := hC.f1))
        go_ret2
        exact ⟨rfl, (hC.adv _ rfl).cy⟩
      · rw [if_neg hf, if_neg (by omega), if_neg (by omega), if_neg (by omega), if_pos q41] at hR
        have HR := hid hR
        clear hR q41
        have QQ : ∀ t, binOp .geq t (.int .i64 (out.length : Int)) (.int .i64 32767) = pure (.bool false) := fun t => by rw [binOp_geq]; congr 2; exact decide_eq_false (by omega)
        have hb3 : out.length ≤ 40000 := by omega
        clear hf
        go_wp2_with (first | (go_at_call 49; (with_reducible refine (rpeek0 hC).mono ?_); rintro e w1 ⟨rfl, hC, -⟩; have c1 := hC.c1; have f1 := hC.f1; first | rw [hd_cons] | rw [hd_nil] | skip) | (go_at_call 53; (with_reducible refine (reol_no H10.out H13.out hC).mono ?_); rintro e w1 ⟨rfl, hC⟩; have c1 := hC.c1; have f1 := hC.f1) | (at_builtin; refine wpList_append_bytes (t := 22) (e := 5) bytesTy rfl _ _ rfl w0.heap.size _ out [byteOf (c8 x)] rfl ((hC.adv _ rfl).row.alloc _) _ 1 1 rfl rfl (fun q => by cases q) (Rd.byteM _ _ _ _ (by simp) (by omega) (by omega)) (by simp; omega) (by have := hC.size; simp; omega) ?_; intro v1 w2 q1 q2 q3; have hC := (hC.adv _ rfl).app q1 q2; clear q1 q2 q3))
        rw [byteOf_c8] at hC
        exact ⟨⟨_, _, _, o - 1, hC, HR.out, by rw [N.out], by omega, by omega⟩, by rw [hC.rem, hm.out]; simp⟩
    rw [if_neg (fun q => q41 q.1)] at hR
    have b41 : (c8 x == 41) = false := by simpa using q41
    have hk := sk_len s
    have hfull : 32767 ≤ out.length ∨ ¬ 32767 ≤ out.length := Decidable.em _
    by_cases q10 : c8 x = 10
    · rcases hfull with hf | hf
      · rw [if_pos hf] at hR
        subst hR
        have QQ : ∀ t, binOp .geq t (.int .i64 (out.length : Int)) (.int .i64 32767) = pure (.bool true) := fun t => by rw [binOp_geq]; congr 2; exact decide_eq_true (by omega)
        clear hf
        go_wp2_with (first | (go_at_call 49; (with_reducible refine (rpeek0 hC).mono ?_); rintro e w1 ⟨rfl, hC, -⟩; have c1 := hC.c1; have f1 := hC.f1; first | rw [hd_cons] | rw [hd_nil] | skip) | (go_at_call 53; (with_reducible refine (reol10 q10 hC).mono ?_); rintro e w1 ⟨rfl, hC⟩; have c1 := hC.c1; have f1 := hC.f1))
        go_ret2
        exact ⟨rfl, hC.cy⟩
      · rw [if_neg hf, if_pos q10] at hR
        have HR := hid hR
        have Q := hid q10
        clear hR q10 q41
        have QQ : ∀ t, binOp .geq t (.int .i64 (out.length : Int)) (.int .i64 32767) = pure (.bool false) := fun t => by rw [binOp_geq]; congr 2; exact decide_eq_false (by omega)
        have hb3 : out.length ≤ 40000 := by omega
        clear hf
        go_wp2_with (first | (go_at_call 49; (with_reducible refine (rpeek0 hC).mono ?_); rintro e w1 ⟨rfl, hC, -⟩; have c1 := hC.c1; have f1 := hC.f1; first | rw [hd_cons] | rw [hd_nil] | skip) | (go_at_call 53; (with_reducible refine (reol10 Q.out hC).mono ?_); rintro e w1 ⟨rfl, hC⟩; have c1 := hC.c1; have f1 := hC.f1) | (at_builtin; refine wpList_append_bytes (t := 22) (e := 5) bytesTy rfl _ _ rfl w0.heap.size _ out [byteOf (10)] rfl ((hC).row.alloc _) _ 1 1 rfl rfl (fun q => by cases q) (Rd.byteM _ _ _ _ (by simp) (by omega) (by omega)) (by simp; omega) (by have := hC.size; simp; omega) ?_; intro v1 w2 q1 q2 q3; have hC := (hC).app q1 q2; clear q1 q2 q3))
        rw [byteOf10] at hC
        exact ⟨⟨_, _, _, o, hC, HR.out, rfl, ho, by omega⟩, by rw [hC.rem, hm.out]; simp⟩
    by_cases q13 : c8 x = 13
    · rcases hfull with hf | hf
      · rw [if_pos hf] at hR
        subst hR
        have QQ : ∀ t, binOp .geq t (.int .i64 (out.length : Int)) (.int .i64 32767) = pure (.bool true) := fun t => by rw [binOp_geq]; congr 2; exact decide_eq_true (by omega)
        clear hf
        go_wp2_with (first | (go_at_call 49; (with_reducible refine (rpeek0 hC).mono ?_); rintro e w1 ⟨rfl, hC, -⟩; have c1 := hC.c1; have f1 := hC.f1; first | rw [hd_cons] | rw [hd_nil] | skip) | (go_at_call 53; (with_reducible refine (reol13 q13 hC).mono ?_); rintro e w1 ⟨rfl, i, hC⟩; have c1 := hC.c1; have f1 := hC.f1))
        go_ret2
        exact ⟨rfl, hC.cy⟩
      · rw [if_neg hf, if_neg q10, if_pos q13] at hR
        have HR := hid hR
        have Q := hid q13
        clear hR q10 q41 q13
        have QQ : ∀ t, binOp .geq t (.int .i64 (out.length : Int)) (.int .i64 32767) = pure (.bool false) := fun t => by rw [binOp_geq]; congr 2; exact decide_eq_false (by omega)
        have hb3 : out.length ≤ 40000 := by omega
        clear hf
        go_wp2_with (first | (go_at_call 49; (with_reducible refine (rpeek0 hC).mono ?_); rintro e w1 ⟨rfl, hC, -⟩; have c1 := hC.c1; have f1 := hC.f1; first | rw [hd_cons] | rw [hd_nil] | skip) | (go_at_call 53; (with_reducible refine (reol13 Q.out hC).mono ?_); rintro e w1 ⟨rfl, i, hC⟩; have c1 := hC.c1; have f1 := hC.f1) | (at_builtin; refine wpList_append_bytes (t := 22) (e := 5) bytesTy rfl _ _ rfl w0.heap.size _ out [byteOf (10)] rfl ((hC).row.alloc _) _ 1 1 rfl rfl (fun q => by cases q) (Rd.byteM _ _ _ _ (by simp) (by omega) (by omega)) (by simp; omega) (by have := hC.size; simp; omega) ?_; intro v1 w2 q1 q2 q3; have hC := (hC).app q1 q2; clear q1 q2 q3))
        rw [byteOf10] at hC
        exact ⟨⟨_, _, _, o, hC, HR.out, rfl, ho, by omega⟩, by rw [hC.rem, hm.out]; simp; omega⟩
    have H10 : Hid (¬ hd (x :: s) = 10) := hid (by rw [hd_cons]; exact q10)
    have H13 : Hid (¬ hd (x :: s) = 13) := hid (by rw [hd_cons]; exact q13)
    rcases hfull with hf | hf
    · rw [if_pos hf] at hR
      subst hR
      by_cases q40 : c8 x = 40
      · have b40 : (c8 x == 40) = true := by simpa using q40
        have bo3 : (((o : Nat) : Int) + 1 == 0) = false := by simp; omega
        clear q40 q41 q10 q13
        have QQ : ∀ t, binOp .geq t (.int .i64 (out.length : Int)) (.int .i64 32767) = pure (.bool true) := fun t => by rw [binOp_geq]; congr 2; exact decide_eq_true (by omega)
        clear hf
        go_wp2_with (first | (go_at_call 49; (with_reducible refine (rpeek0 hC).mono ?_); rintro e w1 ⟨rfl, hC, -⟩; have c1 := hC.c1; have f1 := hC.f1; first | rw [hd_cons] | rw [hd_nil] | skip) | (go_at_call 53; (with_reducible refine (reol_no H10.out H13.out hC).mono ?_); rintro e w1 ⟨rfl, hC⟩; have c1 := hC.c1; have f1 := hC.f1))
        go_ret2
        exact ⟨rfl, (hC.adv _ rfl).cy⟩
      · have b40 : (c8 x == 40) = false := by simpa using q40
        clear q40 q41 q10 q13
        have QQ : ∀ t, binOp .geq t (.int .i64 (out.length : Int)) (.int .i64 32767) = pure (.bool true) := fun t => by rw [binOp_geq]; congr 2; exact decide_eq_true (by omega)
        clear hf
        go_wp2_with (first | (go_at_call 49; (with_reducible refine (rpeek0 hC).mono ?_); rintro e w1 ⟨rfl, hC, -⟩; have c1 := hC.c1; have f1 := hC.f1; first | rw [hd_cons] | rw [hd_nil] | skip) | (go_at_call 53; (with_reducible refine (reol_no H10.out H13.out hC).mono ?_); rintro e w1 ⟨rfl, hC⟩; have c1 := hC.c1; have f1 := hC.f1))
        go_ret2
        exact ⟨rfl, (hC.adv _ rfl).cy⟩
    · have t2 : decide (32767 ≤ out.length) = false := decide_eq_false hf
      rw [if_neg hf, if_neg q10, if_neg q13] at hR
      by_cases q40 : c8 x = 40
      · rw [if_pos q40] at hR
        have HR := hid hR
        have b40 : (c8 x == 40) = true := by simpa using q40
        have bo3 : (((o : Nat) : Int) + 1 == 0) = false := by simp; omega
        clear q40 q41 q10 q13 hR
        have QQ : ∀ t, binOp .geq t (.int .i64 (out.length : Int)) (.int .i64 32767) = pure (.bool false) := fun t => by rw [binOp_geq]; congr 2; exact decide_eq_false (by omega)
        have hb3 : out.length ≤ 40000 := by omega
        clear hf
        go_wp2_with (first | (go_at_call 49; (with_reducible refine (rpeek0 hC).mono ?_); rintro e w1 ⟨rfl, hC, -⟩; have c1 := hC.c1; have f1 := hC.f1; first | rw [hd_cons] | rw [hd_nil] | skip) | (go_at_call 53; (with_reducible refine (reol_no H10.out H13.out hC).mono ?_); rintro e w1 ⟨rfl, hC⟩; have c1 := hC.c1; have f1 := hC.f1) | (at_builtin; refine wpList_append_bytes (t := 22) (e := 5) bytesTy rfl _ _ rfl w0.heap.size _ out [byteOf (c8 x)] rfl ((hC.adv _ rfl).row.alloc _) _ 1 1 rfl rfl (fun q => by cases q) (Rd.byteM _ _ _ _ (by simp) (by omega) (by omega)) (by simp; omega) (by have := hC.size; simp; omega) ?_; intro v1 w2 q1 q2 q3; have hC := (hC.adv _ rfl).app q1 q2; clear q1 q2 q3))
        rw [byteOf_c8] at hC
        exact ⟨⟨_, _, _, o + 1, hC, HR.out, rfl, by omega, by omega⟩, by rw [hC.rem, hm.out]; simp⟩
      · rw [if_neg q40, if_neg q41] at hR
        have HR := hid hR
        have b40 : (c8 x == 40) = false := by simpa using q40
        clear q40 q41 q10 q13 hR
        have QQ : ∀ t, binOp .geq t (.int .i64 (out.length : Int)) (.int .i64 32767) = pure (.bool false) := fun t => by rw [binOp_geq]; congr 2; exact decide_eq_false (by omega)
        have hb3 : out.length ≤ 40000 := by omega
        clear hf
        go_wp2_with (first | (go_at_call 49; (with_reducible refine (rpeek0 hC).mono ?_); rintro e w1 ⟨rfl, hC, -⟩; have c1 := hC.c1; have f1 := hC.f1; first | rw [hd_cons] | rw [hd_nil] | skip) | (go_at_call 53; (with_reducible refine (reol_no H10.out H13.out hC).mono ?_); rintro e w1 ⟨rfl, hC⟩; have c1 := hC.c1; have f1 := hC.f1) | (at_builtin; refine wpList_append_bytes (t := 22) (e := 5) bytesTy rfl _ _ rfl w0.heap.size _ out [byteOf (c8 x)] rfl ((hC.adv _ rfl).row.alloc _) _ 1 1 rfl rfl (fun q => by cases q) (Rd.byteM _ _ _ _ (by simp) (by omega) (by omega)) (by simp; omega) (by have := hC.size; simp; omega) ?_; intro v1 w2 q1 q2 q3; have hC := (hC.adv _ rfl).app q1 q2; clear q1 q2 q3))
        rw [byteOf_c8] at hC
        exact ⟨⟨_, _, _, o, hC, HR.out, rfl, by omega, by omega⟩, by rw [hC.rem, hm.out]; simp⟩
end
end Go.Proofs.YtlmgklebikcbjaaGreat
