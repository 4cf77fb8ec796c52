/-
  The document's hex; Copy; the walks. Condition: the lexer stands in its bytes.
-/
import Derived.Test.YtlmgklebikcbjaaGreatRtextW
namespace Go.Proofs.YtlmgklebikcbjaaGreat
open Go.RowKit
set_option linter.unusedVariables false

section
variable {w0 w w' : World} {cp : Nat} {b : List UInt8} {i : Nat} {s t : List UInt8} {u : Value} {out : List UInt8} {x : UInt8}

set_option maxHeartbeats 6400000 in
set_option maxRecDepth 100000 in
theorem rhex (h : Cx w0 w cp b i s u out) :
    Calls Tryz.prog 107 #[.pointer (some ⟨cp, 0, none⟩)] w fun e w' => ResC (hx s (-1) []) w0 cp b e w' := by
  generalize hR : hx s (-1) [] = R
  go_enter Tryz.func107, Tryz.ntmps107
  go_wp2_with (fail)
  go_loopw [4, 5] (fun v4 v5 wr => ∃ i s out g, Cx w0 wr cp b i s v4 out ∧ hx s g out = R ∧ v5 = .int .i64 g ∧ -1 ≤ g ∧ g ≤ 15) (fun v4 v5 wr => remOf wr cp)
  case atStart => exact ⟨i, s, [], -1, h.bare, hR, rfl, by omega, by omega⟩
  case round =>
    clear h hR
    obtain ⟨i, s, out, g, hC, hR, rfl, hg0, hg1⟩ := hrel
    obtain ⟨wo, rfl⟩ : ∃ wo : World, wo = wr := ⟨_, rfl⟩
    have c1 := hC.c1
    have f1 := hC.f1
    have hm := hid hC.rem
    have hi : i ≤ 1000000 := by have h1 := hC.at_; have h2 := hC.sm; omega
    obtain ⟨ao1, cap1, rfl, -, -, -⟩ := Rd.own hC.row
    rcases s with _ | ⟨x, s⟩
    · rw [show hx [] g out = .bad 2 from rfl] at hR
      subst hR
      go_wp2_with (first | (go_at_call 49; (with_reducible refine (rpeek0 hC).mono ?_); rintro e w1 ⟨rfl, hC, -⟩; have c1 := hC.c1; have f1 := hC.f1; first | rw [hd_cons] | rw [hd_nil] | skip) | (go_at_call 116; refine (rdigit_any _ _).mono ?_; rintro e w1 ⟨rfl, rfl⟩))
      go_ret2
      exact ⟨rfl, hC.cy.set _⟩
    rw [hx] at hR
    have x0 := c8_ge x
    have x1 := c8_le x
    have d0 := dig_ge (c8 x)
    have d1 := dig_le (c8 x)
    by_cases hw : wh (c8 x) = true
    · rw [if_pos hw] at hR
      have HR := hid hR
      have Hw := hid hw
      clear hR hw
      go_wp2_with (first | (go_at_call 49; (with_reducible refine (rpeek0 hC).mono ?_); rintro e w1 ⟨rfl, hC, -⟩; have c1 := hC.c1; have f1 := hC.f1; first | rw [hd_cons] | rw [hd_nil] | skip) | (go_at_call 116; refine (rdigit_any _ _).mono ?_; rintro e w1 ⟨rfl, rfl⟩) | (go_at_call 77; refine (rwhite_any _ _).mono ?_; rintro e w1 ⟨rfl, rfl⟩; rw [Hw.out]))
      have hC := hC.adv _ rfl
      exact ⟨⟨_, _, _, g, hC, HR.out, rfl, hg0, hg1⟩, by rw [hC.rem, hm.out]; simp⟩
    rw [if_neg hw] at hR
    have Hw : Hid (wh (c8 x) = false) := hid (by simpa using hw)
    clear hw
    by_cases hc : c8 x = 62
    · rw [if_pos hc] at hR
      have b1 : (c8 x == 62) = true := by simpa using hc
      clear hc
      by_cases hg : g < 0
      · rw [if_pos hg] at hR
        subst hR
        have t1 : decide (g < 0) = true := decide_eq_true hg
        go_wp2_with (first | (go_at_call 49; (with_reducible refine (rpeek0 hC).mono ?_); rintro e w1 ⟨rfl, hC, -⟩; have c1 := hC.c1; have f1 := hC.f1; first | rw [hd_cons] | rw [hd_nil] | skip) | (go_at_call 116; refine (rdigit_any _ _).mono ?_; rintro e w1 ⟨rfl, rfl⟩) | (go_at_call 77; refine (rwhite_any _ _).mono ?_; rintro e w1 ⟨rfl, rfl⟩; rw [Hw.out]))
        go_ret2
        exact ⟨_, rfl, _, hC.adv _ rfl⟩
      rw [if_neg hg] at hR
      have t1 : decide (g < 0) = false := decide_eq_false hg
      have g0 : 0 ≤ g := by omega
      by_cases hf : 32767 ≤ out.length
      · rw [if_pos hf] at hR
        subst hR
        have QQ : ∀ t, binOp .geq t (.int .i64 (out.length : Int)) (.int .i64 32767) = pure (.bool true) := fun t => by rw [binOp_geq]; congr 2; exact decide_eq_true (by omega)
        clear hf
        go_wp2_with (first | (go_at_call 49; (with_reducible refine (rpeek0 hC).mono ?_); rintro e w1 ⟨rfl, hC, -⟩; have c1 := hC.c1; have f1 := hC.f1; first | rw [hd_cons] | rw [hd_nil] | skip) | (go_at_call 116; refine (rdigit_any _ _).mono ?_; rintro e w1 ⟨rfl, rfl⟩) | (go_at_call 77; refine (rwhite_any _ _).mono ?_; rintro e w1 ⟨rfl, rfl⟩; rw [Hw.out]))
        go_ret2
        exact ⟨rfl, (hC.adv _ rfl).cy⟩
      · rw [if_neg hf] at hR
        subst hR
        have QQ : ∀ t, binOp .geq t (.int .i64 (out.length : Int)) (.int .i64 32767) = pure (.bool false) := fun t => by rw [binOp_geq]; congr 2; exact decide_eq_false (by omega)
        have hb3 : out.length ≤ 40000 := by omega
        clear hf
        go_wp2_with (first | (go_at_call 49; (with_reducible refine (rpeek0 hC).mono ?_); rintro e w1 ⟨rfl, hC, -⟩; have c1 := hC.c1; have f1 := hC.f1; first | rw [hd_cons] | rw [hd_nil] | skip) | (go_at_call 116; refine (rdigit_any _ _).mono ?_; rintro e w1 ⟨rfl, rfl⟩) | (go_at_call 77; refine (rwhite_any _ _).mono ?_; rintro e w1 ⟨rfl, rfl⟩; rw [Hw.out]) | (at_builtin; refine wpList_append_bytes (t := 22) (e := 5) bytesTy rfl _ _ rfl w0.heap.size _ out [byteOf (16 * g)] rfl ((hC.adv _ rfl).row.alloc _) _ 1 1 rfl rfl (fun q => by cases q) (Rd.byteM _ _ _ _ (by simp) (by omega) (by omega)) (by simp; omega) (by have := hC.size; simp; omega) ?_; intro v1 w2 q1 q2 q3; have hC := (hC.adv _ rfl).app q1 q2; clear q1 q2 q3))
        go_ret2
        exact ⟨_, rfl, _, hC⟩
    rw [if_neg hc] at hR
    have b1 : (c8 x == 62) = false := by simpa using hc
    clear hc
    by_cases hd0 : dig (c8 x) < 0
    · rw [if_pos hd0] at hR
      subst hR
      have t1 : decide (dig (c8 x) < 0) = true := decide_eq_true hd0
      go_wp2_with (first | (go_at_call 49; (with_reducible refine (rpeek0 hC).mono ?_); rintro e w1 ⟨rfl, hC, -⟩; have c1 := hC.c1; have f1 := hC.f1; first | rw [hd_cons] | rw [hd_nil] | skip) | (go_at_call 116; refine (rdigit_any _ _).mono ?_; rintro e w1 ⟨rfl, rfl⟩) | (go_at_call 77; refine (rwhite_any _ _).mono ?_; rintro e w1 ⟨rfl, rfl⟩; rw [Hw.out]))
      go_ret2
      exact ⟨rfl, (hC.adv _ rfl).cy⟩
    rw [if_neg hd0] at hR
    have t1 : decide (dig (c8 x) < 0) = false := decide_eq_false hd0
    by_cases hg : g < 0
    · rw [if_pos hg] at hR
      have t2 : decide (g < 0) = true := decide_eq_true hg
      have HR := hid hR
      clear hR
      go_wp2_with (first | (go_at_call 49; (with_reducible refine (rpeek0 hC).mono ?_); rintro e w1 ⟨rfl, hC, -⟩; have c1 := hC.c1; have f1 := hC.f1; first | rw [hd_cons] | rw [hd_nil] | skip) | (go_at_call 116; refine (rdigit_any _ _).mono ?_; rintro e w1 ⟨rfl, rfl⟩) | (go_at_call 77; refine (rwhite_any _ _).mono ?_; rintro e w1 ⟨rfl, rfl⟩; rw [Hw.out]))
      have hC := hC.adv _ rfl
      exact ⟨⟨_, _, _, _, hC, HR.out, rfl, by omega, by omega⟩, by rw [hC.rem, hm.out]; simp⟩
    rw [if_neg hg] at hR
    have t2 : decide (g < 0) = false := decide_eq_false hg
    have g0 : 0 ≤ g := by omega
    by_cases hf : 32767 ≤ out.length
    · rw [if_pos hf] at hR
      subst hR
      have QQ : ∀ t, binOp .geq t (.int .i64 (out.length : Int)) (.int .i64 32767) = pure (.bool true) := fun t => by rw [binOp_geq]; congr 2; exact decide_eq_true (by omega)
      clear hf
      go_wp2_with (first | (go_at_call 49; (with_reducible refine (rpeek0 hC).mono ?_); rintro e w1 ⟨rfl, hC, -⟩; have c1 := hC.c1; have f1 := hC.f1; first | rw [hd_cons] | rw [hd_nil] | skip) | (go_at_call 116; refine (rdigit_any _ _).mono ?_; rintro e w1 ⟨rfl, rfl⟩) | (go_at_call 77; refine (rwhite_any _ _).mono ?_; rintro e w1 ⟨rfl, rfl⟩; rw [Hw.out]))
      go_ret2
      exact ⟨rfl, (hC.adv _ rfl).cy⟩
    · rw [if_neg hf] at hR
      have HR := hid hR
      have QQ : ∀ t, binOp .geq t (.int .i64 (out.length : Int)) (.int .i64 32767) = pure (.bool false) := fun t => by rw [binOp_geq]; congr 2; exact decide_eq_false (by omega)
      have hb3 : out.length ≤ 40000 := by omega
      clear hR hf
      go_wp2_with (first | (go_at_call 49; (with_reducible refine (rpeek0 hC).mono ?_); rintro e w1 ⟨rfl, hC, -⟩; have c1 := hC.c1; have f1 := hC.f1; first | rw [hd_cons] | rw [hd_nil] | skip) | (go_at_call 116; refine (rdigit_any _ _).mono ?_; rintro e w1 ⟨rfl, rfl⟩) | (go_at_call 77; refine (rwhite_any _ _).mono ?_; rintro e w1 ⟨rfl, rfl⟩; rw [Hw.out]) | (at_builtin; refine wpList_append_bytes (t := 22) (e := 5) bytesTy rfl _ _ rfl w0.heap.size _ out [byteOf (16 * g + dig (c8 x))] rfl ((hC.adv _ rfl).row.alloc _) _ 1 1 rfl rfl (fun q => by cases q) (Rd.byteM _ _ _ _ (by simp) (by omega) (by omega)) (by simp; omega) (by have := hC.size; simp; omega) ?_; intro v1 w2 q1 q2 q3; have hC := (hC.adv _ rfl).app q1 q2; clear q1 q2 q3))
      exact ⟨⟨_, _, _, _, hC, HR.out, rfl, by omega, by omega⟩, by rw [hC.rem, hm.out]; simp⟩

theorem u8_b8 (l : List UInt8) (k : Nat) : UInt8.ofNat (b8 l k).toNat = l.getD k 0 := by unfold b8; simp
theorem take_b8 (l : List UInt8) (k : Nat) (h : k < l.length) : l.take k ++ [UInt8.ofNat (b8 l k).toNat] = l.take (k + 1) := by
  rw [u8_b8, List.take_succ_eq_append_getElem h]; simp [List.getD, h]

set_option maxHeartbeats 800000 in
theorem copy_any (aa : Option Addr) (ca : Nat) (la : List UInt8) (w : World) (ha : Rd w aa la) (hla : la.length ≤ 140737488355328) :
    Calls Tryz.prog 52 #[.slice aa la.length ca] w fun e w' => ∃ v, e = .returned v ∧ OwnB w' w.heap.size 5 v la ∧ Below w.heap.size w w' := by
  go_enter Tryz.func52, Tryz.ntmps52
  go_wp2
  go_loopw [3, 4] (fun v i wr => ∃ k : Nat, k ≤ la.length ∧ i = .int .i64 k ∧ OwnB wr w.heap.size 5 v (la.take k) ∧ Below w.heap.size w wr) (fun _ i _ => la.length - (intOf i).toNat)
  case atStart => exact ⟨0, Nat.zero_le _, rfl, OwnB.nil _ _ _, Below.refl _ _⟩
  case round =>
    obtain ⟨k, hk, rfl, hown, hbel⟩ := hrel
    by_cases hlt : k < la.length
    · obtain ⟨b1, o1, rfl, hs1, hc1⟩ := (ha.up hbel).some (by omega)
      have hc1 := hc1 k hlt
      have g0 := b8_ge la k
      have g1 := b8_le la k
      have ht := List.length_take_le k la
      go_wp2_with (at_builtin; refine wpList_append_bytes bytesTy rfl _ _ rfl w.heap.size _ (la.take k) _ rfl (hown.alloc _) _ _ _ rfl ?c1 ?c2 (Rd.one _ _ _ g0 g1) ?c3 ?c4 ?_)
      case c1 => rfl
      case c2 => intro h; cases h
      case c3 => simp only [List.length_cons, List.length_nil]; omega
      case c4 => have := hbel.size; simp; omega
      intro v' w' hown' hg _
      rw [take_b8 la k hlt] at hown'
      have hb2 : Below w.heap.size w w' := below_append (hbel.alloc hbel.size _) (hown.alloc _) hg (Nat.le_refl _) (by have := hbel.size; simp; omega)
      clear hg hbel hown ha hc1
      go_wp2
      go_roundw
      case rel => exact ⟨k + 1, by omega, by go_num, hown', hb2⟩
      case measure => simp [intOf]; omega
    · go_wp2
      go_ret
      exact ⟨_, rfl, by rw [List.take_of_length_le (by omega)] at hown; exact hown, hbel⟩
theorem copy_sl (v : Value) (l : List UInt8) (w : World) (h : Sl w v l) (hl : l.length ≤ 140737488355328) :
    Calls Tryz.prog 52 #[v] w fun e w' => ∃ v, e = .returned v ∧ OwnB w' w.heap.size 5 v l ∧ Below w.heap.size w w' := by
  obtain ⟨ao, cap, rfl, h1, h2, h3, h4⟩ := h
  exact copy_any ao cap l w h4 hl
end
end Go.Proofs.YtlmgklebikcbjaaGreat
