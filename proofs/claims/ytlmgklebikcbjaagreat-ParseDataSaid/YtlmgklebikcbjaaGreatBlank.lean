/-
  Blank: white signs and comments are passed; the program's. Condition: the lexer stands in its bytes.
-/
import Derived.Test.YtlmgklebikcbjaaGreatTake
import Derived.Test.YtlmgklebikcbjaaGreatMatch
import Derived.Test.YtlmgklebikcbjaaGreatModel
namespace Go.Proofs.YtlmgklebikcbjaaGreat
open Go.RowKit
set_option linter.unusedVariables false

def posOf (w : World) (cp : Nat) : Nat := match w.cell? ⟨cp, 1, none⟩ with | some (.int _ n) => n.toNat | _ => 0
theorem posOf_cur {w : World} {cp : Nat} {ao : Option Addr} {cap : Nat} {b : List UInt8} {i : Nat} (h : CurAt w cp ao cap b i) : posOf w cp = i := by
  unfold posOf; rw [h.c1]; simp

set_option maxHeartbeats 1600000 in
theorem blank_any (lp cp : Nat) (ao : Option Addr) (cap : Nat) (b : List UInt8) (i : Nat) (m v : Value) (w : World) (h : LexAt w lp cp ao cap b i m v) :
    Calls Tryz.prog 29 #[.pointer (some ⟨lp, 0, none⟩)] w fun e w' => e = .returned (.tuple #[]) ∧ LexAt w' lp cp ao cap b (bt b i false) m v ∧ Held w.heap.size cp cp w w' := by
  go_enter Tryz.func29, Tryz.ntmps29
  go_wp2_with (first
    | (go_at_call 36; refine (made_any lp cp _ h.p0).mono ?_; rintro e w1 ⟨rfl, rfl⟩))
  go_loopw [2] (fun v2 wr => ∃ j, LexAt wr lp cp ao cap b j m v ∧ bt b j false = bt b i false ∧ Held w.heap.size cp cp w wr) (fun v2 wr => b.length - posOf wr cp)
  case atStart => exact ⟨i, h, rfl, Held.refl _ _ _ _⟩
  case round =>
    obtain ⟨j, hj, hbt, hh⟩ := hrel
    obtain ⟨wo, rfl⟩ : ∃ wo : World, wo = wr := ⟨_, rfl⟩
    have j0 := hj.p0
    have jl := hj.cur.at_
    have jp := posOf_cur hj.cur
    have BT := hid hbt
    by_cases hlt : j < b.length
    · have P := hid (pk_in hlt)
      have x0 := b8_ge b j
      have t0 : decide (0 ≤ b8 b j) = true := decide_eq_true x0
      cases hw : wh (b8 b j) with
      | true =>
        clear hbt
        go_wp2_with (first
          | (go_at_call 39; refine (peek_any cp ao cap b j 0 _ hj.cur (by decide) (by decide)).mono ?_; rintro e w1 ⟨rfl, n1, rfl⟩; rw [Int.add_zero, P.out]; have k0 := (hj.same (below_drewN (Below.refl _ _) n1)).p0)
          | (go_at_call 54; refine (white_any _ _).mono ?_; rintro e w2 ⟨rfl, rfl⟩; rw [hw])
          | (go_at_call 55; refine (next_any cp ao cap b j _ (hj.same (below_drewN (Below.refl _ _) _)).cur).mono ?_; rintro e w3 ⟨rfl, hc3, hh3⟩))
        have L1 := hj.same (below_drewN (Below.refl _ _) n1)
        have L3 := L1.cur' hc3 hh3
        rw [nx_in hlt] at L3
        have p3 := posOf_cur L3.cur
        refine ⟨⟨j + 1, L3, by rw [← bt_white hlt hw]; exact BT.out, hh.then ((Held.drewN wo n1).then hh3)⟩, by rw [p3, jp]; omega⟩
      | false =>
        by_cases hc : b8 b j = 37
        · have P' := hid (pk_in hlt)
          rw [hc] at P
          have BI : bt b j true = bt b i false := by
            rw [bt_in hlt (by omega) (by omega), ← bt_open hlt hc]; exact BT.out
          have hw' : wh 37 = false := by decide
          clear hbt hc hw x0 t0
          go_wp2_with (first
            | (go_at_call 39; refine (peek_any cp ao cap b j 0 _ hj.cur (by decide) (by decide)).mono ?_; rintro e w1 ⟨rfl, n1, rfl⟩; rw [Int.add_zero, P.out]; have k0 := (hj.same (below_drewN (Below.refl _ _) n1)).p0)
            | (go_at_call 54; refine (white_any _ _).mono ?_; rintro e w2 ⟨rfl, rfl⟩; rw [hw']))
          go_loopw [2] (fun v2 wr => ∃ k, LexAt wr lp cp ao cap b k m v ∧ v2 = .int .i64 (pk b k) ∧ bt b k true = bt b i false ∧ (k = j ∨ j < k) ∧ Held w.heap.size cp cp w wr) (fun v2 wr => b.length - posOf wr cp)
          case atStart => exact ⟨j, hj.same (below_drewN (Below.refl _ _) n1), by rw [P.out], BI, .inl rfl, hh.then (Held.drewN wo n1)⟩
          case round =>
            obtain ⟨k, hk, rfl, hbk, hjk, hhk⟩ := hrel
            obtain ⟨wi, rfl⟩ : ∃ wi : World, wi = wr := ⟨_, rfl⟩
            have i0 := hk.p0
            have BK := hid hbk
            have HJ := hid hjk
            have PP := hid P'.out
            have ip := posOf_cur hk.cur
            by_cases hkl : k < b.length
            · rw [pk_in hkl]
              have x0 := b8_ge b k
              have t0 : decide (0 ≤ b8 b k) = true := decide_eq_true x0
              by_cases h10 : b8 b k = 10
              · rw [h10]
                clear hbk hjk t0 x0
                have hne : j < k := by
                  rcases HJ.out with rfl | q
                  · have := pk_in hkl; rw [P.out] at this; omega
                  · exact q
                have E1 : bt b k false = bt b i false := by rw [← bt_eol hkl (.inl h10)]; exact BK.out
                clear h10
                go_wp2
                exact ⟨⟨k, hk, E1, hhk⟩, by rw [ip, jp]; omega⟩
              by_cases h13 : b8 b k = 13
              · rw [h13]
                clear hbk hjk t0 x0
                have hne : j < k := by
                  rcases HJ.out with rfl | q
                  · have := pk_in hkl; rw [P.out] at this; omega
                  · exact q
                have E1 : bt b k false = bt b i false := by rw [← bt_eol hkl (.inr h13)]; exact BK.out
                clear h13 h10
                go_wp2
                exact ⟨⟨k, hk, E1, hhk⟩, by rw [ip, jp]; omega⟩
              have q1 : (b8 b k != 10) = true := by simpa using h10
              have q2 : (b8 b k != 13) = true := by simpa using h13
              have E1 : bt b (k + 1) true = bt b i false := by rw [← bt_in hkl h10 h13]; exact BK.out
              have hjk' : j < k + 1 := by omega
              clear hbk hjk h10 h13
              go_wp2_with (first
                | (go_at_call 55; refine (next_any cp ao cap b k _ hk.cur).mono ?_; rintro e w3 ⟨rfl, hc3, hh3⟩; have L3 := hk.cur' hc3 hh3; have k3 := L3.p0)
                | (go_at_call 39; refine (peek_any cp ao cap b (nx b k) 0 _ hc3 (by decide) (by decide)).mono ?_; rintro e w4 ⟨rfl, n4, rfl⟩; rw [Int.add_zero]))
              rw [nx_in hkl] at L3 ⊢
              have L4 := L3.same (below_drewN (Below.refl _ _) n4)
              have p4 := posOf_cur L4.cur
              refine ⟨⟨k + 1, L4, rfl, E1, .inr hjk', hhk.then (hh3.then (Held.drewN _ n4))⟩, by rw [p4, ip]; omega⟩
            · rw [pk_out (by omega)]
              have hne : j < k := by
                rcases HJ.out with rfl | q
                · omega
                · exact q
              have E1 : bt b k false = bt b i false := by rw [bt_end hkl, ← bt_end hkl true]; exact BK.out
              clear hbk hjk
              go_wp2
              exact ⟨⟨k, hk, E1, hhk⟩, by rw [ip, jp]; omega⟩
        · have E1 : bt b i false = j := by rw [← BT.out]; exact bt_stop hw hc
          have q1 : (b8 b j == 37) = false := by simpa using hc
          have E := hid E1
          clear hbt hc E1
          go_wp2_with (first
            | (go_at_call 39; refine (peek_any cp ao cap b j 0 _ hj.cur (by decide) (by decide)).mono ?_; rintro e w1 ⟨rfl, n1, rfl⟩; rw [Int.add_zero, P.out]; have k0 := (hj.same (below_drewN (Below.refl _ _) n1)).p0)
            | (go_at_call 54; refine (white_any _ _).mono ?_; rintro e w2 ⟨rfl, rfl⟩; rw [hw]))
          ((try simp only [Exit.inBlock, Exit.then]); first | refine bodyPost_ret (results_none rfl _ _ _) rfl ?_ | refine bodyPost_end (results_none rfl _ _ _) rfl ?_)
          exact ⟨rfl, by rw [E.out]; exact hj.same (below_drewN (Below.refl _ _) n1), hh.then (Held.drewN wo n1)⟩
    · have P := hid (pk_out (b := b) (n := (j : Int)) (by omega))
      have E1 : bt b i false = j := by rw [← BT.out]; exact bt_end hlt false
      have E := hid E1
      clear hbt E1
      go_wp2_with (first
        | (go_at_call 39; refine (peek_any cp ao cap b j 0 _ hj.cur (by decide) (by decide)).mono ?_; rintro e w1 ⟨rfl, n1, rfl⟩; rw [Int.add_zero, P.out]; have k0 := (hj.same (below_drewN (Below.refl _ _) n1)).p0))
      ((try simp only [Exit.inBlock, Exit.then]); first | refine bodyPost_ret (results_none rfl _ _ _) rfl ?_ | refine bodyPost_end (results_none rfl _ _ _) rfl ?_)
      exact ⟨rfl, by rw [E.out]; exact hj.same (below_drewN (Below.refl _ _) n1), hh.then (Held.drewN wo n1)⟩
end Go.Proofs.YtlmgklebikcbjaaGreat
