/-
  The program's reader of operators: its makers, what it stands on. Condition: the parser stands in its bytes.
-/
import Derived.Test.YtjkoiknjffldjaaGreatDoorKRow
import Derived.Test.YtjkoiknjffldjaaGreatDoorKCtl
import Derived.Test.YtjkoiknjffldjaaGreatDoorHh
import Derived.Test.YtjkoiknjffldjaaGreatDoorHc
/-
  The program's reader of operators: its makers, what it stands on. Condition: the parser stands in its bytes.
-/
namespace Go.Proofs.YtjkoiknjffldjaaGreatDoor
open Go.RowKit
set_option linter.unusedVariables false

/-- block rp is a reader over the parser pp -/
structure Rs (w0 w : World) (rp pp lp cp : Nat) (b : List UInt8) (i : Nat) (s : List UInt8) : Prop where
  ps : Ps true w0 w pp lp cp b i s
  c0 : w0.cell? ⟨rp, 0, none⟩ = some (.pointer (some ⟨pp, 0, none⟩))
  c1 : w0.cell? ⟨pp, 1, none⟩ = some (.int .i64 ((28 : Nat) : Int))
  nl : rp ≠ lp
  nc : rp ≠ cp
section
variable {w0 w w' : World} {rp pp lp cp : Nat} {b s t : List UInt8} {i j : Nat}
theorem Rs.r0 (h : Rs w0 w rp pp lp cp b i s) : w.cell? ⟨rp, 0, none⟩ = some (.pointer (some ⟨pp, 0, none⟩)) := h.ps.held.cell' h.c0 h.nl h.nc
theorem Rs.d1 (h : Rs w0 w rp pp lp cp b i s) : w.cell? ⟨pp, 1, none⟩ = some (.int .i64 ((28 : Nat) : Int)) := h.ps.held.cell' h.c1 h.ps.nl h.ps.nc
theorem Rs.fresh (h : Rs w0 w rp pp lp cp b i s) : Rs w w rp pp lp cp b i s := ⟨h.ps.fresh, h.r0, h.d1, h.nl, h.nc⟩
theorem Rs.join (h : Rs w0 w rp pp lp cp b i s) (k : Ps true w w' pp lp cp b j t) : Rs w0 w' rp pp lp cp b j t := ⟨h.ps.join k, h.c0, h.c1, h.nl, h.nc⟩
theorem Rs.joinR (h : Rs w0 w rp pp lp cp b i s) (k : Rs w w' rp pp lp cp b j t) : Rs w0 w' rp pp lp cp b j t := h.join k.ps
theorem Rs.step (h : Rs w0 w rp pp lp cp b i s) {m v u : Value} {out : List UInt8} (k : Lx w w' lp cp b j t m v u out) : Rs w0 w' rp pp lp cp b j t := ⟨h.ps.step k, h.c0, h.c1, h.nl, h.nc⟩
theorem Rs.below (h : Rs w0 w rp pp lp cp b i s) (hb : Below w.heap.size w w') : Rs w0 w' rp pp lp cp b i s := ⟨h.ps.below hb, h.c0, h.c1, h.nl, h.nc⟩
theorem Rs.off (h : Rs w0 w rp pp lp cp b i s) {g : Nat} (hb : Held w.heap.size g g w w') (hg : w0.heap.size ≤ g) : Rs w0 w' rp pp lp cp b i s := ⟨h.ps.off hb hg, h.c0, h.c1, h.nl, h.nc⟩
theorem Rs.grow (h : Rs w0 w rp pp lp cp b i s) {row : Option Nat} (hg : w.grownBy w' row) (hr : ∀ k, row = Option.some k → w0.heap.size ≤ k) : Rs w0 w' rp pp lp cp b i s := ⟨h.ps.grow hg hr, h.c0, h.c1, h.nl, h.nc⟩
theorem Rs.lt (h : Rs w0 w rp pp lp cp b i s) : rp < w0.heap.size ∧ pp < w0.heap.size ∧ lp < w0.heap.size ∧ cp < w0.heap.size := by
  obtain ⟨m, v, hL⟩ := h.ps.lx
  obtain ⟨ao, cap, h1, h2⟩ := hL.lex
  exact ⟨World.block_lt_of_cell? _ _ h.c0, World.block_lt_of_cell? _ _ h.c1, h2.lp, h2.cp⟩
end

set_option maxHeartbeats 800000 in
set_option maxRecDepth 100000 in
theorem plain_any {w : World} {pp lp cp : Nat} {b s : List UInt8} {i : Nat} (h : Ps false w w pp lp cp b i s) (hr : RowAt w cp b (fun k => k ≠ pp)) (hf : w.frozen? ⟨pp, 2, none⟩ = false) :
    Calls Tryz.prog 36 #[.pointer (some ⟨pp, 0, none⟩)] w fun e w' => e = .returned (.tuple #[]) ∧ Ps true w' w' pp lp cp b i s ∧ Held w.heap.size pp pp w w' ∧ w'.cell? ⟨pp, 1, none⟩ = w.cell? ⟨pp, 1, none⟩ := by
  have c2 := h.c2
  go_enter Tryz.func36, Tryz.ntmps36
  go_wp2
  ((try simp only [Exit.inBlock, Exit.then]); first | refine bodyPost_ret (results_none rfl _ _ _) rfl ?_ | refine bodyPost_end (results_none rfl _ _ _) rfl ?_)
  have hh : Held w.heap.size pp pp w (w.setCell ⟨pp, 2, none⟩ (.bool true)) := Held.set w ⟨pp, 2, none⟩ (.bool true) (.inl rfl)
  have hnn : lp ≠ pp ∧ cp ≠ pp := ⟨h.nl.symm, h.nc.symm⟩
  obtain ⟨m, v, hL⟩ := h.lx
  obtain ⟨ao', cap', k1, k2⟩ := hL.lex
  obtain ⟨ao, cap, r1, r2⟩ := hr
  have e := k2.c0
  rw [r1] at e
  injection e with e
  injection e with e1 e2 e3
  subst e1
  have hl := Lx.start (k1.held hh ⟨hnn.1, hnn.1⟩ ⟨hnn.2, hnn.2⟩ (fun q a ha => ⟨r2 q a ha, r2 q a ha⟩))
  rw [hL.drp] at hl
  refine ⟨rfl, ⟨⟨m, v, hl⟩, ?_, cset c2, h.nl, h.nc⟩, hh, ?_⟩
  · rw [cset_ne (fun q => by injection q with _ q2; cases q2)]
    exact h.c0
  · rw [cset_ne (fun q => by injection q with _ q2; cases q2)]

set_option maxHeartbeats 800000 in
set_option maxRecDepth 100000 in
theorem made_r {w : World} {rp pp lp cp : Nat} {b s : List UInt8} {i : Nat} (h : Rs w w rp pp lp cp b i s) :
    Calls Tryz.prog 37 #[.pointer (some ⟨rp, 0, none⟩)] w fun e w' => e = .returned (.bool true) ∧ w = w' := by
  have r0 := h.r0
  have p0 := h.ps.p0
  have l0 := h.ps.l0
  go_enter Tryz.func37, Tryz.ntmps37
  go_wp2
  go_ret
  exact ⟨rfl, rfl⟩

theorem wordO_bool (out : List UInt8) : decide (wordO out = none) = (!(out == [116, 114, 117, 101]) && (!(out == [102, 97, 108, 115, 101]) && !(out == [110, 117, 108, 108]))) := by
  unfold wordO
  by_cases h1 : out = [116, 114, 117, 101]
  · subst h1; rfl
  · by_cases h2 : out = [102, 97, 108, 115, 101]
    · subst h2; rfl
    · by_cases h3 : out = [110, 117, 108, 108]
      · subst h3; rfl
      · rw [if_neg h1, if_neg h2, if_neg h3]
        have q1 : (out == [116, 114, 117, 101]) = false := by simpa using h1
        have q2 : (out == [102, 97, 108, 115, 101]) = false := by simpa using h2
        have q3 : (out == [110, 117, 108, 108]) = false := by simpa using h3
        rw [q1, q2, q3]; rfl
set_option maxHeartbeats 800000 in
set_option maxRecDepth 100000 in
theorem operator_any (w : World) (k p n : Int) (v : Value) (out : List UInt8) (h : Sl w v out) :
    Calls Tryz.prog 40 #[.agg #[.int .i64 k, .int .i64 p, .int .i64 n, v]] w fun e w' => e = .returned (.bool (decide (k = 9) && decide (wordO out = none))) ∧ Below w.heap.size w w' := by
  obtain ⟨ao, cap, rfl, c1, c2, c3, c4⟩ := id h
  have hcv : (convert 24 9 (.slice ao out.length cap)).run Tryz.prog (w.alloc (.cells #[.int .i64 k, .int .i64 p, .int .i64 n, .slice ao out.length cap] 85)) = .ok (.string (st out)) (w.alloc (.cells #[.int .i64 k, .int .i64 p, .int .i64 n, .slice ao out.length cap] 85)) := sl_string (P := Tryz.prog) _ 24 9 5 Tryz.underlying24 (by kernel_rfl) (by kernel_rfl) _ _ (h.up (alb _ _))
  have hst := st_toList out
  by_cases hk : k = 9
  · subst hk
    rw [wordO_bool out]
    cases b1 : (out == [116, 114, 117, 101]) with
    | true =>
      go_enter Tryz.func40, Tryz.ntmps40
      go_wp2
      go_ret
      exact ⟨rfl, alb _ _⟩
    | false =>
      cases b2 : (out == [102, 97, 108, 115, 101]) with
      | true =>
        go_enter Tryz.func40, Tryz.ntmps40
        go_wp2
        go_ret
        exact ⟨rfl, alb _ _⟩
      | false =>
        cases b3 : (out == [110, 117, 108, 108]) with
        | true =>
          go_enter Tryz.func40, Tryz.ntmps40
          go_wp2
          go_ret
          exact ⟨rfl, alb _ _⟩
        | false =>
          go_enter Tryz.func40, Tryz.ntmps40
          go_wp2
          go_ret
          exact ⟨rfl, alb _ _⟩
  · have bk : (k == 9) = false := by simp [hk]
    rw [decide_eq_false hk]
    go_enter Tryz.func40, Tryz.ntmps40
    go_wp2
    go_ret
    exact ⟨rfl, alb _ _⟩

set_option maxRecDepth 100000 in
theorem parse_new_f (v : Value) (b : List UInt8) (n : Int) (w : World) (h : Sl w v b) (hl : b.length ≤ 4000000) :
    Calls Tryz.prog 35 #[v, .int .i64 n] w fun e w' => ∃ pp lp cp, e = .returned (.pointer (some ⟨pp, 0, none⟩)) ∧ w.heap.size ≤ pp ∧ w.heap.size ≤ lp ∧ w.heap.size ≤ cp ∧ Ps false w' w' pp lp cp b 0 b ∧ w'.cell? ⟨pp, 1, none⟩ = some (.int .i64 (min (max n 0) 28)) ∧ Below w.heap.size w w' ∧ RowAt w' cp b (fun k => k ≠ pp) ∧ w'.frozen? ⟨pp, 2, none⟩ = false := by
  obtain ⟨ao, cap, rfl, c1, c2, c3, c4⟩ := id h
  go_enter Tryz.func35, Tryz.ntmps35
  go_wp2_with (go_at_call 59; refine (lex_made _ b _ h hl).mono ?_; rintro e w2 ⟨lp, cp, rfl, hlp, hcp, hL, hb2⟩)
  go_ret
  have z1 := World.block_lt_of_cell? _ _ hL.p0
  have z2 : cp < w2.heap.size := by
    obtain ⟨ao2, cap2, h1, h2⟩ := hL.lex
    exact World.block_lt_of_cell? _ _ h1.cur.c0
  refine ⟨_, lp, cp, rfl, hb2.size, hlp, hcp, ⟨⟨_, _, (hL.below (alb w2 _)).fresh⟩, ?_, ?_, ?_, ?_⟩, ?_, hb2.trans ((alb w2 _).mono hb2.size), ?_, ?_⟩
  · rw [World.cell?_alloc_at _ _ _ _ rfl]; rfl
  · rw [World.cell?_alloc_at _ _ _ _ rfl]; rfl
  · exact Ne.symm (Nat.ne_of_lt z1)
  · exact Ne.symm (Nat.ne_of_lt z2)
  · rw [World.cell?_alloc_at _ _ _ _ rfl]; rfl
  · obtain ⟨ao2, cap2, h1, h2⟩ := hL.lex
    exact ⟨ao2, cap2, cell_up' (alb w2 _) h1.cur.c0, fun h0 a ha => Nat.ne_of_lt (h2.ao h0 a ha)⟩
  · simp

set_option maxHeartbeats 1600000 in
set_option maxRecDepth 100000 in
theorem reader_new (v : Value) (b : List UInt8) (w : World) (h : Sl w v b) (hl : b.length ≤ 4000000) :
    Calls Tryz.prog 23 #[v] w fun e w' => ∃ rp pp lp cp, e = .returned (.pointer (some ⟨rp, 0, none⟩)) ∧ Rs w' w' rp pp lp cp b 0 b ∧ (w.heap.size ≤ lp ∧ w.heap.size ≤ cp) ∧ Below w.heap.size w w' := by
  obtain ⟨ao, cap, rfl, -, -, -, -⟩ := id h
  go_enter Tryz.func23, Tryz.ntmps23
  go_wp2_with (first | (go_at_call 36; refine (plain_any hP3.fresh hr3 hf3).mono ?_; rintro e w4 ⟨rfl, hP4, hh4, hd4⟩; have r0 := hh4.cell' r3 (Nat.ne_of_gt zp) (Nat.ne_of_gt zp)) | (go_at_call 35; refine (parse_new_f _ b _ _ h hl).mono ?_; rintro e w2 ⟨pp, lp, cp, rfl, hpp, hlp, hcp, hP, hdc, hb2, hr, hf⟩; have zp := World.block_lt_of_cell? _ _ hdc; have hab := alb w2 (.cells #[.pointer (some ⟨pp, 0, none⟩)] 76); have hP3 := hP.below hab; have hr3 := hr.up hab; have hf3 : (w2.alloc (.cells #[.pointer (some ⟨pp, 0, none⟩)] 76)).frozen? ⟨pp, 2, none⟩ = false := (by rw [World.frozen?_of_block (w := w2) (hab.block pp zp)]; exact hf); have r3 : (w2.alloc (.cells #[.pointer (some ⟨pp, 0, none⟩)] 76)).cell? ⟨w2.heap.size, 0, none⟩ = some (.pointer (some ⟨pp, 0, none⟩)) := (by rw [World.cell?_alloc_at _ _ _ _ rfl]; rfl); have hlo := hP.row))
  go_ret
  have hz3 : (w2.alloc (.cells #[.pointer (some ⟨pp, 0, none⟩)] 76)).heap.size = w2.heap.size + 1 := by simp
  have hb3 := hb2.trans (hab.mono hb2.size)
  have hlt : lp < w2.heap.size ∧ cp < w2.heap.size := by
    obtain ⟨m, v, hL⟩ := hP.lx
    obtain ⟨ao, cap, h1, h2⟩ := hL.lex
    exact ⟨h2.lp, h2.cp⟩
  refine ⟨_, pp, lp, cp, rfl, ⟨hP4, r0, ?_, Nat.ne_of_gt hlt.1, Nat.ne_of_gt hlt.2⟩, ⟨hlp, hcp⟩, hb3.trans (hh4.below hb3.size hpp hpp)⟩
  rw [hd4, cell_up' hab hdc]
  rfl
end Go.Proofs.YtjkoiknjffldjaaGreatDoor
