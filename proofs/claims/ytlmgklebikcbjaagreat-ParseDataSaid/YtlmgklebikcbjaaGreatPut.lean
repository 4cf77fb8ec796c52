/-
  put: a byte is kept, within the bound. Conditions: the lexer's row is the call's own.
-/
import Derived.Test.YtlmgklebikcbjaaGreatBlank
namespace Go.Proofs.YtlmgklebikcbjaaGreat
open Go.RowKit
set_option linter.unusedVariables false

/-- a lexer's blocks and its bytes lie below B -/
structure Low (B lp cp : Nat) (ao : Option Addr) (b : List UInt8) : Prop where
  lp : lp < B
  cp : cp < B
  ao : 0 < b.length → ∀ a, ao = some a → a.block < B

theorem Low.mono {B B' lp cp : Nat} {ao : Option Addr} {b : List UInt8} (h : Low B lp cp ao b) (hB : B ≤ B') : Low B' lp cp ao b := ⟨by have := h.lp; omega, by have := h.cp; omega, fun h0 a ha => by have := h.ao h0 a ha; omega⟩

theorem LexAt.low {w : World} {lp cp : Nat} {ao : Option Addr} {cap : Nat} {b : List UInt8} {i : Nat} {m v : Value} (h : LexAt w lp cp ao cap b i m v) : Low w.heap.size lp cp ao b := by
  refine ⟨World.block_lt_of_cell? _ _ h.p0, World.block_lt_of_cell? _ _ h.cur.c0, fun h0 a ha => ?_⟩
  obtain ⟨bb, off, h1, h2, _⟩ := h.cur.rd.some h0
  rw [h1] at ha; injection ha with ha; subst ha; exact h2

theorem LexAt.under {w w' : World} {B lp cp : Nat} {ao : Option Addr} {cap : Nat} {b : List UInt8} {i : Nat} {m v : Value} (h : LexAt w lp cp ao cap b i m v) (hb : Below B w w') (hl : Low B lp cp ao b) : LexAt w' lp cp ao cap b i m v := by
  have hc : ∀ k u, w.cell? ⟨lp, k, none⟩ = some u → w'.cell? ⟨lp, k, none⟩ = some u := fun k u q => by rw [hb.cell (p := ⟨lp, k, none⟩) hl.lp]; exact q
  have hc2 : ∀ k u, w.cell? ⟨cp, k, none⟩ = some u → w'.cell? ⟨cp, k, none⟩ = some u := fun k u q => by rw [hb.cell (p := ⟨cp, k, none⟩) hl.cp]; exact q
  have hr : Rd w' ao b := by
    rcases h.cur.rd with q | ⟨g, off, h1, h2⟩
    · exact .inl q
    · rcases Nat.eq_zero_or_pos b.length with h0 | h0
      · exact .inl (List.length_eq_zero_iff.1 h0)
      · exact .inr ⟨g, off, h1, fun j hj => by rw [hb.cell (p := ⟨g, off + j, none⟩) (show g < B from hl.ao h0 _ h1)]; exact h2 j hj⟩
  exact ⟨⟨hc2 _ _ h.cur.c0, hc2 _ _ h.cur.c1, by rw [hb.frozen (p := ⟨cp, 1, none⟩) hl.cp]; exact h.cur.f1, hr, h.cur.le, h.cur.mx, h.cur.ni, h.cur.at_, h.cur.sm, h.cur.ne⟩,
    hc _ _ h.p0, hc _ _ h.p1, hc _ _ h.p2, by rw [hb.frozen (p := ⟨lp, 1, none⟩) hl.lp]; exact h.f1, by rw [hb.frozen (p := ⟨lp, 2, none⟩) hl.lp]; exact h.f2, h.ne, h.na⟩

theorem Rd.byte (w : World) (c : Int) (e : TypeId) : Rd (w.alloc (.cells #[.int .u8 (IntKind.u8.wrap c)] e)) (Option.some ⟨w.heap.size, 0, none⟩) [byteOf c] := by
  have h := Rd.one w (IntKind.u8.wrap c) e (by rw [wrap8]; omega) (by rw [wrap8]; omega)
  have e1 : UInt8.ofNat (IntKind.u8.wrap c).toNat = byteOf c := by rw [wrap8]; rfl
  rwa [e1] at h

theorem put_full (lp cp : Nat) (ao : Option Addr) (cap : Nat) (b : List UInt8) (i M base : Nat) (v : Value) (out : List UInt8) (c : Int) (w : World) (h : LexAt w lp cp ao cap b i (.int .i64 M) v) (ho : OwnB w base 5 v out) (hM : M ≤ 100000) (hout : M ≤ out.length) :
    Calls Tryz.prog 111 #[.pointer (some ⟨lp, 0, none⟩), .int .i64 c] w fun e w' => e = .returned (.int .i64 3) ∧ ∃ n, w' = w.drewN n := by
  obtain ⟨ao2, cap2, rfl, c1, c2, c3⟩ := Rd.own ho
  have h1 := h.p1
  have h2 := h.p2
  have t1 : decide (M ≤ out.length) = true := decide_eq_true hout
  go_enter Tryz.func111, Tryz.ntmps111
  go_wp2
  go_quiet (fail)
  go_wp2
  go_ret
  exact ⟨rfl, _, rfl⟩

theorem put_room (lp cp : Nat) (ao : Option Addr) (cap : Nat) (b : List UInt8) (i M base : Nat) (v : Value) (out : List UInt8) (c : Int) (w : World) (h : LexAt w lp cp ao cap b i (.int .i64 M) v) (hl : Low base lp cp ao b) (hb : base ≤ w.heap.size) (ho : OwnB w base 5 v out) (hM : M ≤ 100000) (hout : out.length < M) :
    Calls Tryz.prog 111 #[.pointer (some ⟨lp, 0, none⟩), .int .i64 c] w fun e w' => e = .returned (.int .i64 0) ∧ ∃ v', LexAt w' lp cp ao cap b i (.int .i64 M) v' ∧ OwnB w' base 5 v' (out ++ [byteOf c]) ∧ Held base lp cp w w' := by
  obtain ⟨ao2, cap2, rfl, c1, c2, c3⟩ := Rd.own ho
  have h1 := h.p1
  have h2 := h.p2
  have t1 : decide (M ≤ out.length) = false := decide_eq_false (by omega)
  go_enter Tryz.func111, Tryz.ntmps111
  go_wp2
  go_quiet (fail)
  go_wp2_with (at_builtin; refine wpList_append_bytes (t := 22) (e := 5) bytesTy rfl _ _ rfl base _ out [byteOf c] rfl (by exact (OwnB.up ho (below_drewN (Below.refl _ _) _)).alloc _) _ 1 1 rfl rfl (fun q => by cases q) (Rd.byte _ c _) (by simp; omega) (by simp; omega) ?_; intro v1 w1 q1 q2 q3; obtain ⟨a1, kc, rfl, -, -, -⟩ := Rd.own q1; have bel : Below base w w1 := below_append ((below_drewN (Below.refl _ _) _).alloc hb _) ((OwnB.up ho (below_drewN (Below.refl _ _) _)).alloc _) q2 (Nat.le_refl _) (by simp; omega); have L1 := h.under bel hl; have k1 := L1.p2; have k2 := L1.f2)
  have hlp := hl.lp
  have hcp := hl.cp
  have hne : ∀ g, (Value.slice a1 (out ++ [byteOf c]).length kc).ownBlock = some g → g ≠ lp ∧ g ≠ lp := fun g hg => by
    have := (World.ownsRow.lt q1 g hg).1
    exact ⟨by omega, by omega⟩
  have hlen : (out ++ [byteOf c]).length = out.length + 1 := by simp
  have q5 := q1.held (p := lp) (q := lp) (Held.set w1 ⟨lp, 2, none⟩ (Value.slice a1 (out ++ [byteOf c]).length kc) (.inl rfl)) hne
  have q6 := L1.set2 (v' := Value.slice a1 (out ++ [byteOf c]).length kc)
  rw [hlen] at q5 q6
  go_ret
  exact ⟨rfl, _, q6, q5, (Held.of_below bel).trans (Held.set _ _ _ (.inl rfl))⟩
end Go.Proofs.YtlmgklebikcbjaaGreat
