/-
  The document's lexer: it stands at place i, with the bytes s from there on, since a world w0; what it looks at. Condition: it stands in its bytes.
-/
import Derived.Test.YtlmgklebikcbjaaGreatLx
namespace Go.Proofs.YtlmgklebikcbjaaGreat
open Go.RowKit
set_option linter.unusedVariables false

/-- block cp is a lexer of the document, at place i of b, s stands from there on; since w0 all but cp is as it was; u is a row made since w0 -/
structure Cx (w0 w : World) (cp : Nat) (b : List UInt8) (i : Nat) (s : List UInt8) (u : Value) (out : List UInt8) : Prop where
  drp : b.drop i = s
  cur : ∃ ao cap, CurAt w cp ao cap b i ∧ LowS w0 cp cp ao cap b
  held : Held w0.heap.size cp cp w0 w
  row : OwnB w w0.heap.size 5 u out
  off : ∀ k, 2 ≤ k → w.cell? ⟨cp, k, none⟩ = w0.cell? ⟨cp, k, none⟩

theorem CurAt.low {w : World} {cp : Nat} {ao : Option Addr} {cap : Nat} {b : List UInt8} {i : Nat} (h : CurAt w cp ao cap b i) : Low w.heap.size cp cp ao b := by
  refine ⟨World.block_lt_of_cell? _ _ h.c0, World.block_lt_of_cell? _ _ h.c0, fun h0 a ha => ?_⟩
  obtain ⟨bb, off, h1, h2, _⟩ := h.rd.some h0
  rw [h1] at ha; injection ha with ha; subst ha; exact h2
theorem CurAt.under {w w' : World} {B cp : Nat} {ao : Option Addr} {cap : Nat} {b : List UInt8} {i : Nat} (h : CurAt w cp ao cap b i) (hb : Below B w w') (hl : Low B cp cp ao b) : CurAt w' cp ao cap b i := by
  have hc2 : ∀ k u, w.cell? ⟨cp, k, none⟩ = some u → w'.cell? ⟨cp, k, none⟩ = some u := fun k u q => by rw [hb.cell (p := ⟨cp, k, none⟩) hl.cp]; exact q
  have hr : Rd w' ao b := by
    rcases h.rd with q | ⟨g, off, h1, h2⟩
    · exact .inl q
    · rcases Nat.eq_zero_or_pos b.length with h0 | h0
      · exact .inl (List.length_eq_zero_iff.1 h0)
      · exact .inr ⟨g, off, h1, fun j hj => by rw [hb.cell (p := ⟨g, off + j, none⟩) (show g < B from hl.ao h0 _ h1)]; exact h2 j hj⟩
  exact ⟨hc2 _ _ h.c0, hc2 _ _ h.c1, by rw [hb.frozen (p := ⟨cp, 1, none⟩) hl.cp]; exact h.f1, hr, h.le, h.mx, h.ni, h.at_, h.sm, h.ne⟩

section
variable {w0 w w' : World} {cp : Nat} {b : List UInt8} {i : Nat} {s t : List UInt8} {u : Value} {out : List UInt8} {x : UInt8}

theorem Cx.start {ao : Option Addr} {cap : Nat} (h : CurAt w cp ao cap b i) : Cx w w cp b i (b.drop i) (.slice none 0 0) [] :=
  ⟨rfl, ⟨ao, cap, h, ⟨h.low, h.c0⟩⟩, Held.refl _ _ _ _, OwnB.nil _ _ _, fun _ _ => rfl⟩
theorem Cx.at_ (h : Cx w0 w cp b i s u out) : i + s.length = b.length := by
  obtain ⟨ao, cap, h1, h2⟩ := h.cur
  have := h1.at_
  rw [← h.drp, List.length_drop]; omega
theorem Cx.sm (h : Cx w0 w cp b i s u out) : b.length ≤ 1000000 := by
  obtain ⟨ao, cap, h1, h2⟩ := h.cur; exact h1.sm
theorem Cx.rem (h : Cx w0 w cp b i s u out) : remOf w cp = s.length := by
  obtain ⟨ao, cap, h1, h2⟩ := h.cur
  have := h1.at_
  unfold remOf; rw [h1.c0, h1.c1, ← h.drp, List.length_drop]; simp
theorem Cx.c1 (h : Cx w0 w cp b i s u out) : w.cell? ⟨cp, 1, none⟩ = some (.int .i64 i) := by
  obtain ⟨ao, cap, h1, h2⟩ := h.cur; exact h1.c1
theorem Cx.f1 (h : Cx w0 w cp b i s u out) : w.frozen? ⟨cp, 1, none⟩ = false := by
  obtain ⟨ao, cap, h1, h2⟩ := h.cur; exact h1.f1
theorem Cx.size (h : Cx w0 w cp b i s u out) : w0.heap.size ≤ w.heap.size := h.held.size

theorem Cx.keep (h : Cx w0 w cp b i s u out) (hh : Held w.heap.size cp cp w w') {v2 : Value} {l2 : List UInt8} (hr : OwnB w w0.heap.size 5 v2 l2) : OwnB w' w0.heap.size 5 v2 l2 := by
  obtain ⟨ao, cap, h1, h2⟩ := h.cur
  refine hr.held hh fun g hg => ?_
  have h3 := (World.ownsRow.lt hr g hg).1
  have := h2.cp
  exact ⟨by omega, by omega⟩
theorem Cx.next (h : Cx w0 w cp b i s u out) {ao : Option Addr} {cap j : Nat} {s' : List UInt8} (hl : CurAt w' cp ao cap b j) (hlow : LowS w0 cp cp ao cap b) (hs : b.drop j = s') (hh : Held w.heap.size cp cp w w') (ho : ∀ k, 2 ≤ k → w'.cell? ⟨cp, k, none⟩ = w.cell? ⟨cp, k, none⟩) : Cx w0 w' cp b j s' u out :=
  ⟨hs, ⟨ao, cap, hl, hlow⟩, h.held.then' hh, h.keep hh h.row, fun k hk => (ho k hk).trans (h.off k hk)⟩
theorem Cx.below (h : Cx w0 w cp b i s u out) (hb : Below w.heap.size w w') : Cx w0 w' cp b i s u out := by
  obtain ⟨ao, cap, h1, h2⟩ := h.cur
  exact h.next (h1.same hb) h2 h.drp (Held.of_below hb) (fun k _ => hb.cell (p := ⟨cp, k, none⟩) (by have := World.block_lt_of_cell? w _ h1.c0; exact this))
theorem Cx.drew (h : Cx w0 w cp b i s u out) (n : Nat) : Cx w0 (w.drewN n) cp b i s u out := h.below (below_drewN (Below.refl _ _) n)
theorem Cx.take (h : Cx w0 w cp b i s u out) {u2 : Value} {l2 : List UInt8} (hr : OwnB w w0.heap.size 5 u2 l2) : Cx w0 w cp b i s u2 l2 := ⟨h.drp, h.cur, h.held, hr, h.off⟩
theorem Cx.bare (h : Cx w0 w cp b i s u out) : Cx w0 w cp b i s (.slice none 0 0) [] := h.take (OwnB.nil _ _ _)
/-- from here on anew -/
theorem Cx.fresh (h : Cx w0 w cp b i s u out) : Cx w w cp b i s (.slice Option.none 0 0) [] := by
  obtain ⟨ao, cap, h1, h2⟩ := h.cur
  exact ⟨h.drp, ⟨ao, cap, h1, ⟨h2.toLow.mono h.held.size, h1.c0⟩⟩, Held.refl _ _ _ _, OwnB.nil _ _ _, fun _ _ => rfl⟩
theorem Cx.join (h : Cx w0 w cp b i s u out) {j : Nat} {s' : List UInt8} {u' : Value} {out' : List UInt8} (k : Cx w w' cp b j s' u' out') : Cx w0 w' cp b j s' u' out' := by
  obtain ⟨ao, cap, h1, h2⟩ := h.cur
  obtain ⟨ao', cap', k1, k2⟩ := k.cur
  have e := k2.c0
  rw [h1.c0] at e
  injection e with e
  injection e with e1 e2 e3
  subst e1; subst e3
  exact ⟨k.drp, ⟨_, _, k1, h2⟩, h.held.then' k.held, k.row.base h.held.size, fun k2 hk => (k.off k2 hk).trans (h.off k2 hk)⟩
/-- it goes to a place -/
theorem Cx.to (h : Cx w0 w cp b i s u out) (j : Nat) (n : Int) (hn : n = j) (hj : j ≤ b.length) : Cx w0 (w.setCell ⟨cp, 1, none⟩ (.int .i64 n)) cp b j (b.drop j) u out := by
  subst hn
  obtain ⟨ao, cap, h1, h2⟩ := h.cur
  exact h.next (h1.set hj) h2 rfl (Held.set _ _ _ (.inl rfl)) (fun k hk => cset_ne (fun q => by injection q with _ q2; omega))
theorem Cx.adv (h : Cx w0 w cp b i (x :: t) u out) (n : Int) (hn : n = (i : Int) + 1) : Cx w0 (w.setCell ⟨cp, 1, none⟩ (.int .i64 n)) cp b (i + 1) t u out := by
  have h1 := lt_of_drop h.drp
  have := h.to (i + 1) n (by omega) (by omega)
  rwa [drop_succ_of h.drp] at this
/-- the row grows -/
theorem Cx.grow (h : Cx w0 w cp b i s u out) {w1 : World} {u2 : Value} {l2 : List UInt8} (hb : Below w0.heap.size w w1) (hr : OwnB w1 w0.heap.size 5 u2 l2) : Cx w0 w1 cp b i s u2 l2 := by
  obtain ⟨ao, cap, h1, h2⟩ := h.cur
  exact ⟨h.drp, ⟨ao, cap, h1.under hb h2.toLow, h2⟩, h.held.trans (Held.of_below hb), hr, fun k hk => (hb.cell (p := ⟨cp, k, none⟩) h2.cp).trans (h.off k hk)⟩
theorem Cx.app (h : Cx w0 w cp b i s u out) {o : Obj} {w1 : World} {u1 : Value} {l1 : List UInt8} (q1 : OwnB w1 w0.heap.size 5 u1 l1) (q2 : (w.alloc o).grownBy w1 u.ownBlock) : Cx w0 w1 cp b i s u1 l1 :=
  h.grow (below_append ((Below.refl _ _).alloc h.held.size o) (h.row.alloc o) q2 (Nat.le_refl _) (by have := h.held.size; simp; omega)) q1
end

theorem Rd.byteN (w : World) (n : Int) (e : TypeId) (h : 0 ≤ n) (h' : n ≤ 255) : Rd (w.alloc (.cells #[.int .u8 n] e)) (Option.some ⟨w.heap.size, 0, none⟩) [byteOf n] := by
  have h2 := Rd.one w n e h h'
  have e1 : UInt8.ofNat n.toNat = byteOf n := by unfold byteOf; rw [show n % 256 = n by omega]
  rwa [e1] at h2

/-- the document's Peek over a slice that reads as b -/
theorem rpeek_any (v : Value) (b : List UInt8) (n : Int) (w : World) (h : Sl w v b) (hs : b.length ≤ 1000000) :
    Calls Tryz.prog 78 #[v, .int .i64 n] w fun e w' => e = .returned (.int .i64 (pk b n)) ∧ ∃ n, w' = w.drewN n := by
  obtain ⟨ao, cap, rfl, c1, c2, c3, c4⟩ := h
  by_cases h0 : n < 0
  · have hp : pk b n = -1 := by unfold pk; rw [if_neg (by omega)]
    rw [hp]; clear hp
    go_enter Tryz.func78, Tryz.ntmps78
    go_wp2
    go_ret
    exact ⟨rfl, 0, rfl⟩
  · obtain ⟨k, rfl⟩ := Int.eq_ofNat_of_zero_le (by omega : 0 ≤ n)
    by_cases hlt : k < b.length
    · rw [pk_in hlt]
      obtain ⟨bb, oo, rfl, hs1, hc⟩ := c4.some (by omega)
      have hck := hc k hlt
      have x0 := b8_ge b k
      have x1 := b8_le b k
      have t1 : decide (b.length ≤ k) = false := decide_eq_false (by omega)
      clear hc c4
      go_enter Tryz.func78, Tryz.ntmps78
      go_wp2
      go_ret
      exact ⟨rfl, 0, rfl⟩
    · rw [pk_out (by omega)]
      have t1 : decide (b.length ≤ k) = true := decide_eq_true (by omega)
      go_enter Tryz.func78, Tryz.ntmps78
      go_wp2
      go_ret
      exact ⟨rfl, 0, rfl⟩
end Go.Proofs.YtlmgklebikcbjaaGreat
