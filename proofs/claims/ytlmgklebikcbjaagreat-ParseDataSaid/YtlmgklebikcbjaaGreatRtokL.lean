/-
  The document's Token and Keyword; Stands; the walks. Condition: the lexer stands in its bytes.
-/
import Derived.Test.YtlmgklebikcbjaaGreatRtok
namespace Go.Proofs.YtlmgklebikcbjaaGreat
open Go.RowKit
set_option linter.unusedVariables false

theorem Cx.rcell {w0 w w1 : World} {o : Obj} {cp : Nat} {b s s' : List UInt8} {i j : Nat} {u u' : Value} {out out' : List UInt8} (h0 : Cx w0 w cp b i s u out) (h : Cx (w.alloc o) w1 cp b j s' u' out') :
    (∀ k, w1.cell? ⟨w.heap.size, k, none⟩ = (w.alloc o).cell? ⟨w.heap.size, k, none⟩) ∧ (∀ k, w1.frozen? ⟨w.heap.size, k, none⟩ = (w.alloc o).frozen? ⟨w.heap.size, k, none⟩) ∧ w.heap.size < w1.heap.size ∧ cp < w.heap.size := by
  obtain ⟨ao, cap, h1, h2⟩ := h0.cur
  have q2 := World.block_lt_of_cell? _ _ h1.c0
  have q3 : w.heap.size < (w.alloc o).heap.size := by simp
  refine ⟨fun k => h.held.cell (a := ⟨w.heap.size, k, none⟩) q3 ?_ ?_, fun k => h.held.frozen (a := ⟨w.heap.size, k, none⟩) q3 ?_ ?_, Nat.lt_of_lt_of_le q3 h.held.size, q2⟩
  all_goals
    simp at q2 ⊢
    omega

section
variable {w0 w w' : World} {cp tp : Nat} {b : List UInt8} {i j : Nat} {s t : List UInt8} {k a n : Int} {vb u : Value} {out : List UInt8} {x : UInt8}

theorem Held.rcell {w1 w3 : World} {r : Nat} (h : Held w1.heap.size cp cp w1 w3) (hr : r < w1.heap.size) (hc : cp < r) :
    (∀ k, w3.cell? ⟨r, k, none⟩ = w1.cell? ⟨r, k, none⟩) ∧ (∀ k, w3.frozen? ⟨r, k, none⟩ = w1.frozen? ⟨r, k, none⟩) :=
  ⟨fun k => h.cell (a := ⟨r, k, none⟩) hr (by simp; omega) (by simp; omega), fun k => h.frozen (a := ⟨r, k, none⟩) hr (by simp; omega) (by simp; omega)⟩

/-- the stores to the result's own block -/
theorem Cx.close {w1 w3 : World} {u1 : Value} {o1 : List UInt8} {o : Obj} (h0 : Cx w0 w cp b i s u out) (h1 : Cx (w.alloc o) w1 cp b j t vb o1) {s3 : List UInt8} {i3 : Nat} {out3 : List UInt8} (h3 : Cx w1 w3 cp b i3 s3 u1 out3) (x0 x1 x2 x3 : Value) :
    Cx w0 ((((w3.setCell ⟨w.heap.size, 0, none⟩ x0).setCell ⟨w.heap.size, 1, none⟩ x1).setCell ⟨w.heap.size, 2, none⟩ x2).setCell ⟨w.heap.size, 3, none⟩ x3) cp b i3 s3 u1 out3 := by
  have hJ := ((h0.below (Below.alloc (Below.refl _ _) (Nat.le_refl _) o)).join h1).join h3
  have hz := h0.held.size
  have hu : u1.ownBlock ≠ some w.heap.size := fun q => by
    have g1 := (World.ownsRow.lt h3.row _ q).1
    have g2 := h1.held.size
    simp at g2
    omega
  exact (((hJ.store hz hu 0 x0).store hz hu 1 x1).store hz hu 2 x2).store hz hu 3 x3

/-- what the document's Token leaves -/
def TokS (T : TRes) (w0 : World) (cp : Nat) (b : List UInt8) (a : Nat) (e : Ending) (w' : World) : Prop :=
  match T with
  | .bad x => e = .returned (.tuple #[.agg #[.int .i64 0, .int .i64 a, .int .i64 0, .slice none 0 0], .int .i64 x]) ∧ Cx w0 w' cp b a (b.drop a) (.slice none 0 0) []
  | .tok k n out rest => ∃ u, e = .returned (.tuple #[.agg #[.int .i64 k, .int .i64 a, .int .i64 n, u], .int .i64 0]) ∧ ∃ i, Cx w0 w' cp b i rest u out

/-- a token of the document's, new -/
theorem Tx.new {w1 : World} {z : Nat} (h : Cx w0 w1 cp b j s u out) : Tx w1 (w1.alloc (.cells #[.int .i64 0, .int .i64 z, .int .i64 0, .slice none 0 0] 90)) cp w1.heap.size b j s 0 z 0 (.slice none 0 0) (.slice none 0 0) [] := by
  refine ⟨h.fresh.below (Below.alloc (Below.refl _ _) (Nat.le_refl _) _), Nat.le_refl _, by simp, (fun q => by cases q), ?_, ?_, ?_, ?_, ?_, ?_, ?_⟩
  · rw [World.cell?_alloc_at _ _ _ _ rfl]; rfl
  · rw [World.cell?_alloc_at _ _ _ _ rfl]; rfl
  · rw [World.cell?_alloc_at _ _ _ _ rfl]; rfl
  · rw [World.cell?_alloc_at _ _ _ _ rfl]; rfl
  · exact World.frozen?_alloc_at _ _ _ _ rfl
  · exact World.frozen?_alloc_at _ _ _ _ rfl
  · exact World.frozen?_alloc_at _ _ _ _ rfl

set_option maxHeartbeats 3200000 in
set_option maxRecDepth 100000 in
theorem rtoken_q (hg : (TK s).good) (h : Cx w0 w cp b i s u out) :
    Calls Tryz.prog 72 #[.pointer (some ⟨cp, 0, none⟩)] w fun e w' => TokS (TK s) w0 cp b (i + bl s false) e w' := by
  have HC0 := hid h
  have hC := (h.below (Below.alloc (Below.refl _ _) (Nat.le_refl _) (Obj.cells #[Value.int IntKind.i64 0, Value.int IntKind.i64 0, Value.int IntKind.i64 0, Value.slice none 0 0] 90))).fresh
  have hpl := h.at_
  have hpm := h.sm
  have hbl := bl_le s false
  have hle : i + bl s false ≤ b.length := by omega
  clear h hpl hbl
  unfold TK at *
  generalize hR : tk (s.drop (bl s false)) = R at hg ⊢
  have HR := hid hR
  generalize hz : i + bl s false = z at hle ⊢
  have HZ := hid hz
  clear hR hz
  rcases R with err | ⟨k0, n0, out1, rest⟩
  · have q1 := hg.1
    obtain ⟨-, kk, rfl, hkk⟩ := hg
    have q2 : (((kk : Nat) : Int) != 0) = true := by rw [bne, q1]; rfl
    clear q1
    go_enter Tryz.func72, Tryz.ntmps72
    go_wp2_with (first | (go_at_call 46; refine (rblank hC).mono ?_; rw [HZ.out]; rintro e w1 ⟨rfl, hC⟩; have c1 := hC.c1; obtain ⟨rc, rf, rs, rb⟩ := HC0.out.rcell hC) | (go_at_call 91; refine (rtoken (Tx.new hC)).mono ?_; rw [HR.out]; rintro e w3 ⟨rfl, hY, ht1, hs3⟩; obtain ⟨nn, c13⟩ := hY.c1; have f13 := hY.f1; obtain ⟨rc3, rf3⟩ := hY.held.rcell rs rb))
    refine bodyPost_ret (v := .tuple #[.agg #[.int .i64 0, .int .i64 z, .int .i64 0, .slice none 0 0], .int .i64 kk]) (by simp [results, Tryz.results72, go_sem, rc, rc3]) rfl ?_
    exact ⟨rfl, HC0.out.close hC (hY.to z hle) _ _ _ _⟩
  · go_enter Tryz.func72, Tryz.ntmps72
    go_wp2_with (first | (go_at_call 46; refine (rblank hC).mono ?_; rw [HZ.out]; rintro e w1 ⟨rfl, hC⟩; have c1 := hC.c1; obtain ⟨rc, rf, rs, rb⟩ := HC0.out.rcell hC) | (go_at_call 91; refine (rtoken (Tx.new hC)).mono ?_; rw [HR.out]; rintro e w3 ⟨rfl, j3, u3, hT⟩; obtain ⟨ao3, cap3, rfl, -, -, -⟩ := Rd.own hT.cx.row; have t0 := hT.t0; have t1 := hT.t1; have t2 := hT.t2; have t3 := hT.t3; obtain ⟨rc3, rf3⟩ := hT.cx.held.rcell rs rb))
    refine bodyPost_ret (v := .tuple #[.agg #[.int .i64 k0, .int .i64 z, .int .i64 n0, .slice ao3 out1.length cap3], .int .i64 0]) (by simp [results, Tryz.results72, go_sem, rc, rc3]) rfl ?_
    exact ⟨_, rfl, _, HC0.out.close hC hT.cx _ _ _ _⟩
end
end Go.Proofs.YtlmgklebikcbjaaGreat
