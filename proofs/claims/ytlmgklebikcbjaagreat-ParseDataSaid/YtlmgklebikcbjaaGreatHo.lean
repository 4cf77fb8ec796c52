/-
  The document's Item: an object with its number, its stream. Conditions: the parser stands in its bytes, these are no more than 800000.
-/
import Derived.Test.YtlmgklebikcbjaaGreatHk
import Derived.Test.YtlmgklebikcbjaaGreatHi
import Derived.Test.YtlmgklebikcbjaaGreatHh
import Derived.Test.YtlmgklebikcbjaaGreatHf
import Derived.Test.YtlmgklebikcbjaaGreatHc
import Derived.BigQuiet
/-
  The program's Item: an object with its number, its stream. Conditions: the parser stands in its bytes, these are no more than 800000.
-/
namespace Go.Proofs.YtlmgklebikcbjaaGreat
open Go.RowKit
set_option linter.unusedVariables false

def IRes.code : IRes → Int
  | .bad x _ => x
  | .ok _ _ _ => 0
def IRes.n : IRes → Int
  | .bad _ _ => 0
  | .ok n _ _ => n
def IRes.obj : IRes → PO
  | .bad _ _ => poNull
  | .ok _ o _ => o
def IRes.rest : IRes → List UInt8
  | .bad _ t => t
  | .ok _ _ r => r
/-- what Item gives -/
def ItQ (q : Bool) (w : World) (pp lp cp : Nat) (b : List UInt8) (r : IRes) (e : Ending) (w' : World) : Prop :=
  ∃ vs : List Value, e = .returned (.tuple #[.agg (.int .i64 r.n :: vs).toArray, .int .i64 r.code]) ∧ OV (fun g => w.heap.size ≤ g ∧ g < w'.heap.size) w' vs r.obj ∧ ∃ j, Ps q w w' pp lp cp b j r.rest
theorem ItQ.bad {q : Bool} {w : World} {pp lp cp : Nat} {b : List UInt8} {x : Int} {t : List UInt8} {e : Ending} {w' : World} (h1 : e = .returned (.tuple #[.agg #[.int .i64 0, .int .i64 0, .int .i64 0, .slice none 0 0, .slice none 0 0, .slice none 0 0], .int .i64 x])) (h2 : ∃ j, Ps q w w' pp lp cp b j t) : ItQ q w pp lp cp b (.bad x t) e w' := ⟨[.int .i64 0, .int .i64 0, .slice none 0 0, .slice none 0 0, .slice none 0 0], h1, OV.num 0 0, h2⟩
theorem wantN_err {lo hi : Int} {s t : List UInt8} {x : Int} (h : wantN lo hi s = .bad x t) : (x != 0) = true := by
  have h1 := want_err h
  simp only [bne, h1]; rfl
theorem wantS_err {p s t : List UInt8} {x : Int} (h : wantS p s = .bad x t) : (x != 0) = true := by
  have h1 := want_err h
  simp only [bne, h1]; rfl
theorem IT.b1 {q : Bool} {d : Nat} {s t : List UInt8} {x : Int} (h : wantN 1 8388607 s = .bad x t) : IT q d s (.bad x t) := by unfold IT; rw [h]
theorem IT.b2 {q : Bool} {d : Nat} {s t r0 : List UInt8} {x n : Int} (h : wantN 1 8388607 s = .ok n r0) (h2 : wantN 0 0 r0 = .bad x t) : IT q d s (.bad x t) := by unfold IT; rw [h]; simp only []; rw [h2]
theorem IT.b3 {q : Bool} {d : Nat} {s t r0 r1 : List UInt8} {x n n1 : Int} (h : wantN 1 8388607 s = .ok n r0) (h2 : wantN 0 0 r0 = .ok n1 r1) (h3 : wantS bObj r1 = .bad x t) : IT q d s (.bad x t) := by unfold IT; rw [h]; simp only []; rw [h2]; simp only []; rw [h3]
theorem IT.go {q : Bool} {d : Nat} {s r0 r1 r2 : List UInt8} {n n1 n2 : Int} (h : wantN 1 8388607 s = .ok n r0) (h2 : wantN 0 0 r0 = .ok n1 r1) (h3 : wantS bObj r1 = .ok n2 r2) {res : PRes} (hp : PV q (.v d) r2 res) : IT q d s (aft n res) := by unfold IT; rw [h]; simp only []; rw [h2]; simp only []; rw [h3]; exact ⟨res, hp, rfl⟩
theorem strm_len {o : PO} {s r1 : List UInt8} (h : eolS s = some r1) : r1.length ≤ s.length := by
  unfold eolS at h
  split at h
  · injection h with h; subst h; rw [List.length_drop]; omega
  · split at h
    · injection h with h; subst h; rw [List.length_drop]; omega
    · cases h

/-- the word that ends an object -/
def aft2 (n : Int) : PRes → IRes
  | .bad e t => .bad e t
  | .ok o2 r2 => match wantS bEndobj r2 with
    | .bad e t => .bad e t
    | .ok _ r3 => .ok n o2 r3
theorem aft_eq (n : Int) (o : PO) (r : List UInt8) : aft n (.ok o r) = aft2 n (aftS o r) := by
  show (match aftS o r with | .bad e t => IRes.bad e t | .ok o2 r2 => match wantS bEndobj r2 with | .bad e t => IRes.bad e t | .ok _ r3 => IRes.ok n o2 r3) = _
  cases aftS o r with
  | bad e t => rfl
  | ok o2 r2 => rfl
/-- the blocks of what was read: behind the result's, but not the variable's own -/
def AI (w : World) (g6 : Nat) (wx : World) (g : Nat) : Prop := w.heap.size + 1 ≤ g ∧ g ≠ g6 ∧ g < wx.heap.size
theorem ovI_held {w wa wb : World} {g6 lp cp : Nat} {vs : List Value} {o : PO} (h : OV (AI w g6 wa) wa vs o) (hb : Held wa.heap.size lp cp wa wb) (hlo : lp < w.heap.size ∧ cp < w.heap.size) : OV (AI w g6 wb) wb vs o :=
  h.keep (fun g hg => ⟨hg.1, hg.2.1, Nat.lt_of_lt_of_le hg.2.2 hb.size⟩) (fun g hg hlt => hb.block g hlt (by have := hg.1; omega) (by have := hg.1; omega))
theorem ovI_up {w wa wb : World} {g6 : Nat} {vs : List Value} {o : PO} (h : OV (AI w g6 wa) wa vs o) (hb : Below wa.heap.size wa wb) : OV (AI w g6 wb) wb vs o :=
  h.keep (fun g hg => ⟨hg.1, hg.2.1, Nat.lt_of_lt_of_le hg.2.2 hb.size⟩) (fun g hg hlt => hb.block g hlt)
theorem aiNe {w wx : World} {g6 g lp cp : Nat} (h : AI w g6 wx g) (hlo : lp < w.heap.size ∧ cp < w.heap.size) : g ≠ lp ∧ g ≠ cp := by have := h.1; omega
/-- what stream gives, in one form -/
theorem StQ.both {q : Bool} {w w' : World} {pp lp cp : Nat} {b : List UInt8} {R : PRes} {e : Ending} (h : StQ q w pp lp cp b R e w') : ∃ (c : Int) (vs : List Value), c = R.code ∧ V5 vs ∧ e = .returned (.tuple #[.agg vs.toArray, .int .i64 c]) ∧ (∀ o r, R = .ok o r → OV (fun g => w.heap.size ≤ g ∧ g < w'.heap.size) w' vs o) ∧ ∃ j, Ps q w w' pp lp cp b j R.rest := by
  cases R with
  | bad x t => obtain ⟨vs, h1, h2, h3⟩ := h; exact ⟨_, vs, rfl, h1, h2, (fun o r q => by cases q), h3⟩
  | ok o r => obtain ⟨vs, h1, h2, h3⟩ := h; exact ⟨_, vs, rfl, h2.v5, h1, (fun o' r' q => by injection q with q1 q2; subst q1; exact h2), h3⟩
theorem strm_err {o : PO} {s t : List UInt8} {x : Int} (h : strm o s = .bad x t) : (x != 0) = true := by
  unfold strm at h
  split at h
  · injection h with h1 _; subst h1; split <;> rfl
  · split at h
    · injection h with h1 _; subst h1; rfl
    · split at h
      · injection h with h1 _; subst h1; rfl
      · split at h
        · rename_i hw; injection h with h1 _; subst h1; exact wantS_err hw
        · cases h
theorem eolS_none {s : List UInt8} (h : eolS s = none) : pfx [13, 10] s = false ∧ pfx [10] s = false := by
  unfold eolS at h
  split at h
  · cases h
  · split at h
    · cases h
    · rename_i h1 h2; exact ⟨by simpa using h1, by simpa using h2⟩
theorem stream_any {q : Bool} {A : Nat → Prop} {w : World} {pp lp cp : Nat} {b s : List UInt8} {i : Nat} {n0 : Int} {b0 : List UInt8} {l0 : List PO} {d : List (List UInt8 × PO)} {vs : List Value} (h : Ps q w w pp lp cp b i s) (hov : OV A w vs (.mk 7 n0 b0 l0 d)) (hA : ∀ g, A g → g ≠ lp ∧ g ≠ cp) (hd : d.length ≤ 800000) :
    Calls Tryz.prog 21 #[.pointer (some ⟨pp, 0, none⟩), .agg vs.toArray] w fun e w' => StQ q w pp lp cp b (strm (.mk 7 n0 b0 l0 d) s) e w' := by
  cases he : eolS s with
  | none => rw [strm_none he]; exact stream_no h hov.v5 (eolS_none he).1 (eolS_none he).2
  | some r1 => rw [strm_some he]; exact stream_yes h hov hA hd he

set_option maxHeartbeats 6400000 in
set_option maxRecDepth 100000 in
theorem item_any {q : Bool} {w : World} {pp lp cp : Nat} {b s : List UInt8} {i d : Nat} (h : Ps q w w pp lp cp b i s) (hd : w.cell? ⟨pp, 1, none⟩ = some (.int .i64 (d : Int))) (hv : ValueC q pp lp cp b d) (hbl : b.length ≤ 800000) :
    Calls Tryz.prog 8 #[.pointer (some ⟨pp, 0, none⟩)] w fun e w' => ∃ r, IT q d s r ∧ ItQ q w pp lp cp b r e w' := by
  have hlo := h.lo
  have hnl := h.nl
  have hnc := h.nc
  have hP := h.below (alb w (.cells #[.int .i64 0, .int .i64 0, .int .i64 0, .slice none 0 0, .slice none 0 0, .slice none 0 0] 33))
  have hZ := C5.new w _ rfl [.int .i64 0, .int .i64 0, .int .i64 0, .slice none 0 0, .slice none 0 0, .slice none 0 0] 33
  have hz1 : (w.alloc (.cells #[.int .i64 0, .int .i64 0, .int .i64 0, .slice none 0 0, .slice none 0 0, .slice none 0 0] 33)).heap.size = w.heap.size + 1 := by simp
  have HD1 := hid (fun X (hX : Held w.heap.size lp cp w X) => hX.cell' (a := ⟨pp, 1, none⟩) hd hnl hnc)
  have p0 := hP.p0
  have l0 := hP.l0
  clear h hd
  obtain ⟨rc, rf, rs⟩ := id hZ
  rcases h1 : wantN 1 8388607 s with ⟨x, t⟩ | ⟨n, r0⟩
  · have H1 := hid h1
    have bx := wantN_err h1
    clear h1
    go_enter Tryz.func8, Tryz.ntmps8
    go_wp2_with (first | (go_at_call 16; refine (made_p hP.fresh).mono ?_; rintro e w1 ⟨rfl, rfl⟩) | (go_at_call 17; (with_reducible refine (whole_w hP.fresh 1 8388607).mono ?_); rw [H1.out]; rintro e w1 ⟨rfl, j1, hPs⟩; have hP := hP.join hPs; have hZ := hZ.held hPs.held (by omega) (by omega); obtain ⟨rc, rf, rs⟩ := id hZ; have p0 := hP.p0; have l0 := hP.l0; have zp := World.block_lt_of_cell? _ _ p0; have zl := World.block_lt_of_cell? _ _ l0))
    obtain ⟨k0, k1, k2, k3, k4, k5⟩ := (hZ.set6 (a := .int .i64 0) (b := .int .i64 0) (c := .int .i64 0) (d := .slice none 0 0) (e := .slice none 0 0) (f := .slice none 0 0) rfl).s6
    have hh := fun B => set6_held w1 B w.heap.size (.int .i64 0) (.int .i64 0) (.int .i64 0) (.slice none 0 0) (.slice none 0 0) (.slice none 0 0)
    have hP5 := hP.off (hh w1.heap.size) (Nat.le_refl _)
    exact bodyPost_ret (v := .tuple #[.agg #[.int .i64 0, .int .i64 0, .int .i64 0, .slice none 0 0, .slice none 0 0, .slice none 0 0], .int .i64 x]) (by simp [results, Tryz.results8, go_sem, k0, k1, k2, k3, k4, k5]) rfl ⟨_, .b1 H1.out, .bad rfl ⟨_, hP5⟩⟩
  · rcases h2 : wantN 0 0 r0 with ⟨x, t⟩ | ⟨n1, r1⟩
    · have H1 := hid h1
      have H2 := hid h2
      have bx := wantN_err h2
      clear h1 h2
      go_enter Tryz.func8, Tryz.ntmps8
      go_wp2_with (first | (go_at_call 16; refine (made_p hP.fresh).mono ?_; rintro e w1 ⟨rfl, rfl⟩) | (go_at_call 17; (with_reducible refine (whole_w hP.fresh 0 0).mono ?_); rw [H2.out]; rintro e w1 ⟨rfl, j1, hPs⟩; have hP := hP.join hPs; have hZ := hZ.held hPs.held (by omega) (by omega); obtain ⟨rc, rf, rs⟩ := id hZ; have p0 := hP.p0; have l0 := hP.l0; have zp := World.block_lt_of_cell? _ _ p0; have zl := World.block_lt_of_cell? _ _ l0) | (go_at_call 17; (with_reducible refine (whole_w hP.fresh 1 8388607).mono ?_); rw [H1.out]; rintro e w1 ⟨rfl, j1, hPs⟩; have hP := hP.join hPs; have hZ := hZ.held hPs.held (by omega) (by omega); obtain ⟨rc, rf, rs⟩ := id hZ; have p0 := hP.p0; have l0 := hP.l0; have zp := World.block_lt_of_cell? _ _ p0; have zl := World.block_lt_of_cell? _ _ l0))
      obtain ⟨k0, k1, k2, k3, k4, k5⟩ := (hZ.set6 (a := .int .i64 0) (b := .int .i64 0) (c := .int .i64 0) (d := .slice none 0 0) (e := .slice none 0 0) (f := .slice none 0 0) rfl).s6
      have hh := fun B => set6_held w1 B w.heap.size (.int .i64 0) (.int .i64 0) (.int .i64 0) (.slice none 0 0) (.slice none 0 0) (.slice none 0 0)
      have hP5 := hP.off (hh w1.heap.size) (Nat.le_refl _)
      exact bodyPost_ret (v := .tuple #[.agg #[.int .i64 0, .int .i64 0, .int .i64 0, .slice none 0 0, .slice none 0 0, .slice none 0 0], .int .i64 x]) (by simp [results, Tryz.results8, go_sem, k0, k1, k2, k3, k4, k5]) rfl ⟨_, .b2 H1.out H2.out, .bad rfl ⟨_, hP5⟩⟩
    · rcases h3 : wantS bObj r1 with ⟨x, t⟩ | ⟨n2, r2⟩
      · have H1 := hid h1
        have H2 := hid h2
        have H3 := hid h3
        have bx := wantS_err h3
        clear h1 h2 h3
        go_enter Tryz.func8, Tryz.ntmps8
        go_wp2_with (first | (go_at_call 16; refine (made_p hP.fresh).mono ?_; rintro e w1 ⟨rfl, rfl⟩) | (go_at_call 18; (with_reducible refine (word_w' hP.fresh _ bObj (by decide)).mono ?_); rw [H3.out]; rintro e w1 ⟨rfl, j1, hPs⟩; have hP := hP.join hPs; have hZ := hZ.held hPs.held (by omega) (by omega); obtain ⟨rc, rf, rs⟩ := id hZ; have p0 := hP.p0; have l0 := hP.l0; have zp := World.block_lt_of_cell? _ _ p0; have zl := World.block_lt_of_cell? _ _ l0) | (go_at_call 17; (with_reducible refine (whole_w hP.fresh 0 0).mono ?_); rw [H2.out]; rintro e w1 ⟨rfl, j1, hPs⟩; have hP := hP.join hPs; have hZ := hZ.held hPs.held (by omega) (by omega); obtain ⟨rc, rf, rs⟩ := id hZ; have p0 := hP.p0; have l0 := hP.l0; have zp := World.block_lt_of_cell? _ _ p0; have zl := World.block_lt_of_cell? _ _ l0) | (go_at_call 17; (with_reducible refine (whole_w hP.fresh 1 8388607).mono ?_); rw [H1.out]; rintro e w1 ⟨rfl, j1, hPs⟩; have hP := hP.join hPs; have hZ := hZ.held hPs.held (by omega) (by omega); obtain ⟨rc, rf, rs⟩ := id hZ; have p0 := hP.p0; have l0 := hP.l0; have zp := World.block_lt_of_cell? _ _ p0; have zl := World.block_lt_of_cell? _ _ l0))
        obtain ⟨k0, k1, k2, k3, k4, k5⟩ := (hZ.set6 (a := .int .i64 0) (b := .int .i64 0) (c := .int .i64 0) (d := .slice none 0 0) (e := .slice none 0 0) (f := .slice none 0 0) rfl).s6
        have hh := fun B => set6_held w1 B w.heap.size (.int .i64 0) (.int .i64 0) (.int .i64 0) (.slice none 0 0) (.slice none 0 0) (.slice none 0 0)
        have hP5 := hP.off (hh w1.heap.size) (Nat.le_refl _)
        exact bodyPost_ret (v := .tuple #[.agg #[.int .i64 0, .int .i64 0, .int .i64 0, .slice none 0 0, .slice none 0 0, .slice none 0 0], .int .i64 x]) (by simp [results, Tryz.results8, go_sem, k0, k1, k2, k3, k4, k5]) rfl ⟨_, .b3 H1.out H2.out H3.out, .bad rfl ⟨_, hP5⟩⟩
      · have H1 := hid h1
        have H2 := hid h2
        have H3 := hid h3
        have HGO := hid (fun (res : PRes) (hp : PV q (.v d) r2 res) => IT.go h1 h2 h3 hp)
        clear h1 h2 h3
        go_enter Tryz.func8, Tryz.ntmps8
        go_upto_region 12 with (first | (go_at_call 16; refine (made_p hP.fresh).mono ?_; rintro e w1 ⟨rfl, rfl⟩) | (go_at_call 18; (with_reducible refine (word_w' hP.fresh _ bObj (by decide)).mono ?_); rw [H3.out]; rintro e w1 ⟨rfl, j1, hPs⟩; have hP := hP.join hPs; have hZ := hZ.held hPs.held (by omega) (by omega); obtain ⟨rc, rf, rs⟩ := id hZ; have p0 := hP.p0; have l0 := hP.l0; have zp := World.block_lt_of_cell? _ _ p0; have zl := World.block_lt_of_cell? _ _ l0) | (go_at_call 17; (with_reducible refine (whole_w hP.fresh 0 0).mono ?_); rw [H2.out]; rintro e w1 ⟨rfl, j1, hPs⟩; have hP := hP.join hPs; have hZ := hZ.held hPs.held (by omega) (by omega); obtain ⟨rc, rf, rs⟩ := id hZ; have p0 := hP.p0; have l0 := hP.l0; have zp := World.block_lt_of_cell? _ _ p0; have zl := World.block_lt_of_cell? _ _ l0) | (go_at_call 17; (with_reducible refine (whole_w hP.fresh 1 8388607).mono ?_); rw [H1.out]; rintro e w1 ⟨rfl, j1, hPs⟩; have hP := hP.join hPs; have hZ := hZ.held hPs.held (by omega) (by omega); obtain ⟨rc, rf, rs⟩ := id hZ; have p0 := hP.p0; have l0 := hP.l0; have zp := World.block_lt_of_cell? _ _ p0; have zl := World.block_lt_of_cell? _ _ l0))
        have hr2 : r2.length ≤ 800000 := by have := hP.at_; omega
        go_cut [5, 6] (fun s5 s6 wx => ∃ (c : Int) (res : PRes) (vs : List Value) (g6 j : Nat), s5 = .int .i64 c ∧ s6 = .pointer (some ⟨g6, 0, none⟩) ∧ c = res.code ∧ PV q (.v d) r2 res ∧ V5 vs ∧ w.heap.size + 1 ≤ g6 ∧ C5 wx g6 vs ∧ OV (AI w g6 wx) wx vs res.obj ∧ Ps q w wx pp lp cp b j res.rest ∧ C5 wx w.heap.size [.int .i64 0, .int .i64 0, .int .i64 0, .slice none 0 0, .slice none 0 0, .slice none 0 0])
        case first =>
          have hsz := hZ.2.2
          go_wp2_with (go_at_call 19; refine (value_top hP.fresh (HD1.out _ hP.held) hv).mono ?_; rintro e w5 ⟨res, hpv, hvq⟩; obtain ⟨vs, rfl, hov, j5, hPs⟩ := hvq.both; have hV := hov.v5; have hP := hP.join hPs; have hZ := hZ.held hPs.held (by omega) (by omega); obtain ⟨rc, rf, rs⟩ := id hZ; have p0 := hP.p0; have l0 := hP.l0; have zp := World.block_lt_of_cell? _ _ p0; have zl := World.block_lt_of_cell? _ _ l0; have hov := hid hov; obtain ⟨y1, y2, y3, y4, y5, y6, y7, y8, y9, y10, y11, rfl⟩ := hV)
          go_meet
          refine ⟨_, res, _, _, _, rfl, rfl, rfl, hpv, ⟨y1, y2, y3, y4, y5, y6, y7, y8, y9, y10, y11, rfl⟩, hZ.2.2, C5.new _ _ rfl [.int .i64 y1, .int .i64 y2, .slice y3 y6 y7, .slice y4 y8 y9, .slice y5 y10 y11] 31, ?_, hP.below (alb _ _), hZ.up (alb _ _)⟩
          exact hov.out.keep (fun g hg => ⟨by have := hg.1; omega, by have := hg.2; omega, by have := hg.2; simp; omega⟩) (fun g hg hlt => (alb _ _).block g hlt)
        case rest =>
          obtain ⟨c, res, vs, g6, j5, rfl, rfl, hc, hpv, hV, hg6, hO, hov, hP, hZ⟩ := hcut
          obtain ⟨w6, rfl⟩ : ∃ x : World, x = wc := ⟨_, rfl⟩
          obtain ⟨y1, y2, y3, y4, y5, y6, y7, y8, y9, y10, y11, rfl⟩ := hV
          have hfit := hpv.fit
          clear p0 l0 rc rf rs
          have p0 := hP.p0
          have l0 := hP.l0
          have zp := World.block_lt_of_cell? _ _ p0
          have zl := World.block_lt_of_cell? _ _ l0
          obtain ⟨oc, of_, os⟩ := id hO
          obtain ⟨rc, rf, rs⟩ := id hZ
          rcases res with ⟨x, t⟩ | ⟨o, r⟩
          · have hc0 : c = x := hc; clear hc; subst hc0
            have bx : (c != 0) = true := by have h1 : (c == 0) = false := hfit; simp only [bne, h1]; rfl
            have HGP := hid (HGO.out _ hpv)
            clear hpv hfit hov
            go_wp2
            obtain ⟨k0, k1, k2, k3, k4, k5⟩ := (hZ.set6 (a := .int .i64 0) (b := .int .i64 0) (c := .int .i64 0) (d := .slice none 0 0) (e := .slice none 0 0) (f := .slice none 0 0) rfl).s6
            have hh := fun B => set6_held w6 B w.heap.size (.int .i64 0) (.int .i64 0) (.int .i64 0) (.slice none 0 0) (.slice none 0 0) (.slice none 0 0)
            have hP5 := hP.off (hh w6.heap.size) (Nat.le_refl _)
            exact bodyPost_ret (v := .tuple #[.agg #[.int .i64 0, .int .i64 0, .int .i64 0, .slice none 0 0, .slice none 0 0, .slice none 0 0], .int .i64 c]) (by simp [results, Tryz.results8, go_sem, k0, k1, k2, k3, k4, k5]) rfl ⟨_, HGP.out, .bad rfl ⟨_, hP5⟩⟩
          · have hc0 : c = 0 := hc; clear hc; subst hc0
            have hkd : o.kind = y1 := OV.kind hov
            have hfew := hpv.few
            have HGP := hid (HGO.out _ hpv)
            clear hpv hfit HGO
            obtain ⟨kb, hkb⟩ : ∃ kb, kb = decide (o.kind = 7 ∧ KW bStream r = true) := ⟨_, rfl⟩
            have HKB := hid hkb
            have HKD := hid hkd
            have HOV := hid hov
            clear hkb hkd hov
            go_upto_region 15 with fail
            go_cut [53] (fun s53 wx => ∃ j, s53 = .bool kb ∧ Ps q w wx pp lp cp b j (bif kb then (r.drop (bl r false)).drop 6 else r) ∧ C5 wx g6 [.int .i64 y1, .int .i64 y2, .slice y3 y6 y7, .slice y4 y8 y9, .slice y5 y10 y11] ∧ C5 wx w.heap.size [.int .i64 0, .int .i64 0, .int .i64 0, .slice none 0 0, .slice none 0 0, .slice none 0 0] ∧ OV (AI w g6 wx) wx [.int .i64 y1, .int .i64 y2, .slice y3 y6 y7, .slice y4 y8 y9, .slice y5 y10 y11] o)
            case first =>
              by_cases hk : y1 = 7
              · subst hk
                cases hKW : KW bStream r with
                | true =>
                  have e1 : kb = true := by rw [HKB.out, HKD.out, hKW]; rfl
                  have HKW := hid hKW
                  clear hKW
                  subst e1
                  go_wp2_with (first | (go_at_call 20; refine (pkey_yes hP.fresh bStream (by decide) HKW.out).mono ?_; rintro e w7 ⟨rfl, j7, hPs⟩; have hP := hP.join hPs; have hZ := hZ.held hPs.held (by omega) (by omega); have hO := hO.held hPs.held (by omega) (by omega); have hov7 := hid (ovI_held HOV.out hPs.held hlo); obtain ⟨rc, rf, rs⟩ := id hZ))
                  go_meet
                  exact ⟨_, rfl, hP, hO, hZ, hov7.out⟩
                | false =>
                  have e1 : kb = false := by rw [HKB.out, HKD.out, hKW]; rfl
                  have HKW := hid hKW
                  clear hKW
                  subst e1
                  go_wp2_with (first | (go_at_call 20; refine (pkey_no hP.fresh bStream (by decide) HKW.out).mono ?_; rintro e w7 ⟨rfl, hPs⟩; have hP := hP.join hPs; have hZ := hZ.held hPs.held (by omega) (by omega); have hO := hO.held hPs.held (by omega) (by omega); have hov7 := hid (ovI_held HOV.out hPs.held hlo); obtain ⟨rc, rf, rs⟩ := id hZ))
                  go_meet
                  exact ⟨_, rfl, hP, hO, hZ, hov7.out⟩
              · have b7 : (y1 == 7) = false := by simp [hk]
                have e1 : kb = false := by rw [HKB.out, HKD.out]; simp [hk]
                subst e1
                clear hk
                go_wp2
                go_meet
                exact ⟨_, rfl, hP, hO, hZ, HOV.out⟩
            case rest =>
              obtain ⟨j7, rfl, hP, hO, hZ, hov⟩ := hcut
              obtain ⟨w7, rfl⟩ : ∃ x : World, x = wc := ⟨_, rfl⟩
              clear p0 l0 zp zl oc of_ os rc rf rs HOV
              have p0 := hP.p0
              have l0 := hP.l0
              have zp := World.block_lt_of_cell? _ _ p0
              have zl := World.block_lt_of_cell? _ _ l0
              obtain ⟨oc, of_, os⟩ := id hO
              obtain ⟨rc, rf, rs⟩ := id hZ
              cases kb with
              | false =>
                have hP : Ps q w w7 pp lp cp b j7 r := hP
                have hA : aftS o r = .ok o r := by unfold aftS; rw [if_neg (of_decide_eq_false HKB.out.symm)]
                rcases h4 : wantS bEndobj r with ⟨x, t⟩ | ⟨n4, r4⟩
                · have hit : aft n (.ok o r) = .bad x t := by show (match aftS o r with | .bad e t => IRes.bad e t | .ok o2 r2 => match wantS bEndobj r2 with | .bad e t => IRes.bad e t | .ok _ r3 => IRes.ok n o2 r3) = _; rw [hA]; simp only []; rw [h4]
                  have HIT := hid (hit ▸ HGP.out)
                  have H4 := hid h4
                  have bx := wantS_err h4
                  have HOV := hid hov
                  clear h4 hit hA hov
                  go_wp2_with (first | (go_at_call 18; (with_reducible refine (word_w' hP.fresh _ bEndobj (by decide)).mono ?_); rw [H4.out]; rintro e w1 ⟨rfl, j1, hPs⟩; have hP := hP.join hPs; have hZ := hZ.held hPs.held (by omega) (by omega); obtain ⟨rc, rf, rs⟩ := id hZ; have p0 := hP.p0; have l0 := hP.l0; have zp := World.block_lt_of_cell? _ _ p0; have zl := World.block_lt_of_cell? _ _ l0; have hO := hO.held hPs.held (by omega) (by omega); have HOV := hid (ovI_held HOV.out hPs.held hlo); obtain ⟨oc, of_, os⟩ := id hO))
                  obtain ⟨k0, k1, k2, k3, k4, k5⟩ := (hZ.set6 (a := .int .i64 0) (b := .int .i64 0) (c := .int .i64 0) (d := .slice none 0 0) (e := .slice none 0 0) (f := .slice none 0 0) rfl).s6
                  have hh := fun B => set6_held w1 B w.heap.size (.int .i64 0) (.int .i64 0) (.int .i64 0) (.slice none 0 0) (.slice none 0 0) (.slice none 0 0)
                  have hP5 := hP.off (hh w1.heap.size) (Nat.le_refl _)
                  exact bodyPost_ret (v := .tuple #[.agg #[.int .i64 0, .int .i64 0, .int .i64 0, .slice none 0 0, .slice none 0 0, .slice none 0 0], .int .i64 x]) (by simp [results, Tryz.results8, go_sem, k0, k1, k2, k3, k4, k5]) rfl ⟨_, HIT.out, .bad rfl ⟨_, hP5⟩⟩
                · have hit : aft n (.ok o r) = .ok n o r4 := by show (match aftS o r with | .bad e t => IRes.bad e t | .ok o2 r2 => match wantS bEndobj r2 with | .bad e t => IRes.bad e t | .ok _ r3 => IRes.ok n o2 r3) = _; rw [hA]; simp only []; rw [h4]
                  have HIT := hid (hit ▸ HGP.out)
                  have H4 := hid h4
                  have HOV := hid hov
                  clear h4 hit hA hov
                  go_wp2_with (first | (go_at_call 18; (with_reducible refine (word_w' hP.fresh _ bEndobj (by decide)).mono ?_); rw [H4.out]; rintro e w1 ⟨rfl, j1, hPs⟩; have hP := hP.join hPs; have hZ := hZ.held hPs.held (by omega) (by omega); obtain ⟨rc, rf, rs⟩ := id hZ; have p0 := hP.p0; have l0 := hP.l0; have zp := World.block_lt_of_cell? _ _ p0; have zl := World.block_lt_of_cell? _ _ l0; have hO := hO.held hPs.held (by omega) (by omega); have HOV := hid (ovI_held HOV.out hPs.held hlo); obtain ⟨oc, of_, os⟩ := id hO))
                  obtain ⟨k0, k1, k2, k3, k4, k5⟩ := (hZ.set6 (a := .int .i64 n) (b := .int .i64 y1) (c := .int .i64 y2) (d := .slice y3 y6 y7) (e := .slice y4 y8 y9) (f := .slice y5 y10 y11) rfl).s6
                  have hh := fun B => set6_held w1 B w.heap.size (.int .i64 n) (.int .i64 y1) (.int .i64 y2) (.slice y3 y6 y7) (.slice y4 y8 y9) (.slice y5 y10 y11)
                  have hP5 := hP.off (hh w1.heap.size) (Nat.le_refl _)
                  exact bodyPost_ret (v := .tuple #[.agg #[.int .i64 n, .int .i64 y1, .int .i64 y2, .slice y3 y6 y7, .slice y4 y8 y9, .slice y5 y10 y11], .int .i64 0]) (by simp [results, Tryz.results8, go_sem, k0, k1, k2, k3, k4, k5]) rfl ⟨_, HIT.out, [.int .i64 y1, .int .i64 y2, .slice y3 y6 y7, .slice y4 y8 y9, .slice y5 y10 y11], rfl, HOV.out.keep (fun g hg => ⟨by have := hg.1; omega, Nat.lt_of_lt_of_le hg.2.2 (hh 0).size⟩) (fun g hg hlt => (hh w1.heap.size).block g hlt (by have := hg.1; omega) (by have := hg.1; omega)), _, hP5⟩
              | true =>
                have hP7 : Ps q w w7 pp lp cp b j7 ((r.drop (bl r false)).drop 6) := hP
                obtain ⟨h7, hKW⟩ := of_decide_eq_true HKB.out.symm
                obtain ⟨k0, n0, b0, l0', d0⟩ := o
                obtain rfl : k0 = 7 := h7
                have hP := hP7
                generalize hs6 : (r.drop (bl r false)).drop 6 = s6 at hP
                have hA : aftS (.mk 7 n0 b0 l0' d0) r = strm (.mk 7 n0 b0 l0' d0) s6 := by unfold aftS; rw [if_pos ⟨rfl, hKW⟩, ← hs6]
                have hst := stream_any (A := AI w g6 w7) (w := w7) (n0 := n0) (b0 := b0) (l0 := l0') (d := d0) hP.fresh hov (fun g hg => aiNe hg hlo) (Nat.le_trans (show d0.length ≤ r2.length from hfew) hr2)
                generalize hR : strm (.mk 7 n0 b0 l0' d0) s6 = R at hA hst
                have hA2 : aft n (.ok (.mk 7 n0 b0 l0' d0) r) = aft2 n R := by rw [aft_eq, hA]
                have HA2 := hid hA2
                have HST := hid hst
                have HR := hid hR
                clear hA hA2 hst hR hs6 hP7
                have hos := hO.2.2
                have hzs := hZ.2.2
                clear hov hKW HKB HKD hfew
                go_upto_region 17 with (go_at_call 21; refine HST.out.mono ?_; rintro e w8 hq; obtain ⟨c8, vs8, hc8, hV8, rfl, hov8, j8, hPs⟩ := hq.both; have hP := hP.join hPs; have hZ := hZ.held hPs.held (by omega) (by omega); have hO := hO.held hPs.held (by omega) (by omega); have HC8 := hid hc8; clear hc8; have hov8 := hid hov8; obtain ⟨x1, x2, x3, x4, x5, x6, x7, x8, x9, x10, x11, rfl⟩ := hV8; obtain ⟨rc, rf, rs⟩ := id hZ; obtain ⟨oc, of_, os⟩ := id hO)
                have hS5 := fun B => set5_held w8 B g6 (.int .i64 x1) (.int .i64 x2) (.slice x3 x6 x7) (.slice x4 x8 x9) (.slice x5 x10 x11)
                have hP : Ps q w (((((w8.setCell ⟨g6, 0, none⟩ (.int .i64 x1)).setCell ⟨g6, 1, none⟩ (.int .i64 x2)).setCell ⟨g6, 2, none⟩ (.slice x3 x6 x7)).setCell ⟨g6, 3, none⟩ (.slice x4 x8 x9)).setCell ⟨g6, 4, none⟩ (.slice x5 x10 x11)) pp lp cp b j8 R.rest := hP.off (hS5 w8.heap.size) (by omega)
                have hZ : C5 (((((w8.setCell ⟨g6, 0, none⟩ (.int .i64 x1)).setCell ⟨g6, 1, none⟩ (.int .i64 x2)).setCell ⟨g6, 2, none⟩ (.slice x3 x6 x7)).setCell ⟨g6, 3, none⟩ (.slice x4 x8 x9)).setCell ⟨g6, 4, none⟩ (.slice x5 x10 x11)) w.heap.size [.int .i64 0, .int .i64 0, .int .i64 0, .slice none 0 0, .slice none 0 0, .slice none 0 0] := hZ.held (hS5 w8.heap.size) (by omega) (by omega)
                have hO : C5 (((((w8.setCell ⟨g6, 0, none⟩ (.int .i64 x1)).setCell ⟨g6, 1, none⟩ (.int .i64 x2)).setCell ⟨g6, 2, none⟩ (.slice x3 x6 x7)).setCell ⟨g6, 3, none⟩ (.slice x4 x8 x9)).setCell ⟨g6, 4, none⟩ (.slice x5 x10 x11)) g6 [.int .i64 x1, .int .i64 x2, .slice x3 x6 x7, .slice x4 x8 x9, .slice x5 x10 x11] := hO.set5 (a := .int .i64 x1) (b := .int .i64 x2) (c := .slice x3 x6 x7) (d := .slice x4 x8 x9) (e := .slice x5 x10 x11) rfl
                have hsz9 : w8.heap.size ≤ (((((w8.setCell ⟨g6, 0, none⟩ (.int .i64 x1)).setCell ⟨g6, 1, none⟩ (.int .i64 x2)).setCell ⟨g6, 2, none⟩ (.slice x3 x6 x7)).setCell ⟨g6, 3, none⟩ (.slice x4 x8 x9)).setCell ⟨g6, 4, none⟩ (.slice x5 x10 x11)).heap.size := (hS5 0).size
                have hbk9 : ∀ g, g < w8.heap.size → g ≠ g6 → (((((w8.setCell ⟨g6, 0, none⟩ (.int .i64 x1)).setCell ⟨g6, 1, none⟩ (.int .i64 x2)).setCell ⟨g6, 2, none⟩ (.slice x3 x6 x7)).setCell ⟨g6, 3, none⟩ (.slice x4 x8 x9)).setCell ⟨g6, 4, none⟩ (.slice x5 x10 x11)).heap[g]? = w8.heap[g]? := fun g h1 h2 => (hS5 w8.heap.size).block g h1 h2 h2
                clear hS5
                generalize (((((w8.setCell ⟨g6, 0, none⟩ (.int .i64 x1)).setCell ⟨g6, 1, none⟩ (.int .i64 x2)).setCell ⟨g6, 2, none⟩ (.slice x3 x6 x7)).setCell ⟨g6, 3, none⟩ (.slice x4 x8 x9)).setCell ⟨g6, 4, none⟩ (.slice x5 x10 x11)) = w9 at hP hZ hO hsz9 hbk9 ⊢
                clear p0 l0 zp zl oc of_ os rc rf rs
                have p0 := hP.p0
                have l0 := hP.l0
                have zp := World.block_lt_of_cell? _ _ p0
                have zl := World.block_lt_of_cell? _ _ l0
                obtain ⟨oc, of_, os⟩ := id hO
                obtain ⟨rc, rf, rs⟩ := id hZ
                rcases R with ⟨x, t⟩ | ⟨o2, r3⟩
                · have hc0 : c8 = x := HC8.out; clear HC8; subst hc0
                  have bx := strm_err HR.out
                  have HIT := hid (show IT q d s (.bad c8 t) from by have h9 := HGP.out; rw [HA2.out] at h9; exact h9)
                  go_wp2
                  obtain ⟨k0, k1, k2, k3, k4, k5⟩ := (hZ.set6 (a := .int .i64 0) (b := .int .i64 0) (c := .int .i64 0) (d := .slice none 0 0) (e := .slice none 0 0) (f := .slice none 0 0) rfl).s6
                  have hh := fun B => set6_held w9 B w.heap.size (.int .i64 0) (.int .i64 0) (.int .i64 0) (.slice none 0 0) (.slice none 0 0) (.slice none 0 0)
                  have hP5 := hP.off (hh w9.heap.size) (Nat.le_refl _)
                  exact bodyPost_ret (v := .tuple #[.agg #[.int .i64 0, .int .i64 0, .int .i64 0, .slice none 0 0, .slice none 0 0, .slice none 0 0], .int .i64 c8]) (by simp [results, Tryz.results8, go_sem, k0, k1, k2, k3, k4, k5]) rfl ⟨_, HIT.out, .bad rfl ⟨_, hP5⟩⟩
                · have hc0 : c8 = 0 := HC8.out; clear HC8; subst hc0
                  have hovn := hov8.out _ _ rfl
                  have HOV := hid (show OV (AI w g6 w9) w9 [.int .i64 x1, .int .i64 x2, .slice x3 x6 x7, .slice x4 x8 x9, .slice x5 x10 x11] o2 from hovn.keep (fun g hg => ⟨by have := hg.1; omega, by have := hg.1; omega, Nat.lt_of_lt_of_le hg.2 hsz9⟩) (fun g hg hlt => hbk9 g hlt (by have := hg.1; omega)))
                  have hP : Ps q w w9 pp lp cp b j8 r3 := hP
                  clear hovn
                  rcases h4 : wantS bEndobj r3 with ⟨x, t⟩ | ⟨n4, r4⟩
                  · have hit : IT q d s (.bad x t) := by have h9 := HGP.out; rw [HA2.out] at h9; unfold aft2 at h9; simp only [] at h9; rw [h4] at h9; exact h9
                    have HIT := hid hit
                    have H4 := hid h4
                    have bx := wantS_err h4
                    clear h4 hit
                    go_wp2_with (first | (go_at_call 18; (with_reducible refine (word_w' hP.fresh _ bEndobj (by decide)).mono ?_); rw [H4.out]; rintro e w1 ⟨rfl, j1, hPs⟩; have hP := hP.join hPs; have hZ := hZ.held hPs.held (by omega) (by omega); obtain ⟨rc, rf, rs⟩ := id hZ; have p0 := hP.p0; have l0 := hP.l0; have zp := World.block_lt_of_cell? _ _ p0; have zl := World.block_lt_of_cell? _ _ l0; have hO := hO.held hPs.held (by omega) (by omega); have HOV := hid (ovI_held HOV.out hPs.held hlo); obtain ⟨oc, of_, os⟩ := id hO))
                    obtain ⟨k0, k1, k2, k3, k4, k5⟩ := (hZ.set6 (a := .int .i64 0) (b := .int .i64 0) (c := .int .i64 0) (d := .slice none 0 0) (e := .slice none 0 0) (f := .slice none 0 0) rfl).s6
                    have hh := fun B => set6_held w1 B w.heap.size (.int .i64 0) (.int .i64 0) (.int .i64 0) (.slice none 0 0) (.slice none 0 0) (.slice none 0 0)
                    have hP5 := hP.off (hh w1.heap.size) (Nat.le_refl _)
                    exact bodyPost_ret (v := .tuple #[.agg #[.int .i64 0, .int .i64 0, .int .i64 0, .slice none 0 0, .slice none 0 0, .slice none 0 0], .int .i64 x]) (by simp [results, Tryz.results8, go_sem, k0, k1, k2, k3, k4, k5]) rfl ⟨_, HIT.out, .bad rfl ⟨_, hP5⟩⟩
                  · have hit : IT q d s (.ok n o2 r4) := by have h9 := HGP.out; rw [HA2.out] at h9; unfold aft2 at h9; simp only [] at h9; rw [h4] at h9; exact h9
                    have HIT := hid hit
                    have H4 := hid h4
                    clear h4 hit
                    go_wp2_with (first | (go_at_call 18; (with_reducible refine (word_w' hP.fresh _ bEndobj (by decide)).mono ?_); rw [H4.out]; rintro e w1 ⟨rfl, j1, hPs⟩; have hP := hP.join hPs; have hZ := hZ.held hPs.held (by omega) (by omega); obtain ⟨rc, rf, rs⟩ := id hZ; have p0 := hP.p0; have l0 := hP.l0; have zp := World.block_lt_of_cell? _ _ p0; have zl := World.block_lt_of_cell? _ _ l0; have hO := hO.held hPs.held (by omega) (by omega); have HOV := hid (ovI_held HOV.out hPs.held hlo); obtain ⟨oc, of_, os⟩ := id hO))
                    obtain ⟨k0, k1, k2, k3, k4, k5⟩ := (hZ.set6 (a := .int .i64 n) (b := .int .i64 x1) (c := .int .i64 x2) (d := .slice x3 x6 x7) (e := .slice x4 x8 x9) (f := .slice x5 x10 x11) rfl).s6
                    have hh := fun B => set6_held w1 B w.heap.size (.int .i64 n) (.int .i64 x1) (.int .i64 x2) (.slice x3 x6 x7) (.slice x4 x8 x9) (.slice x5 x10 x11)
                    have hP5 := hP.off (hh w1.heap.size) (Nat.le_refl _)
                    exact bodyPost_ret (v := .tuple #[.agg #[.int .i64 n, .int .i64 x1, .int .i64 x2, .slice x3 x6 x7, .slice x4 x8 x9, .slice x5 x10 x11], .int .i64 0]) (by simp [results, Tryz.results8, go_sem, k0, k1, k2, k3, k4, k5]) rfl ⟨_, HIT.out, [.int .i64 x1, .int .i64 x2, .slice x3 x6 x7, .slice x4 x8 x9, .slice x5 x10 x11], rfl, HOV.out.keep (fun g hg => ⟨by have := hg.1; omega, Nat.lt_of_lt_of_le hg.2.2 (hh 0).size⟩) (fun g hg hlt => (hh w1.heap.size).block g hlt (by have := hg.1; omega) (by have := hg.1; omega)), _, hP5⟩
end Go.Proofs.YtlmgklebikcbjaaGreat

/-
  The document's want, Want, WantWhole: a wanted token. Condition: the parser stands in its bytes.
-/
namespace Go.Proofs.YtlmgklebikcbjaaGreat
open Go.RowKit
set_option linter.unusedVariables false

/-- what want gives -/
def RWQ (q : Bool) (dp : Nat) (w : World) (pp : Nat) (b : List UInt8) : WRes → Ending → World → Prop
  | .bad x t, e, w' => e = .returned (.tuple #[.agg #[.int .i64 0, .int .i64 0, .int .i64 0, .slice none 0 0], .int .i64 x]) ∧ ∃ j, Pd q dp w w' pp b j t
  | .ok n r, e, w' => ∃ (k a : Int) (ao : Option Addr) (nl cap : Nat), e = .returned (.tuple #[.agg #[.int .i64 k, .int .i64 a, .int .i64 n, .slice ao nl cap], .int .i64 0]) ∧ ∃ j, Pd q dp w w' pp b j r
/-- what WantWhole gives -/
def RNQ (q : Bool) (dp : Nat) (w : World) (pp : Nat) (b : List UInt8) : WRes → Ending → World → Prop
  | .bad x t, e, w' => e = .returned (.tuple #[.int .i64 0, .int .i64 x]) ∧ ∃ j, Pd q dp w w' pp b j t
  | .ok n r, e, w' => e = .returned (.tuple #[.int .i64 n, .int .i64 0]) ∧ ∃ j, Pd q dp w w' pp b j r
/-- what Want gives -/
def RSQ (q : Bool) (dp : Nat) (w : World) (pp : Nat) (b : List UInt8) : WRes → Ending → World → Prop
  | .bad x t, e, w' => e = .returned (.int .i64 x) ∧ ∃ j, Pd q dp w w' pp b j t
  | .ok n r, e, w' => e = .returned (.int .i64 0) ∧ ∃ j, Pd q dp w w' pp b j r

set_option maxHeartbeats 1600000 in
set_option maxRecDepth 100000 in
theorem rwant_num {q : Bool} {dp : Nat} {w : World} {pp : Nat} {b s : List UInt8} {i : Nat} (h : Pd q dp w w pp b i s) (lo hi : Int) :
    Calls Tryz.prog 44 #[.pointer (some ⟨pp, 0, none⟩), .int .i64 1, .string ⟨#[]⟩, .int .i64 lo, .int .i64 hi] w fun e w' => RWQ q dp w pp b (want (isN lo hi) s) e w' := by
  have hat := hid h.cx.at_
  have hP := h.below (alb w (.cells #[.int .i64 0, .int .i64 0, .int .i64 0, .slice none 0 0] 90))
  have hZ := C5.new w _ rfl [.int .i64 0, .int .i64 0, .int .i64 0, .slice none 0 0] 90
  have hlow := h.low.1
  have hbl := bl_le s false
  have hpl : i + bl s false ≤ b.length := by have := hat.out; omega
  have hdp : b.drop (i + bl s false) = s.drop (bl s false) := by rw [← h.cx.drp, List.drop_drop]
  clear h
  generalize hpa : i + bl s false = pa at hpl hdp
  have HPA := hid hpa
  have HD := hid hdp
  clear hpa hdp hbl
  have hc1 := hP.cx.c1
  have hf1 := hP.cx.f1
  cases hT : TK s with
  | bad x =>
    have bx := TK_err hT
    have bx' : (x != 0) = true := by simp only [bne, bx]; rfl
    have e1 : want (isN lo hi) s = .bad x (s.drop (bl s false)) := by unfold want; rw [hT]
    rw [e1]
    have T1 := hid hT
    clear hT e1
    go_enter Tryz.func44, Tryz.ntmps44
    go_wp2_with (first | (go_at_call 72; (with_reducible refine (rtoken_q (TK_good _) hP.cx.fresh).mono ?_); rw [T1.out, HPA.out]; rintro e w3 ⟨rfl, hC3⟩; have hP := hP.step hC3; have hlo3 := hP.low.2; have hwy := hC3.size; have hZ := hZ.held hC3.held (by omega) (by omega); have hc1 := hP.cx.c1; have hf1 := hP.cx.f1; obtain ⟨rc, rf, rs⟩ := id hZ))
    obtain ⟨k0, k1, k2, k3⟩ := (hZ.set4 (a := .int .i64 0) (b := .int .i64 0) (c := .int .i64 0) (d := .slice none 0 0) rfl).s4
    have hh := fun B => set4_held w3 B w.heap.size (.int .i64 0) (.int .i64 0) (.int .i64 0) (.slice none 0 0)
    have hP5 := hP.off (hh w.heap.size) (Nat.le_refl _) (Nat.le_refl _)
    have k0 := cell_up' (alb _ (.cells #[.int .i64 0, .int .i64 pa, .int .i64 0, .slice none 0 0] 90)) k0
    have k1 := cell_up' (alb _ (.cells #[.int .i64 0, .int .i64 pa, .int .i64 0, .slice none 0 0] 90)) k1
    have k2 := cell_up' (alb _ (.cells #[.int .i64 0, .int .i64 pa, .int .i64 0, .slice none 0 0] 90)) k2
    have k3 := cell_up' (alb _ (.cells #[.int .i64 0, .int .i64 pa, .int .i64 0, .slice none 0 0] 90)) k3
    have hP5 := hP5.below (alb _ (.cells #[.int .i64 0, .int .i64 pa, .int .i64 0, .slice none 0 0] 90))
    rw [HD.out] at hP5
    exact bodyPost_ret (v := .tuple #[.agg #[.int .i64 0, .int .i64 0, .int .i64 0, .slice none 0 0], .int .i64 x]) (by simp [results, Tryz.results44, go_sem, k0, k1, k2, k3]) rfl ⟨rfl, _, hP5⟩
  | tok k n out r =>
    have hst := st_toList out
    by_cases h0 : k = 0
    · subst h0
      have e1 : want (isN lo hi) s = .bad 2 (s.drop (bl s false)) := by unfold want; rw [hT]; simp
      rw [e1]
      have T1 := hid hT
      clear hT e1
      go_enter Tryz.func44, Tryz.ntmps44
      go_wp2_with (first | (go_at_call 72; (with_reducible refine (rtoken_q (TK_good _) hP.cx.fresh).mono ?_); rw [T1.out, HPA.out]; rintro e w3 ⟨u3, rfl, j3, hC3⟩; obtain ⟨ao3, cap3, rfl, -, -, -⟩ := Rd.own hC3.row; have hP := hP.step hC3; have hlo3 := hP.low.2; have hwy := hC3.size; have hZ := hZ.held hC3.held (by omega) (by omega); have hc1 := hP.cx.c1; have hf1 := hP.cx.f1; obtain ⟨rc, rf, rs⟩ := id hZ))
      have hP := hP.to pa _ rfl hpl
      rw [HD.out] at hP
      have hZ := hZ.held (Held.set (B := w3.heap.size) (p := pp) (q := pp) w3 ⟨pp, 1, none⟩ (.int .i64 (pa : Int)) (.inl rfl)) (by omega) (by omega)
      obtain ⟨k0, k1, k2, k3⟩ := (hZ.set4 (a := .int .i64 0) (b := .int .i64 0) (c := .int .i64 0) (d := .slice none 0 0) rfl).s4
      have hh := fun B => set4_held (w3.setCell ⟨pp, 1, none⟩ (.int .i64 (pa : Int))) B w.heap.size (.int .i64 0) (.int .i64 0) (.int .i64 0) (.slice none 0 0)
      have hP5 := hP.off (hh w.heap.size) (Nat.le_refl _) (Nat.le_refl _)
      have k0 := cell_up' (alb _ (.cells #[.int .i64 0, .int .i64 pa, .int .i64 n, .slice ao3 out.length cap3] 90)) k0
      have k1 := cell_up' (alb _ (.cells #[.int .i64 0, .int .i64 pa, .int .i64 n, .slice ao3 out.length cap3] 90)) k1
      have k2 := cell_up' (alb _ (.cells #[.int .i64 0, .int .i64 pa, .int .i64 n, .slice ao3 out.length cap3] 90)) k2
      have k3 := cell_up' (alb _ (.cells #[.int .i64 0, .int .i64 pa, .int .i64 n, .slice ao3 out.length cap3] 90)) k3
      have hP5 := hP5.below (alb _ (.cells #[.int .i64 0, .int .i64 pa, .int .i64 n, .slice ao3 out.length cap3] 90))
      exact bodyPost_ret (v := .tuple #[.agg #[.int .i64 0, .int .i64 0, .int .i64 0, .slice none 0 0], .int .i64 2]) (by simp [results, Tryz.results44, go_sem, k0, k1, k2, k3]) rfl ⟨rfl, _, hP5⟩
    · have b0 : (k == 0) = false := by simp [h0]
      have e1 : want (isN lo hi) s = if isN lo hi k n out = true then .ok n r else .bad 4 (s.drop (bl s false)) := by unfold want; rw [hT]; simp [h0]
      rw [e1]
      have T1 := hid hT
      clear hT e1
      by_cases hk : k = 1
      · subst hk
        clear h0
        by_cases h1 : lo ≤ n
        · have c1 : decide (n < lo) = false := decide_eq_false (by omega)
          by_cases h2 : n ≤ hi
          · have c2 : decide (hi < n) = false := decide_eq_false (by omega)
            have c3 : isN lo hi 1 n out = true := by unfold isN; simp [h1, h2]
            rw [if_pos c3]
            clear c3 h1 h2
            go_enter Tryz.func44, Tryz.ntmps44
            go_wp2_with (first | (go_at_call 72; (with_reducible refine (rtoken_q (TK_good _) hP.cx.fresh).mono ?_); rw [T1.out, HPA.out]; rintro e w3 ⟨u3, rfl, j3, hC3⟩; obtain ⟨ao3, cap3, rfl, -, -, -⟩ := Rd.own hC3.row; have hP := hP.step hC3; have hlo3 := hP.low.2; have hwy := hC3.size; have hZ := hZ.held hC3.held (by omega) (by omega); have hc1 := hP.cx.c1; have hf1 := hP.cx.f1; obtain ⟨rc, rf, rs⟩ := id hZ))
            obtain ⟨k0, k1, k2, k3⟩ := (hZ.set4 (a := .int .i64 1) (b := .int .i64 pa) (c := .int .i64 n) (d := .slice ao3 out.length cap3) rfl).s4
            have hh := fun B => set4_held w3 B w.heap.size (.int .i64 1) (.int .i64 pa) (.int .i64 n) (.slice ao3 out.length cap3)
            have hP5 := hP.off (hh w.heap.size) (Nat.le_refl _) (Nat.le_refl _)
            have k0 := cell_up' (alb _ (.cells #[.int .i64 1, .int .i64 pa, .int .i64 n, .slice ao3 out.length cap3] 90)) k0
            have k1 := cell_up' (alb _ (.cells #[.int .i64 1, .int .i64 pa, .int .i64 n, .slice ao3 out.length cap3] 90)) k1
            have k2 := cell_up' (alb _ (.cells #[.int .i64 1, .int .i64 pa, .int .i64 n, .slice ao3 out.length cap3] 90)) k2
            have k3 := cell_up' (alb _ (.cells #[.int .i64 1, .int .i64 pa, .int .i64 n, .slice ao3 out.length cap3] 90)) k3
            have hP5 := hP5.below (alb _ (.cells #[.int .i64 1, .int .i64 pa, .int .i64 n, .slice ao3 out.length cap3] 90))
            exact bodyPost_ret (v := .tuple #[.agg #[.int .i64 1, .int .i64 pa, .int .i64 n, .slice ao3 out.length cap3], .int .i64 0]) (by simp [results, Tryz.results44, go_sem, k0, k1, k2, k3]) rfl ⟨_, _, _, _, _, rfl, _, hP5⟩
          · have c2 : decide (hi < n) = true := decide_eq_true (by omega)
            have c3 : ¬ isN lo hi 1 n out = true := by unfold isN; simp [h2]
            rw [if_neg c3]
            clear c3 h1 h2
            go_enter Tryz.func44, Tryz.ntmps44
            go_wp2_with (first | (go_at_call 72; (with_reducible refine (rtoken_q (TK_good _) hP.cx.fresh).mono ?_); rw [T1.out, HPA.out]; rintro e w3 ⟨u3, rfl, j3, hC3⟩; obtain ⟨ao3, cap3, rfl, -, -, -⟩ := Rd.own hC3.row; have hP := hP.step hC3; have hlo3 := hP.low.2; have hwy := hC3.size; have hZ := hZ.held hC3.held (by omega) (by omega); have hc1 := hP.cx.c1; have hf1 := hP.cx.f1; obtain ⟨rc, rf, rs⟩ := id hZ))
            have hP := hP.to pa _ rfl hpl
            rw [HD.out] at hP
            have hZ := hZ.held (Held.set (B := w3.heap.size) (p := pp) (q := pp) w3 ⟨pp, 1, none⟩ (.int .i64 (pa : Int)) (.inl rfl)) (by omega) (by omega)
            obtain ⟨k0, k1, k2, k3⟩ := (hZ.set4 (a := .int .i64 0) (b := .int .i64 0) (c := .int .i64 0) (d := .slice none 0 0) rfl).s4
            have hh := fun B => set4_held (w3.setCell ⟨pp, 1, none⟩ (.int .i64 (pa : Int))) B w.heap.size (.int .i64 0) (.int .i64 0) (.int .i64 0) (.slice none 0 0)
            have hP5 := hP.off (hh w.heap.size) (Nat.le_refl _) (Nat.le_refl _)
            have k0 := cell_up' (alb _ (.cells #[.int .i64 1, .int .i64 pa, .int .i64 n, .slice ao3 out.length cap3] 90)) k0
            have k1 := cell_up' (alb _ (.cells #[.int .i64 1, .int .i64 pa, .int .i64 n, .slice ao3 out.length cap3] 90)) k1
            have k2 := cell_up' (alb _ (.cells #[.int .i64 1, .int .i64 pa, .int .i64 n, .slice ao3 out.length cap3] 90)) k2
            have k3 := cell_up' (alb _ (.cells #[.int .i64 1, .int .i64 pa, .int .i64 n, .slice ao3 out.length cap3] 90)) k3
            have hP5 := hP5.below (alb _ (.cells #[.int .i64 1, .int .i64 pa, .int .i64 n, .slice ao3 out.length cap3] 90))
            exact bodyPost_ret (v := .tuple #[.agg #[.int .i64 0, .int .i64 0, .int .i64 0, .slice none 0 0], .int .i64 4]) (by simp [results, Tryz.results44, go_sem, k0, k1, k2, k3]) rfl ⟨rfl, _, hP5⟩
        · have c1 : decide (n < lo) = true := decide_eq_true (by omega)
          have c3 : ¬ isN lo hi 1 n out = true := by unfold isN; simp [h1]
          rw [if_neg c3]
          clear c3 h1
          go_enter Tryz.func44, Tryz.ntmps44
          go_wp2_with (first | (go_at_call 72; (with_reducible refine (rtoken_q (TK_good _) hP.cx.fresh).mono ?_); rw [T1.out, HPA.out]; rintro e w3 ⟨u3, rfl, j3, hC3⟩; obtain ⟨ao3, cap3, rfl, -, -, -⟩ := Rd.own hC3.row; have hP := hP.step hC3; have hlo3 := hP.low.2; have hwy := hC3.size; have hZ := hZ.held hC3.held (by omega) (by omega); have hc1 := hP.cx.c1; have hf1 := hP.cx.f1; obtain ⟨rc, rf, rs⟩ := id hZ))
          have hP := hP.to pa _ rfl hpl
          rw [HD.out] at hP
          have hZ := hZ.held (Held.set (B := w3.heap.size) (p := pp) (q := pp) w3 ⟨pp, 1, none⟩ (.int .i64 (pa : Int)) (.inl rfl)) (by omega) (by omega)
          obtain ⟨k0, k1, k2, k3⟩ := (hZ.set4 (a := .int .i64 0) (b := .int .i64 0) (c := .int .i64 0) (d := .slice none 0 0) rfl).s4
          have hh := fun B => set4_held (w3.setCell ⟨pp, 1, none⟩ (.int .i64 (pa : Int))) B w.heap.size (.int .i64 0) (.int .i64 0) (.int .i64 0) (.slice none 0 0)
          have hP5 := hP.off (hh w.heap.size) (Nat.le_refl _) (Nat.le_refl _)
          have k0 := cell_up' (alb _ (.cells #[.int .i64 1, .int .i64 pa, .int .i64 n, .slice ao3 out.length cap3] 90)) k0
          have k1 := cell_up' (alb _ (.cells #[.int .i64 1, .int .i64 pa, .int .i64 n, .slice ao3 out.length cap3] 90)) k1
          have k2 := cell_up' (alb _ (.cells #[.int .i64 1, .int .i64 pa, .int .i64 n, .slice ao3 out.length cap3] 90)) k2
          have k3 := cell_up' (alb _ (.cells #[.int .i64 1, .int .i64 pa, .int .i64 n, .slice ao3 out.length cap3] 90)) k3
          have hP5 := hP5.below (alb _ (.cells #[.int .i64 1, .int .i64 pa, .int .i64 n, .slice ao3 out.length cap3] 90))
          exact bodyPost_ret (v := .tuple #[.agg #[.int .i64 0, .int .i64 0, .int .i64 0, .slice none 0 0], .int .i64 4]) (by simp [results, Tryz.results44, go_sem, k0, k1, k2, k3]) rfl ⟨rfl, _, hP5⟩
      · have b1 : (k != 1) = true := by simp [hk]
        have b2 : (k == 1) = false := by simp [hk]
        have c3 : ¬ isN lo hi k n out = true := by unfold isN; simp [hk]
        rw [if_neg c3]
        clear c3 hk h0
        go_enter Tryz.func44, Tryz.ntmps44
        go_wp2_with (first | (go_at_call 72; (with_reducible refine (rtoken_q (TK_good _) hP.cx.fresh).mono ?_); rw [T1.out, HPA.out]; rintro e w3 ⟨u3, rfl, j3, hC3⟩; obtain ⟨ao3, cap3, rfl, -, -, -⟩ := Rd.own hC3.row; have hP := hP.step hC3; have hlo3 := hP.low.2; have hwy := hC3.size; have hZ := hZ.held hC3.held (by omega) (by omega); have hc1 := hP.cx.c1; have hf1 := hP.cx.f1; obtain ⟨rc, rf, rs⟩ := id hZ))
        have hP := hP.to pa _ rfl hpl
        rw [HD.out] at hP
        have hZ := hZ.held (Held.set (B := w3.heap.size) (p := pp) (q := pp) w3 ⟨pp, 1, none⟩ (.int .i64 (pa : Int)) (.inl rfl)) (by omega) (by omega)
        obtain ⟨k0, k1, k2, k3⟩ := (hZ.set4 (a := .int .i64 0) (b := .int .i64 0) (c := .int .i64 0) (d := .slice none 0 0) rfl).s4
        have hh := fun B => set4_held (w3.setCell ⟨pp, 1, none⟩ (.int .i64 (pa : Int))) B w.heap.size (.int .i64 0) (.int .i64 0) (.int .i64 0) (.slice none 0 0)
        have hP5 := hP.off (hh w.heap.size) (Nat.le_refl _) (Nat.le_refl _)
        have k0 := cell_up' (alb _ (.cells #[.int .i64 k, .int .i64 pa, .int .i64 n, .slice ao3 out.length cap3] 90)) k0
        have k1 := cell_up' (alb _ (.cells #[.int .i64 k, .int .i64 pa, .int .i64 n, .slice ao3 out.length cap3] 90)) k1
        have k2 := cell_up' (alb _ (.cells #[.int .i64 k, .int .i64 pa, .int .i64 n, .slice ao3 out.length cap3] 90)) k2
        have k3 := cell_up' (alb _ (.cells #[.int .i64 k, .int .i64 pa, .int .i64 n, .slice ao3 out.length cap3] 90)) k3
        have hP5 := hP5.below (alb _ (.cells #[.int .i64 k, .int .i64 pa, .int .i64 n, .slice ao3 out.length cap3] 90))
        exact bodyPost_ret (v := .tuple #[.agg #[.int .i64 0, .int .i64 0, .int .i64 0, .slice none 0 0], .int .i64 4]) (by simp [results, Tryz.results44, go_sem, k0, k1, k2, k3]) rfl ⟨rfl, _, hP5⟩

set_option maxHeartbeats 1600000 in
set_option maxRecDepth 100000 in
theorem rwant_word {q : Bool} {dp : Nat} {w : World} {pp : Nat} {b s : List UInt8} {i : Nat} (h : Pd q dp w w pp b i s) (p : List UInt8) :
    Calls Tryz.prog 44 #[.pointer (some ⟨pp, 0, none⟩), .int .i64 9, .string (st p), .int .i64 0, .int .i64 0] w fun e w' => RWQ q dp w pp b (want (isS p) s) e w' := by
  have hat := hid h.cx.at_
  have hP := h.below (alb w (.cells #[.int .i64 0, .int .i64 0, .int .i64 0, .slice none 0 0] 90))
  have hZ := C5.new w _ rfl [.int .i64 0, .int .i64 0, .int .i64 0, .slice none 0 0] 90
  have hlow := h.low.1
  have hbl := bl_le s false
  have hpl : i + bl s false ≤ b.length := by have := hat.out; omega
  have hdp : b.drop (i + bl s false) = s.drop (bl s false) := by rw [← h.cx.drp, List.drop_drop]
  clear h
  generalize hpa : i + bl s false = pa at hpl hdp
  have HPA := hid hpa
  have HD := hid hdp
  clear hpa hdp hbl
  have hc1 := hP.cx.c1
  have hf1 := hP.cx.f1
  have hsp := st_toList p
  cases hT : TK s with
  | bad x =>
    have bx := TK_err hT
    have bx' : (x != 0) = true := by simp only [bne, bx]; rfl
    have e1 : want (isS p) s = .bad x (s.drop (bl s false)) := by unfold want; rw [hT]
    rw [e1]
    have T1 := hid hT
    clear hT e1
    go_enter Tryz.func44, Tryz.ntmps44
    go_wp2_with (first | (go_at_call 72; (with_reducible refine (rtoken_q (TK_good _) hP.cx.fresh).mono ?_); rw [T1.out, HPA.out]; rintro e w3 ⟨rfl, hC3⟩; have hP := hP.step hC3; have hlo3 := hP.low.2; have hwy := hC3.size; have hZ := hZ.held hC3.held (by omega) (by omega); have hc1 := hP.cx.c1; have hf1 := hP.cx.f1; obtain ⟨rc, rf, rs⟩ := id hZ))
    obtain ⟨k0, k1, k2, k3⟩ := (hZ.set4 (a := .int .i64 0) (b := .int .i64 0) (c := .int .i64 0) (d := .slice none 0 0) rfl).s4
    have hh := fun B => set4_held w3 B w.heap.size (.int .i64 0) (.int .i64 0) (.int .i64 0) (.slice none 0 0)
    have hP5 := hP.off (hh w.heap.size) (Nat.le_refl _) (Nat.le_refl _)
    have k0 := cell_up' (alb _ (.cells #[.int .i64 0, .int .i64 pa, .int .i64 0, .slice none 0 0] 90)) k0
    have k1 := cell_up' (alb _ (.cells #[.int .i64 0, .int .i64 pa, .int .i64 0, .slice none 0 0] 90)) k1
    have k2 := cell_up' (alb _ (.cells #[.int .i64 0, .int .i64 pa, .int .i64 0, .slice none 0 0] 90)) k2
    have k3 := cell_up' (alb _ (.cells #[.int .i64 0, .int .i64 pa, .int .i64 0, .slice none 0 0] 90)) k3
    have hP5 := hP5.below (alb _ (.cells #[.int .i64 0, .int .i64 pa, .int .i64 0, .slice none 0 0] 90))
    rw [HD.out] at hP5
    exact bodyPost_ret (v := .tuple #[.agg #[.int .i64 0, .int .i64 0, .int .i64 0, .slice none 0 0], .int .i64 x]) (by simp [results, Tryz.results44, go_sem, k0, k1, k2, k3]) rfl ⟨rfl, _, hP5⟩
  | tok k n out r =>
    have hst := st_toList out
    by_cases h0 : k = 0
    · subst h0
      have e1 : want (isS p) s = .bad 2 (s.drop (bl s false)) := by unfold want; rw [hT]; simp
      rw [e1]
      have T1 := hid hT
      clear hT e1
      go_enter Tryz.func44, Tryz.ntmps44
      go_wp2_with (first | (go_at_call 72; (with_reducible refine (rtoken_q (TK_good _) hP.cx.fresh).mono ?_); rw [T1.out, HPA.out]; rintro e w3 ⟨u3, rfl, j3, hC3⟩; obtain ⟨ao3, cap3, rfl, -, -, -⟩ := Rd.own hC3.row; have hP := hP.step hC3; have hlo3 := hP.low.2; have hwy := hC3.size; have hZ := hZ.held hC3.held (by omega) (by omega); have hc1 := hP.cx.c1; have hf1 := hP.cx.f1; obtain ⟨rc, rf, rs⟩ := id hZ))
      have hP := hP.to pa _ rfl hpl
      rw [HD.out] at hP
      have hZ := hZ.held (Held.set (B := w3.heap.size) (p := pp) (q := pp) w3 ⟨pp, 1, none⟩ (.int .i64 (pa : Int)) (.inl rfl)) (by omega) (by omega)
      obtain ⟨k0, k1, k2, k3⟩ := (hZ.set4 (a := .int .i64 0) (b := .int .i64 0) (c := .int .i64 0) (d := .slice none 0 0) rfl).s4
      have hh := fun B => set4_held (w3.setCell ⟨pp, 1, none⟩ (.int .i64 (pa : Int))) B w.heap.size (.int .i64 0) (.int .i64 0) (.int .i64 0) (.slice none 0 0)
      have hP5 := hP.off (hh w.heap.size) (Nat.le_refl _) (Nat.le_refl _)
      have k0 := cell_up' (alb _ (.cells #[.int .i64 0, .int .i64 pa, .int .i64 n, .slice ao3 out.length cap3] 90)) k0
      have k1 := cell_up' (alb _ (.cells #[.int .i64 0, .int .i64 pa, .int .i64 n, .slice ao3 out.length cap3] 90)) k1
      have k2 := cell_up' (alb _ (.cells #[.int .i64 0, .int .i64 pa, .int .i64 n, .slice ao3 out.length cap3] 90)) k2
      have k3 := cell_up' (alb _ (.cells #[.int .i64 0, .int .i64 pa, .int .i64 n, .slice ao3 out.length cap3] 90)) k3
      have hP5 := hP5.below (alb _ (.cells #[.int .i64 0, .int .i64 pa, .int .i64 n, .slice ao3 out.length cap3] 90))
      exact bodyPost_ret (v := .tuple #[.agg #[.int .i64 0, .int .i64 0, .int .i64 0, .slice none 0 0], .int .i64 2]) (by simp [results, Tryz.results44, go_sem, k0, k1, k2, k3]) rfl ⟨rfl, _, hP5⟩
    · have b0 : (k == 0) = false := by simp [h0]
      have e1 : want (isS p) s = if isS p k n out = true then .ok n r else .bad 4 (s.drop (bl s false)) := by unfold want; rw [hT]; simp [h0]
      rw [e1]
      have T1 := hid hT
      clear hT e1
      by_cases hk : k = 9
      · subst hk
        clear h0
        by_cases h1 : out = p
        · subst h1
          have c3 : isS out 9 n out = true := by unfold isS; simp
          rw [if_pos c3]
          clear c3
          go_enter Tryz.func44, Tryz.ntmps44
          go_wp2_with (first | (go_at_call 72; (with_reducible refine (rtoken_q (TK_good _) hP.cx.fresh).mono ?_); rw [T1.out, HPA.out]; rintro e w3 ⟨u3, rfl, j3, hC3⟩; obtain ⟨ao3, cap3, rfl, -, -, -⟩ := Rd.own hC3.row; have hP := hP.step hC3; have hlo3 := hP.low.2; have hwy := hC3.size; have hZ := hZ.held hC3.held (by omega) (by omega); have hc1 := hP.cx.c1; have hf1 := hP.cx.f1; obtain ⟨rc, rf, rs⟩ := id hZ; have hS3 := Sl.own hC3.row; have hcv : ∀ o : Obj, (convert 22 9 (.slice ao3 out.length cap3)).run Tryz.prog (w3.alloc o) = .ok (.string (st out)) (w3.alloc o) := fun o => sl_string (P := Tryz.prog) (w3.alloc o) 22 9 5 Tryz.underlying22 (by kernel_rfl) (by kernel_rfl) _ _ (hS3.up (alb _ _))))
          obtain ⟨k0, k1, k2, k3⟩ := (hZ.set4 (a := .int .i64 9) (b := .int .i64 pa) (c := .int .i64 n) (d := .slice ao3 out.length cap3) rfl).s4
          have hh := fun B => set4_held w3 B w.heap.size (.int .i64 9) (.int .i64 pa) (.int .i64 n) (.slice ao3 out.length cap3)
          have hP5 := hP.off (hh w.heap.size) (Nat.le_refl _) (Nat.le_refl _)
          have k0 := cell_up' (alb _ (.cells #[.int .i64 9, .int .i64 pa, .int .i64 n, .slice ao3 out.length cap3] 90)) k0
          have k1 := cell_up' (alb _ (.cells #[.int .i64 9, .int .i64 pa, .int .i64 n, .slice ao3 out.length cap3] 90)) k1
          have k2 := cell_up' (alb _ (.cells #[.int .i64 9, .int .i64 pa, .int .i64 n, .slice ao3 out.length cap3] 90)) k2
          have k3 := cell_up' (alb _ (.cells #[.int .i64 9, .int .i64 pa, .int .i64 n, .slice ao3 out.length cap3] 90)) k3
          have hP5 := hP5.below (alb _ (.cells #[.int .i64 9, .int .i64 pa, .int .i64 n, .slice ao3 out.length cap3] 90))
          exact bodyPost_ret (v := .tuple #[.agg #[.int .i64 9, .int .i64 pa, .int .i64 n, .slice ao3 out.length cap3], .int .i64 0]) (by simp [results, Tryz.results44, go_sem, k0, k1, k2, k3]) rfl ⟨_, _, _, _, _, rfl, _, hP5⟩
        · have c1 : (out == p) = false := beq_eq_false_iff_ne.2 h1
          have c2 : (out != p) = true := by simp [h1]
          have c3 : ¬ isS p 9 n out = true := by unfold isS; simp [h1]
          rw [if_neg c3]
          clear c3 h1
          go_enter Tryz.func44, Tryz.ntmps44
          go_wp2_with (first | (go_at_call 72; (with_reducible refine (rtoken_q (TK_good _) hP.cx.fresh).mono ?_); rw [T1.out, HPA.out]; rintro e w3 ⟨u3, rfl, j3, hC3⟩; obtain ⟨ao3, cap3, rfl, -, -, -⟩ := Rd.own hC3.row; have hP := hP.step hC3; have hlo3 := hP.low.2; have hwy := hC3.size; have hZ := hZ.held hC3.held (by omega) (by omega); have hc1 := hP.cx.c1; have hf1 := hP.cx.f1; obtain ⟨rc, rf, rs⟩ := id hZ; have hS3 := Sl.own hC3.row; have hcv : ∀ o : Obj, (convert 22 9 (.slice ao3 out.length cap3)).run Tryz.prog (w3.alloc o) = .ok (.string (st out)) (w3.alloc o) := fun o => sl_string (P := Tryz.prog) (w3.alloc o) 22 9 5 Tryz.underlying22 (by kernel_rfl) (by kernel_rfl) _ _ (hS3.up (alb _ _))))
          have hP := hP.to pa _ rfl hpl
          rw [HD.out] at hP
          have hZ := hZ.held (Held.set (B := w3.heap.size) (p := pp) (q := pp) w3 ⟨pp, 1, none⟩ (.int .i64 (pa : Int)) (.inl rfl)) (by omega) (by omega)
          obtain ⟨k0, k1, k2, k3⟩ := (hZ.set4 (a := .int .i64 0) (b := .int .i64 0) (c := .int .i64 0) (d := .slice none 0 0) rfl).s4
          have hh := fun B => set4_held (w3.setCell ⟨pp, 1, none⟩ (.int .i64 (pa : Int))) B w.heap.size (.int .i64 0) (.int .i64 0) (.int .i64 0) (.slice none 0 0)
          have hP5 := hP.off (hh w.heap.size) (Nat.le_refl _) (Nat.le_refl _)
          have k0 := cell_up' (alb _ (.cells #[.int .i64 9, .int .i64 pa, .int .i64 n, .slice ao3 out.length cap3] 90)) k0
          have k1 := cell_up' (alb _ (.cells #[.int .i64 9, .int .i64 pa, .int .i64 n, .slice ao3 out.length cap3] 90)) k1
          have k2 := cell_up' (alb _ (.cells #[.int .i64 9, .int .i64 pa, .int .i64 n, .slice ao3 out.length cap3] 90)) k2
          have k3 := cell_up' (alb _ (.cells #[.int .i64 9, .int .i64 pa, .int .i64 n, .slice ao3 out.length cap3] 90)) k3
          have hP5 := hP5.below (alb _ (.cells #[.int .i64 9, .int .i64 pa, .int .i64 n, .slice ao3 out.length cap3] 90))
          exact bodyPost_ret (v := .tuple #[.agg #[.int .i64 0, .int .i64 0, .int .i64 0, .slice none 0 0], .int .i64 4]) (by simp [results, Tryz.results44, go_sem, k0, k1, k2, k3]) rfl ⟨rfl, _, hP5⟩
      · have b1 : (k != 9) = true := by simp [hk]
        have b2 : (k == 9) = false := by simp [hk]
        have c3 : ¬ isS p k n out = true := by unfold isS; simp [hk]
        rw [if_neg c3]
        clear c3 hk h0
        go_enter Tryz.func44, Tryz.ntmps44
        go_wp2_with (first | (go_at_call 72; (with_reducible refine (rtoken_q (TK_good _) hP.cx.fresh).mono ?_); rw [T1.out, HPA.out]; rintro e w3 ⟨u3, rfl, j3, hC3⟩; obtain ⟨ao3, cap3, rfl, -, -, -⟩ := Rd.own hC3.row; have hP := hP.step hC3; have hlo3 := hP.low.2; have hwy := hC3.size; have hZ := hZ.held hC3.held (by omega) (by omega); have hc1 := hP.cx.c1; have hf1 := hP.cx.f1; obtain ⟨rc, rf, rs⟩ := id hZ; have hS3 := Sl.own hC3.row; have hcv : ∀ o : Obj, (convert 22 9 (.slice ao3 out.length cap3)).run Tryz.prog (w3.alloc o) = .ok (.string (st out)) (w3.alloc o) := fun o => sl_string (P := Tryz.prog) (w3.alloc o) 22 9 5 Tryz.underlying22 (by kernel_rfl) (by kernel_rfl) _ _ (hS3.up (alb _ _))))
        have hP := hP.to pa _ rfl hpl
        rw [HD.out] at hP
        have hZ := hZ.held (Held.set (B := w3.heap.size) (p := pp) (q := pp) w3 ⟨pp, 1, none⟩ (.int .i64 (pa : Int)) (.inl rfl)) (by omega) (by omega)
        obtain ⟨k0, k1, k2, k3⟩ := (hZ.set4 (a := .int .i64 0) (b := .int .i64 0) (c := .int .i64 0) (d := .slice none 0 0) rfl).s4
        have hh := fun B => set4_held (w3.setCell ⟨pp, 1, none⟩ (.int .i64 (pa : Int))) B w.heap.size (.int .i64 0) (.int .i64 0) (.int .i64 0) (.slice none 0 0)
        have hP5 := hP.off (hh w.heap.size) (Nat.le_refl _) (Nat.le_refl _)
        have k0 := cell_up' (alb _ (.cells #[.int .i64 k, .int .i64 pa, .int .i64 n, .slice ao3 out.length cap3] 90)) k0
        have k1 := cell_up' (alb _ (.cells #[.int .i64 k, .int .i64 pa, .int .i64 n, .slice ao3 out.length cap3] 90)) k1
        have k2 := cell_up' (alb _ (.cells #[.int .i64 k, .int .i64 pa, .int .i64 n, .slice ao3 out.length cap3] 90)) k2
        have k3 := cell_up' (alb _ (.cells #[.int .i64 k, .int .i64 pa, .int .i64 n, .slice ao3 out.length cap3] 90)) k3
        have hP5 := hP5.below (alb _ (.cells #[.int .i64 k, .int .i64 pa, .int .i64 n, .slice ao3 out.length cap3] 90))
        exact bodyPost_ret (v := .tuple #[.agg #[.int .i64 0, .int .i64 0, .int .i64 0, .slice none 0 0], .int .i64 4]) (by simp [results, Tryz.results44, go_sem, k0, k1, k2, k3]) rfl ⟨rfl, _, hP5⟩

set_option maxHeartbeats 1600000 in
set_option maxRecDepth 100000 in
theorem rwhole_w {q : Bool} {dp : Nat} {w : World} {pp : Nat} {b s : List UInt8} {i : Nat} (h : Pd q dp w w pp b i s) (lo hi : Int) :
    Calls Tryz.prog 22 #[.pointer (some ⟨pp, 0, none⟩), .int .i64 lo, .int .i64 hi] w fun e w' => RNQ q dp w pp b (wantN lo hi s) e w' := by
  have hP := h
  clear h
  generalize hR : wantN lo hi s = R
  have HR := hid (show want (isN lo hi) s = R from hR)
  clear hR
  rcases R with ⟨x, t⟩ | ⟨n, r⟩
  · go_enter Tryz.func22, Tryz.ntmps22
    go_wp2_with (go_at_call 44; refine (rwant_num hP.fresh lo hi).mono ?_; rw [HR.out]; rintro e w5 ⟨rfl, j, hPs⟩)
    exact bodyPost_ret (v := .tuple #[.int .i64 0, .int .i64 x]) (by simp [results, Tryz.results22, go_sem]) rfl ⟨rfl, _, hPs.below (alb _ _)⟩
  · go_enter Tryz.func22, Tryz.ntmps22
    go_wp2_with (go_at_call 44; refine (rwant_num hP.fresh lo hi).mono ?_; rw [HR.out]; rintro e w5 ⟨k, a, ao, nl, cap, rfl, j, hPs⟩)
    exact bodyPost_ret (v := .tuple #[.int .i64 n, .int .i64 0]) (by simp [results, Tryz.results22, go_sem]) rfl ⟨rfl, _, hPs.below (alb _ _)⟩

set_option maxHeartbeats 1600000 in
set_option maxRecDepth 100000 in
theorem rword_w {q : Bool} {dp : Nat} {w : World} {pp : Nat} {b s : List UInt8} {i : Nat} (h : Pd q dp w w pp b i s) (p : List UInt8) :
    Calls Tryz.prog 23 #[.pointer (some ⟨pp, 0, none⟩), .string (st p)] w fun e w' => RSQ q dp w pp b (wantS p s) e w' := by
  have hP := h
  clear h
  generalize hR : wantS p s = R
  have HR := hid (show want (isS p) s = R from hR)
  clear hR
  rcases R with ⟨x, t⟩ | ⟨n, r⟩
  · go_enter Tryz.func23, Tryz.ntmps23
    go_wp2_with (go_at_call 44; refine (rwant_word hP.fresh p).mono ?_; rw [HR.out]; rintro e w5 ⟨rfl, j, hPs⟩)
    go_ret
    exact ⟨rfl, _, hPs.below (alb _ _)⟩
  · go_enter Tryz.func23, Tryz.ntmps23
    go_wp2_with (go_at_call 44; refine (rwant_word hP.fresh p).mono ?_; rw [HR.out]; rintro e w5 ⟨k, a, ao, nl, cap, rfl, j, hPs⟩)
    go_ret
    exact ⟨rfl, _, hPs.below (alb _ _)⟩
end Go.Proofs.YtlmgklebikcbjaaGreat

/-
  The document's Has, Get of a dictionary, Drop of one key. Conditions: rows no longer than a million.
-/
namespace Go.Proofs.YtlmgklebikcbjaaGreat
open Go.RowKit
set_option linter.unusedVariables false

theorem rhas_any (k n : Int) (b l d : Option Addr) (nb cb nl cl nd cd : Nat) (w : World) :
    Calls Tryz.prog 79 #[.agg #[.int .i64 k, .int .i64 n, .slice b nb cb, .slice l nl cl, .slice d nd cd]] w fun e w' => e = .returned (.bool (k == 7 || k == 8)) ∧ Below w.heap.size w w' := by
  by_cases h7 : k = 7
  · subst h7
    go_enter Tryz.func79, Tryz.ntmps79
    go_wp2
    go_ret
    exact ⟨rfl, alb _ _⟩
  · have b7 : (k == 7) = false := by simp [h7]
    rw [b7]
    go_enter Tryz.func79, Tryz.ntmps79
    go_wp2
    go_ret
    exact ⟨by simp, alb _ _⟩

set_option maxHeartbeats 1600000 in
set_option maxRecDepth 100000 in
theorem rget_any {A : Nat → Prop} {w : World} {n : Int} {b : List UInt8} {l : List PO} {d : List (List UInt8 × PO)} {vs : List Value} (key : List UInt8) (h : OV A w vs (.mk 7 n b l d)) (hz : d.length ≤ 900000) :
    Calls Tryz.prog 50 #[.agg vs.toArray, .string (st key)] w fun e w' => ∃ vs' : List Value, e = .returned (.agg vs'.toArray) ∧ OV (fun g => w.heap.size ≤ g ∧ g < w'.heap.size) w' vs' (getE key d) ∧ Below w.heap.size w w' := by
  obtain ⟨o1, o3, o4, o6, o7, o9, rfl⟩ := h.shape
  obtain ⟨D, hD, hS⟩ := h.ents
  have hDl : D.length = d.length := All2.len hD
  have hO0 := (C5.new w _ rfl [.int .i64 7, .int .i64 n, .slice o1 b.length o3, .slice o4 l.length o6, .slice o7 d.length o9] 31).up (alb _ (.cells #[.int .i64 0, .int .i64 0, .slice none 0 0, .slice none 0 0, .slice none 0 0] 31))
  have hZ0 := C5.new (w.alloc (.cells #[.int .i64 7, .int .i64 n, .slice o1 b.length o3, .slice o4 l.length o6, .slice o7 d.length o9] 31)) (w.heap.size + 1) (by simp) [.int .i64 0, .int .i64 0, .slice none 0 0, .slice none 0 0, .slice none 0 0] 31
  have hWW := below_then (alb w (.cells #[.int .i64 7, .int .i64 n, .slice o1 b.length o3, .slice o4 l.length o6, .slice o7 d.length o9] 31)) (alb _ (.cells #[.int .i64 0, .int .i64 0, .slice none 0 0, .slice none 0 0, .slice none 0 0] 31))
  clear h
  go_enter Tryz.func50, Tryz.ntmps50
  go_wp2_with (first | (go_at_call 79; refine (rhas_any _ _ _ _ _ _ _ _ _ _ _ _).mono ?_; rintro e w3 ⟨rfl, hb3⟩; have hO := hO0.up hb3; have hZ := hZ0.up hb3; have hW := below_then hWW hb3; obtain ⟨oc, of_, os⟩ := id hO; obtain ⟨rc, rf, rs⟩ := id hZ))
  have HS := hid ((hS.up hW))
  have HD := hid hD
  clear hS hD oc of_ os rc rf rs hO0 hZ0
  have hwz : w.heap.size + 1 < w3.heap.size := hZ.2.2
  go_loopw [5] (fun s5 wr => ∃ i : Nat, s5 = .int .i64 i ∧ i ≤ d.length ∧ Below w3.heap.size w3 wr ∧ getE key d = getE key (d.drop i)) (fun s5 _ => d.length - (intOf s5).toNat)
  case atStart => exact ⟨0, rfl, Nat.zero_le _, Below.refl _ _, by rw [List.drop_zero]⟩
  case round =>
    obtain ⟨i, rfl, hi, hb, hge⟩ := hrel
    have hOr := hO.up hb
    have hZr := hZ.up hb
    have hWr := hW.trans (hb.mono hW.size)
    by_cases hlt : i < d.length
    · have hiz : (i : Int) < (d.length : Int) := by omega
      obtain ⟨g, off, rfl, hcell⟩ := (HS.out.up hb).some (by omega)
      have l2 := hcell i (by rw [List.length_map]; omega)
      rw [List.getElem_map] at l2
      obtain ⟨hkk, hov⟩ := HD.out.at i (by omega) hlt
      have hv5 := hov.v5
      have HDR := hid (show d.drop i = d[i] :: d.drop (i + 1) from (List.getElem_cons_drop hlt).symm)
      clear hcell
      generalize d[i] = e2 at hkk hov HDR
      generalize D[i]'(by omega) = di at l2 hkk hv5 hov
      obtain ⟨kk, vv⟩ := di
      obtain ⟨ke, oe⟩ := e2
      obtain rfl : kk = ke := hkk
      have hcp := fun W (hW : Below w.heap.size w W) => rcopyO_any (hov.up hW)
      have HCP := hid hcp
      obtain ⟨p1, p2, p3, p4, p5, p6, p7, p8, p9, p10, p11, rfl⟩ := hv5
      have q0 := l2 0 _ rfl
      have q1 := l2 1 _ rfl
      have q2 := l2 2 _ rfl
      have q3 := l2 3 _ rfl
      have q4 := l2 4 _ rfl
      have q5 := l2 5 _ rfl
      rw [Nat.add_zero] at q0
      have HGE := hid hge
      clear l2 hov hcp hge
      have hsk := st_toList kk
      have hsy := st_toList key
      by_cases hkq : kk = key
      · subst hkq
        have HG2 := hid (show getE kk d = oe by rw [HGE.out, HDR.out, getE, if_pos rfl])
        obtain ⟨rc, rf, rs⟩ := id hZr
        obtain ⟨oc, of_, os⟩ := id hOr
        go_wp2_with (go_at_call 80; refine (HCP.out _ hWr).mono ?_; rintro e w5 ⟨vs5, rfl, hov5, hb5⟩; have hZ5 := hZr.up hb5; obtain ⟨rc, rf, rs⟩ := id hZ5; have hV5 := hov5.v5; have hov5 := hid hov5; obtain ⟨y1, y2, y3, y4, y5, y6, y7, y8, y9, y10, y11, rfl⟩ := hV5)
        obtain ⟨k0, k1, k2, k3, k4⟩ := (hZ5.set5 (a := .int .i64 y1) (b := .int .i64 y2) (c := .slice y3 y6 y7) (d := .slice y4 y8 y9) (e := .slice y5 y10 y11) rfl).s5
        have hh := fun B => set5_held w5 B (w.heap.size + 1) (.int .i64 y1) (.int .i64 y2) (.slice y3 y6 y7) (.slice y4 y8 y9) (.slice y5 y10 y11)
        have hB5 := below_then hWr hb5
        have hzr := hb.size
        refine bodyPost_ret (v := .agg #[.int .i64 y1, .int .i64 y2, .slice y3 y6 y7, .slice y4 y8 y9, .slice y5 y10 y11]) (by simp [results, Tryz.results50, go_sem, k0, k1, k2, k3, k4]) rfl ⟨[.int .i64 y1, .int .i64 y2, .slice y3 y6 y7, .slice y4 y8 y9, .slice y5 y10 y11], rfl, ?_, hB5.trans ((hh w5.heap.size).below hB5.size (by omega) (by omega))⟩
        rw [HG2.out]
        exact hov5.out.keep (fun g hg => ⟨by have := hg.1; omega, Nat.lt_of_lt_of_le hg.2 (hh 0).size⟩) (fun g hg h1 => (hh w5.heap.size).block g h1 (by have := hg.1; omega) (by have := hg.1; omega))
      · have hbq : (kk == key) = false := beq_eq_false_iff_ne.2 hkq
        have HG2 := hid (show getE key d = getE key (d.drop (i + 1)) by rw [HGE.out, HDR.out, getE, if_neg hkq])
        obtain ⟨oc, of_, os⟩ := id hOr
        go_wp2
        go_roundw
        case rel => exact ⟨i + 1, by go_num, by omega, hb, HG2.out⟩
        case measure => simp [intOf]; omega
    · obtain rfl : i = d.length := by omega
      have hiz : ¬ (d.length : Int) < (d.length : Int) := by omega
      have HG2 := hid (show getE key d = poNull by rw [hge, List.drop_length]; rfl)
      clear hge
      obtain ⟨rc, rf, rs⟩ := id hZr
      obtain ⟨oc, of_, os⟩ := id hOr
      go_wp2
      obtain ⟨k0, k1, k2, k3, k4⟩ := (hZr.set5 (a := .int .i64 0) (b := .int .i64 0) (c := .slice none 0 0) (d := .slice none 0 0) (e := .slice none 0 0) rfl).s5
      have hh := fun B => set5_held wr B (w.heap.size + 1) (.int .i64 0) (.int .i64 0) (.slice none 0 0) (.slice none 0 0) (.slice none 0 0)
      refine bodyPost_ret (v := .agg #[.int .i64 0, .int .i64 0, .slice none 0 0, .slice none 0 0, .slice none 0 0]) (by simp [results, Tryz.results50, go_sem, k0, k1, k2, k3, k4]) rfl ⟨[.int .i64 0, .int .i64 0, .slice none 0 0, .slice none 0 0, .slice none 0 0], rfl, ?_, hWr.trans ((hh wr.heap.size).below hWr.size (by omega) (by omega))⟩
      rw [HG2.out]
      exact OV.num 0 0

set_option maxHeartbeats 3200000 in
set_option maxRecDepth 100000 in
theorem rdrop_any {A : Nat → Prop} {w : World} {n : Int} {b : List UInt8} {l : List PO} {d : List (List UInt8 × PO)} {vs : List Value} (key : List UInt8) {vk : Value} (hk : SlX 1 w vk [[.string (st key)]]) (h : OV A w vs (.mk 7 n b l d)) (hz : d.length ≤ 800000) :
    Calls Tryz.prog 51 #[.agg vs.toArray, vk] w fun e w' => ∃ vs' : List Value, e = .returned (.agg vs'.toArray) ∧ OV (fun g => w.heap.size ≤ g ∧ g < w'.heap.size) w' vs' (.mk 7 n b l (wi (key, poNull) d)) ∧ Below w.heap.size w w' := by
  obtain ⟨o1, o3, o4, o6, o7, o9, rfl⟩ := h.shape
  obtain ⟨ak, ck, rfl, s1, s2, s3, s4, s5⟩ := id hk
  have hO0 := (C5.new w _ rfl [.int .i64 7, .int .i64 n, .slice o1 b.length o3, .slice o4 l.length o6, .slice o7 d.length o9] 31).up (alb _ (.cells #[.int .i64 0, .int .i64 0, .slice none 0 0, .slice none 0 0, .slice none 0 0] 31))
  have hZ0 := C5.new (w.alloc (.cells #[.int .i64 7, .int .i64 n, .slice o1 b.length o3, .slice o4 l.length o6, .slice o7 d.length o9] 31)) (w.heap.size + 1) (by simp) [.int .i64 0, .int .i64 0, .slice none 0 0, .slice none 0 0, .slice none 0 0] 31
  have hWW := below_then (alb w (.cells #[.int .i64 7, .int .i64 n, .slice o1 b.length o3, .slice o4 l.length o6, .slice o7 d.length o9] 31)) (alb _ (.cells #[.int .i64 0, .int .i64 0, .slice none 0 0, .slice none 0 0, .slice none 0 0] 31))
  obtain ⟨gk, offk, rfl, hck⟩ := hk.some (by simp)
  have HCK := hid (hck 0 (by simp) 0 _ rfl)
  have hsz2 : ((w.alloc (.cells #[.int .i64 7, .int .i64 n, .slice o1 b.length o3, .slice o4 l.length o6, .slice o7 d.length o9] 31)).alloc (.cells #[.int .i64 0, .int .i64 0, .slice none 0 0, .slice none 0 0, .slice none 0 0] 31)).heap.size = w.heap.size + 2 := by simp
  have HCP := hid (rcopyO_any (h.up hWW))
  clear hck s5
  obtain ⟨oc, of_, os⟩ := id hO0
  go_enter Tryz.func51, Tryz.ntmps51
  go_upto_region 3 with (first | (go_at_call 79; refine (rhas_any _ _ _ _ _ _ _ _ _ _ _ _).mono ?_; rintro e w4 ⟨rfl, hb4⟩) | (go_at_call 80; refine HCP.out.mono ?_; rintro e w3 ⟨vs3, rfl, hov3, hb3⟩; have hO3 := (hO0.up hb3).up (alb w3 (.cells vs3.toArray 31)); obtain ⟨oc, of_, os⟩ := id hO3; obtain ⟨y1, y3, y4, y6, y7, y9, rfl⟩ := hov3.shape))
  have hX4 := (C5.new w3 _ rfl [.int .i64 7, .int .i64 n, .slice y1 b.length y3, .slice y4 l.length y6, .slice y7 d.length y9] 31).up hb4
  have hW4 := (below_then (below_then hWW hb3) (alb w3 (.cells #[.int .i64 7, .int .i64 n, .slice y1 b.length y3, .slice y4 l.length y6, .slice y7 d.length y9] 31))).trans (hb4.mono (below_then (below_then hWW hb3) (alb w3 (.cells #[.int .i64 7, .int .i64 n, .slice y1 b.length y3, .slice y4 l.length y6, .slice y7 d.length y9] 31))).size)
  have hZ4 := ((hZ0.up hb3).up (alb w3 (.cells #[.int .i64 7, .int .i64 n, .slice y1 b.length y3, .slice y4 l.length y6, .slice y7 d.length y9] 31))).up hb4
  have hov4 := (hov3.up (alb w3 (.cells #[.int .i64 7, .int .i64 n, .slice y1 b.length y3, .slice y4 l.length y6, .slice y7 d.length y9] 31))).up hb4
  have hs3 := hb3.size
  have hs4 := hb4.size
  have hs34 : (w3.alloc (.cells #[.int .i64 7, .int .i64 n, .slice y1 b.length y3, .slice y4 l.length y6, .slice y7 d.length y9] 31)).heap.size = w3.heap.size + 1 := by simp
  clear hO0 hZ0 hov3 HCP hO3 oc of_ os hb3 hb4 hWW
  generalize w3.heap.size = g3 at *
  have hg3 : w.heap.size + 2 ≤ g3 := by omega
  have HOV := hid (show OV (fun g => w.heap.size + 2 ≤ g ∧ g < g3) w4 [.int .i64 7, .int .i64 n, .slice y1 b.length y3, .slice y4 l.length y6, .slice y7 d.length y9] (.mk 7 n b l d) from hov4.keep (fun g hg => ⟨by have := hg.1; omega, hg.2⟩) (fun _ _ _ => rfl))
  obtain ⟨D, hD, hS⟩ := hov4.ents
  have HD := hid (show EVs (fun g => w.heap.size + 2 ≤ g ∧ g < g3) w4 D d from hD.keep (fun g hg => ⟨by have := hg.1; omega, hg.2⟩) (fun _ _ _ => rfl))
  have HS := hid hS
  have hck := cell_up' hW4 HCK.out
  have hzk := World.block_lt_of_cell? _ _ hck
  rw [show offk + 0 * 1 + 0 = offk by omega] at hck
  have hgk : gk < w.heap.size := World.block_lt_of_cell? _ _ HCK.out
  clear hov4 hD hS hs3 hs34
  go_wp2
  go_loopw [6] (fun s6 wr => (s6 = .int .i64 0 ∧ wr = w4) ∨ (s6 = .int .i64 1 ∧ ∃ a9 k9 c9, C5 wr g3 [.int .i64 7, .int .i64 n, .slice y1 b.length y3, .slice y4 l.length y6, .slice a9 k9 c9] ∧ OV (fun g => w.heap.size + 2 ≤ g ∧ g < wr.heap.size ∧ g ≠ g3) wr [.int .i64 7, .int .i64 n, .slice y1 b.length y3, .slice y4 l.length y6, .slice a9 k9 c9] (.mk 7 n b l (wi (key, poNull) d)) ∧ Below w.heap.size w wr ∧ C5 wr (w.heap.size + 1) [.int .i64 0, .int .i64 0, .slice none 0 0, .slice none 0 0, .slice none 0 0])) (fun s6 _ => 1 - (intOf s6).toNat)
  case atStart => exact .inl ⟨rfl, rfl⟩
  case round =>
    rcases hrel with ⟨rfl, rfl⟩ | ⟨rfl, a9, k9, c9, hX9, hov9, hW9, hZ9⟩
    · obtain ⟨xc, xf, xs⟩ := id hX4
      have hbd : Below wr.heap.size wr wr.drew := below_drewN (Below.refl _ _) 1
      have HWI := hid (with_any (A := fun g => w.heap.size + 2 ≤ g ∧ g < g3) (w := wr.drew) (D := D) key (fun g hg => by have := hg.2; have := hbd.size; have := hX4.2.2; omega) (HD.out.keep (fun _ h => h) (fun g _ hlt => hbd.block g hlt)) (HS.out.up hbd) (OV.num (w := wr.drew) 0 0) (by omega))
      have HNE := hid (show gk ≠ g3 from by omega)
      go_upto_region 6 with fail
      have hlv : opLd 29 (Operand.tmp 17) = Op.load 29 (Operand.tmp 17) := rfl
      rw [← hlv]
      go_region_held3 (fun w' => w'.cell? ⟨gk, offk, none⟩ = some (.string (st key))) (first | go_keep | with_reducible exact hck | with_reducible exact hck9 | (rw [cset_ne (fun q => HNE.out (by injection q with q1 _; exact q1.symm))]; exact hck9) | skip) (first | (go_at_call 81; (with_reducible refine HWI.out.mono ?_); rintro e w9 ⟨v9, rfl, E9, hrow9, hE9, hb9⟩; obtain ⟨a9, c9, hv9⟩ := hrow9.lin; rw [List.length_map] at hv9; subst hv9; have hX9 := (hX4.up hbd).up hb9; have hck9 := cell_up' hb9 (cell_up' hbd hck); obtain ⟨xc, xf, xs⟩ := id hX9))
      all_goals
        go_wp2_with fail
        have hS := fun B => Held.set (B := B) (p := g3) (q := g3) w9 ⟨g3, 4, none⟩ (.slice a9 E9.length c9) (.inl rfl)
        have hsd := hbd.size
        have hs9 := hb9.size
        have hgx := hX4.2.2
        have hwl := wi_len (key, poNull) d
        have hov9 : OV (fun g => w.heap.size + 2 ≤ g ∧ g < w9.heap.size ∧ g ≠ g3) w9 [.int .i64 7, .int .i64 n, .slice y1 b.length y3, .slice y4 l.length y6, .slice y7 d.length y9] (.mk 7 n b l d) := HOV.out.keep (fun g hg => ⟨hg.1, by have := hg.2; omega, by have := hg.2; omega⟩) (fun g hg hlt => (hb9.block g (Nat.lt_of_lt_of_le hlt hsd)).trans (hbd.block g hlt))
        have hr9 := hrow9.row (A := fun g => w.heap.size + 2 ≤ g ∧ g < w9.heap.size ∧ g ≠ g3) (fun g h1 h2 => ⟨by omega, h2, by omega⟩)
        rw [List.length_map] at hr9
        have hset := hov9.setD hr9 (hE9.keep (fun g hg => by rcases hg with hg | hg <;> (have := hg.1; have := hg.2; exact ⟨by omega, by omega, by omega⟩)) (fun _ _ _ => rfl)) (Nat.le_trans hwl (by omega))
        go_roundw
        case rel => exact .inr ⟨rfl, a9, E9.length, c9, hX9.set (k := 4) (by simp), hset.keep (fun g hg => ⟨hg.1, Nat.lt_of_lt_of_le hg.2.1 (hS 0).size, hg.2.2⟩) (fun g hg hlt => (hS w9.heap.size).block g hlt hg.2.2 hg.2.2), ((hW4.trans (hbd.mono hW4.size)).trans (hb9.mono (by have := hW4.size; omega))).trans ((hS w.heap.size).below (Nat.le_refl _) (by omega) (by omega)), ((hZ4.up hbd).up hb9).held (hS _) (by omega) (by omega)⟩
        case measure => simp [intOf]
    · obtain ⟨xc, xf, xs⟩ := id hX9
      obtain ⟨rc, rf, rs⟩ := id hZ9
      go_wp2
      obtain ⟨k0, k1, k2, k3, k4⟩ := (hZ9.set5 (a := .int .i64 7) (b := .int .i64 n) (c := .slice y1 b.length y3) (d := .slice y4 l.length y6) (e := .slice a9 k9 c9) rfl).s5
      have hh := fun B => set5_held wr B (w.heap.size + 1) (.int .i64 7) (.int .i64 n) (.slice y1 b.length y3) (.slice y4 l.length y6) (.slice a9 k9 c9)
      have hws := hW9.size
      refine bodyPost_ret (v := .agg #[.int .i64 7, .int .i64 n, .slice y1 b.length y3, .slice y4 l.length y6, .slice a9 k9 c9]) (by simp [results, Tryz.results51, go_sem, k0, k1, k2, k3, k4]) rfl ⟨[.int .i64 7, .int .i64 n, .slice y1 b.length y3, .slice y4 l.length y6, .slice a9 k9 c9], rfl, ?_, hW9.trans ((hh wr.heap.size).below hws (by omega) (by omega))⟩
      exact hov9.keep (fun g hg => ⟨by have := hg.1; omega, Nat.lt_of_lt_of_le hg.2.1 (hh 0).size⟩) (fun g hg h1 => (hh wr.heap.size).block g h1 (by have := hg.1; omega) (by have := hg.1; omega))
end Go.Proofs.YtlmgklebikcbjaaGreat

/-
  The document's data: a stream's data, behind its word. Condition: the parser stands in its bytes; the dictionary's entries are no more than 800000.
-/
namespace Go.Proofs.YtlmgklebikcbjaaGreat
open Go.RowKit
set_option linter.unusedVariables false

/-- a stream's data, without the word behind them -/
def dat1 (o : PO) (r1 : List UInt8) : PRes :=
  if ¬ ((getE bLength o.ents).kind = 2 ∧ 0 ≤ (getE bLength o.ents).num) then .bad 4 r1
  else if (r1.length : Int) < (getE bLength o.ents).num then .bad 2 r1
  else .ok (streamO (r1.take (getE bLength o.ents).num.toNat) o) (eolA (r1.drop (getE bLength o.ents).num.toNat))
def dat (o : PO) (s : List UInt8) : PRes :=
  match eolS s with
  | none => .bad (if s = [] then 2 else 4) s
  | some r1 => dat1 o r1
/-- the word behind them -/
def datW : PRes → PRes
  | .bad e t => .bad e t
  | .ok o t => match wantS bEndstream t with
    | .bad e t => .bad e t
    | .ok _ t => .ok o t
theorem strm_dat (o : PO) (s : List UInt8) : strm o s = datW (dat o s) := by
  unfold strm dat
  cases eolS s with
  | none => rfl
  | some r1 =>
    show _ = datW (dat1 o r1)
    unfold dat1
    simp only []
    split
    · rfl
    · split
      · rfl
      · rfl
theorem c8_is (x : UInt8) (k : UInt8) : (c8 x = c8 k) ↔ x = k := by
  constructor
  · intro h
    have h2 : (x.toNat : Int) = (k.toNat : Int) := h
    exact UInt8.toNat_inj.1 (by omega)
  · intro h; rw [h]
theorem pfx10 (s : List UInt8) : pfx [10] s = true ↔ hd s = 10 := by
  cases s with
  | nil => simp [pfx, hd]
  | cons x t =>
    rw [hd_cons]
    have := c8_is x 10
    rw [show c8 10 = 10 from rfl] at this
    rw [this]
    simp [pfx]
theorem pfx13 (s : List UInt8) : pfx [13] s = true ↔ hd s = 13 := by
  cases s with
  | nil => simp [pfx, hd]
  | cons x t =>
    rw [hd_cons]
    have := c8_is x 13
    rw [show c8 13 = 13 from rfl] at this
    rw [this]
    simp [pfx]
theorem pfx1310 (s : List UInt8) : pfx [13, 10] s = true ↔ (hd s = 13 ∧ hd s.tail = 10) := by
  rcases s with _ | ⟨x, _ | ⟨y, t⟩⟩
  · simp [pfx, hd]
  · simp [pfx, hd]
  · rw [hd_cons, List.tail_cons, hd_cons]
    have h1 := c8_is x 13
    have h2 := c8_is y 10
    rw [show c8 13 = 13 from rfl] at h1
    rw [show c8 10 = 10 from rfl] at h2
    rw [h1, h2]
    simp [pfx]
theorem hd_neg (s : List UInt8) : hd s < 0 ↔ s = [] := by
  cases s with
  | nil => simp [hd]
  | cons x t =>
    rw [hd_cons]
    have := c8_ge x
    constructor
    · intro q; omega
    · intro q; cases q
section
variable {q : Bool} {dp : Nat} {w : World} {pp : Nat} {b s : List UInt8} {i : Nat}
theorem pd_peek0 (h : Pd q dp w w pp b i s) : Calls Tryz.prog 49 #[.pointer (some ⟨pp, 0, none⟩), .int .i64 0] w fun e w' => e = .returned (.int .i64 (hd s)) ∧ Below w.heap.size w w' := by
  refine (rpeek0 h.cx).mono ?_
  rintro e w' ⟨rfl, -, n, rfl⟩
  exact ⟨rfl, below_drewN (Below.refl _ _) n⟩
theorem pd_peek1 (h : Pd q dp w w pp b i s) : Calls Tryz.prog 49 #[.pointer (some ⟨pp, 0, none⟩), .int .i64 1] w fun e w' => e = .returned (.int .i64 (hd s.tail)) ∧ Below w.heap.size w w' := by
  refine (rpeek1 h.cx).mono ?_
  rintro e w' ⟨rfl, -, n, rfl⟩
  exact ⟨rfl, below_drewN (Below.refl _ _) n⟩
theorem eolA_sk {x : UInt8} {t : List UInt8} (h : c8 x = 13) : eolA (x :: t) = sk t := by
  have hx : x = 13 := (c8_is x 13).1 (by rw [h]; rfl)
  subst hx
  rcases t with _ | ⟨y, t⟩
  · rfl
  · unfold eolA
    by_cases hy : c8 y = 10
    · have hy2 : y = 10 := (c8_is y 10).1 (by rw [hy]; rfl)
      subst hy2
      rfl
    · have h1 : ¬ pfx [13, 10] (13 :: y :: t) = true := fun q => hy ((pfx1310 _).1 q).2
      have h2 : ¬ pfx [10] (13 :: y :: t) = true := fun q => by have := (pfx10 _).1 q; rw [hd_cons] at this; exact absurd this (by decide)
      have h3 : pfx [13] (13 :: y :: t) = true := (pfx13 _).2 rfl
      rw [if_neg h1, if_neg h2, if_pos h3, sk, if_neg hy]
      rfl
theorem pd_eol (h : Pd q dp w w pp b i s) : Calls Tryz.prog 53 #[.pointer (some ⟨pp, 0, none⟩)] w fun e w' => ∃ tb, e = .returned (.bool tb) ∧ ∃ j, Pd q dp w w' pp b j (eolA s) := by
  by_cases h10 : hd s = 10
  · rcases s with _ | ⟨x, t⟩
    · exact absurd h10 (by decide)
    · refine (reol10 (by rw [hd_cons] at h10; exact h10) h.cx).mono ?_
      rintro e w' ⟨rfl, hC⟩
      have e1 : eolA (x :: t) = t := by
        have h1 : ¬ pfx [13, 10] (x :: t) = true := fun q => by have := ((pfx1310 _).1 q).1; rw [h10] at this; exact absurd this (by decide)
        unfold eolA
        rw [if_neg h1, if_pos ((pfx10 _).2 h10)]
        rfl
      rw [e1]
      exact ⟨_, rfl, _, h.step hC⟩
  · by_cases h13 : hd s = 13
    · rcases s with _ | ⟨x, t⟩
      · exact absurd h13 (by decide)
      · have hx : c8 x = 13 := by rw [hd_cons] at h13; exact h13
        refine (reol13 hx h.cx).mono ?_
        rintro e w' ⟨rfl, j, hC⟩
        rw [eolA_sk hx]
        exact ⟨_, rfl, _, h.step hC⟩
    · refine (reol_no h10 h13 h.cx).mono ?_
      rintro e w' ⟨rfl, hC⟩
      have e1 : eolA s = s := by
        unfold eolA
        rw [if_neg (fun q => h13 ((pfx1310 _).1 q).1), if_neg (fun q => h10 ((pfx10 _).1 q)), if_neg (fun q => h13 ((pfx13 _).1 q))]
      rw [e1]
      exact ⟨_, rfl, _, h.step hC⟩
end

set_option maxHeartbeats 1600000 in
set_option maxRecDepth 100000 in
theorem rdat_no {q : Bool} {dp : Nat} {w : World} {pp : Nat} {b s : List UInt8} {i : Nat} (h : Pd q dp w w pp b i s) {vs : List Value} (hv : V5 vs) (h1 : ¬ (hd s = 13 ∧ hd s.tail = 10)) (h2 : ¬ hd s = 10) :
    Calls Tryz.prog 26 #[.pointer (some ⟨pp, 0, none⟩), .agg vs.toArray] w fun e w' => RVQ q dp w pp b (.bad (if s = [] then 2 else 4) s) e w' := by
  have hlow := h.low.1
  obtain ⟨v1, v2, v3, v4, v5, v6, v7, v8, v9, v10, v11, rfl⟩ := hv
  have hP := (h.below (alb w (.cells #[.int .i64 v1, .int .i64 v2, .slice v3 v6 v7, .slice v4 v8 v9, .slice v5 v10 v11] 31))).below (alb _ (.cells #[.int .i64 0, .int .i64 0, .slice none 0 0, .slice none 0 0, .slice none 0 0] 31))
  have hC := (C5.new w _ rfl [.int .i64 v1, .int .i64 v2, .slice v3 v6 v7, .slice v4 v8 v9, .slice v5 v10 v11] 31).up (alb _ (.cells #[.int .i64 0, .int .i64 0, .slice none 0 0, .slice none 0 0, .slice none 0 0] 31))
  have hZ := C5.new (w.alloc (.cells #[.int .i64 v1, .int .i64 v2, .slice v3 v6 v7, .slice v4 v8 v9, .slice v5 v10 v11] 31)) (w.heap.size + 1) (by simp) [.int .i64 0, .int .i64 0, .slice none 0 0, .slice none 0 0, .slice none 0 0] 31
  have c1 := hP.cx.c1
  have f1 := hP.cx.f1
  have b10 : (hd s == 10) = false := by simp [h2]
  have hneg := hd_neg s
  clear h h2
  by_cases hs : s = []
  · rw [if_pos hs]
    have b13 : (hd s == 13) = false := by rw [hs]; rfl
    have bn : decide (hd s < 0) = true := decide_eq_true (hneg.2 hs)
    clear hs hneg h1
    go_enter Tryz.func26, Tryz.ntmps26
    go_wp2_with (first | (go_at_call 49; (with_reducible refine (pd_peek0 hP.fresh).mono ?_); rintro e w1 ⟨rfl, hb1⟩; have hP := hP.below hb1; have hC := hC.up hb1; have hZ := hZ.up hb1; have c1 := hP.cx.c1; have f1 := hP.cx.f1; obtain ⟨rc, rf, rs⟩ := id hZ; obtain ⟨oc, of_, os⟩ := id hC) | (go_at_call 49; (with_reducible refine (pd_peek1 hP.fresh).mono ?_); rintro e w1 ⟨rfl, hb1⟩; have hP := hP.below hb1; have hC := hC.up hb1; have hZ := hZ.up hb1; have c1 := hP.cx.c1; have f1 := hP.cx.f1; obtain ⟨rc, rf, rs⟩ := id hZ; obtain ⟨oc, of_, os⟩ := id hC))
    obtain ⟨k0, k1, k2, k3, k4⟩ := (hZ.set5 (a := .int .i64 0) (b := .int .i64 0) (c := .slice none 0 0) (d := .slice none 0 0) (e := .slice none 0 0) rfl).s5
    have hh := fun B => set5_held w1 B (w.heap.size + 1) (.int .i64 0) (.int .i64 0) (.slice none 0 0) (.slice none 0 0) (.slice none 0 0)
    have hP5 := hP.off (hh w.heap.size) (Nat.le_refl _) (by omega)
    exact bodyPost_ret (v := .tuple #[.agg #[.int .i64 0, .int .i64 0, .slice none 0 0, .slice none 0 0, .slice none 0 0], .int .i64 2]) (by simp [results, Tryz.results26, go_sem, k0, k1, k2, k3, k4]) rfl ⟨rfl, _, hP5⟩
  · rw [if_neg hs]
    have bn : decide (hd s < 0) = false := decide_eq_false (fun q => hs (hneg.1 q))
    clear hs hneg
    by_cases h13 : hd s = 13
    · have b13 : (hd s == 13) = true := by simp [h13]
      have b11 : (hd s.tail == 10) = false := by
        have : ¬ hd s.tail = 10 := fun q => h1 ⟨h13, q⟩
        simp [this]
      clear h13 h1
      go_enter Tryz.func26, Tryz.ntmps26
      go_wp2_with (first | (go_at_call 49; (with_reducible refine (pd_peek0 hP.fresh).mono ?_); rintro e w1 ⟨rfl, hb1⟩; have hP := hP.below hb1; have hC := hC.up hb1; have hZ := hZ.up hb1; have c1 := hP.cx.c1; have f1 := hP.cx.f1; obtain ⟨rc, rf, rs⟩ := id hZ; obtain ⟨oc, of_, os⟩ := id hC) | (go_at_call 49; (with_reducible refine (pd_peek1 hP.fresh).mono ?_); rintro e w1 ⟨rfl, hb1⟩; have hP := hP.below hb1; have hC := hC.up hb1; have hZ := hZ.up hb1; have c1 := hP.cx.c1; have f1 := hP.cx.f1; obtain ⟨rc, rf, rs⟩ := id hZ; obtain ⟨oc, of_, os⟩ := id hC))
      obtain ⟨k0, k1, k2, k3, k4⟩ := (hZ.set5 (a := .int .i64 0) (b := .int .i64 0) (c := .slice none 0 0) (d := .slice none 0 0) (e := .slice none 0 0) rfl).s5
      have hh := fun B => set5_held w1 B (w.heap.size + 1) (.int .i64 0) (.int .i64 0) (.slice none 0 0) (.slice none 0 0) (.slice none 0 0)
      have hP5 := hP.off (hh w.heap.size) (Nat.le_refl _) (by omega)
      exact bodyPost_ret (v := .tuple #[.agg #[.int .i64 0, .int .i64 0, .slice none 0 0, .slice none 0 0, .slice none 0 0], .int .i64 4]) (by simp [results, Tryz.results26, go_sem, k0, k1, k2, k3, k4]) rfl ⟨rfl, _, hP5⟩
    · have b13 : (hd s == 13) = false := by simp [h13]
      clear h13 h1
      go_enter Tryz.func26, Tryz.ntmps26
      go_wp2_with (first | (go_at_call 49; (with_reducible refine (pd_peek0 hP.fresh).mono ?_); rintro e w1 ⟨rfl, hb1⟩; have hP := hP.below hb1; have hC := hC.up hb1; have hZ := hZ.up hb1; have c1 := hP.cx.c1; have f1 := hP.cx.f1; obtain ⟨rc, rf, rs⟩ := id hZ; obtain ⟨oc, of_, os⟩ := id hC) | (go_at_call 49; (with_reducible refine (pd_peek1 hP.fresh).mono ?_); rintro e w1 ⟨rfl, hb1⟩; have hP := hP.below hb1; have hC := hC.up hb1; have hZ := hZ.up hb1; have c1 := hP.cx.c1; have f1 := hP.cx.f1; obtain ⟨rc, rf, rs⟩ := id hZ; obtain ⟨oc, of_, os⟩ := id hC))
      obtain ⟨k0, k1, k2, k3, k4⟩ := (hZ.set5 (a := .int .i64 0) (b := .int .i64 0) (c := .slice none 0 0) (d := .slice none 0 0) (e := .slice none 0 0) rfl).s5
      have hh := fun B => set5_held w1 B (w.heap.size + 1) (.int .i64 0) (.int .i64 0) (.slice none 0 0) (.slice none 0 0) (.slice none 0 0)
      have hP5 := hP.off (hh w.heap.size) (Nat.le_refl _) (by omega)
      exact bodyPost_ret (v := .tuple #[.agg #[.int .i64 0, .int .i64 0, .slice none 0 0, .slice none 0 0, .slice none 0 0], .int .i64 4]) (by simp [results, Tryz.results26, go_sem, k0, k1, k2, k3, k4]) rfl ⟨rfl, _, hP5⟩

end Go.Proofs.YtlmgklebikcbjaaGreat

/-
  The document's data, behind an end of line. Condition: the parser stands in its bytes; the dictionary's entries are no more than 800000.
-/
namespace Go.Proofs.YtlmgklebikcbjaaGreat
open Go.RowKit
set_option linter.unusedVariables false


set_option maxHeartbeats 3200000 in
set_option maxRecDepth 100000 in
theorem rdat_rn {q : Bool} {A : Nat → Prop} {dp : Nat} {w : World} {pp : Nat} {b s : List UInt8} {i : Nat} {n0 : Int} {b0 : List UInt8} {l0 : List PO} {d : List (List UInt8 × PO)} {vs : List Value} (h : Pd q dp w w pp b i s) (hov : OV A w vs (.mk 7 n0 b0 l0 d)) (hA : ∀ g, A g → g ≠ pp) (hd8 : d.length ≤ 800000) {r1 : List UInt8} (hr1 : s.drop 2 = r1) (h1 : hd s = 13 ∧ hd s.tail = 10) :
    Calls Tryz.prog 26 #[.pointer (some ⟨pp, 0, none⟩), .agg vs.toArray] w fun e w' => RVQ q dp w pp b (dat1 (.mk 7 n0 b0 l0 d) r1) e w' := by
  have hlow := h.low.1
  have hat := h.cx.at_
  have hsm := h.cx.sm
  have hdrp := h.cx.drp
  obtain ⟨o1, o3, o4, o6, o7, o9, rfl⟩ := hov.shape
  have hP := (h.below (alb w (.cells #[.int .i64 7, .int .i64 n0, .slice o1 b0.length o3, .slice o4 l0.length o6, .slice o7 d.length o9] 31))).below (alb _ (.cells #[.int .i64 0, .int .i64 0, .slice none 0 0, .slice none 0 0, .slice none 0 0] 31))
  have hC := (C5.new w _ rfl [.int .i64 7, .int .i64 n0, .slice o1 b0.length o3, .slice o4 l0.length o6, .slice o7 d.length o9] 31).up (alb _ (.cells #[.int .i64 0, .int .i64 0, .slice none 0 0, .slice none 0 0, .slice none 0 0] 31))
  have hZ := C5.new (w.alloc (.cells #[.int .i64 7, .int .i64 n0, .slice o1 b0.length o3, .slice o4 l0.length o6, .slice o7 d.length o9] 31)) (w.heap.size + 1) (by simp) [.int .i64 0, .int .i64 0, .slice none 0 0, .slice none 0 0, .slice none 0 0] 31
  have c1 := hP.cx.c1
  have f1 := hP.cx.f1
  have hi : i ≤ 1000000 := by omega
  have b13 : (hd s == 13) = true := by simp [h1.1]
  have b11 : (hd s.tail == 10) = true := by simp [h1.2]
  have hs2 : 2 ≤ s.length := by
    rcases s with _ | ⟨x, _ | ⟨y, t⟩⟩
    · exact absurd h1.1 (by decide)
    · exact absurd h1.2 (by show ¬ (-1 : Int) = 10; decide)
    · simp
  have hb2 : i + 2 ≤ b.length := by omega
  have HDR := hid (show b.drop (i + 2) = r1 by rw [← List.drop_drop, hdrp, hr1])
  clear hr1
  clear h1
  have HOV := hid hov
  have HAT := hid hat
  clear h hov hat hsm hdrp
  go_enter Tryz.func26, Tryz.ntmps26
  go_upto_region 8 with (first | (go_at_call 49; (with_reducible refine (pd_peek0 hP.fresh).mono ?_); rintro e w1 ⟨rfl, hb1⟩; have hP := hP.below hb1; have hC := hC.up hb1; have hZ := hZ.up hb1; have c1 := hP.cx.c1; have f1 := hP.cx.f1; obtain ⟨rc, rf, rs⟩ := id hZ; obtain ⟨oc, of_, os⟩ := id hC) | (go_at_call 49; (with_reducible refine (pd_peek1 hP.fresh).mono ?_); rintro e w1 ⟨rfl, hb1⟩; have hP := hP.below hb1; have hC := hC.up hb1; have hZ := hZ.up hb1; have c1 := hP.cx.c1; have f1 := hP.cx.f1; obtain ⟨rc, rf, rs⟩ := id hZ; obtain ⟨oc, of_, os⟩ := id hC))
  have hP := hP.to (i + 2) ((i : Int) + 2) (by omega) hb2
  have hS1 := fun B => Held.set (B := B) (p := pp) (q := pp) w1 ⟨pp, 1, none⟩ (.int .i64 ((i : Int) + 2)) (.inl rfl)
  have hC := hC.held (hS1 _) (by omega) (by omega)
  have hZ := hZ.held (hS1 _) (by omega) (by omega)
  rw [HDR.out] at hP
  clear c1 f1 rc rf rs oc of_ os hS1
  generalize w1.setCell ⟨pp, 1, none⟩ (.int .i64 ((i : Int) + 2)) = w2 at *
  have hat1 : (i + 2) + r1.length = b.length := hP.cx.at_
  generalize i + 2 = j at *
  have hHw := hP.cx.held
  have hov1 := HOV.out.keep (B := A) (w' := w2) (fun _ h => h) (fun g hg hlt => hHw.block g hlt (hA g hg) (hA g hg))
  have hG := hid (rget_any bLength hov1 (by omega))
  have hz2 := hZ.2.2
  have hHO := fun W7 (hp : Held w.heap.size pp pp w W7) => HOV.out.keep (B := A) (w' := W7) (fun _ h => h) (fun g hg hlt => hp.block g hlt (hA g hg) (hA g hg))
  have HO7 := hid hHO
  clear hov1 hHO
  obtain ⟨oc, of_, os⟩ := id hC
  go_upto_region 9 with (go_at_call 50; refine hG.out.mono ?_; rintro e w3 ⟨vs3, rfl, hg3, hb3⟩; have hP := hP.below hb3; have hC := hC.up hb3; have hZ := hZ.up hb3; have hs3 := hb3.size; have hV3 := hg3.v5; have hg3 := hid hg3; obtain ⟨y1, y2, y3, y4, y5, y6, y7, y8, y9, y10, y11, rfl⟩ := hV3)
  clear oc of_ os
  have hY := C5.new w3 _ rfl [.int .i64 y1, .int .i64 y2, .slice y3 y6 y7, .slice y4 y8 y9, .slice y5 y10 y11] 31
  have hP := hP.below (alb w3 (.cells #[.int .i64 y1, .int .i64 y2, .slice y3 y6 y7, .slice y4 y8 y9, .slice y5 y10 y11] 31))
  have hC := hC.up (alb w3 (.cells #[.int .i64 y1, .int .i64 y2, .slice y3 y6 y7, .slice y4 y8 y9, .slice y5 y10 y11] 31))
  have hZ := hZ.up (alb w3 (.cells #[.int .i64 y1, .int .i64 y2, .slice y3 y6 y7, .slice y4 y8 y9, .slice y5 y10 y11] 31))
  have hkd : (getE bLength d).kind = y1 := OV.kind hg3.out
  have hnm : (getE bLength d).num = y2 := OV.numv hg3.out
  have hS1 : dat1 (.mk 7 n0 b0 l0 d) r1 = if ¬ (y1 = 2 ∧ 0 ≤ y2) then .bad 4 r1 else if (r1.length : Int) < y2 then .bad 2 r1 else .ok (streamO (r1.take y2.toNat) (.mk 7 n0 b0 l0 d)) (eolA (r1.drop y2.toNat)) := by
    unfold dat1
    rw [show PO.ents (.mk 7 n0 b0 l0 d) = d from rfl, hkd, hnm]
  have hs4 := (alb w3 (.cells #[.int .i64 y1, .int .i64 y2, .slice y3 y6 y7, .slice y4 y8 y9, .slice y5 y10 y11] 31)).size
  clear hkd hnm hG hg3
  generalize w3.alloc (.cells #[.int .i64 y1, .int .i64 y2, .slice y3 y6 y7, .slice y4 y8 y9, .slice y5 y10 y11] 31) = w4 at *
  generalize w3.heap.size = g4 at *
  obtain ⟨yc, yf, ys⟩ := id hY
  obtain ⟨rc, rf, rs⟩ := id hZ
  by_cases hk : y1 = 2 ∧ 0 ≤ y2
  · obtain ⟨rfl, hn0⟩ := hk
    obtain ⟨m, rfl⟩ : ∃ m : Nat, y2 = m := ⟨y2.toNat, by omega⟩
    have b2 : ¬ ((m : Int) < 0) := by omega
    have b2' : decide ((m : Int) < 0) = false := decide_eq_false b2
    rw [if_neg (by simp), Int.toNat_natCast] at hS1
    have HS1 := hid hS1
    clear hS1
    obtain ⟨aoB, capB, k1, -⟩ := hP.cx.cur
    have c0 := k1.c0
    have c1 := k1.c1
    have hbz : b.length ≤ 1000000 := k1.sm
    clear k1
    obtain ⟨bq, hbq⟩ : ∃ bq, bq = decide ((b.length : Int) - (j : Int) < (m : Int)) := ⟨_, rfl⟩
    have HBQ := hid hbq
    have hwr : IntKind.i64.wrap ((b.length : Int) - (j : Int)) = (b.length : Int) - (j : Int) := IntWalk.i64_in _ (by omega)
    clear hbq
    go_upto_region 11 with fail
    go_cut [79] (fun s79 wx => s79 = .bool bq ∧ Below w4.heap.size w4 wx)
    case first =>
      go_quiet (fail)
      go_wp2_with fail
      go_meet
      exact ⟨by rw [HBQ.out], below_drewN (Below.refl _ _) _⟩
    case rest =>
      obtain ⟨rfl, hb5⟩ := hcut
      obtain ⟨w5, rfl⟩ : ∃ x : World, x = wc := ⟨_, rfl⟩
      have hP := hP.below hb5
      have hC := hC.up hb5
      have hZ := hZ.up hb5
      have hY := hY.up hb5
      have hs5 := hb5.size
      clear yc yf ys rc rf rs c0 c1 hwr
      obtain ⟨yc, yf, ys⟩ := id hY
      obtain ⟨rc, rf, rs⟩ := id hZ
      cases bq with
      | true =>
        have hlt : (b.length : Int) - (j : Int) < (m : Int) := of_decide_eq_true HBQ.out.symm
        have hS2 := HS1.out
        rw [if_pos (by omega)] at hS2
        have HS2 := hid hS2
        clear hS2 hlt
        go_wp2
        obtain ⟨k0, k1, k2, k3, k4⟩ := (hZ.set5 (a := .int .i64 0) (b := .int .i64 0) (c := .slice none 0 0) (d := .slice none 0 0) (e := .slice none 0 0) rfl).s5
        have hh := fun B => set5_held w5 B (w.heap.size + 1) (.int .i64 0) (.int .i64 0) (.slice none 0 0) (.slice none 0 0) (.slice none 0 0)
        have hP5 := hP.off (hh w.heap.size) (Nat.le_refl _) (by omega)
        refine bodyPost_ret (v := .tuple #[.agg #[.int .i64 0, .int .i64 0, .slice none 0 0, .slice none 0 0, .slice none 0 0], .int .i64 2]) (by simp [results, Tryz.results26, go_sem, k0, k1, k2, k3, k4]) rfl ?_
        show RVQ q dp w pp b _ _ _
        rw [HS2.out]
        exact ⟨rfl, _, hP5⟩
      | false =>
        have hlt : ¬ (b.length : Int) - (j : Int) < (m : Int) := of_decide_eq_false HBQ.out.symm
        have hS2 := HS1.out
        rw [if_neg (by omega)] at hS2
        have HS2 := hid hS2
        have hml : m ≤ r1.length := by omega
        clear hS2 hlt HS1 HBQ
        obtain ⟨oc, of_, os⟩ := id hC
        have hDR := hid (rdrop_any bLength (SlX.lit1 w5 w5.heap.size rfl [.string (st bLength)] 9 1 rfl) (HO7.out (w5.alloc (.cells #[.string (st bLength)] 9)) (hP.below (alb w5 (.cells #[.string (st bLength)] 9))).cx.held) hd8)
        go_upto_region 15 with (go_at_call 51; refine hDR.out.mono ?_; rintro e w8 ⟨vs8, rfl, hd9, hb8⟩; have hP := (hP.below (alb w5 (.cells #[.string (st bLength)] 9))).below hb8; have hC := (hC.up (alb w5 (.cells #[.string (st bLength)] 9))).up hb8; have hZ := (hZ.up (alb w5 (.cells #[.string (st bLength)] 9))).up hb8; have hY := (hY.up (alb w5 (.cells #[.string (st bLength)] 9))).up hb8; have hs8 := hb8.size; have hV8 := hd9.v5; have hd9 := hid hd9; obtain ⟨z1, z2, z3, z4, z5, z6, z7, z8, z9, z10, z11, rfl⟩ := hV8)
        have hQ := C5.new w8 _ rfl [.int .i64 8, .int .i64 z2, .slice z3 z6 z7, .slice z4 z8 z9, .slice z5 z10 z11] 31
        have hP := hP.below (alb w8 (.cells #[.int .i64 8, .int .i64 z2, .slice z3 z6 z7, .slice z4 z8 z9, .slice z5 z10 z11] 31))
        have hZ := hZ.up (alb w8 (.cells #[.int .i64 8, .int .i64 z2, .slice z3 z6 z7, .slice z4 z8 z9, .slice z5 z10 z11] 31))
        have hY := hY.up (alb w8 (.cells #[.int .i64 8, .int .i64 z2, .slice z3 z6 z7, .slice z4 z8 z9, .slice z5 z10 z11] 31))
        have hzz : w5.heap.size + 1 ≤ w8.heap.size := by simpa using hs8
        have HOV8 := hid (hd9.out.keep (B := fun g => w.heap.size + 2 ≤ g ∧ g < w8.heap.size) (w' := w8.alloc (.cells #[.int .i64 8, .int .i64 z2, .slice z3 z6 z7, .slice z4 z8 z9, .slice z5 z10 z11] 31)) (fun g hg => ⟨by have := hg.1; simp at this; omega, hg.2⟩) (fun g hg hlt => (alb w8 (.cells #[.int .i64 8, .int .i64 z2, .slice z3 z6 z7, .slice z4 z8 z9, .slice z5 z10 z11] 31)).block g hlt))
        have hg49 : g4 < w8.heap.size := by have := hC.2.2; have := hY.2.2; omega
        clear hd9 oc of_ os rc rf rs yc yf ys hDR hC
        generalize w8.alloc (.cells #[.int .i64 8, .int .i64 z2, .slice z3 z6 z7, .slice z4 z8 z9, .slice z5 z10 z11] 31) = w9 at *
        generalize w8.heap.size = g9 at *
        have hlt9 := hQ.2.2
        have hHP9 := hP.cx.held
        have hpp9 : pp < w9.heap.size := hP.low.2
        go_cut [] (fun wx => ∃ ao10 cap10, C5 wx g9 [.int .i64 8, .int .i64 z2, .slice ao10 m cap10, .slice z4 z8 z9, .slice z5 z10 z11] ∧ OV (fun g => w.heap.size + 2 ≤ g ∧ g < wx.heap.size ∧ g ≠ g9) wx [.int .i64 8, .int .i64 z2, .slice ao10 m cap10, .slice z4 z8 z9, .slice z5 z10 z11] (.mk 8 n0 (r1.take m) l0 (wi (bLength, poNull) d)) ∧ Pd q dp w wx pp b j r1 ∧ C5 wx (w.heap.size + 1) [.int .i64 0, .int .i64 0, .slice none 0 0, .slice none 0 0, .slice none 0 0] ∧ C5 wx g4 [.int .i64 2, .int .i64 m, .slice y3 y6 y7, .slice y4 y8 y9, .slice y5 y10 y11])
        case first =>
          obtain ⟨aoB, capB, k1, -⟩ := hP.cx.cur
          obtain ⟨u, hu, hrun⟩ := sl_part bytesTy (t := 22) k1.rd k1.le k1.mx k1.ni j (j + m) (by omega) (by omega)
          rw [Nat.add_sub_cancel_left, hP.cx.drp] at hu
          have hrun : ∀ w', (Instr.slice 22 (.slice aoB b.length capB) (some (.int .i64 (j : Int))) (some (.int .i64 ((j : Int) + (m : Int)))) none).run Tryz.prog w' = .ok u w' := fun w' => by simpa only [Int.natCast_add] using hrun w'
          have hbz : b.length ≤ 1000000 := k1.sm
          have hwr2 : IntKind.i64.wrap ((j : Int) + (m : Int)) = (j : Int) + (m : Int) := IntWalk.i64_in _ (by omega)
          have hbd : Below w9.heap.size w9 w9.drew := below_drewN (Below.refl _ _) 1
          have hml2 : (r1.take m).length = m := by rw [List.length_take]; omega
          have hCP := hid (copy_sl u (r1.take m) w9.drew (hu.up hbd) (by rw [hml2]; omega))
          have c0 := k1.c0
          have c1 := k1.c1
          have yy := hY.1 1
          clear k1 hu
          have HPN := hid (show pp ≠ g9 ∧ g4 ≠ g9 from by omega)
          go_region_held3 (fun w' => w'.cell? ⟨pp, 0, none⟩ = some (.slice aoB b.length capB) ∧ w'.cell? ⟨pp, 1, none⟩ = some (.int .i64 (j : Int)) ∧ w'.cell? ⟨g4, 1, none⟩ = some (.int .i64 (m : Int))) (first | go_keep | with_reducible exact ⟨c0, c1, yy⟩ | (refine ⟨?_, ?_, ?_⟩ <;> (rw [cset_ne (fun q => by injection q with q1 q2; first | exact HPN.out.1 q1.symm | exact HPN.out.2 q1.symm)]) <;> assumption) | skip) (first | (go_at_call 52; (with_reducible refine hCP.out.mono ?_); rintro e w10 ⟨v10, rfl, hr10, hb10⟩; obtain ⟨ao10, cap10, rfl, -, -, -⟩ := Rd.own hr10; rw [hml2]; rw [hml2] at hr10; have hbq := hbd.trans (hb10.mono hbd.size); have hP := hP.below hbq; have hQ := hQ.up hbq; have hZ := hZ.up hbq; have hY := hY.up hbq; have c0 := cell_up' hbq c0; have c1 := cell_up' hbq c1; have yy : w10.cell? ⟨g4, 1, none⟩ = some (.int .i64 (m : Int)) := hY.1 1; obtain ⟨qc, qf, qs⟩ := id hQ))
          all_goals
            go_wp2_with fail
            go_meet
            have hS := fun B => Held.set (B := B) (p := g9) (q := g9) w10 ⟨g9, 2, none⟩ (.slice ao10 m cap10) (.inl rfl)
            have hdz := hbd.size
            have hqz := hbq.size
            have hov9 := HOV8.out.keep (B := fun g => w.heap.size + 2 ≤ g ∧ g < w10.heap.size ∧ g ≠ g9) (w' := w10) (fun g hg => ⟨hg.1, by have := hg.2; omega, by have := hg.2; omega⟩) (fun g hg hlt => hbq.block g hlt)
            have hrl := World.ownsRow.lt hr10
            have hsl : SlA (fun g => w.heap.size + 2 ≤ g ∧ g < w10.heap.size ∧ g ≠ g9) w10 (.slice ao10 m cap10) (r1.take m) := ⟨by have := Sl.own hr10; exact this, fun g hg => ⟨by have := (hrl g hg).1; omega, (hrl g hg).2, by have := (hrl g hg).1; omega⟩⟩
            have hset := hov9.data2 (k2 := 8) hsl (by rw [hml2]; omega)
            exact ⟨ao10, cap10, hQ.set (k := 2) (by simp), hset.keep (fun g hg => ⟨hg.1, Nat.lt_of_lt_of_le hg.2.1 (hS 0).size, hg.2.2⟩) (fun g hg hlt => (hS w10.heap.size).block g hlt hg.2.2 hg.2.2), hP.off (hS w.heap.size) (Nat.le_refl _) (by omega), hZ.held (hS _) (by omega) (by omega), hY.held (hS _) (by omega) (by omega)⟩
        case rest =>
          obtain ⟨ao10, cap10, hQ, hov, hP, hZ, hY⟩ := hcut
          obtain ⟨wa, rfl⟩ : ∃ x : World, x = wc := ⟨_, rfl⟩
          have HOVA := hid hov
          clear hov
          have hg4 := hY.2.2
          have yy := hY.1 1
          have c1 := hP.cx.c1
          have f1 := hP.cx.f1
          have hbz : b.length ≤ 1000000 := hP.cx.sm
          have hwr3 : IntKind.i64.wrap ((j : Int) + (m : Int)) = (j : Int) + (m : Int) := IntWalk.i64_in _ (by omega)
          have HPN := hid (show pp ≠ g4 from by omega)
          go_upto_region 16 with fail
          go_cut [] (fun wx => Pd q dp w wx pp b (j + m) (r1.drop m) ∧ C5 wx g9 [.int .i64 8, .int .i64 z2, .slice ao10 m cap10, .slice z4 z8 z9, .slice z5 z10 z11] ∧ C5 wx (w.heap.size + 1) [.int .i64 0, .int .i64 0, .slice none 0 0, .slice none 0 0, .slice none 0 0] ∧ OV (fun g => w.heap.size + 2 ≤ g ∧ g < wx.heap.size ∧ g ≠ g9) wx [.int .i64 8, .int .i64 z2, .slice ao10 m cap10, .slice z4 z8 z9, .slice z5 z10 z11] (.mk 8 n0 (r1.take m) l0 (wi (bLength, poNull) d)))
          case first =>
            have hbx : Below (wa.setCell ⟨pp, 1, none⟩ (.int .i64 ((j : Int) + (m : Int)))).heap.size (wa.setCell ⟨pp, 1, none⟩ (.int .i64 ((j : Int) + (m : Int)))) (wa.setCell ⟨pp, 1, none⟩ (.int .i64 ((j : Int) + (m : Int)))).drew := below_drewN (Below.refl _ _) 1
            have HKP := hid (show (wa.setCell ⟨pp, 1, none⟩ (.int .i64 ((j : Int) + (m : Int)))).drew.cell? ⟨g4, 1, none⟩ = some (.int .i64 (m : Int)) from cell_up' hbx (by rw [cset_ne (fun q => by injection q with q1 q2; exact HPN.out q1)]; exact yy))
            have HKD := hid (show wa.drew.cell? ⟨g4, 1, none⟩ = some (.int .i64 (m : Int)) from cell_up' (show Below wa.heap.size wa wa.drew from below_drewN (Below.refl _ _) 1) yy)
            have hlv : opLd 3 (Operand.tmp 110) = Op.load 3 (Operand.tmp 110) := rfl
            rw [← hlv]
            go_region_held3 (fun w' => w'.cell? ⟨g4, 1, none⟩ = some (.int .i64 (m : Int))) (first | with_reducible exact HKP.out | with_reducible exact HKD.out | with_reducible exact yy | go_keep | skip) (fail)
            all_goals
              go_wp2_with fail
              go_meet
              have hX := hP.to (j + m) ((j : Int) + (m : Int)) (by omega) (by omega)
              rw [show b.drop (j + m) = r1.drop m by rw [← List.drop_drop, hP.cx.drp]] at hX
              have hSp := fun B => Held.set (B := B) (p := pp) (q := pp) wa ⟨pp, 1, none⟩ (.int .i64 ((j : Int) + (m : Int))) (.inl rfl)
              have hxs := hbx.size
              exact ⟨hX.below hbx, (hQ.held (hSp _) (by omega) (by omega)).up hbx, (hZ.held (hSp _) (by omega) (by omega)).up hbx, HOVA.out.keep (fun g hg => ⟨hg.1, Nat.lt_of_lt_of_le hg.2.1 (Nat.le_trans (hSp 0).size hxs), hg.2.2⟩) (fun g hg hlt => (hbx.block g (Nat.lt_of_lt_of_le hlt (hSp 0).size)).trans ((hSp wa.heap.size).block g hlt (by have := hg.1; omega) (by have := hg.1; omega)))⟩
          case rest =>
            obtain ⟨hP, hQ, hZ, hov⟩ := hcut
            obtain ⟨wb, rfl⟩ : ∃ x : World, x = wc := ⟨_, rfl⟩
            have HOVB := hid hov
            clear hov c1 f1 hwr3
            have c1 := hP.cx.c1
            have f1 := hP.cx.f1
            go_upto_region 18 with (go_at_call 53; refine (pd_eol hP.fresh).mono ?_; rintro e w11 ⟨tb, rfl, j11, hPs⟩; have hP := hP.join hPs; have hQ := hQ.held hPs.cx.held (by omega) (by omega); have hZ := hZ.held hPs.cx.held (by omega) (by omega))
            have HOV9 := hid (HOVB.out.keep (B := fun g => w.heap.size + 2 ≤ g ∧ g < w11.heap.size ∧ g ≠ g9) (w' := w11) (fun g hg => ⟨hg.1, Nat.lt_of_lt_of_le hg.2.1 hPs.cx.held.size, hg.2.2⟩) (fun g hg hlt => hPs.cx.held.block g hlt (by have := hg.1; omega) (by have := hg.1; omega)))
            obtain ⟨qc, qf, qs⟩ := id hQ
            obtain ⟨rc, rf, rs⟩ := id hZ
            go_wp2
            obtain ⟨k0, k1, k2, k3, k4⟩ := (hZ.set5 (a := .int .i64 8) (b := .int .i64 z2) (c := .slice ao10 m cap10) (d := .slice z4 z8 z9) (e := .slice z5 z10 z11) rfl).s5
            have hh := fun B => set5_held w11 B (w.heap.size + 1) (.int .i64 8) (.int .i64 z2) (.slice ao10 m cap10) (.slice z4 z8 z9) (.slice z5 z10 z11)
            have hP5 := hP.off (hh w.heap.size) (Nat.le_refl _) (by omega)
            refine bodyPost_ret (v := .tuple #[.agg #[.int .i64 8, .int .i64 z2, .slice ao10 m cap10, .slice z4 z8 z9, .slice z5 z10 z11], .int .i64 0]) (by simp [results, Tryz.results26, go_sem, k0, k1, k2, k3, k4]) rfl ?_
            show RVQ q dp w pp b _ _ _
            rw [HS2.out]
            exact ⟨[.int .i64 8, .int .i64 z2, .slice ao10 m cap10, .slice z4 z8 z9, .slice z5 z10 z11], rfl, HOV9.out.keep (fun g hg => ⟨by have := hg.1; omega, Nat.lt_of_lt_of_le hg.2.1 (hh 0).size⟩) (fun g hg hlt => (hh w11.heap.size).block g hlt (by have := hg.1; omega) (by have := hg.1; omega)), _, hP5⟩
  · have hS2 := hS1
    rw [if_pos hk] at hS2
    have HS2 := hid hS2
    have hk2 : (y1 != 2) = true ∨ (y1 = 2 ∧ decide (y2 < 0) = true) := by
      by_cases z : y1 = 2
      · exact .inr ⟨z, decide_eq_true (by omega)⟩
      · exact .inl (by simp [z])
    clear hS1 hS2 hk
    rcases hk2 with bk | ⟨rfl, bk⟩
    · go_wp2
      obtain ⟨k0, k1, k2, k3, k4⟩ := (hZ.set5 (a := .int .i64 0) (b := .int .i64 0) (c := .slice none 0 0) (d := .slice none 0 0) (e := .slice none 0 0) rfl).s5
      have hh := fun B => set5_held w4 B (w.heap.size + 1) (.int .i64 0) (.int .i64 0) (.slice none 0 0) (.slice none 0 0) (.slice none 0 0)
      have hP5 := hP.off (hh w.heap.size) (Nat.le_refl _) (by omega)
      refine bodyPost_ret (v := .tuple #[.agg #[.int .i64 0, .int .i64 0, .slice none 0 0, .slice none 0 0, .slice none 0 0], .int .i64 4]) (by simp [results, Tryz.results26, go_sem, k0, k1, k2, k3, k4]) rfl ?_
      show RVQ q dp w pp b _ _ _
      rw [HS2.out]
      exact ⟨rfl, _, hP5⟩
    · go_wp2
      obtain ⟨k0, k1, k2, k3, k4⟩ := (hZ.set5 (a := .int .i64 0) (b := .int .i64 0) (c := .slice none 0 0) (d := .slice none 0 0) (e := .slice none 0 0) rfl).s5
      have hh := fun B => set5_held w4 B (w.heap.size + 1) (.int .i64 0) (.int .i64 0) (.slice none 0 0) (.slice none 0 0) (.slice none 0 0)
      have hP5 := hP.off (hh w.heap.size) (Nat.le_refl _) (by omega)
      refine bodyPost_ret (v := .tuple #[.agg #[.int .i64 0, .int .i64 0, .slice none 0 0, .slice none 0 0, .slice none 0 0], .int .i64 4]) (by simp [results, Tryz.results26, go_sem, k0, k1, k2, k3, k4]) rfl ?_
      show RVQ q dp w pp b _ _ _
      rw [HS2.out]
      exact ⟨rfl, _, hP5⟩

set_option maxHeartbeats 3200000 in
set_option maxRecDepth 100000 in
theorem rdat_nl {q : Bool} {A : Nat → Prop} {dp : Nat} {w : World} {pp : Nat} {b s : List UInt8} {i : Nat} {n0 : Int} {b0 : List UInt8} {l0 : List PO} {d : List (List UInt8 × PO)} {vs : List Value} (h : Pd q dp w w pp b i s) (hov : OV A w vs (.mk 7 n0 b0 l0 d)) (hA : ∀ g, A g → g ≠ pp) (hd8 : d.length ≤ 800000) {r1 : List UInt8} (hr1 : s.drop 1 = r1) (h1 : hd s = 10) :
    Calls Tryz.prog 26 #[.pointer (some ⟨pp, 0, none⟩), .agg vs.toArray] w fun e w' => RVQ q dp w pp b (dat1 (.mk 7 n0 b0 l0 d) r1) e w' := by
  have hlow := h.low.1
  have hat := h.cx.at_
  have hsm := h.cx.sm
  have hdrp := h.cx.drp
  obtain ⟨o1, o3, o4, o6, o7, o9, rfl⟩ := hov.shape
  have hP := (h.below (alb w (.cells #[.int .i64 7, .int .i64 n0, .slice o1 b0.length o3, .slice o4 l0.length o6, .slice o7 d.length o9] 31))).below (alb _ (.cells #[.int .i64 0, .int .i64 0, .slice none 0 0, .slice none 0 0, .slice none 0 0] 31))
  have hC := (C5.new w _ rfl [.int .i64 7, .int .i64 n0, .slice o1 b0.length o3, .slice o4 l0.length o6, .slice o7 d.length o9] 31).up (alb _ (.cells #[.int .i64 0, .int .i64 0, .slice none 0 0, .slice none 0 0, .slice none 0 0] 31))
  have hZ := C5.new (w.alloc (.cells #[.int .i64 7, .int .i64 n0, .slice o1 b0.length o3, .slice o4 l0.length o6, .slice o7 d.length o9] 31)) (w.heap.size + 1) (by simp) [.int .i64 0, .int .i64 0, .slice none 0 0, .slice none 0 0, .slice none 0 0] 31
  have c1 := hP.cx.c1
  have f1 := hP.cx.f1
  have hi : i ≤ 1000000 := by omega
  have b13 : (hd s == 13) = false := by simp [h1]
  have b10 : (hd s == 10) = true := by simp [h1]
  have hs2 : 1 ≤ s.length := by
    rcases s with _ | ⟨x, t⟩
    · exact absurd h1 (by decide)
    · simp
  have hb2 : i + 1 ≤ b.length := by omega
  have HDR := hid (show b.drop (i + 1) = r1 by rw [← List.drop_drop, hdrp, hr1])
  clear hr1
  clear h1
  have HOV := hid hov
  have HAT := hid hat
  clear h hov hat hsm hdrp
  go_enter Tryz.func26, Tryz.ntmps26
  go_upto_region 8 with (first | (go_at_call 49; (with_reducible refine (pd_peek0 hP.fresh).mono ?_); rintro e w1 ⟨rfl, hb1⟩; have hP := hP.below hb1; have hC := hC.up hb1; have hZ := hZ.up hb1; have c1 := hP.cx.c1; have f1 := hP.cx.f1; obtain ⟨rc, rf, rs⟩ := id hZ; obtain ⟨oc, of_, os⟩ := id hC) | (go_at_call 49; (with_reducible refine (pd_peek1 hP.fresh).mono ?_); rintro e w1 ⟨rfl, hb1⟩; have hP := hP.below hb1; have hC := hC.up hb1; have hZ := hZ.up hb1; have c1 := hP.cx.c1; have f1 := hP.cx.f1; obtain ⟨rc, rf, rs⟩ := id hZ; obtain ⟨oc, of_, os⟩ := id hC))
  have hP := hP.to (i + 1) ((i : Int) + 1) (by omega) hb2
  have hS1 := fun B => Held.set (B := B) (p := pp) (q := pp) w1 ⟨pp, 1, none⟩ (.int .i64 ((i : Int) + 1)) (.inl rfl)
  have hC := hC.held (hS1 _) (by omega) (by omega)
  have hZ := hZ.held (hS1 _) (by omega) (by omega)
  rw [HDR.out] at hP
  clear c1 f1 rc rf rs oc of_ os hS1
  generalize w1.setCell ⟨pp, 1, none⟩ (.int .i64 ((i : Int) + 1)) = w2 at *
  have hat1 : (i + 1) + r1.length = b.length := hP.cx.at_
  generalize i + 1 = j at *
  have hHw := hP.cx.held
  have hov1 := HOV.out.keep (B := A) (w' := w2) (fun _ h => h) (fun g hg hlt => hHw.block g hlt (hA g hg) (hA g hg))
  have hG := hid (rget_any bLength hov1 (by omega))
  have hz2 := hZ.2.2
  have hHO := fun W7 (hp : Held w.heap.size pp pp w W7) => HOV.out.keep (B := A) (w' := W7) (fun _ h => h) (fun g hg hlt => hp.block g hlt (hA g hg) (hA g hg))
  have HO7 := hid hHO
  clear hov1 hHO
  obtain ⟨oc, of_, os⟩ := id hC
  go_upto_region 9 with (go_at_call 50; refine hG.out.mono ?_; rintro e w3 ⟨vs3, rfl, hg3, hb3⟩; have hP := hP.below hb3; have hC := hC.up hb3; have hZ := hZ.up hb3; have hs3 := hb3.size; have hV3 := hg3.v5; have hg3 := hid hg3; obtain ⟨y1, y2, y3, y4, y5, y6, y7, y8, y9, y10, y11, rfl⟩ := hV3)
  clear oc of_ os
  have hY := C5.new w3 _ rfl [.int .i64 y1, .int .i64 y2, .slice y3 y6 y7, .slice y4 y8 y9, .slice y5 y10 y11] 31
  have hP := hP.below (alb w3 (.cells #[.int .i64 y1, .int .i64 y2, .slice y3 y6 y7, .slice y4 y8 y9, .slice y5 y10 y11] 31))
  have hC := hC.up (alb w3 (.cells #[.int .i64 y1, .int .i64 y2, .slice y3 y6 y7, .slice y4 y8 y9, .slice y5 y10 y11] 31))
  have hZ := hZ.up (alb w3 (.cells #[.int .i64 y1, .int .i64 y2, .slice y3 y6 y7, .slice y4 y8 y9, .slice y5 y10 y11] 31))
  have hkd : (getE bLength d).kind = y1 := OV.kind hg3.out
  have hnm : (getE bLength d).num = y2 := OV.numv hg3.out
  have hS1 : dat1 (.mk 7 n0 b0 l0 d) r1 = if ¬ (y1 = 2 ∧ 0 ≤ y2) then .bad 4 r1 else if (r1.length : Int) < y2 then .bad 2 r1 else .ok (streamO (r1.take y2.toNat) (.mk 7 n0 b0 l0 d)) (eolA (r1.drop y2.toNat)) := by
    unfold dat1
    rw [show PO.ents (.mk 7 n0 b0 l0 d) = d from rfl, hkd, hnm]
  have hs4 := (alb w3 (.cells #[.int .i64 y1, .int .i64 y2, .slice y3 y6 y7, .slice y4 y8 y9, .slice y5 y10 y11] 31)).size
  clear hkd hnm hG hg3
  generalize w3.alloc (.cells #[.int .i64 y1, .int .i64 y2, .slice y3 y6 y7, .slice y4 y8 y9, .slice y5 y10 y11] 31) = w4 at *
  generalize w3.heap.size = g4 at *
  obtain ⟨yc, yf, ys⟩ := id hY
  obtain ⟨rc, rf, rs⟩ := id hZ
  by_cases hk : y1 = 2 ∧ 0 ≤ y2
  · obtain ⟨rfl, hn0⟩ := hk
    obtain ⟨m, rfl⟩ : ∃ m : Nat, y2 = m := ⟨y2.toNat, by omega⟩
    have b2 : ¬ ((m : Int) < 0) := by omega
    have b2' : decide ((m : Int) < 0) = false := decide_eq_false b2
    rw [if_neg (by simp), Int.toNat_natCast] at hS1
    have HS1 := hid hS1
    clear hS1
    obtain ⟨aoB, capB, k1, -⟩ := hP.cx.cur
    have c0 := k1.c0
    have c1 := k1.c1
    have hbz : b.length ≤ 1000000 := k1.sm
    clear k1
    obtain ⟨bq, hbq⟩ : ∃ bq, bq = decide ((b.length : Int) - (j : Int) < (m : Int)) := ⟨_, rfl⟩
    have HBQ := hid hbq
    have hwr : IntKind.i64.wrap ((b.length : Int) - (j : Int)) = (b.length : Int) - (j : Int) := IntWalk.i64_in _ (by omega)
    clear hbq
    go_upto_region 11 with fail
    go_cut [79] (fun s79 wx => s79 = .bool bq ∧ Below w4.heap.size w4 wx)
    case first =>
      go_quiet (fail)
      go_wp2_with fail
      go_meet
      exact ⟨by rw [HBQ.out], below_drewN (Below.refl _ _) _⟩
    case rest =>
      obtain ⟨rfl, hb5⟩ := hcut
      obtain ⟨w5, rfl⟩ : ∃ x : World, x = wc := ⟨_, rfl⟩
      have hP := hP.below hb5
      have hC := hC.up hb5
      have hZ := hZ.up hb5
      have hY := hY.up hb5
      have hs5 := hb5.size
      clear yc yf ys rc rf rs c0 c1 hwr
      obtain ⟨yc, yf, ys⟩ := id hY
      obtain ⟨rc, rf, rs⟩ := id hZ
      cases bq with
      | true =>
        have hlt : (b.length : Int) - (j : Int) < (m : Int) := of_decide_eq_true HBQ.out.symm
        have hS2 := HS1.out
        rw [if_pos (by omega)] at hS2
        have HS2 := hid hS2
        clear hS2 hlt
        go_wp2
        obtain ⟨k0, k1, k2, k3, k4⟩ := (hZ.set5 (a := .int .i64 0) (b := .int .i64 0) (c := .slice none 0 0) (d := .slice none 0 0) (e := .slice none 0 0) rfl).s5
        have hh := fun B => set5_held w5 B (w.heap.size + 1) (.int .i64 0) (.int .i64 0) (.slice none 0 0) (.slice none 0 0) (.slice none 0 0)
        have hP5 := hP.off (hh w.heap.size) (Nat.le_refl _) (by omega)
        refine bodyPost_ret (v := .tuple #[.agg #[.int .i64 0, .int .i64 0, .slice none 0 0, .slice none 0 0, .slice none 0 0], .int .i64 2]) (by simp [results, Tryz.results26, go_sem, k0, k1, k2, k3, k4]) rfl ?_
        show RVQ q dp w pp b _ _ _
        rw [HS2.out]
        exact ⟨rfl, _, hP5⟩
      | false =>
        have hlt : ¬ (b.length : Int) - (j : Int) < (m : Int) := of_decide_eq_false HBQ.out.symm
        have hS2 := HS1.out
        rw [if_neg (by omega)] at hS2
        have HS2 := hid hS2
        have hml : m ≤ r1.length := by omega
        clear hS2 hlt HS1 HBQ
        obtain ⟨oc, of_, os⟩ := id hC
        have hDR := hid (rdrop_any bLength (SlX.lit1 w5 w5.heap.size rfl [.string (st bLength)] 9 1 rfl) (HO7.out (w5.alloc (.cells #[.string (st bLength)] 9)) (hP.below (alb w5 (.cells #[.string (st bLength)] 9))).cx.held) hd8)
        go_upto_region 15 with (go_at_call 51; refine hDR.out.mono ?_; rintro e w8 ⟨vs8, rfl, hd9, hb8⟩; have hP := (hP.below (alb w5 (.cells #[.string (st bLength)] 9))).below hb8; have hC := (hC.up (alb w5 (.cells #[.string (st bLength)] 9))).up hb8; have hZ := (hZ.up (alb w5 (.cells #[.string (st bLength)] 9))).up hb8; have hY := (hY.up (alb w5 (.cells #[.string (st bLength)] 9))).up hb8; have hs8 := hb8.size; have hV8 := hd9.v5; have hd9 := hid hd9; obtain ⟨z1, z2, z3, z4, z5, z6, z7, z8, z9, z10, z11, rfl⟩ := hV8)
        have hQ := C5.new w8 _ rfl [.int .i64 8, .int .i64 z2, .slice z3 z6 z7, .slice z4 z8 z9, .slice z5 z10 z11] 31
        have hP := hP.below (alb w8 (.cells #[.int .i64 8, .int .i64 z2, .slice z3 z6 z7, .slice z4 z8 z9, .slice z5 z10 z11] 31))
        have hZ := hZ.up (alb w8 (.cells #[.int .i64 8, .int .i64 z2, .slice z3 z6 z7, .slice z4 z8 z9, .slice z5 z10 z11] 31))
        have hY := hY.up (alb w8 (.cells #[.int .i64 8, .int .i64 z2, .slice z3 z6 z7, .slice z4 z8 z9, .slice z5 z10 z11] 31))
        have hzz : w5.heap.size + 1 ≤ w8.heap.size := by simpa using hs8
        have HOV8 := hid (hd9.out.keep (B := fun g => w.heap.size + 2 ≤ g ∧ g < w8.heap.size) (w' := w8.alloc (.cells #[.int .i64 8, .int .i64 z2, .slice z3 z6 z7, .slice z4 z8 z9, .slice z5 z10 z11] 31)) (fun g hg => ⟨by have := hg.1; simp at this; omega, hg.2⟩) (fun g hg hlt => (alb w8 (.cells #[.int .i64 8, .int .i64 z2, .slice z3 z6 z7, .slice z4 z8 z9, .slice z5 z10 z11] 31)).block g hlt))
        have hg49 : g4 < w8.heap.size := by have := hC.2.2; have := hY.2.2; omega
        clear hd9 oc of_ os rc rf rs yc yf ys hDR hC
        generalize w8.alloc (.cells #[.int .i64 8, .int .i64 z2, .slice z3 z6 z7, .slice z4 z8 z9, .slice z5 z10 z11] 31) = w9 at *
        generalize w8.heap.size = g9 at *
        have hlt9 := hQ.2.2
        have hHP9 := hP.cx.held
        have hpp9 : pp < w9.heap.size := hP.low.2
        go_cut [] (fun wx => ∃ ao10 cap10, C5 wx g9 [.int .i64 8, .int .i64 z2, .slice ao10 m cap10, .slice z4 z8 z9, .slice z5 z10 z11] ∧ OV (fun g => w.heap.size + 2 ≤ g ∧ g < wx.heap.size ∧ g ≠ g9) wx [.int .i64 8, .int .i64 z2, .slice ao10 m cap10, .slice z4 z8 z9, .slice z5 z10 z11] (.mk 8 n0 (r1.take m) l0 (wi (bLength, poNull) d)) ∧ Pd q dp w wx pp b j r1 ∧ C5 wx (w.heap.size + 1) [.int .i64 0, .int .i64 0, .slice none 0 0, .slice none 0 0, .slice none 0 0] ∧ C5 wx g4 [.int .i64 2, .int .i64 m, .slice y3 y6 y7, .slice y4 y8 y9, .slice y5 y10 y11])
        case first =>
          obtain ⟨aoB, capB, k1, -⟩ := hP.cx.cur
          obtain ⟨u, hu, hrun⟩ := sl_part bytesTy (t := 22) k1.rd k1.le k1.mx k1.ni j (j + m) (by omega) (by omega)
          rw [Nat.add_sub_cancel_left, hP.cx.drp] at hu
          have hrun : ∀ w', (Instr.slice 22 (.slice aoB b.length capB) (some (.int .i64 (j : Int))) (some (.int .i64 ((j : Int) + (m : Int)))) none).run Tryz.prog w' = .ok u w' := fun w' => by simpa only [Int.natCast_add] using hrun w'
          have hbz : b.length ≤ 1000000 := k1.sm
          have hwr2 : IntKind.i64.wrap ((j : Int) + (m : Int)) = (j : Int) + (m : Int) := IntWalk.i64_in _ (by omega)
          have hbd : Below w9.heap.size w9 w9.drew := below_drewN (Below.refl _ _) 1
          have hml2 : (r1.take m).length = m := by rw [List.length_take]; omega
          have hCP := hid (copy_sl u (r1.take m) w9.drew (hu.up hbd) (by rw [hml2]; omega))
          have c0 := k1.c0
          have c1 := k1.c1
          have yy := hY.1 1
          clear k1 hu
          have HPN := hid (show pp ≠ g9 ∧ g4 ≠ g9 from by omega)
          go_region_held3 (fun w' => w'.cell? ⟨pp, 0, none⟩ = some (.slice aoB b.length capB) ∧ w'.cell? ⟨pp, 1, none⟩ = some (.int .i64 (j : Int)) ∧ w'.cell? ⟨g4, 1, none⟩ = some (.int .i64 (m : Int))) (first | go_keep | with_reducible exact ⟨c0, c1, yy⟩ | (refine ⟨?_, ?_, ?_⟩ <;> (rw [cset_ne (fun q => by injection q with q1 q2; first | exact HPN.out.1 q1.symm | exact HPN.out.2 q1.symm)]) <;> assumption) | skip) (first | (go_at_call 52; (with_reducible refine hCP.out.mono ?_); rintro e w10 ⟨v10, rfl, hr10, hb10⟩; obtain ⟨ao10, cap10, rfl, -, -, -⟩ := Rd.own hr10; rw [hml2]; rw [hml2] at hr10; have hbq := hbd.trans (hb10.mono hbd.size); have hP := hP.below hbq; have hQ := hQ.up hbq; have hZ := hZ.up hbq; have hY := hY.up hbq; have c0 := cell_up' hbq c0; have c1 := cell_up' hbq c1; have yy : w10.cell? ⟨g4, 1, none⟩ = some (.int .i64 (m : Int)) := hY.1 1; obtain ⟨qc, qf, qs⟩ := id hQ))
          all_goals
            go_wp2_with fail
            go_meet
            have hS := fun B => Held.set (B := B) (p := g9) (q := g9) w10 ⟨g9, 2, none⟩ (.slice ao10 m cap10) (.inl rfl)
            have hdz := hbd.size
            have hqz := hbq.size
            have hov9 := HOV8.out.keep (B := fun g => w.heap.size + 2 ≤ g ∧ g < w10.heap.size ∧ g ≠ g9) (w' := w10) (fun g hg => ⟨hg.1, by have := hg.2; omega, by have := hg.2; omega⟩) (fun g hg hlt => hbq.block g hlt)
            have hrl := World.ownsRow.lt hr10
            have hsl : SlA (fun g => w.heap.size + 2 ≤ g ∧ g < w10.heap.size ∧ g ≠ g9) w10 (.slice ao10 m cap10) (r1.take m) := ⟨by have := Sl.own hr10; exact this, fun g hg => ⟨by have := (hrl g hg).1; omega, (hrl g hg).2, by have := (hrl g hg).1; omega⟩⟩
            have hset := hov9.data2 (k2 := 8) hsl (by rw [hml2]; omega)
            exact ⟨ao10, cap10, hQ.set (k := 2) (by simp), hset.keep (fun g hg => ⟨hg.1, Nat.lt_of_lt_of_le hg.2.1 (hS 0).size, hg.2.2⟩) (fun g hg hlt => (hS w10.heap.size).block g hlt hg.2.2 hg.2.2), hP.off (hS w.heap.size) (Nat.le_refl _) (by omega), hZ.held (hS _) (by omega) (by omega), hY.held (hS _) (by omega) (by omega)⟩
        case rest =>
          obtain ⟨ao10, cap10, hQ, hov, hP, hZ, hY⟩ := hcut
          obtain ⟨wa, rfl⟩ : ∃ x : World, x = wc := ⟨_, rfl⟩
          have HOVA := hid hov
          clear hov
          have hg4 := hY.2.2
          have yy := hY.1 1
          have c1 := hP.cx.c1
          have f1 := hP.cx.f1
          have hbz : b.length ≤ 1000000 := hP.cx.sm
          have hwr3 : IntKind.i64.wrap ((j : Int) + (m : Int)) = (j : Int) + (m : Int) := IntWalk.i64_in _ (by omega)
          have HPN := hid (show pp ≠ g4 from by omega)
          go_upto_region 16 with fail
          go_cut [] (fun wx => Pd q dp w wx pp b (j + m) (r1.drop m) ∧ C5 wx g9 [.int .i64 8, .int .i64 z2, .slice ao10 m cap10, .slice z4 z8 z9, .slice z5 z10 z11] ∧ C5 wx (w.heap.size + 1) [.int .i64 0, .int .i64 0, .slice none 0 0, .slice none 0 0, .slice none 0 0] ∧ OV (fun g => w.heap.size + 2 ≤ g ∧ g < wx.heap.size ∧ g ≠ g9) wx [.int .i64 8, .int .i64 z2, .slice ao10 m cap10, .slice z4 z8 z9, .slice z5 z10 z11] (.mk 8 n0 (r1.take m) l0 (wi (bLength, poNull) d)))
          case first =>
            have hbx : Below (wa.setCell ⟨pp, 1, none⟩ (.int .i64 ((j : Int) + (m : Int)))).heap.size (wa.setCell ⟨pp, 1, none⟩ (.int .i64 ((j : Int) + (m : Int)))) (wa.setCell ⟨pp, 1, none⟩ (.int .i64 ((j : Int) + (m : Int)))).drew := below_drewN (Below.refl _ _) 1
            have HKP := hid (show (wa.setCell ⟨pp, 1, none⟩ (.int .i64 ((j : Int) + (m : Int)))).drew.cell? ⟨g4, 1, none⟩ = some (.int .i64 (m : Int)) from cell_up' hbx (by rw [cset_ne (fun q => by injection q with q1 q2; exact HPN.out q1)]; exact yy))
            have HKD := hid (show wa.drew.cell? ⟨g4, 1, none⟩ = some (.int .i64 (m : Int)) from cell_up' (show Below wa.heap.size wa wa.drew from below_drewN (Below.refl _ _) 1) yy)
            have hlv : opLd 3 (Operand.tmp 110) = Op.load 3 (Operand.tmp 110) := rfl
            rw [← hlv]
            go_region_held3 (fun w' => w'.cell? ⟨g4, 1, none⟩ = some (.int .i64 (m : Int))) (first | with_reducible exact HKP.out | with_reducible exact HKD.out | with_reducible exact yy | go_keep | skip) (fail)
            all_goals
              go_wp2_with fail
              go_meet
              have hX := hP.to (j + m) ((j : Int) + (m : Int)) (by omega) (by omega)
              rw [show b.drop (j + m) = r1.drop m by rw [← List.drop_drop, hP.cx.drp]] at hX
              have hSp := fun B => Held.set (B := B) (p := pp) (q := pp) wa ⟨pp, 1, none⟩ (.int .i64 ((j : Int) + (m : Int))) (.inl rfl)
              have hxs := hbx.size
              exact ⟨hX.below hbx, (hQ.held (hSp _) (by omega) (by omega)).up hbx, (hZ.held (hSp _) (by omega) (by omega)).up hbx, HOVA.out.keep (fun g hg => ⟨hg.1, Nat.lt_of_lt_of_le hg.2.1 (Nat.le_trans (hSp 0).size hxs), hg.2.2⟩) (fun g hg hlt => (hbx.block g (Nat.lt_of_lt_of_le hlt (hSp 0).size)).trans ((hSp wa.heap.size).block g hlt (by have := hg.1; omega) (by have := hg.1; omega)))⟩
          case rest =>
            obtain ⟨hP, hQ, hZ, hov⟩ := hcut
            obtain ⟨wb, rfl⟩ : ∃ x : World, x = wc := ⟨_, rfl⟩
            have HOVB := hid hov
            clear hov c1 f1 hwr3
            have c1 := hP.cx.c1
            have f1 := hP.cx.f1
            go_upto_region 18 with (go_at_call 53; refine (pd_eol hP.fresh).mono ?_; rintro e w11 ⟨tb, rfl, j11, hPs⟩; have hP := hP.join hPs; have hQ := hQ.held hPs.cx.held (by omega) (by omega); have hZ := hZ.held hPs.cx.held (by omega) (by omega))
            have HOV9 := hid (HOVB.out.keep (B := fun g => w.heap.size + 2 ≤ g ∧ g < w11.heap.size ∧ g ≠ g9) (w' := w11) (fun g hg => ⟨hg.1, Nat.lt_of_lt_of_le hg.2.1 hPs.cx.held.size, hg.2.2⟩) (fun g hg hlt => hPs.cx.held.block g hlt (by have := hg.1; omega) (by have := hg.1; omega)))
            obtain ⟨qc, qf, qs⟩ := id hQ
            obtain ⟨rc, rf, rs⟩ := id hZ
            go_wp2
            obtain ⟨k0, k1, k2, k3, k4⟩ := (hZ.set5 (a := .int .i64 8) (b := .int .i64 z2) (c := .slice ao10 m cap10) (d := .slice z4 z8 z9) (e := .slice z5 z10 z11) rfl).s5
            have hh := fun B => set5_held w11 B (w.heap.size + 1) (.int .i64 8) (.int .i64 z2) (.slice ao10 m cap10) (.slice z4 z8 z9) (.slice z5 z10 z11)
            have hP5 := hP.off (hh w.heap.size) (Nat.le_refl _) (by omega)
            refine bodyPost_ret (v := .tuple #[.agg #[.int .i64 8, .int .i64 z2, .slice ao10 m cap10, .slice z4 z8 z9, .slice z5 z10 z11], .int .i64 0]) (by simp [results, Tryz.results26, go_sem, k0, k1, k2, k3, k4]) rfl ?_
            show RVQ q dp w pp b _ _ _
            rw [HS2.out]
            exact ⟨[.int .i64 8, .int .i64 z2, .slice ao10 m cap10, .slice z4 z8 z9, .slice z5 z10 z11], rfl, HOV9.out.keep (fun g hg => ⟨by have := hg.1; omega, Nat.lt_of_lt_of_le hg.2.1 (hh 0).size⟩) (fun g hg hlt => (hh w11.heap.size).block g hlt (by have := hg.1; omega) (by have := hg.1; omega)), _, hP5⟩
  · have hS2 := hS1
    rw [if_pos hk] at hS2
    have HS2 := hid hS2
    have hk2 : (y1 != 2) = true ∨ (y1 = 2 ∧ decide (y2 < 0) = true) := by
      by_cases z : y1 = 2
      · exact .inr ⟨z, decide_eq_true (by omega)⟩
      · exact .inl (by simp [z])
    clear hS1 hS2 hk
    rcases hk2 with bk | ⟨rfl, bk⟩
    · go_wp2
      obtain ⟨k0, k1, k2, k3, k4⟩ := (hZ.set5 (a := .int .i64 0) (b := .int .i64 0) (c := .slice none 0 0) (d := .slice none 0 0) (e := .slice none 0 0) rfl).s5
      have hh := fun B => set5_held w4 B (w.heap.size + 1) (.int .i64 0) (.int .i64 0) (.slice none 0 0) (.slice none 0 0) (.slice none 0 0)
      have hP5 := hP.off (hh w.heap.size) (Nat.le_refl _) (by omega)
      refine bodyPost_ret (v := .tuple #[.agg #[.int .i64 0, .int .i64 0, .slice none 0 0, .slice none 0 0, .slice none 0 0], .int .i64 4]) (by simp [results, Tryz.results26, go_sem, k0, k1, k2, k3, k4]) rfl ?_
      show RVQ q dp w pp b _ _ _
      rw [HS2.out]
      exact ⟨rfl, _, hP5⟩
    · go_wp2
      obtain ⟨k0, k1, k2, k3, k4⟩ := (hZ.set5 (a := .int .i64 0) (b := .int .i64 0) (c := .slice none 0 0) (d := .slice none 0 0) (e := .slice none 0 0) rfl).s5
      have hh := fun B => set5_held w4 B (w.heap.size + 1) (.int .i64 0) (.int .i64 0) (.slice none 0 0) (.slice none 0 0) (.slice none 0 0)
      have hP5 := hP.off (hh w.heap.size) (Nat.le_refl _) (by omega)
      refine bodyPost_ret (v := .tuple #[.agg #[.int .i64 0, .int .i64 0, .slice none 0 0, .slice none 0 0, .slice none 0 0], .int .i64 4]) (by simp [results, Tryz.results26, go_sem, k0, k1, k2, k3, k4]) rfl ?_
      show RVQ q dp w pp b _ _ _
      rw [HS2.out]
      exact ⟨rfl, _, hP5⟩
end Go.Proofs.YtlmgklebikcbjaaGreat

/-
  The document's Item: an object with its number, its stream. Conditions: the parser stands in its bytes, these are no more than 800000.
-/
namespace Go.Proofs.YtlmgklebikcbjaaGreat
open Go.RowKit
set_option linter.unusedVariables false

/-- what Item gives -/
def RItQ (q : Bool) (dp : Nat) (w : World) (pp : Nat) (b : List UInt8) (r : IRes) (e : Ending) (w' : World) : Prop :=
  ∃ vs : List Value, e = .returned (.tuple #[.agg (.int .i64 r.n :: vs).toArray, .int .i64 r.code]) ∧ OV (fun g => w.heap.size ≤ g ∧ g < w'.heap.size) w' vs r.obj ∧ ∃ j, Pd q dp w w' pp b j r.rest
theorem RItQ.bad {q : Bool} {dp : Nat} {w : World} {pp : Nat} {b : List UInt8} {x : Int} {t : List UInt8} {e : Ending} {w' : World} (h1 : e = .returned (.tuple #[.agg #[.int .i64 0, .int .i64 0, .int .i64 0, .slice none 0 0, .slice none 0 0, .slice none 0 0], .int .i64 x])) (h2 : ∃ j, Pd q dp w w' pp b j t) : RItQ q dp w pp b (.bad x t) e w' := ⟨[.int .i64 0, .int .i64 0, .slice none 0 0, .slice none 0 0, .slice none 0 0], h1, OV.num 0 0, h2⟩
theorem rword_w' {q : Bool} {dp : Nat} {w : World} {pp : Nat} {b s : List UInt8} {i : Nat} (h : Pd q dp w w pp b i s) (v : ByteArray) (p : List UInt8) (e : v.data.toList = p) :
    Calls Tryz.prog 23 #[.pointer (some ⟨pp, 0, none⟩), .string v] w fun e w' => RSQ q dp w pp b (wantS p s) e w' := by rw [st_of e]; exact rword_w h p
theorem rdat_any {q : Bool} {A : Nat → Prop} {dp : Nat} {w : World} {pp : Nat} {b s : List UInt8} {i : Nat} {n0 : Int} {b0 : List UInt8} {l0 : List PO} {d : List (List UInt8 × PO)} {vs : List Value} (h : Pd q dp w w pp b i s) (hov : OV A w vs (.mk 7 n0 b0 l0 d)) (hA : ∀ g, A g → g ≠ pp) (hd8 : d.length ≤ 800000) :
    Calls Tryz.prog 26 #[.pointer (some ⟨pp, 0, none⟩), .agg vs.toArray] w fun e w' => RVQ q dp w pp b (dat (.mk 7 n0 b0 l0 d) s) e w' := by
  unfold dat
  by_cases h1 : hd s = 13 ∧ hd s.tail = 10
  · have e1 : eolS s = some (s.drop 2) := by unfold eolS; rw [if_pos ((pfx1310 s).2 h1)]
    rw [e1]
    exact rdat_rn h hov hA hd8 rfl h1
  · by_cases h2 : hd s = 10
    · have e1 : eolS s = some (s.drop 1) := by unfold eolS; rw [if_neg (fun q => h1 ((pfx1310 s).1 q)), if_pos ((pfx10 s).2 h2)]
      rw [e1]
      exact rdat_nl h hov hA hd8 rfl h2
    · have e1 : eolS s = none := by unfold eolS; rw [if_neg (fun q => h1 ((pfx1310 s).1 q)), if_neg (fun q => h2 ((pfx10 s).1 q))]
      rw [e1]
      exact rdat_no h hov.v5 h1 h2
theorem dat_err {o : PO} {s t : List UInt8} {x : Int} (h : dat o s = .bad x t) : (x == 0) = false := by
  have h1 := strm_err (o := o) (s := s) (t := t) (x := x) (by rw [strm_dat, h]; rfl)
  simpa [bne] using h1

set_option maxHeartbeats 6400000 in
set_option maxRecDepth 100000 in
theorem ritem_any {q : Bool} {dp : Nat} {w : World} {pp : Nat} {b s : List UInt8} {i : Nat} (h : Pd q dp w w pp b i s) (hv : RValueC q dp pp b dp) (hbl : b.length ≤ 800000) :
    Calls Tryz.prog 9 #[.pointer (some ⟨pp, 0, none⟩)] w fun e w' => ∃ r, IT q dp s r ∧ RItQ q dp w pp b r e w' := by
  have hlow := h.low.1
  have hP := h.below (alb w (.cells #[.int .i64 0, .int .i64 0, .int .i64 0, .slice none 0 0, .slice none 0 0, .slice none 0 0] 33))
  have hZ := C5.new w _ rfl [.int .i64 0, .int .i64 0, .int .i64 0, .slice none 0 0, .slice none 0 0, .slice none 0 0] 33
  have hz1 : (w.alloc (.cells #[.int .i64 0, .int .i64 0, .int .i64 0, .slice none 0 0, .slice none 0 0, .slice none 0 0] 33)).heap.size = w.heap.size + 1 := by simp
  clear h
  obtain ⟨rc, rf, rs⟩ := id hZ
  rcases h1 : wantN 1 8388607 s with ⟨x, t⟩ | ⟨n, r0⟩
  · have H1 := hid h1
    have bx := wantN_err h1
    have by0 : (x == 0) = false := want_err h1
    clear h1
    go_enter Tryz.func9, Tryz.ntmps9
    go_wp2_with (first | (go_at_call 22; (with_reducible refine (rwhole_w hP.fresh 1 8388607).mono ?_); rw [H1.out]; rintro e w1 ⟨rfl, j1, hPs⟩; have hP := hP.join hPs; have hZ := hZ.held hPs.cx.held (by omega) (by omega); obtain ⟨rc, rf, rs⟩ := id hZ))
    obtain ⟨k0, k1, k2, k3, k4, k5⟩ := (hZ.set6 (a := .int .i64 0) (b := .int .i64 0) (c := .int .i64 0) (d := .slice none 0 0) (e := .slice none 0 0) (f := .slice none 0 0) rfl).s6
    have hh := fun B => set6_held w1 B w.heap.size (.int .i64 0) (.int .i64 0) (.int .i64 0) (.slice none 0 0) (.slice none 0 0) (.slice none 0 0)
    have hP5 := hP.off (hh w.heap.size) (Nat.le_refl _) (Nat.le_refl _)
    have k0 := cell_up' (alb _ (.cells #[.int .i64 0, .int .i64 0, .slice none 0 0, .slice none 0 0, .slice none 0 0] 31)) k0
    have k1 := cell_up' (alb _ (.cells #[.int .i64 0, .int .i64 0, .slice none 0 0, .slice none 0 0, .slice none 0 0] 31)) k1
    have k2 := cell_up' (alb _ (.cells #[.int .i64 0, .int .i64 0, .slice none 0 0, .slice none 0 0, .slice none 0 0] 31)) k2
    have k3 := cell_up' (alb _ (.cells #[.int .i64 0, .int .i64 0, .slice none 0 0, .slice none 0 0, .slice none 0 0] 31)) k3
    have k4 := cell_up' (alb _ (.cells #[.int .i64 0, .int .i64 0, .slice none 0 0, .slice none 0 0, .slice none 0 0] 31)) k4
    have k5 := cell_up' (alb _ (.cells #[.int .i64 0, .int .i64 0, .slice none 0 0, .slice none 0 0, .slice none 0 0] 31)) k5
    have hP5 := hP5.below (alb _ (.cells #[.int .i64 0, .int .i64 0, .slice none 0 0, .slice none 0 0, .slice none 0 0] 31))
    exact bodyPost_ret (v := .tuple #[.agg #[.int .i64 0, .int .i64 0, .int .i64 0, .slice none 0 0, .slice none 0 0, .slice none 0 0], .int .i64 x]) (by simp [results, Tryz.results9, go_sem, k0, k1, k2, k3, k4, k5]) rfl ⟨_, .b1 H1.out, .bad rfl ⟨_, hP5⟩⟩
  · rcases h2 : wantN 0 0 r0 with ⟨x, t⟩ | ⟨n1, r1⟩
    · have H1 := hid h1
      have H2 := hid h2
      have bx := wantN_err h2
      have by0 : (x == 0) = false := want_err h2
      clear h1 h2
      go_enter Tryz.func9, Tryz.ntmps9
      go_wp2_with (first | (go_at_call 22; (with_reducible refine (rwhole_w hP.fresh 0 0).mono ?_); rw [H2.out]; rintro e w1 ⟨rfl, j1, hPs⟩; have hP := hP.join hPs; have hZ := hZ.held hPs.cx.held (by omega) (by omega); obtain ⟨rc, rf, rs⟩ := id hZ) | (go_at_call 22; (with_reducible refine (rwhole_w hP.fresh 1 8388607).mono ?_); rw [H1.out]; rintro e w1 ⟨rfl, j1, hPs⟩; have hP := hP.join hPs; have hZ := hZ.held hPs.cx.held (by omega) (by omega); obtain ⟨rc, rf, rs⟩ := id hZ))
      obtain ⟨k0, k1, k2, k3, k4, k5⟩ := (hZ.set6 (a := .int .i64 0) (b := .int .i64 0) (c := .int .i64 0) (d := .slice none 0 0) (e := .slice none 0 0) (f := .slice none 0 0) rfl).s6
      have hh := fun B => set6_held w1 B w.heap.size (.int .i64 0) (.int .i64 0) (.int .i64 0) (.slice none 0 0) (.slice none 0 0) (.slice none 0 0)
      have hP5 := hP.off (hh w.heap.size) (Nat.le_refl _) (Nat.le_refl _)
      have k0 := cell_up' (alb _ (.cells #[.int .i64 0, .int .i64 0, .slice none 0 0, .slice none 0 0, .slice none 0 0] 31)) k0
      have k1 := cell_up' (alb _ (.cells #[.int .i64 0, .int .i64 0, .slice none 0 0, .slice none 0 0, .slice none 0 0] 31)) k1
      have k2 := cell_up' (alb _ (.cells #[.int .i64 0, .int .i64 0, .slice none 0 0, .slice none 0 0, .slice none 0 0] 31)) k2
      have k3 := cell_up' (alb _ (.cells #[.int .i64 0, .int .i64 0, .slice none 0 0, .slice none 0 0, .slice none 0 0] 31)) k3
      have k4 := cell_up' (alb _ (.cells #[.int .i64 0, .int .i64 0, .slice none 0 0, .slice none 0 0, .slice none 0 0] 31)) k4
      have k5 := cell_up' (alb _ (.cells #[.int .i64 0, .int .i64 0, .slice none 0 0, .slice none 0 0, .slice none 0 0] 31)) k5
      have hP5 := hP5.below (alb _ (.cells #[.int .i64 0, .int .i64 0, .slice none 0 0, .slice none 0 0, .slice none 0 0] 31))
      exact bodyPost_ret (v := .tuple #[.agg #[.int .i64 0, .int .i64 0, .int .i64 0, .slice none 0 0, .slice none 0 0, .slice none 0 0], .int .i64 x]) (by simp [results, Tryz.results9, go_sem, k0, k1, k2, k3, k4, k5]) rfl ⟨_, .b2 H1.out H2.out, .bad rfl ⟨_, hP5⟩⟩
    · rcases h3 : wantS bObj r1 with ⟨x, t⟩ | ⟨n2, r2⟩
      · have H1 := hid h1
        have H2 := hid h2
        have H3 := hid h3
        have bx := wantS_err h3
        have by0 : (x == 0) = false := want_err h3
        clear h1 h2 h3
        go_enter Tryz.func9, Tryz.ntmps9
        go_wp2_with (first | (go_at_call 23; (with_reducible refine (rword_w' hP.fresh _ bObj (by decide)).mono ?_); rw [H3.out]; rintro e w1 ⟨rfl, j1, hPs⟩; have hP := hP.join hPs; have hZ := hZ.held hPs.cx.held (by omega) (by omega); obtain ⟨rc, rf, rs⟩ := id hZ) | (go_at_call 22; (with_reducible refine (rwhole_w hP.fresh 0 0).mono ?_); rw [H2.out]; rintro e w1 ⟨rfl, j1, hPs⟩; have hP := hP.join hPs; have hZ := hZ.held hPs.cx.held (by omega) (by omega); obtain ⟨rc, rf, rs⟩ := id hZ) | (go_at_call 22; (with_reducible refine (rwhole_w hP.fresh 1 8388607).mono ?_); rw [H1.out]; rintro e w1 ⟨rfl, j1, hPs⟩; have hP := hP.join hPs; have hZ := hZ.held hPs.cx.held (by omega) (by omega); obtain ⟨rc, rf, rs⟩ := id hZ))
        obtain ⟨k0, k1, k2, k3, k4, k5⟩ := (hZ.set6 (a := .int .i64 0) (b := .int .i64 0) (c := .int .i64 0) (d := .slice none 0 0) (e := .slice none 0 0) (f := .slice none 0 0) rfl).s6
        have hh := fun B => set6_held w1 B w.heap.size (.int .i64 0) (.int .i64 0) (.int .i64 0) (.slice none 0 0) (.slice none 0 0) (.slice none 0 0)
        have hP5 := hP.off (hh w.heap.size) (Nat.le_refl _) (Nat.le_refl _)
        have k0 := cell_up' (alb _ (.cells #[.int .i64 0, .int .i64 0, .slice none 0 0, .slice none 0 0, .slice none 0 0] 31)) k0
        have k1 := cell_up' (alb _ (.cells #[.int .i64 0, .int .i64 0, .slice none 0 0, .slice none 0 0, .slice none 0 0] 31)) k1
        have k2 := cell_up' (alb _ (.cells #[.int .i64 0, .int .i64 0, .slice none 0 0, .slice none 0 0, .slice none 0 0] 31)) k2
        have k3 := cell_up' (alb _ (.cells #[.int .i64 0, .int .i64 0, .slice none 0 0, .slice none 0 0, .slice none 0 0] 31)) k3
        have k4 := cell_up' (alb _ (.cells #[.int .i64 0, .int .i64 0, .slice none 0 0, .slice none 0 0, .slice none 0 0] 31)) k4
        have k5 := cell_up' (alb _ (.cells #[.int .i64 0, .int .i64 0, .slice none 0 0, .slice none 0 0, .slice none 0 0] 31)) k5
        have hP5 := hP5.below (alb _ (.cells #[.int .i64 0, .int .i64 0, .slice none 0 0, .slice none 0 0, .slice none 0 0] 31))
        exact bodyPost_ret (v := .tuple #[.agg #[.int .i64 0, .int .i64 0, .int .i64 0, .slice none 0 0, .slice none 0 0, .slice none 0 0], .int .i64 x]) (by simp [results, Tryz.results9, go_sem, k0, k1, k2, k3, k4, k5]) rfl ⟨_, .b3 H1.out H2.out H3.out, .bad rfl ⟨_, hP5⟩⟩
      · have H1 := hid h1
        have H2 := hid h2
        have H3 := hid h3
        have HGO := hid (fun (res : PRes) (hp : PV q (.v dp) r2 res) => IT.go h1 h2 h3 hp)
        clear h1 h2 h3
        go_enter Tryz.func9, Tryz.ntmps9
        go_upto_region 8 with (first | (go_at_call 23; (with_reducible refine (rword_w' hP.fresh _ bObj (by decide)).mono ?_); rw [H3.out]; rintro e w1 ⟨rfl, j1, hPs⟩; have hP := hP.join hPs; have hZ := hZ.held hPs.cx.held (by omega) (by omega); obtain ⟨rc, rf, rs⟩ := id hZ) | (go_at_call 22; (with_reducible refine (rwhole_w hP.fresh 0 0).mono ?_); rw [H2.out]; rintro e w1 ⟨rfl, j1, hPs⟩; have hP := hP.join hPs; have hZ := hZ.held hPs.cx.held (by omega) (by omega); obtain ⟨rc, rf, rs⟩ := id hZ) | (go_at_call 22; (with_reducible refine (rwhole_w hP.fresh 1 8388607).mono ?_); rw [H1.out]; rintro e w1 ⟨rfl, j1, hPs⟩; have hP := hP.join hPs; have hZ := hZ.held hPs.cx.held (by omega) (by omega); obtain ⟨rc, rf, rs⟩ := id hZ))
        have hZ1L := hZ.2.2
        have hP := hP.below (alb w1 (.cells #[.int .i64 0, .int .i64 0, .slice none 0 0, .slice none 0 0, .slice none 0 0] 31))
        have hZ := hZ.up (alb w1 (.cells #[.int .i64 0, .int .i64 0, .slice none 0 0, .slice none 0 0, .slice none 0 0] 31))
        have hO := C5.new w1 _ rfl [.int .i64 0, .int .i64 0, .slice none 0 0, .slice none 0 0, .slice none 0 0] 31
        have hg6 : w.heap.size + 1 ≤ w1.heap.size := hZ1L
        have hr2 : r2.length ≤ 800000 := by have := hP.cx.at_; omega
        clear rc rf rs
        generalize w1.alloc (.cells #[.int .i64 0, .int .i64 0, .slice none 0 0, .slice none 0 0, .slice none 0 0] 31) = w4 at *
        generalize w1.heap.size = g6 at *
        obtain ⟨rc, rf, rs⟩ := id hZ
        obtain ⟨oc, of_, os⟩ := id hO
        have hg64 : g6 < w4.heap.size := hO.2.2
        go_cut [5] (fun s5 wx => ∃ (c : Int) (res : PRes) (vs : List Value) (j : Nat), s5 = .int .i64 c ∧ c = res.code ∧ PV q (.v dp) r2 res ∧ V5 vs ∧ C5 wx g6 vs ∧ OV (AI w g6 wx) wx vs res.obj ∧ Pd q dp w wx pp b j res.rest ∧ C5 wx w.heap.size [.int .i64 0, .int .i64 0, .int .i64 0, .slice none 0 0, .slice none 0 0, .slice none 0 0])
        case first =>
          go_wp2_with (go_at_call 24; refine (rvalue_top hP.fresh hv).mono ?_; rintro e w5 ⟨res, hpv, hvq⟩; obtain ⟨vs, rfl, hov, j5, hPs⟩ := hvq.both; have hV := hov.v5; have hP := hP.join hPs; have hZ := hZ.held hPs.cx.held (by omega) (by omega); obtain ⟨rc, rf, rs⟩ := id hZ; have hO := hO.held hPs.cx.held (by omega) (by omega); obtain ⟨oc, of_, os⟩ := id hO; have hov := hid hov; have hs5 := hPs.cx.size; obtain ⟨y1, y2, y3, y4, y5, y6, y7, y8, y9, y10, y11, rfl⟩ := hV)
          go_meet
          have hS5 := fun B => set5_held w5 B g6 (.int .i64 y1) (.int .i64 y2) (.slice y3 y6 y7) (.slice y4 y8 y9) (.slice y5 y10 y11)
          exact ⟨_, res, _, _, rfl, rfl, hpv, ⟨y1, y2, y3, y4, y5, y6, y7, y8, y9, y10, y11, rfl⟩, hO.set5 (a := .int .i64 y1) (b := .int .i64 y2) (c := .slice y3 y6 y7) (d := .slice y4 y8 y9) (e := .slice y5 y10 y11) rfl, hov.out.keep (fun g hg => ⟨by have := hg.1; omega, by have := hg.1; omega, Nat.lt_of_lt_of_le hg.2 (hS5 0).size⟩) (fun g hg hlt => (hS5 w5.heap.size).block g hlt (by have := hg.1; omega) (by have := hg.1; omega)), hP.off (hS5 w.heap.size) (Nat.le_refl _) (by omega), hZ.held (hS5 _) (by omega) (by omega)⟩
        case rest =>
          obtain ⟨c, res, vs, j5, rfl, hc, hpv, hV, hO, hov, hP, hZ⟩ := hcut
          obtain ⟨w6, rfl⟩ : ∃ x : World, x = wc := ⟨_, rfl⟩
          obtain ⟨y1, y2, y3, y4, y5, y6, y7, y8, y9, y10, y11, rfl⟩ := hV
          have hfit := hpv.fit
          clear rc rf rs oc of_ os hg64
          obtain ⟨oc, of_, os⟩ := id hO
          obtain ⟨rc, rf, rs⟩ := id hZ
          rcases res with ⟨x, t⟩ | ⟨o, r⟩
          · have hc0 : c = x := hc
            clear hc
            subst hc0
            have by0 : (c == 0) = false := hfit
            have bx : (c != 0) = true := by simp only [bne, by0]; rfl
            have HGP := hid (HGO.out _ hpv)
            clear hpv hfit hov
            go_wp2
            obtain ⟨k0, k1, k2, k3, k4, k5⟩ := (hZ.set6 (a := .int .i64 0) (b := .int .i64 0) (c := .int .i64 0) (d := .slice none 0 0) (e := .slice none 0 0) (f := .slice none 0 0) rfl).s6
            have hh := fun B => set6_held w6 B w.heap.size (.int .i64 0) (.int .i64 0) (.int .i64 0) (.slice none 0 0) (.slice none 0 0) (.slice none 0 0)
            have hP5 := hP.off (hh w.heap.size) (Nat.le_refl _) (Nat.le_refl _)
            exact bodyPost_ret (v := .tuple #[.agg #[.int .i64 0, .int .i64 0, .int .i64 0, .slice none 0 0, .slice none 0 0, .slice none 0 0], .int .i64 c]) (by simp [results, Tryz.results9, go_sem, k0, k1, k2, k3, k4, k5]) rfl ⟨_, HGP.out, .bad rfl ⟨_, hP5⟩⟩
          · have hc0 : c = 0 := hc
            clear hc
            subst hc0
            have hkd : o.kind = y1 := OV.kind hov
            have hfew := hpv.few
            have HGP := hid (HGO.out _ hpv)
            clear hpv hfit HGO
            obtain ⟨kb, hkb⟩ : ∃ kb, kb = decide (o.kind = 7 ∧ KW bStream r = true) := ⟨_, rfl⟩
            have HKB := hid hkb
            have HKD := hid hkd
            have HOV := hid hov
            clear hkb hkd hov
            go_upto_region 9 with fail
            go_cut [43] (fun s43 wx => ∃ j, s43 = .bool kb ∧ Pd q dp w wx pp b j (bif kb then (r.drop (bl r false)).drop 6 else r) ∧ C5 wx g6 [.int .i64 y1, .int .i64 y2, .slice y3 y6 y7, .slice y4 y8 y9, .slice y5 y10 y11] ∧ C5 wx w.heap.size [.int .i64 0, .int .i64 0, .int .i64 0, .slice none 0 0, .slice none 0 0, .slice none 0 0] ∧ OV (AI w g6 wx) wx [.int .i64 y1, .int .i64 y2, .slice y3 y6 y7, .slice y4 y8 y9, .slice y5 y10 y11] o)
            case first =>
              by_cases hk : y1 = 7
              · subst hk
                cases hKW : KW bStream r with
                | true =>
                  have e1 : kb = true := by rw [HKB.out, HKD.out, hKW]; rfl
                  have HKW := hid hKW
                  clear hKW
                  subst e1
                  go_wp2_with (first | (go_at_call 25; refine (rkey_yes (st bStream) (by decide) HKW.out hP.cx.fresh).mono ?_; rintro e w7 ⟨rfl, hCx⟩; have hPs : Pd q dp w6 w7 pp b _ _ := hP.fresh.step hCx; have hP := hP.join hPs; have hZ := hZ.held hPs.cx.held (by omega) (by omega); have hO := hO.held hPs.cx.held (by omega) (by omega); have hov7 := hid (ovI_held HOV.out hPs.cx.held ⟨hlow, hlow⟩); obtain ⟨rc, rf, rs⟩ := id hZ))
                  go_meet
                  exact ⟨_, rfl, hP, hO, hZ, hov7.out⟩
                | false =>
                  have e1 : kb = false := by rw [HKB.out, HKD.out, hKW]; rfl
                  have HKW := hid hKW
                  clear hKW
                  subst e1
                  go_wp2_with (first | (go_at_call 25; refine (rkey_no (st bStream) (by decide) HKW.out hP.cx.fresh).mono ?_; rintro e w7 ⟨rfl, hCx⟩; have hPs : Pd q dp w6 w7 pp b _ _ := hP.fresh.step hCx; have hP := hP.join hPs; have hZ := hZ.held hPs.cx.held (by omega) (by omega); have hO := hO.held hPs.cx.held (by omega) (by omega); have hov7 := hid (ovI_held HOV.out hPs.cx.held ⟨hlow, hlow⟩); obtain ⟨rc, rf, rs⟩ := id hZ))
                  go_meet
                  exact ⟨_, rfl, hP, hO, hZ, hov7.out⟩
              · have b7 : (y1 == 7) = false := by simp [hk]
                have e1 : kb = false := by rw [HKB.out, HKD.out]; simp [hk]
                subst e1
                clear hk
                go_wp2
                go_meet
                exact ⟨_, rfl, hP, hO, hZ, HOV.out⟩
            case rest =>
              obtain ⟨j7, rfl, hP, hO, hZ, hov⟩ := hcut
              obtain ⟨w7, rfl⟩ : ∃ x : World, x = wc := ⟨_, rfl⟩
              clear oc of_ os rc rf rs HOV
              obtain ⟨oc, of_, os⟩ := id hO
              obtain ⟨rc, rf, rs⟩ := id hZ
              cases kb with
              | false =>
                have hP : Pd q dp w w7 pp b j7 r := hP
                have hA : aftS o r = .ok o r := by unfold aftS; rw [if_neg (of_decide_eq_false HKB.out.symm)]
                have hA2 : aft n (.ok o r) = aft2 n (.ok o r) := by rw [aft_eq, hA]
                have hit0 := HGP.out
                rw [hA2] at hit0
                have HGQ := hid hit0
                clear hit0 hA2 hA
                rcases h4 : wantS bEndobj r with ⟨x, t⟩ | ⟨n4, r4⟩
                · have hit : IT q dp s (.bad x t) := by have h9 := HGQ.out; unfold aft2 at h9; simp only [] at h9; rw [h4] at h9; exact h9
                  have HIT := hid hit
                  have H4 := hid h4
                  have bx := wantS_err h4
                  have HOV := hid hov
                  clear h4 hit hov
                  go_wp2_with (first | (go_at_call 23; (with_reducible refine (rword_w' hP.fresh _ bEndobj (by decide)).mono ?_); rw [H4.out]; rintro e w1 ⟨rfl, j1, hPs⟩; have hP := hP.join hPs; have hZ := hZ.held hPs.cx.held (by omega) (by omega); obtain ⟨rc, rf, rs⟩ := id hZ; have hO := hO.held hPs.cx.held (by omega) (by omega); have HOV := hid (ovI_held HOV.out hPs.cx.held ⟨hlow, hlow⟩); obtain ⟨oc, of_, os⟩ := id hO))
                  obtain ⟨k0, k1, k2, k3, k4, k5⟩ := (hZ.set6 (a := .int .i64 0) (b := .int .i64 0) (c := .int .i64 0) (d := .slice none 0 0) (e := .slice none 0 0) (f := .slice none 0 0) rfl).s6
                  have hh := fun B => set6_held w1 B w.heap.size (.int .i64 0) (.int .i64 0) (.int .i64 0) (.slice none 0 0) (.slice none 0 0) (.slice none 0 0)
                  have hP5 := hP.off (hh w.heap.size) (Nat.le_refl _) (Nat.le_refl _)
                  exact bodyPost_ret (v := .tuple #[.agg #[.int .i64 0, .int .i64 0, .int .i64 0, .slice none 0 0, .slice none 0 0, .slice none 0 0], .int .i64 x]) (by simp [results, Tryz.results9, go_sem, k0, k1, k2, k3, k4, k5]) rfl ⟨_, HIT.out, .bad rfl ⟨_, hP5⟩⟩
                · have hit : IT q dp s (.ok n o r4) := by have h9 := HGQ.out; unfold aft2 at h9; simp only [] at h9; rw [h4] at h9; exact h9
                  have HIT := hid hit
                  have H4 := hid h4
                  have HOV := hid hov
                  clear h4 hit hov
                  go_wp2_with (first | (go_at_call 23; (with_reducible refine (rword_w' hP.fresh _ bEndobj (by decide)).mono ?_); rw [H4.out]; rintro e w1 ⟨rfl, j1, hPs⟩; have hP := hP.join hPs; have hZ := hZ.held hPs.cx.held (by omega) (by omega); obtain ⟨rc, rf, rs⟩ := id hZ; have hO := hO.held hPs.cx.held (by omega) (by omega); have HOV := hid (ovI_held HOV.out hPs.cx.held ⟨hlow, hlow⟩); obtain ⟨oc, of_, os⟩ := id hO))
                  obtain ⟨k0, k1, k2, k3, k4, k5⟩ := (hZ.set6 (a := .int .i64 n) (b := .int .i64 y1) (c := .int .i64 y2) (d := .slice y3 y6 y7) (e := .slice y4 y8 y9) (f := .slice y5 y10 y11) rfl).s6
                  have hh := fun B => set6_held w1 B w.heap.size (.int .i64 n) (.int .i64 y1) (.int .i64 y2) (.slice y3 y6 y7) (.slice y4 y8 y9) (.slice y5 y10 y11)
                  have hP5 := hP.off (hh w.heap.size) (Nat.le_refl _) (Nat.le_refl _)
                  exact bodyPost_ret (v := .tuple #[.agg #[.int .i64 n, .int .i64 y1, .int .i64 y2, .slice y3 y6 y7, .slice y4 y8 y9, .slice y5 y10 y11], .int .i64 0]) (by simp [results, Tryz.results9, go_sem, k0, k1, k2, k3, k4, k5]) rfl ⟨_, HIT.out, [.int .i64 y1, .int .i64 y2, .slice y3 y6 y7, .slice y4 y8 y9, .slice y5 y10 y11], rfl, HOV.out.keep (fun g hg => ⟨by have := hg.1; omega, Nat.lt_of_lt_of_le hg.2.2 (hh 0).size⟩) (fun g hg hlt => (hh w1.heap.size).block g hlt (by have := hg.1; omega) (by have := hg.1; omega)), _, hP5⟩
              | true =>
                have hP7 : Pd q dp w w7 pp b j7 ((r.drop (bl r false)).drop 6) := hP
                obtain ⟨h7, hKW⟩ := of_decide_eq_true HKB.out.symm
                obtain ⟨k0, n0, b0, l0', d0⟩ := o
                obtain rfl : k0 = 7 := h7
                have hP := hP7
                generalize hs6 : (r.drop (bl r false)).drop 6 = s6 at hP
                have hA : aftS (.mk 7 n0 b0 l0' d0) r = datW (dat (.mk 7 n0 b0 l0' d0) s6) := by unfold aftS; rw [if_pos ⟨rfl, hKW⟩, ← hs6, strm_dat]
                have hst := rdat_any (A := AI w g6 w7) (w := w7) (n0 := n0) (b0 := b0) (l0 := l0') (d := d0) hP.fresh hov (fun g hg => (aiNe hg ⟨hlow, hlow⟩).1) (Nat.le_trans (show d0.length ≤ r2.length from hfew) hr2)
                generalize hR : dat (.mk 7 n0 b0 l0' d0) s6 = R at hA hst
                have hA2 : aft n (.ok (.mk 7 n0 b0 l0' d0) r) = aft2 n (datW R) := by rw [aft_eq, hA]
                have hit0 := HGP.out
                rw [hA2] at hit0
                have HGQ := hid hit0
                have HST := hid hst
                have HR := hid hR
                clear hA hA2 hst hR hs6 hP7 hit0
                have hos := hO.2.2
                have hzs := hZ.2.2
                clear hov hKW HKB HKD hfew
                go_upto_region 11 with (go_at_call 26; refine HST.out.mono ?_; rintro e w8 hq; obtain ⟨vs8, rfl, hov8, j8, hPs⟩ := hq.both; have hV8 := hov8.v5; have hP := hP.join hPs; have hZ := hZ.held hPs.cx.held (by omega) (by omega); have hO := hO.held hPs.cx.held (by omega) (by omega); have hov8 := hid hov8; have hs8 := hPs.cx.size; obtain ⟨x1, x2, x3, x4, x5, x6, x7, x8, x9, x10, x11, rfl⟩ := hV8; obtain ⟨rc, rf, rs⟩ := id hZ; obtain ⟨oc, of_, os⟩ := id hO)
                have hS5 := fun B => set5_held w8 B g6 (.int .i64 x1) (.int .i64 x2) (.slice x3 x6 x7) (.slice x4 x8 x9) (.slice x5 x10 x11)
                have hP : Pd q dp w (((((w8.setCell ⟨g6, 0, none⟩ (.int .i64 x1)).setCell ⟨g6, 1, none⟩ (.int .i64 x2)).setCell ⟨g6, 2, none⟩ (.slice x3 x6 x7)).setCell ⟨g6, 3, none⟩ (.slice x4 x8 x9)).setCell ⟨g6, 4, none⟩ (.slice x5 x10 x11)) pp b j8 R.rest := hP.off (hS5 w.heap.size) (Nat.le_refl _) (by omega)
                have hZ : C5 (((((w8.setCell ⟨g6, 0, none⟩ (.int .i64 x1)).setCell ⟨g6, 1, none⟩ (.int .i64 x2)).setCell ⟨g6, 2, none⟩ (.slice x3 x6 x7)).setCell ⟨g6, 3, none⟩ (.slice x4 x8 x9)).setCell ⟨g6, 4, none⟩ (.slice x5 x10 x11)) w.heap.size [.int .i64 0, .int .i64 0, .int .i64 0, .slice none 0 0, .slice none 0 0, .slice none 0 0] := hZ.held (hS5 w8.heap.size) (by omega) (by omega)
                have hO : C5 (((((w8.setCell ⟨g6, 0, none⟩ (.int .i64 x1)).setCell ⟨g6, 1, none⟩ (.int .i64 x2)).setCell ⟨g6, 2, none⟩ (.slice x3 x6 x7)).setCell ⟨g6, 3, none⟩ (.slice x4 x8 x9)).setCell ⟨g6, 4, none⟩ (.slice x5 x10 x11)) g6 [.int .i64 x1, .int .i64 x2, .slice x3 x6 x7, .slice x4 x8 x9, .slice x5 x10 x11] := hO.set5 (a := .int .i64 x1) (b := .int .i64 x2) (c := .slice x3 x6 x7) (d := .slice x4 x8 x9) (e := .slice x5 x10 x11) rfl
                have HOV := hid (show OV (AI w g6 (((((w8.setCell ⟨g6, 0, none⟩ (.int .i64 x1)).setCell ⟨g6, 1, none⟩ (.int .i64 x2)).setCell ⟨g6, 2, none⟩ (.slice x3 x6 x7)).setCell ⟨g6, 3, none⟩ (.slice x4 x8 x9)).setCell ⟨g6, 4, none⟩ (.slice x5 x10 x11))) (((((w8.setCell ⟨g6, 0, none⟩ (.int .i64 x1)).setCell ⟨g6, 1, none⟩ (.int .i64 x2)).setCell ⟨g6, 2, none⟩ (.slice x3 x6 x7)).setCell ⟨g6, 3, none⟩ (.slice x4 x8 x9)).setCell ⟨g6, 4, none⟩ (.slice x5 x10 x11)) [.int .i64 x1, .int .i64 x2, .slice x3 x6 x7, .slice x4 x8 x9, .slice x5 x10 x11] R.obj from hov8.out.keep (fun g hg => ⟨by have := hg.1; omega, by have := hg.1; omega, Nat.lt_of_lt_of_le hg.2 (hS5 0).size⟩) (fun g hg hlt => (hS5 w8.heap.size).block g hlt (by have := hg.1; omega) (by have := hg.1; omega)))
                clear hS5 hov8 rc rf rs oc of_ os
                generalize (((((w8.setCell ⟨g6, 0, none⟩ (.int .i64 x1)).setCell ⟨g6, 1, none⟩ (.int .i64 x2)).setCell ⟨g6, 2, none⟩ (.slice x3 x6 x7)).setCell ⟨g6, 3, none⟩ (.slice x4 x8 x9)).setCell ⟨g6, 4, none⟩ (.slice x5 x10 x11)) = w9 at hP hZ hO HOV ⊢
                obtain ⟨oc, of_, os⟩ := id hO
                obtain ⟨rc, rf, rs⟩ := id hZ
                rcases R with ⟨x, t⟩ | ⟨o2, r3⟩
                · have HIT := hid (show IT q dp s (.bad x t) from HGQ.out)
                  have by0 := dat_err HR.out
                  have bx : (x != 0) = true := by simp only [bne, by0]; rfl
                  have e9 : PRes.code (.bad x t) = x := rfl
                  rw [e9]
                  clear e9
                  have hP : Pd q dp w w9 pp b j8 t := hP
                  clear HST HR HGQ HOV
                  go_wp2
                  obtain ⟨k0, k1, k2, k3, k4, k5⟩ := (hZ.set6 (a := .int .i64 0) (b := .int .i64 0) (c := .int .i64 0) (d := .slice none 0 0) (e := .slice none 0 0) (f := .slice none 0 0) rfl).s6
                  have hh := fun B => set6_held w9 B w.heap.size (.int .i64 0) (.int .i64 0) (.int .i64 0) (.slice none 0 0) (.slice none 0 0) (.slice none 0 0)
                  have hP5 := hP.off (hh w.heap.size) (Nat.le_refl _) (Nat.le_refl _)
                  exact bodyPost_ret (v := .tuple #[.agg #[.int .i64 0, .int .i64 0, .int .i64 0, .slice none 0 0, .slice none 0 0, .slice none 0 0], .int .i64 x]) (by simp [results, Tryz.results9, go_sem, k0, k1, k2, k3, k4, k5]) rfl ⟨_, HIT.out, .bad rfl ⟨_, hP5⟩⟩
                · have e9 : PRes.code (.ok o2 r3) = 0 := rfl
                  rw [e9]
                  clear e9
                  have hP : Pd q dp w w9 pp b j8 r3 := hP
                  have HOV := hid (show OV (AI w g6 w9) w9 [.int .i64 x1, .int .i64 x2, .slice x3 x6 x7, .slice x4 x8 x9, .slice x5 x10 x11] o2 from HOV.out)
                  rcases h5 : wantS bEndstream r3 with ⟨x, t⟩ | ⟨n5, r5⟩
                  · have hit : IT q dp s (.bad x t) := by have h9 := HGQ.out; unfold datW at h9; simp only [] at h9; rw [h5] at h9; exact h9
                    have HIT := hid hit
                    have H5 := hid h5
                    have by0 : (x == 0) = false := want_err h5
                    have bx := wantS_err h5
                    clear h5 hit HST HR HGQ
                    go_wp2_with (first | (go_at_call 23; (with_reducible refine (rword_w' hP.fresh _ bEndstream (by decide)).mono ?_); rw [H5.out]; rintro e w1 ⟨rfl, j1, hPs⟩; have hP := hP.join hPs; have hZ := hZ.held hPs.cx.held (by omega) (by omega); obtain ⟨rc, rf, rs⟩ := id hZ; have hO := hO.held hPs.cx.held (by omega) (by omega); have HOV := hid (ovI_held HOV.out hPs.cx.held ⟨hlow, hlow⟩); obtain ⟨oc, of_, os⟩ := id hO))
                    obtain ⟨k0, k1, k2, k3, k4, k5⟩ := (hZ.set6 (a := .int .i64 0) (b := .int .i64 0) (c := .int .i64 0) (d := .slice none 0 0) (e := .slice none 0 0) (f := .slice none 0 0) rfl).s6
                    have hh := fun B => set6_held w1 B w.heap.size (.int .i64 0) (.int .i64 0) (.int .i64 0) (.slice none 0 0) (.slice none 0 0) (.slice none 0 0)
                    have hP5 := hP.off (hh w.heap.size) (Nat.le_refl _) (Nat.le_refl _)
                    exact bodyPost_ret (v := .tuple #[.agg #[.int .i64 0, .int .i64 0, .int .i64 0, .slice none 0 0, .slice none 0 0, .slice none 0 0], .int .i64 x]) (by simp [results, Tryz.results9, go_sem, k0, k1, k2, k3, k4, k5]) rfl ⟨_, HIT.out, .bad rfl ⟨_, hP5⟩⟩
                  · have hit5 : IT q dp s (aft2 n (.ok o2 r5)) := by have h9 := HGQ.out; unfold datW at h9; simp only [] at h9; rw [h5] at h9; exact h9
                    rcases h4 : wantS bEndobj r5 with ⟨x, t⟩ | ⟨n4, r4⟩
                    · have hit : IT q dp s (.bad x t) := by have h9 := hit5; unfold aft2 at h9; simp only [] at h9; rw [h4] at h9; exact h9
                      have HIT := hid hit
                      have H5 := hid h5
                      have H4 := hid h4
                      have by0 : (x == 0) = false := want_err h4
                      have bx := wantS_err h4
                      clear h5 h4 hit hit5 HST HR HGQ
                      go_wp2_with (first | (go_at_call 23; (with_reducible refine (rword_w' hP.fresh _ bEndobj (by decide)).mono ?_); rw [H4.out]; rintro e w1 ⟨rfl, j1, hPs⟩; have hP := hP.join hPs; have hZ := hZ.held hPs.cx.held (by omega) (by omega); obtain ⟨rc, rf, rs⟩ := id hZ; have hO := hO.held hPs.cx.held (by omega) (by omega); have HOV := hid (ovI_held HOV.out hPs.cx.held ⟨hlow, hlow⟩); obtain ⟨oc, of_, os⟩ := id hO) | (go_at_call 23; (with_reducible refine (rword_w' hP.fresh _ bEndstream (by decide)).mono ?_); rw [H5.out]; rintro e w1 ⟨rfl, j1, hPs⟩; have hP := hP.join hPs; have hZ := hZ.held hPs.cx.held (by omega) (by omega); obtain ⟨rc, rf, rs⟩ := id hZ; have hO := hO.held hPs.cx.held (by omega) (by omega); have HOV := hid (ovI_held HOV.out hPs.cx.held ⟨hlow, hlow⟩); obtain ⟨oc, of_, os⟩ := id hO))
                      obtain ⟨k0, k1, k2, k3, k4, k5⟩ := (hZ.set6 (a := .int .i64 0) (b := .int .i64 0) (c := .int .i64 0) (d := .slice none 0 0) (e := .slice none 0 0) (f := .slice none 0 0) rfl).s6
                      have hh := fun B => set6_held w1 B w.heap.size (.int .i64 0) (.int .i64 0) (.int .i64 0) (.slice none 0 0) (.slice none 0 0) (.slice none 0 0)
                      have hP5 := hP.off (hh w.heap.size) (Nat.le_refl _) (Nat.le_refl _)
                      exact bodyPost_ret (v := .tuple #[.agg #[.int .i64 0, .int .i64 0, .int .i64 0, .slice none 0 0, .slice none 0 0, .slice none 0 0], .int .i64 x]) (by simp [results, Tryz.results9, go_sem, k0, k1, k2, k3, k4, k5]) rfl ⟨_, HIT.out, .bad rfl ⟨_, hP5⟩⟩
                    · have hit : IT q dp s (.ok n o2 r4) := by have h9 := hit5; unfold aft2 at h9; simp only [] at h9; rw [h4] at h9; exact h9
                      have HIT := hid hit
                      have H5 := hid h5
                      have H4 := hid h4
                      clear h5 h4 hit hit5 HST HR HGQ
                      go_wp2_with (first | (go_at_call 23; (with_reducible refine (rword_w' hP.fresh _ bEndobj (by decide)).mono ?_); rw [H4.out]; rintro e w1 ⟨rfl, j1, hPs⟩; have hP := hP.join hPs; have hZ := hZ.held hPs.cx.held (by omega) (by omega); obtain ⟨rc, rf, rs⟩ := id hZ; have hO := hO.held hPs.cx.held (by omega) (by omega); have HOV := hid (ovI_held HOV.out hPs.cx.held ⟨hlow, hlow⟩); obtain ⟨oc, of_, os⟩ := id hO) | (go_at_call 23; (with_reducible refine (rword_w' hP.fresh _ bEndstream (by decide)).mono ?_); rw [H5.out]; rintro e w1 ⟨rfl, j1, hPs⟩; have hP := hP.join hPs; have hZ := hZ.held hPs.cx.held (by omega) (by omega); obtain ⟨rc, rf, rs⟩ := id hZ; have hO := hO.held hPs.cx.held (by omega) (by omega); have HOV := hid (ovI_held HOV.out hPs.cx.held ⟨hlow, hlow⟩); obtain ⟨oc, of_, os⟩ := id hO))
                      obtain ⟨k0, k1, k2, k3, k4, k5⟩ := (hZ.set6 (a := .int .i64 n) (b := .int .i64 x1) (c := .int .i64 x2) (d := .slice x3 x6 x7) (e := .slice x4 x8 x9) (f := .slice x5 x10 x11) rfl).s6
                      have hh := fun B => set6_held w1 B w.heap.size (.int .i64 n) (.int .i64 x1) (.int .i64 x2) (.slice x3 x6 x7) (.slice x4 x8 x9) (.slice x5 x10 x11)
                      have hP5 := hP.off (hh w.heap.size) (Nat.le_refl _) (Nat.le_refl _)
                      exact bodyPost_ret (v := .tuple #[.agg #[.int .i64 n, .int .i64 x1, .int .i64 x2, .slice x3 x6 x7, .slice x4 x8 x9, .slice x5 x10 x11], .int .i64 0]) (by simp [results, Tryz.results9, go_sem, k0, k1, k2, k3, k4, k5]) rfl ⟨_, HIT.out, [.int .i64 x1, .int .i64 x2, .slice x3 x6 x7, .slice x4 x8 x9, .slice x5 x10 x11], rfl, HOV.out.keep (fun g hg => ⟨by have := hg.1; omega, Nat.lt_of_lt_of_le hg.2.2 (hh 0).size⟩) (fun g hg hlt => (hh w1.heap.size).block g hlt (by have := hg.1; omega) (by have := hg.1; omega)), _, hP5⟩
end Go.Proofs.YtlmgklebikcbjaaGreat
