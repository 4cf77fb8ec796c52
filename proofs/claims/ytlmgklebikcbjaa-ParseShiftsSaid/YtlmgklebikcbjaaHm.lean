/-
  The program's Item: an object with its number, its stream. Conditions: the parser stands in its bytes, these are no more than 800000.
-/
import Derived.Test.YtlmgklebikcbjaaHh
import Derived.Test.YtlmgklebikcbjaaHc
import Derived.Test.YtlmgklebikcbjaaHk
import Derived.Test.YtlmgklebikcbjaaHe
import Derived.Test.YtlmgklebikcbjaaHl
/-
  What is read, in one form. No condition.
-/
namespace Go.Proofs.Ytlmgklebikcbjaa
open Go.RowKit
set_option linter.unusedVariables false

def PRes.code : PRes → Int
  | .bad x _ => x
  | .ok _ _ => 0
def PRes.obj : PRes → PO
  | .bad _ _ => poNull
  | .ok o _ => o
def PRes.rest : PRes → List UInt8
  | .bad _ t => t
  | .ok _ r => r
def PRes.ac : PRes → Int
  | .bad x _ => x
  | .ok _ r => if r.drop (bl r false) = [] then 0 else 3
def PRes.ao : PRes → PO
  | .bad _ _ => poNull
  | .ok o r => if r.drop (bl r false) = [] then o else poNull

theorem VQ.both {q : Bool} {w w' : World} {pp lp cp : Nat} {b : List UInt8} {res : PRes} {e : Ending} (h : VQ q w pp lp cp b res e w') : ∃ vs : List Value, e = .returned (.tuple #[.agg vs.toArray, .int .i64 res.code]) ∧ OV (fun g => w.heap.size ≤ g ∧ g < w'.heap.size) w' vs res.obj ∧ ∃ j, Ps q w w' pp lp cp b j res.rest := by
  cases res with
  | bad x t => obtain ⟨h1, h2⟩ := h; exact ⟨[.int .i64 0, .int .i64 0, .slice none 0 0, .slice none 0 0, .slice none 0 0], h1, OV.num 0 0, h2⟩
  | ok o r => obtain ⟨vs, h1, h2, h3⟩ := h; exact ⟨vs, h1, h2, h3⟩
end Go.Proofs.Ytlmgklebikcbjaa

/-
  Plain: an object that is read has no more entries than bytes were read. No program here.
-/
namespace Go.Proofs.Ytlmgklebikcbjaa
set_option linter.unusedVariables false

/-- entries so far -/
def Md.acc : Md → Nat
  | .m _ _ acc => acc.length
  | _ => 0
def PRes.few (n : Nat) : PRes → Prop
  | .bad e t => True
  | .ok o t => o.ents.length ≤ n
theorem whole_few (q : Bool) (k : Int) (r : List UInt8) (n : Nat) : (whole q k r).few n := by
  unfold whole
  split
  · split
    · split
      · split
        · exact Nat.zero_le _
        · exact Nat.zero_le _
      · exact Nat.zero_le _
    · exact Nat.zero_le _
  · exact Nat.zero_le _
theorem wordO_few {out : List UInt8} {o : PO} (h : wordO out = some o) (n : Nat) : o.ents.length ≤ n := by
  unfold wordO at h
  split at h
  · injection h with h; subst h; exact Nat.zero_le _
  · split at h
    · injection h with h; subst h; exact Nat.zero_le _
    · split at h
      · injection h with h; subst h; exact Nat.zero_le _
      · cases h
theorem PRes.few_up {r : PRes} {n m : Nat} (h : r.few n) (hm : n ≤ m) : r.few m := by
  cases r with
  | bad e t => trivial
  | ok o t => exact Nat.le_trans h hm
theorem pF_few (q : Bool) : ∀ (f : Nat) (m : Md) (s : List UInt8) (r : PRes), pF q f m s = some r → r.few (m.acc + s.length)
  | 0, m, s, r, h => by simp [pF] at h
  | f + 1, .v d, s, r, h => by
    rw [pF] at h
    cases hT : TK s with
    | bad e => rw [hT] at h; injection h with h; subst h; trivial
    | tok k n out t =>
      rw [hT] at h
      simp only [] at h
      by_cases h0 : k = 0
      · rw [if_pos h0] at h; injection h with h; subst h; trivial
      have ht := TK_rest hT h0
      rw [if_neg h0] at h
      by_cases h1 : k = 1
      · rw [if_pos h1] at h; injection h with h; subst h; exact whole_few q n t _
      rw [if_neg h1] at h
      by_cases h2 : k = 2
      · rw [if_pos h2] at h; injection h with h; subst h; exact Nat.zero_le _
      rw [if_neg h2] at h
      by_cases h3 : k = 3
      · rw [if_pos h3] at h; injection h with h; subst h; exact Nat.zero_le _
      rw [if_neg h3] at h
      by_cases h4 : k = 4
      · rw [if_pos h4] at h; injection h with h; subst h; exact Nat.zero_le _
      rw [if_neg h4] at h
      by_cases h9 : k = 9
      · rw [if_pos h9] at h; injection h with h; subst h
        cases hO : wordO out with
        | none => trivial
        | some o => exact wordO_few hO _
      rw [if_neg h9] at h
      by_cases h5 : k = 5 ∨ k = 7
      · rw [if_pos h5] at h
        cases d with
        | zero => injection h with h; subst h; trivial
        | succ d =>
          simp only [] at h
          split at h
          · exact PRes.few_up (pF_few q f _ _ _ h) (by show 0 + t.length ≤ 0 + s.length; omega)
          · exact PRes.few_up (pF_few q f _ _ _ h) (by show 0 + t.length ≤ 0 + s.length; omega)
      · rw [if_neg h5] at h; injection h with h; subst h; trivial
  | f + 1, .a d acc, s, r, h => by
    rw [pF] at h
    cases hT : TK s with
    | bad e => rw [hT] at h; injection h with h; subst h; trivial
    | tok k n out t =>
      rw [hT] at h
      simp only [] at h
      split at h <;> rename_i hk
      · injection h with h; subst h; exact Nat.zero_le _
      · cases hv : pF q f (.v d) s with
        | none => rw [hv] at h; simp at h
        | some x =>
          rw [hv] at h
          have hx := pF_fit q f _ _ _ hv
          cases x with
          | bad e t => injection h with h; subst h; trivial
          | ok x t => exact PRes.few_up (pF_few q f _ _ _ h) (by have hx : t.length < s.length := hx; show 0 + t.length ≤ 0 + s.length; omega)
  | f + 1, .m d keys acc, s, r, h => by
    rw [pF] at h
    cases hT : TK s with
    | bad e => rw [hT] at h; injection h with h; subst h; trivial
    | tok k n out t =>
      rw [hT] at h
      simp only [] at h
      by_cases h8 : k = 8
      · rw [if_pos h8] at h; injection h with h; subst h
        have h1 := fold_len acc []
        show (acc.foldl (fun d e => wi e d) []).length ≤ acc.length + s.length
        simp at h1; omega
      rw [if_neg h8] at h
      by_cases h0 : k = 0
      · rw [if_pos h0] at h; injection h with h; subst h; trivial
      rw [if_neg h0] at h
      by_cases h4 : ¬ k = 4
      · rw [if_pos h4] at h; injection h with h; subst h; trivial
      rw [if_neg h4] at h
      by_cases hm : out ∈ keys
      · rw [if_pos hm] at h; injection h with h; subst h; trivial
      rw [if_neg hm] at h
      have ht := TK_rest hT h0
      cases hv : pF q f (.v d) t with
      | none => rw [hv] at h; simp at h
      | some x =>
        rw [hv] at h
        have hx := pF_fit q f _ _ _ hv
        cases x with
        | bad e t => injection h with h; subst h; trivial
        | ok x t2 =>
          have hx' : t2.length < t.length := hx
          exact PRes.few_up (pF_few q f _ _ _ h) (by show (acc ++ [(out, x)]).length + t2.length ≤ acc.length + s.length; simp; omega)
theorem PV.few {q : Bool} {d : Nat} {s : List UInt8} {o : PO} {r : List UInt8} (h : PV q (.v d) s (.ok o r)) : o.ents.length ≤ s.length := by
  obtain ⟨f, h⟩ := h
  have h1 := pF_few q f _ _ _ h
  have h2 : o.ents.length ≤ 0 + s.length := h1
  omega
end Go.Proofs.Ytlmgklebikcbjaa

/-
  The program's Item: an object with its number, its stream. Conditions: the parser stands in its bytes, these are no more than 800000.
-/
namespace Go.Proofs.Ytlmgklebikcbjaa
open Go.RowKit
set_option linter.unusedVariables false

def IRes.code : IRes → Int
  | .bad x _ => x
  | .ok _ _ _ => 0
def IRes.n : IRes → Int
  | .bad _ _ => 0
  | .ok n _ _ => n
def IRes.obj : IRes → PO
  | .bad _ _ => poNull
  | .ok _ o _ => o
def IRes.rest : IRes → List UInt8
  | .bad _ t => t
  | .ok _ _ r => r
/-- what Item gives -/
def ItQ (q : Bool) (w : World) (pp lp cp : Nat) (b : List UInt8) (r : IRes) (e : Ending) (w' : World) : Prop :=
  ∃ vs : List Value, e = .returned (.tuple #[.agg (.int .i64 r.n :: vs).toArray, .int .i64 r.code]) ∧ OV (fun g => w.heap.size ≤ g ∧ g < w'.heap.size) w' vs r.obj ∧ ∃ j, Ps q w w' pp lp cp b j r.rest
theorem ItQ.bad {q : Bool} {w : World} {pp lp cp : Nat} {b : List UInt8} {x : Int} {t : List UInt8} {e : Ending} {w' : World} (h1 : e = .returned (.tuple #[.agg #[.int .i64 0, .int .i64 0, .int .i64 0, .slice none 0 0, .slice none 0 0, .slice none 0 0], .int .i64 x])) (h2 : ∃ j, Ps q w w' pp lp cp b j t) : ItQ q w pp lp cp b (.bad x t) e w' := ⟨[.int .i64 0, .int .i64 0, .slice none 0 0, .slice none 0 0, .slice none 0 0], h1, OV.num 0 0, h2⟩
theorem wantN_err {lo hi : Int} {s t : List UInt8} {x : Int} (h : wantN lo hi s = .bad x t) : (x != 0) = true := by
  have h1 := want_err h
  simp only [bne, h1]; rfl
theorem wantS_err {p s t : List UInt8} {x : Int} (h : wantS p s = .bad x t) : (x != 0) = true := by
  have h1 := want_err h
  simp only [bne, h1]; rfl
theorem IT.b1 {q : Bool} {d : Nat} {s t : List UInt8} {x : Int} (h : wantN 1 8388607 s = .bad x t) : IT q d s (.bad x t) := by unfold IT; rw [h]
theorem IT.b2 {q : Bool} {d : Nat} {s t r0 : List UInt8} {x n : Int} (h : wantN 1 8388607 s = .ok n r0) (h2 : wantN 0 0 r0 = .bad x t) : IT q d s (.bad x t) := by unfold IT; rw [h]; simp only []; rw [h2]
theorem IT.b3 {q : Bool} {d : Nat} {s t r0 r1 : List UInt8} {x n n1 : Int} (h : wantN 1 8388607 s = .ok n r0) (h2 : wantN 0 0 r0 = .ok n1 r1) (h3 : wantS bObj r1 = .bad x t) : IT q d s (.bad x t) := by unfold IT; rw [h]; simp only []; rw [h2]; simp only []; rw [h3]
theorem IT.go {q : Bool} {d : Nat} {s r0 r1 r2 : List UInt8} {n n1 n2 : Int} (h : wantN 1 8388607 s = .ok n r0) (h2 : wantN 0 0 r0 = .ok n1 r1) (h3 : wantS bObj r1 = .ok n2 r2) {res : PRes} (hp : PV q (.v d) r2 res) : IT q d s (aft n res) := by unfold IT; rw [h]; simp only []; rw [h2]; simp only []; rw [h3]; exact ⟨res, hp, rfl⟩
theorem strm_len {o : PO} {s r1 : List UInt8} (h : eolS s = some r1) : r1.length ≤ s.length := by
  unfold eolS at h
  split at h
  · injection h with h; subst h; rw [List.length_drop]; omega
  · split at h
    · injection h with h; subst h; rw [List.length_drop]; omega
    · cases h

/-- the word that ends an object -/
def aft2 (n : Int) : PRes → IRes
  | .bad e t => .bad e t
  | .ok o2 r2 => match wantS bEndobj r2 with
    | .bad e t => .bad e t
    | .ok _ r3 => .ok n o2 r3
theorem aft_eq (n : Int) (o : PO) (r : List UInt8) : aft n (.ok o r) = aft2 n (aftS o r) := by
  show (match aftS o r with | .bad e t => IRes.bad e t | .ok o2 r2 => match wantS bEndobj r2 with | .bad e t => IRes.bad e t | .ok _ r3 => IRes.ok n o2 r3) = _
  cases aftS o r with
  | bad e t => rfl
  | ok o2 r2 => rfl
/-- the blocks of what was read: behind the result's, but not the variable's own -/
def AI (w : World) (g6 : Nat) (wx : World) (g : Nat) : Prop := w.heap.size + 1 ≤ g ∧ g ≠ g6 ∧ g < wx.heap.size
theorem ovI_held {w wa wb : World} {g6 lp cp : Nat} {vs : List Value} {o : PO} (h : OV (AI w g6 wa) wa vs o) (hb : Held wa.heap.size lp cp wa wb) (hlo : lp < w.heap.size ∧ cp < w.heap.size) : OV (AI w g6 wb) wb vs o :=
  h.keep (fun g hg => ⟨hg.1, hg.2.1, Nat.lt_of_lt_of_le hg.2.2 hb.size⟩) (fun g hg hlt => hb.block g hlt (by have := hg.1; omega) (by have := hg.1; omega))
theorem ovI_up {w wa wb : World} {g6 : Nat} {vs : List Value} {o : PO} (h : OV (AI w g6 wa) wa vs o) (hb : Below wa.heap.size wa wb) : OV (AI w g6 wb) wb vs o :=
  h.keep (fun g hg => ⟨hg.1, hg.2.1, Nat.lt_of_lt_of_le hg.2.2 hb.size⟩) (fun g hg hlt => hb.block g hlt)
theorem aiNe {w wx : World} {g6 g lp cp : Nat} (h : AI w g6 wx g) (hlo : lp < w.heap.size ∧ cp < w.heap.size) : g ≠ lp ∧ g ≠ cp := by have := h.1; omega
/-- what stream gives, in one form -/
theorem StQ.both {q : Bool} {w w' : World} {pp lp cp : Nat} {b : List UInt8} {R : PRes} {e : Ending} (h : StQ q w pp lp cp b R e w') : ∃ (c : Int) (vs : List Value), c = R.code ∧ V5 vs ∧ e = .returned (.tuple #[.agg vs.toArray, .int .i64 c]) ∧ (∀ o r, R = .ok o r → OV (fun g => w.heap.size ≤ g ∧ g < w'.heap.size) w' vs o) ∧ ∃ j, Ps q w w' pp lp cp b j R.rest := by
  cases R with
  | bad x t => obtain ⟨vs, h1, h2, h3⟩ := h; exact ⟨_, vs, rfl, h1, h2, (fun o r q => by cases q), h3⟩
  | ok o r => obtain ⟨vs, h1, h2, h3⟩ := h; exact ⟨_, vs, rfl, h2.v5, h1, (fun o' r' q => by injection q with q1 q2; subst q1; exact h2), h3⟩
theorem strm_err {o : PO} {s t : List UInt8} {x : Int} (h : strm o s = .bad x t) : (x != 0) = true := by
  unfold strm at h
  split at h
  · injection h with h1 _; subst h1; split <;> rfl
  · split at h
    · injection h with h1 _; subst h1; rfl
    · split at h
      · injection h with h1 _; subst h1; rfl
      · split at h
        · rename_i hw; injection h with h1 _; subst h1; exact wantS_err hw
        · cases h
theorem eolS_none {s : List UInt8} (h : eolS s = none) : pfx [13, 10] s = false ∧ pfx [10] s = false := by
  unfold eolS at h
  split at h
  · cases h
  · split at h
    · cases h
    · rename_i h1 h2; exact ⟨by simpa using h1, by simpa using h2⟩
theorem stream_any {q : Bool} {A : Nat → Prop} {w : World} {pp lp cp : Nat} {b s : List UInt8} {i : Nat} {n0 : Int} {b0 : List UInt8} {l0 : List PO} {d : List (List UInt8 × PO)} {vs : List Value} (h : Ps q w w pp lp cp b i s) (hov : OV A w vs (.mk 7 n0 b0 l0 d)) (hA : ∀ g, A g → g ≠ lp ∧ g ≠ cp) (hd : d.length ≤ 800000) :
    Calls Try.prog 70 #[.pointer (some ⟨pp, 0, none⟩), .agg vs.toArray] w fun e w' => StQ q w pp lp cp b (strm (.mk 7 n0 b0 l0 d) s) e w' := by
  cases he : eolS s with
  | none => rw [strm_none he]; exact stream_no h hov.v5 (eolS_none he).1 (eolS_none he).2
  | some r1 => rw [strm_some he]; exact stream_yes h hov hA hd he

set_option maxHeartbeats 6400000 in
set_option maxRecDepth 100000 in
theorem item_any {q : Bool} {w : World} {pp lp cp : Nat} {b s : List UInt8} {i d : Nat} (h : Ps q w w pp lp cp b i s) (hd : w.cell? ⟨pp, 1, none⟩ = some (.int .i64 (d : Int))) (hv : ValueC q pp lp cp b d) (hbl : b.length ≤ 800000) :
    Calls Try.prog 49 #[.pointer (some ⟨pp, 0, none⟩)] w fun e w' => ∃ r, IT q d s r ∧ ItQ q w pp lp cp b r e w' := by
  have hlo := h.lo
  have hnl := h.nl
  have hnc := h.nc
  have hP := h.below (alb w (.cells #[.int .i64 0, .int .i64 0, .int .i64 0, .slice none 0 0, .slice none 0 0, .slice none 0 0] 86))
  have hZ := C5.new w _ rfl [.int .i64 0, .int .i64 0, .int .i64 0, .slice none 0 0, .slice none 0 0, .slice none 0 0] 86
  have hz1 : (w.alloc (.cells #[.int .i64 0, .int .i64 0, .int .i64 0, .slice none 0 0, .slice none 0 0, .slice none 0 0] 86)).heap.size = w.heap.size + 1 := by simp
  have HD1 := hid (fun X (hX : Held w.heap.size lp cp w X) => hX.cell' (a := ⟨pp, 1, none⟩) hd hnl hnc)
  have p0 := hP.p0
  have l0 := hP.l0
  clear h hd
  obtain ⟨rc, rf, rs⟩ := id hZ
  rcases h1 : wantN 1 8388607 s with ⟨x, t⟩ | ⟨n, r0⟩
  · have H1 := hid h1
    have bx := wantN_err h1
    clear h1
    go_enter Try.func49, Try.ntmps49
    go_wp2_with (first | (go_at_call 65; refine (made_p hP.fresh).mono ?_; rintro e w1 ⟨rfl, rfl⟩) | (go_at_call 68; (with_reducible refine (whole_w hP.fresh 1 8388607).mono ?_); rw [H1.out]; rintro e w1 ⟨rfl, j1, hPs⟩; have hP := hP.join hPs; have hZ := hZ.held hPs.held (by omega) (by omega); obtain ⟨rc, rf, rs⟩ := id hZ; have p0 := hP.p0; have l0 := hP.l0; have zp := World.block_lt_of_cell? _ _ p0; have zl := World.block_lt_of_cell? _ _ l0))
    obtain ⟨k0, k1, k2, k3, k4, k5⟩ := (hZ.set6 (a := .int .i64 0) (b := .int .i64 0) (c := .int .i64 0) (d := .slice none 0 0) (e := .slice none 0 0) (f := .slice none 0 0) rfl).s6
    have hh := fun B => set6_held w1 B w.heap.size (.int .i64 0) (.int .i64 0) (.int .i64 0) (.slice none 0 0) (.slice none 0 0) (.slice none 0 0)
    have hP5 := hP.off (hh w1.heap.size) (Nat.le_refl _)
    exact bodyPost_ret (v := .tuple #[.agg #[.int .i64 0, .int .i64 0, .int .i64 0, .slice none 0 0, .slice none 0 0, .slice none 0 0], .int .i64 x]) (by simp [results, Try.results49, go_sem, k0, k1, k2, k3, k4, k5]) rfl ⟨_, .b1 H1.out, .bad rfl ⟨_, hP5⟩⟩
  · rcases h2 : wantN 0 0 r0 with ⟨x, t⟩ | ⟨n1, r1⟩
    · have H1 := hid h1
      have H2 := hid h2
      have bx := wantN_err h2
      clear h1 h2
      go_enter Try.func49, Try.ntmps49
      go_wp2_with (first | (go_at_call 65; refine (made_p hP.fresh).mono ?_; rintro e w1 ⟨rfl, rfl⟩) | (go_at_call 68; (with_reducible refine (whole_w hP.fresh 0 0).mono ?_); rw [H2.out]; rintro e w1 ⟨rfl, j1, hPs⟩; have hP := hP.join hPs; have hZ := hZ.held hPs.held (by omega) (by omega); obtain ⟨rc, rf, rs⟩ := id hZ; have p0 := hP.p0; have l0 := hP.l0; have zp := World.block_lt_of_cell? _ _ p0; have zl := World.block_lt_of_cell? _ _ l0) | (go_at_call 68; (with_reducible refine (whole_w hP.fresh 1 8388607).mono ?_); rw [H1.out]; rintro e w1 ⟨rfl, j1, hPs⟩; have hP := hP.join hPs; have hZ := hZ.held hPs.held (by omega) (by omega); obtain ⟨rc, rf, rs⟩ := id hZ; have p0 := hP.p0; have l0 := hP.l0; have zp := World.block_lt_of_cell? _ _ p0; have zl := World.block_lt_of_cell? _ _ l0))
      obtain ⟨k0, k1, k2, k3, k4, k5⟩ := (hZ.set6 (a := .int .i64 0) (b := .int .i64 0) (c := .int .i64 0) (d := .slice none 0 0) (e := .slice none 0 0) (f := .slice none 0 0) rfl).s6
      have hh := fun B => set6_held w1 B w.heap.size (.int .i64 0) (.int .i64 0) (.int .i64 0) (.slice none 0 0) (.slice none 0 0) (.slice none 0 0)
      have hP5 := hP.off (hh w1.heap.size) (Nat.le_refl _)
      exact bodyPost_ret (v := .tuple #[.agg #[.int .i64 0, .int .i64 0, .int .i64 0, .slice none 0 0, .slice none 0 0, .slice none 0 0], .int .i64 x]) (by simp [results, Try.results49, go_sem, k0, k1, k2, k3, k4, k5]) rfl ⟨_, .b2 H1.out H2.out, .bad rfl ⟨_, hP5⟩⟩
    · rcases h3 : wantS bObj r1 with ⟨x, t⟩ | ⟨n2, r2⟩
      · have H1 := hid h1
        have H2 := hid h2
        have H3 := hid h3
        have bx := wantS_err h3
        clear h1 h2 h3
        go_enter Try.func49, Try.ntmps49
        go_wp2_with (first | (go_at_call 65; refine (made_p hP.fresh).mono ?_; rintro e w1 ⟨rfl, rfl⟩) | (go_at_call 69; (with_reducible refine (word_w' hP.fresh _ bObj (by decide)).mono ?_); rw [H3.out]; rintro e w1 ⟨rfl, j1, hPs⟩; have hP := hP.join hPs; have hZ := hZ.held hPs.held (by omega) (by omega); obtain ⟨rc, rf, rs⟩ := id hZ; have p0 := hP.p0; have l0 := hP.l0; have zp := World.block_lt_of_cell? _ _ p0; have zl := World.block_lt_of_cell? _ _ l0) | (go_at_call 68; (with_reducible refine (whole_w hP.fresh 0 0).mono ?_); rw [H2.out]; rintro e w1 ⟨rfl, j1, hPs⟩; have hP := hP.join hPs; have hZ := hZ.held hPs.held (by omega) (by omega); obtain ⟨rc, rf, rs⟩ := id hZ; have p0 := hP.p0; have l0 := hP.l0; have zp := World.block_lt_of_cell? _ _ p0; have zl := World.block_lt_of_cell? _ _ l0) | (go_at_call 68; (with_reducible refine (whole_w hP.fresh 1 8388607).mono ?_); rw [H1.out]; rintro e w1 ⟨rfl, j1, hPs⟩; have hP := hP.join hPs; have hZ := hZ.held hPs.held (by omega) (by omega); obtain ⟨rc, rf, rs⟩ := id hZ; have p0 := hP.p0; have l0 := hP.l0; have zp := World.block_lt_of_cell? _ _ p0; have zl := World.block_lt_of_cell? _ _ l0))
        obtain ⟨k0, k1, k2, k3, k4, k5⟩ := (hZ.set6 (a := .int .i64 0) (b := .int .i64 0) (c := .int .i64 0) (d := .slice none 0 0) (e := .slice none 0 0) (f := .slice none 0 0) rfl).s6
        have hh := fun B => set6_held w1 B w.heap.size (.int .i64 0) (.int .i64 0) (.int .i64 0) (.slice none 0 0) (.slice none 0 0) (.slice none 0 0)
        have hP5 := hP.off (hh w1.heap.size) (Nat.le_refl _)
        exact bodyPost_ret (v := .tuple #[.agg #[.int .i64 0, .int .i64 0, .int .i64 0, .slice none 0 0, .slice none 0 0, .slice none 0 0], .int .i64 x]) (by simp [results, Try.results49, go_sem, k0, k1, k2, k3, k4, k5]) rfl ⟨_, .b3 H1.out H2.out H3.out, .bad rfl ⟨_, hP5⟩⟩
      · have H1 := hid h1
        have H2 := hid h2
        have H3 := hid h3
        have HGO := hid (fun (res : PRes) (hp : PV q (.v d) r2 res) => IT.go h1 h2 h3 hp)
        clear h1 h2 h3
        go_enter Try.func49, Try.ntmps49
        go_upto_region 12 with (first | (go_at_call 65; refine (made_p hP.fresh).mono ?_; rintro e w1 ⟨rfl, rfl⟩) | (go_at_call 69; (with_reducible refine (word_w' hP.fresh _ bObj (by decide)).mono ?_); rw [H3.out]; rintro e w1 ⟨rfl, j1, hPs⟩; have hP := hP.join hPs; have hZ := hZ.held hPs.held (by omega) (by omega); obtain ⟨rc, rf, rs⟩ := id hZ; have p0 := hP.p0; have l0 := hP.l0; have zp := World.block_lt_of_cell? _ _ p0; have zl := World.block_lt_of_cell? _ _ l0) | (go_at_call 68; (with_reducible refine (whole_w hP.fresh 0 0).mono ?_); rw [H2.out]; rintro e w1 ⟨rfl, j1, hPs⟩; have hP := hP.join hPs; have hZ := hZ.held hPs.held (by omega) (by omega); obtain ⟨rc, rf, rs⟩ := id hZ; have p0 := hP.p0; have l0 := hP.l0; have zp := World.block_lt_of_cell? _ _ p0; have zl := World.block_lt_of_cell? _ _ l0) | (go_at_call 68; (with_reducible refine (whole_w hP.fresh 1 8388607).mono ?_); rw [H1.out]; rintro e w1 ⟨rfl, j1, hPs⟩; have hP := hP.join hPs; have hZ := hZ.held hPs.held (by omega) (by omega); obtain ⟨rc, rf, rs⟩ := id hZ; have p0 := hP.p0; have l0 := hP.l0; have zp := World.block_lt_of_cell? _ _ p0; have zl := World.block_lt_of_cell? _ _ l0))
        have hr2 : r2.length ≤ 800000 := by have := hP.at_; omega
        go_cut [5, 6] (fun s5 s6 wx => ∃ (c : Int) (res : PRes) (vs : List Value) (g6 j : Nat), s5 = .int .i64 c ∧ s6 = .pointer (some ⟨g6, 0, none⟩) ∧ c = res.code ∧ PV q (.v d) r2 res ∧ V5 vs ∧ w.heap.size + 1 ≤ g6 ∧ C5 wx g6 vs ∧ OV (AI w g6 wx) wx vs res.obj ∧ Ps q w wx pp lp cp b j res.rest ∧ C5 wx w.heap.size [.int .i64 0, .int .i64 0, .int .i64 0, .slice none 0 0, .slice none 0 0, .slice none 0 0])
        case first =>
          have hsz := hZ.2.2
          go_wp2_with (go_at_call 44; refine (value_top hP.fresh (HD1.out _ hP.held) hv).mono ?_; rintro e w5 ⟨res, hpv, hvq⟩; obtain ⟨vs, rfl, hov, j5, hPs⟩ := hvq.both; have hV := hov.v5; have hP := hP.join hPs; have hZ := hZ.held hPs.held (by omega) (by omega); obtain ⟨rc, rf, rs⟩ := id hZ; have p0 := hP.p0; have l0 := hP.l0; have zp := World.block_lt_of_cell? _ _ p0; have zl := World.block_lt_of_cell? _ _ l0; have hov := hid hov; obtain ⟨y1, y2, y3, y4, y5, y6, y7, y8, y9, y10, y11, rfl⟩ := hV)
          go_meet
          refine ⟨_, res, _, _, _, rfl, rfl, rfl, hpv, ⟨y1, y2, y3, y4, y5, y6, y7, y8, y9, y10, y11, rfl⟩, hZ.2.2, C5.new _ _ rfl [.int .i64 y1, .int .i64 y2, .slice y3 y6 y7, .slice y4 y8 y9, .slice y5 y10 y11] 61, ?_, hP.below (alb _ _), hZ.up (alb _ _)⟩
          exact hov.out.keep (fun g hg => ⟨by have := hg.1; omega, by have := hg.2; omega, by have := hg.2; simp; omega⟩) (fun g hg hlt => (alb _ _).block g hlt)
        case rest =>
          obtain ⟨c, res, vs, g6, j5, rfl, rfl, hc, hpv, hV, hg6, hO, hov, hP, hZ⟩ := hcut
          obtain ⟨w6, rfl⟩ : ∃ x : World, x = wc := ⟨_, rfl⟩
          obtain ⟨y1, y2, y3, y4, y5, y6, y7, y8, y9, y10, y11, rfl⟩ := hV
          have hfit := hpv.fit
          clear p0 l0 rc rf rs
          have p0 := hP.p0
          have l0 := hP.l0
          have zp := World.block_lt_of_cell? _ _ p0
          have zl := World.block_lt_of_cell? _ _ l0
          obtain ⟨oc, of_, os⟩ := id hO
          obtain ⟨rc, rf, rs⟩ := id hZ
          rcases res with ⟨x, t⟩ | ⟨o, r⟩
          · have hc0 : c = x := hc; clear hc; subst hc0
            have bx : (c != 0) = true := by have h1 : (c == 0) = false := hfit; simp only [bne, h1]; rfl
            have HGP := hid (HGO.out _ hpv)
            clear hpv hfit hov
            go_wp2
            obtain ⟨k0, k1, k2, k3, k4, k5⟩ := (hZ.set6 (a := .int .i64 0) (b := .int .i64 0) (c := .int .i64 0) (d := .slice none 0 0) (e := .slice none 0 0) (f := .slice none 0 0) rfl).s6
            have hh := fun B => set6_held w6 B w.heap.size (.int .i64 0) (.int .i64 0) (.int .i64 0) (.slice none 0 0) (.slice none 0 0) (.slice none 0 0)
            have hP5 := hP.off (hh w6.heap.size) (Nat.le_refl _)
            exact bodyPost_ret (v := .tuple #[.agg #[.int .i64 0, .int .i64 0, .int .i64 0, .slice none 0 0, .slice none 0 0, .slice none 0 0], .int .i64 c]) (by simp [results, Try.results49, go_sem, k0, k1, k2, k3, k4, k5]) rfl ⟨_, HGP.out, .bad rfl ⟨_, hP5⟩⟩
          · have hc0 : c = 0 := hc; clear hc; subst hc0
            have hkd : o.kind = y1 := OV.kind hov
            have hfew := hpv.few
            have HGP := hid (HGO.out _ hpv)
            clear hpv hfit HGO
            obtain ⟨kb, hkb⟩ : ∃ kb, kb = decide (o.kind = 7 ∧ KW bStream r = true) := ⟨_, rfl⟩
            have HKB := hid hkb
            have HKD := hid hkd
            have HOV := hid hov
            clear hkb hkd hov
            go_upto_region 15 with fail
            go_cut [53] (fun s53 wx => ∃ j, s53 = .bool kb ∧ Ps q w wx pp lp cp b j (bif kb then (r.drop (bl r false)).drop 6 else r) ∧ C5 wx g6 [.int .i64 y1, .int .i64 y2, .slice y3 y6 y7, .slice y4 y8 y9, .slice y5 y10 y11] ∧ C5 wx w.heap.size [.int .i64 0, .int .i64 0, .int .i64 0, .slice none 0 0, .slice none 0 0, .slice none 0 0] ∧ OV (AI w g6 wx) wx [.int .i64 y1, .int .i64 y2, .slice y3 y6 y7, .slice y4 y8 y9, .slice y5 y10 y11] o)
            case first =>
              by_cases hk : y1 = 7
              · subst hk
                cases hKW : KW bStream r with
                | true =>
                  have e1 : kb = true := by rw [HKB.out, HKD.out, hKW]; rfl
                  have HKW := hid hKW
                  clear hKW
                  subst e1
                  go_wp2_with (first | (go_at_call 30; refine (pkey_yes hP.fresh bStream (by decide) HKW.out).mono ?_; rintro e w7 ⟨rfl, j7, hPs⟩; have hP := hP.join hPs; have hZ := hZ.held hPs.held (by omega) (by omega); have hO := hO.held hPs.held (by omega) (by omega); have hov7 := hid (ovI_held HOV.out hPs.held hlo); obtain ⟨rc, rf, rs⟩ := id hZ))
                  go_meet
                  exact ⟨_, rfl, hP, hO, hZ, hov7.out⟩
                | false =>
                  have e1 : kb = false := by rw [HKB.out, HKD.out, hKW]; rfl
                  have HKW := hid hKW
                  clear hKW
                  subst e1
                  go_wp2_with (first | (go_at_call 30; refine (pkey_no hP.fresh bStream (by decide) HKW.out).mono ?_; rintro e w7 ⟨rfl, hPs⟩; have hP := hP.join hPs; have hZ := hZ.held hPs.held (by omega) (by omega); have hO := hO.held hPs.held (by omega) (by omega); have hov7 := hid (ovI_held HOV.out hPs.held hlo); obtain ⟨rc, rf, rs⟩ := id hZ))
                  go_meet
                  exact ⟨_, rfl, hP, hO, hZ, hov7.out⟩
              · have b7 : (y1 == 7) = false := by simp [hk]
                have e1 : kb = false := by rw [HKB.out, HKD.out]; simp [hk]
                subst e1
                clear hk
                go_wp2
                go_meet
                exact ⟨_, rfl, hP, hO, hZ, HOV.out⟩
            case rest =>
              obtain ⟨j7, rfl, hP, hO, hZ, hov⟩ := hcut
              obtain ⟨w7, rfl⟩ : ∃ x : World, x = wc := ⟨_, rfl⟩
              clear p0 l0 zp zl oc of_ os rc rf rs HOV
              have p0 := hP.p0
              have l0 := hP.l0
              have zp := World.block_lt_of_cell? _ _ p0
              have zl := World.block_lt_of_cell? _ _ l0
              obtain ⟨oc, of_, os⟩ := id hO
              obtain ⟨rc, rf, rs⟩ := id hZ
              cases kb with
              | false =>
                have hP : Ps q w w7 pp lp cp b j7 r := hP
                have hA : aftS o r = .ok o r := by unfold aftS; rw [if_neg (of_decide_eq_false HKB.out.symm)]
                rcases h4 : wantS bEndobj r with ⟨x, t⟩ | ⟨n4, r4⟩
                · have hit : aft n (.ok o r) = .bad x t := by show (match aftS o r with | .bad e t => IRes.bad e t | .ok o2 r2 => match wantS bEndobj r2 with | .bad e t => IRes.bad e t | .ok _ r3 => IRes.ok n o2 r3) = _; rw [hA]; simp only []; rw [h4]
                  have HIT := hid (hit ▸ HGP.out)
                  have H4 := hid h4
                  have bx := wantS_err h4
                  have HOV := hid hov
                  clear h4 hit hA hov
                  go_wp2_with (first | (go_at_call 69; (with_reducible refine (word_w' hP.fresh _ bEndobj (by decide)).mono ?_); rw [H4.out]; rintro e w1 ⟨rfl, j1, hPs⟩; have hP := hP.join hPs; have hZ := hZ.held hPs.held (by omega) (by omega); obtain ⟨rc, rf, rs⟩ := id hZ; have p0 := hP.p0; have l0 := hP.l0; have zp := World.block_lt_of_cell? _ _ p0; have zl := World.block_lt_of_cell? _ _ l0; have hO := hO.held hPs.held (by omega) (by omega); have HOV := hid (ovI_held HOV.out hPs.held hlo); obtain ⟨oc, of_, os⟩ := id hO))
                  obtain ⟨k0, k1, k2, k3, k4, k5⟩ := (hZ.set6 (a := .int .i64 0) (b := .int .i64 0) (c := .int .i64 0) (d := .slice none 0 0) (e := .slice none 0 0) (f := .slice none 0 0) rfl).s6
                  have hh := fun B => set6_held w1 B w.heap.size (.int .i64 0) (.int .i64 0) (.int .i64 0) (.slice none 0 0) (.slice none 0 0) (.slice none 0 0)
                  have hP5 := hP.off (hh w1.heap.size) (Nat.le_refl _)
                  exact bodyPost_ret (v := .tuple #[.agg #[.int .i64 0, .int .i64 0, .int .i64 0, .slice none 0 0, .slice none 0 0, .slice none 0 0], .int .i64 x]) (by simp [results, Try.results49, go_sem, k0, k1, k2, k3, k4, k5]) rfl ⟨_, HIT.out, .bad rfl ⟨_, hP5⟩⟩
                · have hit : aft n (.ok o r) = .ok n o r4 := by show (match aftS o r with | .bad e t => IRes.bad e t | .ok o2 r2 => match wantS bEndobj r2 with | .bad e t => IRes.bad e t | .ok _ r3 => IRes.ok n o2 r3) = _; rw [hA]; simp only []; rw [h4]
                  have HIT := hid (hit ▸ HGP.out)
                  have H4 := hid h4
                  have HOV := hid hov
                  clear h4 hit hA hov
                  go_wp2_with (first | (go_at_call 69; (with_reducible refine (word_w' hP.fresh _ bEndobj (by decide)).mono ?_); rw [H4.out]; rintro e w1 ⟨rfl, j1, hPs⟩; have hP := hP.join hPs; have hZ := hZ.held hPs.held (by omega) (by omega); obtain ⟨rc, rf, rs⟩ := id hZ; have p0 := hP.p0; have l0 := hP.l0; have zp := World.block_lt_of_cell? _ _ p0; have zl := World.block_lt_of_cell? _ _ l0; have hO := hO.held hPs.held (by omega) (by omega); have HOV := hid (ovI_held HOV.out hPs.held hlo); obtain ⟨oc, of_, os⟩ := id hO))
                  obtain ⟨k0, k1, k2, k3, k4, k5⟩ := (hZ.set6 (a := .int .i64 n) (b := .int .i64 y1) (c := .int .i64 y2) (d := .slice y3 y6 y7) (e := .slice y4 y8 y9) (f := .slice y5 y10 y11) rfl).s6
                  have hh := fun B => set6_held w1 B w.heap.size (.int .i64 n) (.int .i64 y1) (.int .i64 y2) (.slice y3 y6 y7) (.slice y4 y8 y9) (.slice y5 y10 y11)
                  have hP5 := hP.off (hh w1.heap.size) (Nat.le_refl _)
                  exact bodyPost_ret (v := .tuple #[.agg #[.int .i64 n, .int .i64 y1, .int .i64 y2, .slice y3 y6 y7, .slice y4 y8 y9, .slice y5 y10 y11], .int .i64 0]) (by simp [results, Try.results49, go_sem, k0, k1, k2, k3, k4, k5]) rfl ⟨_, HIT.out, [.int .i64 y1, .int .i64 y2, .slice y3 y6 y7, .slice y4 y8 y9, .slice y5 y10 y11], rfl, HOV.out.keep (fun g hg => ⟨by have := hg.1; omega, Nat.lt_of_lt_of_le hg.2.2 (hh 0).size⟩) (fun g hg hlt => (hh w1.heap.size).block g hlt (by have := hg.1; omega) (by have := hg.1; omega)), _, hP5⟩
              | true =>
                have hP7 : Ps q w w7 pp lp cp b j7 ((r.drop (bl r false)).drop 6) := hP
                obtain ⟨h7, hKW⟩ := of_decide_eq_true HKB.out.symm
                obtain ⟨k0, n0, b0, l0', d0⟩ := o
                obtain rfl : k0 = 7 := h7
                have hP := hP7
                generalize hs6 : (r.drop (bl r false)).drop 6 = s6 at hP
                have hA : aftS (.mk 7 n0 b0 l0' d0) r = strm (.mk 7 n0 b0 l0' d0) s6 := by unfold aftS; rw [if_pos ⟨rfl, hKW⟩, ← hs6]
                have hst := stream_any (A := AI w g6 w7) (w := w7) (n0 := n0) (b0 := b0) (l0 := l0') (d := d0) hP.fresh hov (fun g hg => aiNe hg hlo) (Nat.le_trans (show d0.length ≤ r2.length from hfew) hr2)
                generalize hR : strm (.mk 7 n0 b0 l0' d0) s6 = R at hA hst
                have hA2 : aft n (.ok (.mk 7 n0 b0 l0' d0) r) = aft2 n R := by rw [aft_eq, hA]
                have HA2 := hid hA2
                have HST := hid hst
                have HR := hid hR
                clear hA hA2 hst hR hs6 hP7
                have hos := hO.2.2
                have hzs := hZ.2.2
                clear hov hKW HKB HKD hfew
                go_upto_region 17 with (go_at_call 70; refine HST.out.mono ?_; rintro e w8 hq; obtain ⟨c8, vs8, hc8, hV8, rfl, hov8, j8, hPs⟩ := hq.both; have hP := hP.join hPs; have hZ := hZ.held hPs.held (by omega) (by omega); have hO := hO.held hPs.held (by omega) (by omega); have HC8 := hid hc8; clear hc8; have hov8 := hid hov8; obtain ⟨x1, x2, x3, x4, x5, x6, x7, x8, x9, x10, x11, rfl⟩ := hV8; obtain ⟨rc, rf, rs⟩ := id hZ; obtain ⟨oc, of_, os⟩ := id hO)
                have hS5 := fun B => set5_held w8 B g6 (.int .i64 x1) (.int .i64 x2) (.slice x3 x6 x7) (.slice x4 x8 x9) (.slice x5 x10 x11)
                have hP : Ps q w (((((w8.setCell ⟨g6, 0, none⟩ (.int .i64 x1)).setCell ⟨g6, 1, none⟩ (.int .i64 x2)).setCell ⟨g6, 2, none⟩ (.slice x3 x6 x7)).setCell ⟨g6, 3, none⟩ (.slice x4 x8 x9)).setCell ⟨g6, 4, none⟩ (.slice x5 x10 x11)) pp lp cp b j8 R.rest := hP.off (hS5 w8.heap.size) (by omega)
                have hZ : C5 (((((w8.setCell ⟨g6, 0, none⟩ (.int .i64 x1)).setCell ⟨g6, 1, none⟩ (.int .i64 x2)).setCell ⟨g6, 2, none⟩ (.slice x3 x6 x7)).setCell ⟨g6, 3, none⟩ (.slice x4 x8 x9)).setCell ⟨g6, 4, none⟩ (.slice x5 x10 x11)) w.heap.size [.int .i64 0, .int .i64 0, .int .i64 0, .slice none 0 0, .slice none 0 0, .slice none 0 0] := hZ.held (hS5 w8.heap.size) (by omega) (by omega)
                have hO : C5 (((((w8.setCell ⟨g6, 0, none⟩ (.int .i64 x1)).setCell ⟨g6, 1, none⟩ (.int .i64 x2)).setCell ⟨g6, 2, none⟩ (.slice x3 x6 x7)).setCell ⟨g6, 3, none⟩ (.slice x4 x8 x9)).setCell ⟨g6, 4, none⟩ (.slice x5 x10 x11)) g6 [.int .i64 x1, .int .i64 x2, .slice x3 x6 x7, .slice x4 x8 x9, .slice x5 x10 x11] := hO.set5 (a := .int .i64 x1) (b := .int .i64 x2) (c := .slice x3 x6 x7) (d := .slice x4 x8 x9) (e := .slice x5 x10 x11) rfl
                have hsz9 : w8.heap.size ≤ (((((w8.setCell ⟨g6, 0, none⟩ (.int .i64 x1)).setCell ⟨g6, 1, none⟩ (.int .i64 x2)).setCell ⟨g6, 2, none⟩ (.slice x3 x6 x7)).setCell ⟨g6, 3, none⟩ (.slice x4 x8 x9)).setCell ⟨g6, 4, none⟩ (.slice x5 x10 x11)).heap.size := (hS5 0).size
                have hbk9 : ∀ g, g < w8.heap.size → g ≠ g6 → (((((w8.setCell ⟨g6, 0, none⟩ (.int .i64 x1)).setCell ⟨g6, 1, none⟩ (.int .i64 x2)).setCell ⟨g6, 2, none⟩ (.slice x3 x6 x7)).setCell ⟨g6, 3, none⟩ (.slice x4 x8 x9)).setCell ⟨g6, 4, none⟩ (.slice x5 x10 x11)).heap[g]? = w8.heap[g]? := fun g h1 h2 => (hS5 w8.heap.size).block g h1 h2 h2
                clear hS5
                generalize (((((w8.setCell ⟨g6, 0, none⟩ (.int .i64 x1)).setCell ⟨g6, 1, none⟩ (.int .i64 x2)).setCell ⟨g6, 2, none⟩ (.slice x3 x6 x7)).setCell ⟨g6, 3, none⟩ (.slice x4 x8 x9)).setCell ⟨g6, 4, none⟩ (.slice x5 x10 x11)) = w9 at hP hZ hO hsz9 hbk9 ⊢
                clear p0 l0 zp zl oc of_ os rc rf rs
                have p0 := hP.p0
                have l0 := hP.l0
                have zp := World.block_lt_of_cell? _ _ p0
                have zl := World.block_lt_of_cell? _ _ l0
                obtain ⟨oc, of_, os⟩ := id hO
                obtain ⟨rc, rf, rs⟩ := id hZ
                rcases R with ⟨x, t⟩ | ⟨o2, r3⟩
                · have hc0 : c8 = x := HC8.out; clear HC8; subst hc0
                  have bx := strm_err HR.out
                  have HIT := hid (show IT q d s (.bad c8 t) from by have h9 := HGP.out; rw [HA2.out] at h9; exact h9)
                  go_wp2
                  obtain ⟨k0, k1, k2, k3, k4, k5⟩ := (hZ.set6 (a := .int .i64 0) (b := .int .i64 0) (c := .int .i64 0) (d := .slice none 0 0) (e := .slice none 0 0) (f := .slice none 0 0) rfl).s6
                  have hh := fun B => set6_held w9 B w.heap.size (.int .i64 0) (.int .i64 0) (.int .i64 0) (.slice none 0 0) (.slice none 0 0) (.slice none 0 0)
                  have hP5 := hP.off (hh w9.heap.size) (Nat.le_refl _)
                  exact bodyPost_ret (v := .tuple #[.agg #[.int .i64 0, .int .i64 0, .int .i64 0, .slice none 0 0, .slice none 0 0, .slice none 0 0], .int .i64 c8]) (by simp [results, Try.results49, go_sem, k0, k1, k2, k3, k4, k5]) rfl ⟨_, HIT.out, .bad rfl ⟨_, hP5⟩⟩
                · have hc0 : c8 = 0 := HC8.out; clear HC8; subst hc0
                  have hovn := hov8.out _ _ rfl
                  have HOV := hid (show OV (AI w g6 w9) w9 [.int .i64 x1, .int .i64 x2, .slice x3 x6 x7, .slice x4 x8 x9, .slice x5 x10 x11] o2 from hovn.keep (fun g hg => ⟨by have := hg.1; omega, by have := hg.1; omega, Nat.lt_of_lt_of_le hg.2 hsz9⟩) (fun g hg hlt => hbk9 g hlt (by have := hg.1; omega)))
                  have hP : Ps q w w9 pp lp cp b j8 r3 := hP
                  clear hovn
                  rcases h4 : wantS bEndobj r3 with ⟨x, t⟩ | ⟨n4, r4⟩
                  · have hit : IT q d s (.bad x t) := by have h9 := HGP.out; rw [HA2.out] at h9; unfold aft2 at h9; simp only [] at h9; rw [h4] at h9; exact h9
                    have HIT := hid hit
                    have H4 := hid h4
                    have bx := wantS_err h4
                    clear h4 hit
                    go_wp2_with (first | (go_at_call 69; (with_reducible refine (word_w' hP.fresh _ bEndobj (by decide)).mono ?_); rw [H4.out]; rintro e w1 ⟨rfl, j1, hPs⟩; have hP := hP.join hPs; have hZ := hZ.held hPs.held (by omega) (by omega); obtain ⟨rc, rf, rs⟩ := id hZ; have p0 := hP.p0; have l0 := hP.l0; have zp := World.block_lt_of_cell? _ _ p0; have zl := World.block_lt_of_cell? _ _ l0; have hO := hO.held hPs.held (by omega) (by omega); have HOV := hid (ovI_held HOV.out hPs.held hlo); obtain ⟨oc, of_, os⟩ := id hO))
                    obtain ⟨k0, k1, k2, k3, k4, k5⟩ := (hZ.set6 (a := .int .i64 0) (b := .int .i64 0) (c := .int .i64 0) (d := .slice none 0 0) (e := .slice none 0 0) (f := .slice none 0 0) rfl).s6
                    have hh := fun B => set6_held w1 B w.heap.size (.int .i64 0) (.int .i64 0) (.int .i64 0) (.slice none 0 0) (.slice none 0 0) (.slice none 0 0)
                    have hP5 := hP.off (hh w1.heap.size) (Nat.le_refl _)
                    exact bodyPost_ret (v := .tuple #[.agg #[.int .i64 0, .int .i64 0, .int .i64 0, .slice none 0 0, .slice none 0 0, .slice none 0 0], .int .i64 x]) (by simp [results, Try.results49, go_sem, k0, k1, k2, k3, k4, k5]) rfl ⟨_, HIT.out, .bad rfl ⟨_, hP5⟩⟩
                  · have hit : IT q d s (.ok n o2 r4) := by have h9 := HGP.out; rw [HA2.out] at h9; unfold aft2 at h9; simp only [] at h9; rw [h4] at h9; exact h9
                    have HIT := hid hit
                    have H4 := hid h4
                    clear h4 hit
                    go_wp2_with (first | (go_at_call 69; (with_reducible refine (word_w' hP.fresh _ bEndobj (by decide)).mono ?_); rw [H4.out]; rintro e w1 ⟨rfl, j1, hPs⟩; have hP := hP.join hPs; have hZ := hZ.held hPs.held (by omega) (by omega); obtain ⟨rc, rf, rs⟩ := id hZ; have p0 := hP.p0; have l0 := hP.l0; have zp := World.block_lt_of_cell? _ _ p0; have zl := World.block_lt_of_cell? _ _ l0; have hO := hO.held hPs.held (by omega) (by omega); have HOV := hid (ovI_held HOV.out hPs.held hlo); obtain ⟨oc, of_, os⟩ := id hO))
                    obtain ⟨k0, k1, k2, k3, k4, k5⟩ := (hZ.set6 (a := .int .i64 n) (b := .int .i64 x1) (c := .int .i64 x2) (d := .slice x3 x6 x7) (e := .slice x4 x8 x9) (f := .slice x5 x10 x11) rfl).s6
                    have hh := fun B => set6_held w1 B w.heap.size (.int .i64 n) (.int .i64 x1) (.int .i64 x2) (.slice x3 x6 x7) (.slice x4 x8 x9) (.slice x5 x10 x11)
                    have hP5 := hP.off (hh w1.heap.size) (Nat.le_refl _)
                    exact bodyPost_ret (v := .tuple #[.agg #[.int .i64 n, .int .i64 x1, .int .i64 x2, .slice x3 x6 x7, .slice x4 x8 x9, .slice x5 x10 x11], .int .i64 0]) (by simp [results, Try.results49, go_sem, k0, k1, k2, k3, k4, k5]) rfl ⟨_, HIT.out, [.int .i64 x1, .int .i64 x2, .slice x3 x6 x7, .slice x4 x8 x9, .slice x5 x10 x11], rfl, HOV.out.keep (fun g hg => ⟨by have := hg.1; omega, Nat.lt_of_lt_of_le hg.2.2 (hh 0).size⟩) (fun g hg hlt => (hh w1.heap.size).block g hlt (by have := hg.1; omega) (by have := hg.1; omega)), _, hP5⟩
end Go.Proofs.Ytlmgklebikcbjaa
