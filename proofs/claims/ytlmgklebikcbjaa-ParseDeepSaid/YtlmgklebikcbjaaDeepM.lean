/-
  ParseDeep: so many brackets in one another as may be, are read; one more is too deep. No condition.
-/
import Derived.Test.YtlmgklebikcbjaaGd
import Derived.Test.YtlmgklebikcbjaaGa
import Derived.Test.YtlmgklebikcbjaaLawNm
import Derived.Test.YtlmgklebikcbjaaRx
import Derived.Test.YtlmgklebikcbjaaHex
import Derived.Test.YtlmgklebikcbjaaGc
import Derived.Test.YtlmgklebikcbjaaGe
import Derived.Test.YtlmgklebikcbjaaPrn
import Derived.Test.YtlmgklebikcbjaaPrint
import Derived.Test.YtlmgklebikcbjaaLift
import Derived.Deep.Grids
import Derived.WalkKit
import Derived.ProofKit
import Derived.OpenShut
import Derived.ShutString
/-
  Plain: brackets in one another, as ParseDeep writes them, are read; one more is too deep. No program here.
-/
namespace Go.Proofs.Ytlmgklebikcbjaa
set_option linter.unusedVariables false

def dpo : List Bool → List UInt8
  | [] => []
  | true :: k => 91 :: dpo k
  | false :: k => 60 :: 60 :: 47 :: 75 :: 32 :: dpo k
def dpc : List Bool → List UInt8
  | [] => []
  | true :: k => dpc k ++ [93]
  | false :: k => dpc k ++ [62, 62]
def dob : List Bool → PO
  | [] => poInt 7
  | true :: k => poArr [dob k]
  | false :: k => poDict [([75], dob k)]
theorem dob_kind : ∀ k, ¬ (dob k).kind = 0
  | [] => by decide
  | true :: k => by show ¬ (6 : Int) = 0; decide
  | false :: k => by show ¬ (7 : Int) = 0; decide
theorem dob_dict (k : List Bool) : dictOf [([75], dob k)] = dob (false :: k) := by
  show poDict (wi ([75], dob k) []) = _
  rw [wi, if_neg (dob_kind k)]; rfl

theorem bl0 {x : UInt8} (s : List UInt8) (h : wh (c8 x) = false) (h2 : ¬ c8 x = 37) : bl (x :: s) false = 0 := by rw [bl_cons, if_neg (by rw [h]; decide), if_neg h2]
theorem TK_91 (r : List UInt8) : TK (91 :: r) = .tok 5 0 [] r := by
  unfold TK; rw [bl0 r (by decide) (by decide)]; rfl
theorem TK_93 (r : List UInt8) : TK (93 :: r) = .tok 6 0 [] r := by
  unfold TK; rw [bl0 r (by decide) (by decide)]; rfl
theorem TK_60 (r : List UInt8) : TK (60 :: 60 :: r) = .tok 7 0 [] r := by
  unfold TK; rw [bl0 _ (by decide) (by decide)]; rfl
theorem TK_62 (r : List UInt8) : TK (62 :: 62 :: r) = .tok 8 0 [] r := by
  unfold TK; rw [bl0 _ (by decide) (by decide)]; rfl
theorem TK_sp (s : List UInt8) : TK (32 :: s) = TK s ∧ (32 :: s).drop (bl (32 :: s) false) = s.drop (bl s false) := by
  have e : bl (32 :: s) false = 1 + bl s false := by rw [bl_cons, if_pos (by decide)]
  have e2 : (32 :: s).drop (bl (32 :: s) false) = s.drop (bl s false) := by rw [e, Nat.add_comm]; rfl
  exact ⟨by unfold TK; rw [e2], e2⟩
theorem TK_K (s : List UInt8) : TK (47 :: 75 :: 32 :: s) = .tok 4 0 [75] (32 :: s) := by
  unfold TK; rw [bl0 _ (by decide) (by decide)]
  show wrp 4 (nm (75 :: 32 :: s) []) = _
  rw [nm_cons, if_pos (by decide), if_neg (by decide), if_neg (by simp), nm_cons, if_neg (by decide)]
  rfl
theorem PV.sp {q : Bool} {d : Nat} {s : List UInt8} {res : PRes} (h : PV q (.v d) s res) : PV q (.v d) (32 :: s) res := by
  obtain ⟨f, h⟩ := h
  obtain ⟨e1, e2⟩ := TK_sp s
  cases f with
  | zero => simp [pF] at h
  | succ f =>
    refine ⟨f + 1, ?_⟩
    rw [pF] at h ⊢
    rw [e1, e2]; exact h

/-- what closes -/
def Cl (r : List UInt8) : Prop := r = [] ∨ (∃ t, r = 93 :: t) ∨ ∃ t, r = 62 :: 62 :: t
theorem Cl.rg {r : List UInt8} (h : Cl r) : rg (hd r) = false := by
  rcases h with rfl | ⟨t, rfl⟩ | ⟨t, rfl⟩
  · decide
  · show Go.Proofs.Ytlmgklebikcbjaa.rg (c8 93) = false; decide
  · show Go.Proofs.Ytlmgklebikcbjaa.rg (c8 62) = false; decide
theorem Cl.tk {r : List UInt8} (h : Cl r) : ∃ k out t, TK r = .tok k 0 out t ∧ ¬ k = 1 := by
  rcases h with rfl | ⟨t, rfl⟩ | ⟨t, rfl⟩
  · exact ⟨0, [], [], rfl, by decide⟩
  · exact ⟨6, [], t, TK_93 t, by decide⟩
  · exact ⟨8, [], t, TK_62 t, by decide⟩
theorem Cl.app (k : List Bool) {r : List UInt8} (h : Cl r) : Cl (dpc k ++ r) := by
  induction k generalizing r with
  | nil => exact h
  | cons x k ih =>
    cases x with
    | true => rw [dpc, List.append_assoc]; exact ih (.inr (.inl ⟨r, rfl⟩))
    | false => rw [dpc, List.append_assoc]; exact ih (.inr (.inr ⟨r, rfl⟩))
theorem TK_7 {r : List UInt8} (h : Cl r) : TK (55 :: r) = .tok 1 7 [] r := by
  have hn : rn (55 :: r) = 1 := by
    have h1 := h.rg
    have h2 : rn (55 :: r) = 1 + rn r := rn_step (s := 55 :: r) (by show rg (c8 55) = true; decide)
    rw [h2, rn_stop h1]
  unfold TK; rw [bl0 _ (by decide) (by decide)]
  show numT (55 :: r) = _
  unfold numT
  rw [hn]
  rfl

theorem deep_first (k : List Bool) {r : List UInt8} (h : Cl r) : ∃ kk n out t, TK (dpo k ++ 55 :: r) = .tok kk n out t ∧ ¬ kk = 6 := by
  match k with
  | [] => exact ⟨_, _, _, _, TK_7 h, by decide⟩
  | true :: k => exact ⟨_, _, _, _, TK_91 _, by decide⟩
  | false :: k => exact ⟨_, _, _, _, TK_60 _, by decide⟩
theorem deep_ok : ∀ (k : List Bool) (d : Nat) (r : List UInt8), k.length ≤ d → Cl r → PV false (.v d) (dpo k ++ 55 :: (dpc k ++ r)) (.ok (dob k) r)
  | [], d, r, _, h => by
    refine ⟨1, ?_⟩
    show pF false 1 (.v d) (55 :: r) = _
    rw [pF, TK_7 h]
    obtain ⟨k, out, t, h1, h2⟩ := h.tk
    show some (whole false 7 r) = _
    unfold whole
    rw [if_pos ⟨by decide, by decide, rfl⟩, h1]
    split
    · rename_i heq; injection heq with e1; exact absurd e1 h2
    · rfl
  | true :: k, d + 1, r, hd, h => by
    have ih := deep_ok k d (93 :: r) (by simpa using hd) (.inr (.inl ⟨r, rfl⟩))
    obtain ⟨kk, n, out, t, h1, h2⟩ := deep_first k (Cl.app k (r := 93 :: r) (.inr (.inl ⟨r, rfl⟩)))
    have e : dpo (true :: k) ++ 55 :: (dpc (true :: k) ++ r) = 91 :: (dpo k ++ 55 :: (dpc k ++ 93 :: r)) := by rw [dpo, dpc]; simp
    rw [e]
    exact PV.v_open (TK_91 _) (PV.a_step h1 h2 ih (PV.a_close (TK_93 r)))
  | false :: k, d + 1, r, hd, h => by
    have ih := deep_ok k d (62 :: 62 :: r) (by simpa using hd) (.inr (.inr ⟨r, rfl⟩))
    have e : dpo (false :: k) ++ 55 :: (dpc (false :: k) ++ r) = 60 :: 60 :: 47 :: 75 :: 32 :: (dpo k ++ 55 :: (dpc k ++ 62 :: 62 :: r)) := by rw [dpo, dpc]; simp
    rw [e, ← dob_dict]
    exact PV.v_left (TK_60 _) (PV.m_step (TK_K _) (by simp) ih.sp (PV.m_close (TK_62 r)))
  | x :: k, 0, r, hd, h => by simp at hd
theorem deep_bad : ∀ (k : List Bool) (d : Nat) (T : List UInt8), d < k.length → PV false (.v d) (dpo k ++ T) (.bad 6 (dpo (k.drop d) ++ T))
  | [], d, T, h => by simp at h
  | true :: k, 0, T, h => ⟨1, by
    show pF false 1 (.v 0) (91 :: (dpo k ++ T)) = _
    rw [pF, TK_91, bl0 _ (by decide) (by decide)]; rfl⟩
  | false :: k, 0, T, h => ⟨1, by
    show pF false 1 (.v 0) (60 :: 60 :: 47 :: 75 :: 32 :: (dpo k ++ T)) = _
    rw [pF, TK_60, bl0 _ (by decide) (by decide)]; rfl⟩
  | true :: k, d + 1, T, h => by
    have ih := deep_bad k d T (by simpa using h)
    have hk : ∃ kk n out t, TK (dpo k ++ T) = .tok kk n out t ∧ ¬ kk = 6 := by
      match k, h with
      | [], h => simp at h
      | true :: k, _ => exact ⟨_, _, _, _, TK_91 _, by decide⟩
      | false :: k, _ => exact ⟨_, _, _, _, TK_60 _, by decide⟩
    obtain ⟨kk, n, out, t, h1, h2⟩ := hk
    exact PV.v_open (TK_91 _) (PV.a_stop h1 h2 ih)
  | false :: k, d + 1, T, h => by
    have ih := deep_bad k d T (by simpa using h)
    exact PV.v_left (TK_60 _) (PV.m_stop (TK_K _) (by simp) ih.sp)
end Go.Proofs.Ytlmgklebikcbjaa

/-
  The document's Depth of what ParseDeep writes. No condition.
-/
namespace Go.Proofs.Ytlmgklebikcbjaa
open Go.RowKit
set_option linter.unusedVariables false

theorem OV.item1 {A : Nat → Prop} {w : World} {k n : Int} {vb vl vd : Value} {b : List UInt8} {x : PO} {d : List (List UInt8 × PO)} (h : OV A w [.int .i64 k, .int .i64 n, vb, vl, vd] (.mk k n b [x] d)) :
    ∃ g off cap vs, vl = .slice (some ⟨g, off, none⟩) 1 cap ∧ OV A w vs x ∧ ∀ j u, vs[j]? = some u → w.cell? ⟨g, off + j, none⟩ = some u := by
  obtain ⟨k9, n9, vb9, vx, vd9, b9, l9, d9, cl, cd, hb, hl, hl9, hd9, hk9, hd9', hz9⟩ := h
  obtain ⟨ao, cap, rfl, q1, q2, q3, q4, q5⟩ := hl
  rcases q5 with q5 | ⟨g, off, rfl, q6, q7⟩
  · simp at q5
  · exact ⟨g, off, cap, cl 0, rfl, hl9 0 (by simp), fun j u hu => by have := q7 0 (by simp) j u hu; simpa using this⟩
theorem OV.ent1 {A : Nat → Prop} {w : World} {k n : Int} {vb vl vd : Value} {b : List UInt8} {kk : List UInt8} {x : PO} {l : List PO} (h : OV A w [.int .i64 k, .int .i64 n, vb, vl, vd] (.mk k n b l [(kk, x)])) :
    ∃ g off cap vs, vd = .slice (some ⟨g, off, none⟩) 1 cap ∧ OV A w vs x ∧ ∀ j u, (Value.string (st kk) :: vs)[j]? = some u → w.cell? ⟨g, off + j, none⟩ = some u := by
  obtain ⟨k9, n9, vb9, vx, vd9, b9, l9, d9, cl, cd, hb, hl, hl9, hd9, hk9, hd9', hz9⟩ := h
  obtain ⟨ao, cap, rfl, q1, q2, q3, q4, q5⟩ := hd9
  rcases q5 with q5 | ⟨g, off, rfl, q6, q7⟩
  · simp at q5
  · have h0 := hk9 0 (by simp)
    refine ⟨g, off, cap, (cd 0).tail, rfl, hd9' 0 (by simp), fun j u hu => ?_⟩
    refine (fun this => by simpa using this) (q7 0 (by simp) j u ?_)
    cases hc : cd 0 with
    | nil => rw [hc] at h0; cases h0
    | cons a c => rw [hc] at h0 hu; injection h0 with h0; rw [h0]; exact hu

set_option maxHeartbeats 1600000 in
set_option maxRecDepth 100000 in
theorem depth_dob : ∀ (k : List Bool) (A : Nat → Prop) (w : World) (vs : List Value), k.length ≤ 1000 → OV A w vs (dob k) →
    Calls Try.prog 48 #[.agg vs.toArray] w fun e w' => e = .returned (.int .i64 (k.length : Nat)) ∧ Below w.heap.size w w'
  | [], A, w, vs, hk, h => by
    obtain ⟨c1, c3, c4, c6, c7, c9, rfl⟩ := OV.shape (k := 2) (n := 7) (b := []) (l := []) (d := []) h
    go_enter Try.func48, Try.ntmps48
    go_wp2
    go_ret
    exact ⟨rfl, alb _ _⟩
  | true :: k, A, w, vs, hk, h => by
    rw [List.length_cons] at hk
    have hwr : IntKind.i64.wrap ((k.length : Int) + 1) = (k.length : Int) + 1 := IntWalk.i64_in _ (by omega)
    obtain ⟨c1, c3, c4, c6, c7, c9, rfl⟩ := OV.shape (k := 6) (n := 0) (b := []) (l := [dob k]) (d := []) h
    obtain ⟨g, off, cap, vx, e, hx, hc⟩ := OV.item1 (k := 6) (n := 0) (b := []) (d := []) h
    injection e with e1 e2 e3
    subst e1 e3
    have ih := hid (fun W (hW : Below w.heap.size w W) => depth_dob k A W vx (by omega) (hx.up hW))
    have hP := C5.new w _ rfl [.int .i64 6, .int .i64 0, .slice c1 ([] : List UInt8).length c3, .slice (some ⟨g, off, none⟩) 1 c6, .slice c7 0 c9] 61
    have hv5 := hx.v5
    clear h hx
    obtain ⟨p1, p2, p3, p4, p5, p6, p7, p8, p9, p10, p11, rfl⟩ := hv5
    have HC := hid hc
    clear hc
    go_enter Try.func48, Try.ntmps48
    go_wp2
    go_loopw [3, 4] (fun s3 s4 wr => ∃ i : Nat, s4 = .int .i64 i ∧ Below (w.alloc (.cells #[.int .i64 6, .int .i64 0, .slice c1 ([] : List UInt8).length c3, .slice (some ⟨g, off, none⟩) 1 c6, .slice c7 0 c9] 61)).heap.size (w.alloc (.cells #[.int .i64 6, .int .i64 0, .slice c1 ([] : List UInt8).length c3, .slice (some ⟨g, off, none⟩) 1 c6, .slice c7 0 c9] 61)) wr ∧ ((i = 0 ∧ s3 = .int .i64 0) ∨ (i = 1 ∧ s3 = .int .i64 (k.length : Nat)))) (fun _ s4 _ => 1 - (intOf s4).toNat)
    case atStart => exact ⟨0, rfl, Below.refl _ _, .inl ⟨rfl, rfl⟩⟩
    case round =>
      obtain ⟨i, rfl, hb, hi⟩ := hrel
      obtain ⟨rc, rf, rs⟩ := hP.up hb
      have hb0 := below_then (alb w _) hb
      rcases hi with ⟨rfl, rfl⟩ | ⟨rfl, rfl⟩
      · have q0 := cell_up' hb0 (HC.out 0 _ rfl)
        have q1 := cell_up' hb0 (HC.out 1 _ rfl)
        have q2 := cell_up' hb0 (HC.out 2 _ rfl)
        have q3 := cell_up' hb0 (HC.out 3 _ rfl)
        have q4 := cell_up' hb0 (HC.out 4 _ rfl)
        rw [Nat.add_zero] at q0
        go_wp2_with (go_at_call 48; refine (ih.out _ hb0).mono ?_; rintro e w5 ⟨rfl, hb5⟩)
        go_roundw
        case rel => exact ⟨1, by simp, hb.trans (hb5.mono hb.size), .inr ⟨rfl, by simp⟩⟩
        case measure => simp [intOf]
      · go_wp2
        go_ret
        exact ⟨by simp, hb0⟩
  | false :: k, A, w, vs, hk, h => by
    rw [List.length_cons] at hk
    have hwr : IntKind.i64.wrap ((k.length : Int) + 1) = (k.length : Int) + 1 := IntWalk.i64_in _ (by omega)
    obtain ⟨c1, c3, c4, c6, c7, c9, rfl⟩ := OV.shape (k := 7) (n := 0) (b := []) (l := []) (d := [([75], dob k)]) h
    obtain ⟨g, off, cap, vx, e, hx, hc⟩ := OV.ent1 (k := 7) (n := 0) (b := []) (l := []) h
    injection e with e1 e2 e3
    subst e1 e3
    have ih := hid (fun W (hW : Below w.heap.size w W) => depth_dob k A W vx (by omega) (hx.up hW))
    have hP := C5.new w _ rfl [.int .i64 7, .int .i64 0, .slice c1 ([] : List UInt8).length c3, .slice c4 0 c6, .slice (some ⟨g, off, none⟩) 1 c9] 61
    have hv5 := hx.v5
    clear h hx
    obtain ⟨p1, p2, p3, p4, p5, p6, p7, p8, p9, p10, p11, rfl⟩ := hv5
    have HC := hid hc
    clear hc
    go_enter Try.func48, Try.ntmps48
    go_wp2
    go_loopw [3, 5] (fun s3 s4 wr => ∃ i : Nat, s4 = .int .i64 i ∧ Below (w.alloc (.cells #[.int .i64 7, .int .i64 0, .slice c1 ([] : List UInt8).length c3, .slice c4 0 c6, .slice (some ⟨g, off, none⟩) 1 c9] 61)).heap.size (w.alloc (.cells #[.int .i64 7, .int .i64 0, .slice c1 ([] : List UInt8).length c3, .slice c4 0 c6, .slice (some ⟨g, off, none⟩) 1 c9] 61)) wr ∧ ((i = 0 ∧ s3 = .int .i64 0) ∨ (i = 1 ∧ s3 = .int .i64 (k.length : Nat)))) (fun _ s4 _ => 1 - (intOf s4).toNat)
    case atStart => exact ⟨0, rfl, Below.refl _ _, .inl ⟨rfl, rfl⟩⟩
    case round =>
      obtain ⟨i, rfl, hb, hi⟩ := hrel
      obtain ⟨rc, rf, rs⟩ := hP.up hb
      have hb0 := below_then (alb w _) hb
      rcases hi with ⟨rfl, rfl⟩ | ⟨rfl, rfl⟩
      · have q0 := cell_up' hb0 (HC.out 0 _ rfl)
        have q1 := cell_up' hb0 (HC.out 1 _ rfl)
        have q2 := cell_up' hb0 (HC.out 2 _ rfl)
        have q3 := cell_up' hb0 (HC.out 3 _ rfl)
        have q4 := cell_up' hb0 (HC.out 4 _ rfl)
        have q5 := cell_up' hb0 (HC.out 5 _ rfl)
        rw [Nat.add_zero] at q0
        go_wp2_with (go_at_call 48; refine (ih.out _ hb0).mono ?_; rintro e w5 ⟨rfl, hb5⟩)
        go_roundw
        case rel => exact ⟨1, by simp, hb.trans (hb5.mono hb.size), .inr ⟨rfl, by simp⟩⟩
        case measure => simp [intOf]
      · go_wp2
        go_ret
        exact ⟨by simp, hb0⟩
end Go.Proofs.Ytlmgklebikcbjaa

/-
  ParseDeep: so many brackets in one another as may be, are read; one more is too deep, told at its bracket; the statement's walk. No condition.
-/
namespace Go.Proofs.Ytlmgklebikcbjaa
open Go.RowKit
set_option linter.unusedVariables false

/-- a slice of Booleans -/
def SlB (w : World) (v : Value) (l : List Bool) : Prop := ∃ ao cap, v = .slice ao l.length cap ∧ (l = [] ∨ ∃ g off, ao = some ⟨g, off, none⟩ ∧ ∀ j (h : j < l.length), w.cell? ⟨g, off + j, none⟩ = some (.bool l[j]))

theorem dpo_app : ∀ a b : List Bool, dpo (a ++ b) = dpo a ++ dpo b
  | [], b => rfl
  | true :: a, b => by rw [List.cons_append, dpo, dpo, dpo_app a b]; rfl
  | false :: a, b => by rw [List.cons_append, dpo, dpo, dpo_app a b]; rfl
theorem dpc_app : ∀ a b : List Bool, dpc (a ++ b) = dpc b ++ dpc a
  | [], b => by simp [dpc]
  | true :: a, b => by rw [List.cons_append, dpc, dpc, dpc_app a b]; simp
  | false :: a, b => by rw [List.cons_append, dpc, dpc, dpc_app a b]; simp
theorem dpo_len : ∀ a : List Bool, (dpo a).length ≤ 5 * a.length
  | [] => by simp [dpo]
  | true :: a => by have := dpo_len a; rw [dpo, List.length_cons, List.length_cons]; omega
  | false :: a => by have := dpo_len a; rw [dpo]; simp only [List.length_cons]; omega
theorem dpc_len : ∀ a : List Bool, (dpc a).length ≤ 2 * a.length
  | [] => by simp [dpc]
  | true :: a => by have := dpc_len a; rw [dpc, List.length_append, List.length_cons]; simp; omega
  | false :: a => by have := dpc_len a; rw [dpc, List.length_append, List.length_cons]; simp; omega
/-- where the bracket stands that is too deep -/
def atV (m i : Nat) (l : List Bool) : Int := if m < i then ((dpo (l.take m)).length : Int) else -1

set_option maxHeartbeats 4000000 in
set_option maxRecDepth 100000 in
theorem deep_any (v : Value) (l : List Bool) (n : Nat) (w : World) (h : SlB w v l) (hn : n ≤ 255) : Calls Try.prog 12 #[v, .int .u8 (n : Int)] w fun e w' => e = .returned (.bool true) ∧ Below w.heap.size w w' := by
  obtain ⟨ao, cap, rfl, hcell⟩ := h
  by_cases hl : 60 < l.length
  · have t1 : decide ((60 : Int) < (l.length : Int)) = true := decide_eq_true (by omega)
    go_enter Try.func12, Try.ntmps12
    go_wp2_with (go_at_call 36; refine (awake12_any _).mono ?_; rintro e w1 ⟨rfl, hb1⟩)
    go_ret
    exact ⟨rfl, hb1⟩
  have t1 : decide ((60 : Int) < (l.length : Int)) = false := decide_eq_false (by omega)
  have hrem : ∀ t, binOp .rem t (.int .i64 (n : Int)) (.int .i64 40) = pure (.int .i64 ((n % 40 : Nat) : Int)) := rem_any .i64 n 40 (by decide)
  generalize hd : n % 40 = d at hrem
  have hd40 : d < 40 := by omega
  obtain ⟨m, hm⟩ : ∃ m : Nat, min (d : Int) 28 = (m : Int) := ⟨min d 28, by omega⟩
  have hmd : dep (d : Int) = m := by unfold dep; omega
  have HMD := hid hmd
  clear hd hmd
  go_enter Try.func12, Try.ntmps12
  go_wp2_with (go_at_call 36; refine (awake12_any _).mono ?_; rintro e w1 ⟨rfl, hb1⟩)
  have hm28 : m ≤ 28 := by omega
  clear hm
  have HC := hid (show l = [] ∨ ∃ g off, ao = some ⟨g, off, none⟩ ∧ ∀ j (h : j < l.length), w1.cell? ⟨g, off + j, none⟩ = some (.bool l[j]) from by
    rcases hcell with q | ⟨g, off, q1, q2⟩
    · exact .inl q
    · exact .inr ⟨g, off, q1, fun j hj => cell_up' hb1 (q2 j hj)⟩)
  clear hcell
  go_loopw [7, 8, 9, 10] (fun s7 s8 s9 s10 wr => ∃ i : Nat, ∃ P E : List UInt8, s10 = .int .i64 i ∧ i ≤ l.length ∧ s7 = .string (st P) ∧ s8 = .string (st E) ∧ P = dpo (l.take i) ∧ E = dpc (l.take i) ∧ s9 = .int .i64 (atV m i l) ∧ wr = w1) (fun _ _ _ s10 _ => l.length - (intOf s10).toNat)
  case atStart => exact ⟨0, [], [], rfl, Nat.zero_le _, rfl, rfl, rfl, rfl, rfl, rfl⟩
  case round =>
    obtain ⟨i, P, E, rfl, hi, rfl, rfl, hP, hE, rfl, rfl⟩ := hrel
    have HP := hid hP.symm
    have HE := hid hE.symm
    have hPl : P.length ≤ 300 := by rw [hP]; have := dpo_len (l.take i); rw [List.length_take] at this; omega
    have hEl : E.length ≤ 120 := by rw [hE]; have := dpc_len (l.take i); rw [List.length_take] at this; omega
    have hz := st_size P
    clear hP hE
    by_cases hlt : i < l.length
    · have hiz : (i : Int) < (l.length : Int) := by omega
      obtain ⟨g, off, rfl, hc⟩ : ∃ g off, ao = some ⟨g, off, none⟩ ∧ ∀ j (h : j < l.length), wr.cell? ⟨g, off + j, none⟩ = some (.bool l[j]) := by
        rcases HC.out with q | q
        · subst q; simp at hlt
        · exact q
      have c0 := hc i hlt
      clear hc
      by_cases him : i = m
      · have hib : ((i : Int) == (m : Int)) = true := by simp [him]
        have HIM := hid him
        clear him
        have ha : atV m (i + 1) l = (P.length : Int) := by
          unfold atV
          have him := HIM.out
          subst him
          rw [if_pos (by omega), HP.out]
        have HA := hid ha
        clear ha
        cases hb : l[i] with
        | true =>
          rw [hb] at c0
          have hE := hid (show dpo (l.take (i + 1)) = P ++ [91] ∧ dpc (l.take (i + 1)) = [93] ++ E by
            rw [List.take_succ_eq_append_getElem hlt, hb, dpo_app, dpc_app, HP.out, HE.out]; exact ⟨rfl, rfl⟩)
          have hs : ∀ w : World, (Op.stringOp .add (st P) ⟨#[91]⟩).run Try.prog w = .ok (.string (st (P ++ [91]))) w := fun w => st_add P [91] (by simp; omega) w
          have he : ∀ w : World, (Op.stringOp .add ⟨#[93]⟩ (st E)).run Try.prog w = .ok (.string (st ([93] ++ E))) w := fun w => st_add [93] E (by simp; omega) w
          clear hb
          go_wp2
          go_roundw
          case rel => exact ⟨i + 1, _, _, by go_num, by omega, rfl, rfl, hE.out.1.symm, hE.out.2.symm, by rw [HA.out], trivial⟩
          case measure => simp [intOf]; omega
        | false =>
          rw [hb] at c0
          have hE := hid (show dpo (l.take (i + 1)) = P ++ [60, 60, 47, 75, 32] ∧ dpc (l.take (i + 1)) = [62, 62] ++ E by
            rw [List.take_succ_eq_append_getElem hlt, hb, dpo_app, dpc_app, HP.out, HE.out]; exact ⟨rfl, rfl⟩)
          have hs : ∀ w : World, (Op.stringOp .add (st P) ⟨#[60, 60, 47, 75, 32]⟩).run Try.prog w = .ok (.string (st (P ++ [60, 60, 47, 75, 32]))) w := fun w => st_add P [60, 60, 47, 75, 32] (by simp; omega) w
          have he : ∀ w : World, (Op.stringOp .add ⟨#[62, 62]⟩ (st E)).run Try.prog w = .ok (.string (st ([62, 62] ++ E))) w := fun w => st_add [62, 62] E (by simp; omega) w
          clear hb
          go_wp2
          go_roundw
          case rel => exact ⟨i + 1, _, _, by go_num, by omega, rfl, rfl, hE.out.1.symm, hE.out.2.symm, by rw [HA.out], trivial⟩
          case measure => simp [intOf]; omega
      · have hib : ((i : Int) == (m : Int)) = false := by simp; omega
        have ha : atV m (i + 1) l = atV m i l := by
          unfold atV
          by_cases q : m < i
          · rw [if_pos q, if_pos (by omega)]
          · rw [if_neg q, if_neg (by omega)]
        have HA := hid ha
        clear ha
        cases hb : l[i] with
        | true =>
          rw [hb] at c0
          have hE := hid (show dpo (l.take (i + 1)) = P ++ [91] ∧ dpc (l.take (i + 1)) = [93] ++ E by
            rw [List.take_succ_eq_append_getElem hlt, hb, dpo_app, dpc_app, HP.out, HE.out]; exact ⟨rfl, rfl⟩)
          have hs : ∀ w : World, (Op.stringOp .add (st P) ⟨#[91]⟩).run Try.prog w = .ok (.string (st (P ++ [91]))) w := fun w => st_add P [91] (by simp; omega) w
          have he : ∀ w : World, (Op.stringOp .add ⟨#[93]⟩ (st E)).run Try.prog w = .ok (.string (st ([93] ++ E))) w := fun w => st_add [93] E (by simp; omega) w
          clear hb
          go_wp2
          go_roundw
          case rel => exact ⟨i + 1, _, _, by go_num, by omega, rfl, rfl, hE.out.1.symm, hE.out.2.symm, by rw [HA.out], trivial⟩
          case measure => simp [intOf]; omega
        | false =>
          rw [hb] at c0
          have hE := hid (show dpo (l.take (i + 1)) = P ++ [60, 60, 47, 75, 32] ∧ dpc (l.take (i + 1)) = [62, 62] ++ E by
            rw [List.take_succ_eq_append_getElem hlt, hb, dpo_app, dpc_app, HP.out, HE.out]; exact ⟨rfl, rfl⟩)
          have hs : ∀ w : World, (Op.stringOp .add (st P) ⟨#[60, 60, 47, 75, 32]⟩).run Try.prog w = .ok (.string (st (P ++ [60, 60, 47, 75, 32]))) w := fun w => st_add P [60, 60, 47, 75, 32] (by simp; omega) w
          have he : ∀ w : World, (Op.stringOp .add ⟨#[62, 62]⟩ (st E)).run Try.prog w = .ok (.string (st ([62, 62] ++ E))) w := fun w => st_add [62, 62] E (by simp; omega) w
          clear hb
          go_wp2
          go_roundw
          case rel => exact ⟨i + 1, _, _, by go_num, by omega, rfl, rfl, hE.out.1.symm, hE.out.2.symm, by rw [HA.out], trivial⟩
          case measure => simp [intOf]; omega
    · obtain rfl : i = l.length := by omega
      have hiz : ¬ (l.length : Int) < (l.length : Int) := by omega
      rw [List.take_length] at HP HE
      have h7 : ∀ w : World, (Op.stringOp .add (st P) ⟨#[55]⟩).run Try.prog w = .ok (.string (st (P ++ [55]))) w := fun w => st_add P [55] (by simp; omega) w
      have h8 : ∀ w : World, (Op.stringOp .add (st (P ++ [55])) (st E)).run Try.prog w = .ok (.string (st (P ++ [55] ++ E))) w := fun w => st_add (P ++ [55]) E (by simp; omega) w
      have hZ : P ++ [55] ++ E = dpo l ++ 55 :: (dpc l ++ []) := by rw [HP.out, HE.out]; simp
      have hZl : (P ++ [55] ++ E).length = P.length + 1 + E.length := by simp; omega
      generalize P ++ [55] ++ E = Z at h8 hZ hZl
      generalize P ++ [55] = P7 at h7 h8
      have hZz := st_size Z
      have kb := fun (w : World) (s : List UInt8) => convW_run (P := Try.prog) 9 25 5 (by kernel_rfl) Try.underlying25 Try.underlying5 w s
      have hZ4 : Z.length ≤ 421 := by omega
      have HZ := hid hZl
      clear hZl HC
      by_cases hml : m < l.length
      · have HPV := hid (show PV false (.v m) Z (.bad 6 (dpo (l.drop m) ++ (55 :: (dpc l ++ [])))) by rw [hZ]; exact deep_bad l m _ hml)
        obtain ⟨K, hK⟩ : ∃ K, K = (dpo (l.take m)).length := ⟨_, rfl⟩
        have ha : atV m l.length l = (K : Int) := by unfold atV; rw [if_pos hml, hK]
        have HTL := hid (show (dpo (l.drop m) ++ (55 :: (dpc l ++ []))).length + K = Z.length by
          have h1 : dpo l = dpo (l.take m) ++ dpo (l.drop m) := by rw [← dpo_app, List.take_append_drop]
          rw [hZ, hK, h1]; simp; omega)
        have HTK := hid HTL.out
        rw [ha]
        clear ha hK hZ hml
        go_wp2_with (first | (go_at_call 46; refine (at_p hPf).mono ?_; rw [hj]; rintro e w6 ⟨rfl, rfl⟩) | (go_at_call 44; refine (value_top hPa hdc (value_all (by omega) _ (by omega))).mono ?_; rintro e w5 ⟨res, hpv, hvq⟩; obtain rfl := PV.one hpv HPV.out; obtain ⟨rfl, j, hPs⟩ := hvq; have hB5 := hB2.trans (hPs.bel hB2.size hwp.1 hwp.2); have hPf := (hPs.below (alb w5 (.cells #[.int .i64 0, .int .i64 0, .slice none 0 0, .slice none 0 0, .slice none 0 0] 61))).fresh; have hj : j = K := (by have q1 := hPs.at_; have q2 := HTL.out; omega)) | (go_at_call 42; refine (parse_new _ Z _ _ (Sl.convW _ _ Z _ (by simp) (by omega)) (by omega)).mono ?_; rintro e w2 ⟨pp, lp, cp, rfl, hpp, hlp, hcp, hPa, hdc, hb2⟩; rw [← dep_cast, HMD.out] at hdc; have hX := convW_below wr 5 Z; have hB2 := below_then hX hb2; have hwp : wr.heap.size ≤ lp ∧ wr.heap.size ≤ cp := ⟨Nat.le_trans hX.size hlp, Nat.le_trans hX.size hcp⟩))
        go_ret
        exact ⟨rfl, hb1.trans ((hB5.mono hb1.size).trans ((alb w5 _).mono (Nat.le_trans hb1.size hB5.size)))⟩
      · have HPV := hid (show PV false (.v m) Z (.ok (dob l) []) by rw [hZ]; exact deep_ok l m [] (by omega) (.inl rfl))
        have ha : atV m l.length l = -1 := by unfold atV; rw [if_neg hml]
        rw [ha]
        clear ha hZ hml
        go_wp2_with (first | (go_at_call 46; refine (at_p hPf).mono ?_; rw [hj]; rintro e w6 ⟨rfl, rfl⟩) | (go_at_call 48; refine (depth_dob l _ _ _ (by omega) (hov2.out.up (alb _ _))).mono ?_; rintro e w7 ⟨rfl, hb7⟩; have hPf := (hPf.below hb7).fresh) | (go_at_call 44; refine (value_top hPa hdc (value_all (by omega) _ (by omega))).mono ?_; rintro e w5 ⟨res, hpv, hvq⟩; obtain rfl := PV.one hpv HPV.out; obtain ⟨vs, rfl, hov, j, hPs⟩ := hvq; have hB5 := hB2.trans (hPs.bel hB2.size hwp.1 hwp.2); have hV5 := hov.v5; have hov2 := hid hov; clear hov; obtain ⟨y1, y2, y3, y4, y5, y6, y7, y8, y9, y10, y11, rfl⟩ := hV5; have hPf := (hPs.below (alb w5 (.cells #[.int .i64 y1, .int .i64 y2, .slice y3 y6 y7, .slice y4 y8 y9, .slice y5 y10 y11] 61))).fresh; have hj : j = Z.length := (by have := hPs.at_; simpa using this)) | (go_at_call 42; refine (parse_new _ Z _ _ (Sl.convW _ _ Z _ (by simp) (by omega)) (by omega)).mono ?_; rintro e w2 ⟨pp, lp, cp, rfl, hpp, hlp, hcp, hPa, hdc, hb2⟩; rw [← dep_cast, HMD.out] at hdc; have hX := convW_below wr 5 Z; have hB2 := below_then hX hb2; have hwp : wr.heap.size ≤ lp ∧ wr.heap.size ≤ cp := ⟨Nat.le_trans hX.size hlp, Nat.le_trans hX.size hcp⟩))
        go_ret
        exact ⟨rfl, hb1.trans ((hB5.mono hb1.size).trans ((below_then (alb w5 _) hb7).mono (Nat.le_trans hb1.size hB5.size)))⟩
end Go.Proofs.Ytlmgklebikcbjaa

/-
  ParseDeep's walk in the words of the row's reading: a slice of Booleans that came in.
-/
namespace Go.Proofs.Ytlmgklebikcbjaa
open Go.ChangeShapes Go.WideShapes Go.ChangeAt Go.RowKit
set_option linter.unusedVariables false

variable {H : Type} {enc : TypeId × Value → H}

set_option maxRecDepth 100000 in
/-- a slice of Booleans that came in -/
theorem slb_open {W : World} {v : Value} {d : DataW H} {p : List MemPlace} {base : Nat} (hk : Value.okWide Try.prog W .any base 82 v) (h : DataW.Trod enc Try.prog W 0 (fun _ => true) true 82 v d p) : ∃ l, SlB W v l := by
  obtain ⟨a0, len, cap, rfl⟩ := okWide_slice Try.underlying82 hk
  obtain ⟨fuel, hf⟩ := h
  rcases Go.Deep.open_bools Try.underlying82 Try.underlying4 (by kernel_rfl) hf with ⟨hcs, _⟩ | ⟨a, len', cap', B, hcs, _, hl, hm, _, hcell⟩
  · simp [Value.cells] at hcs
    obtain ⟨rfl, rfl, rfl⟩ := hcs
    exact ⟨[], none, 0, rfl, .inl rfl⟩
  · simp [Value.cells] at hcs
    obtain ⟨rfl, rfl, rfl⟩ := hcs
    refine ⟨(List.range len).map B, some a, cap, by simp, ?_⟩
    by_cases h0 : len = 0
    · left; subst h0; rfl
    · right
      obtain ⟨b, off, spot⟩ := a
      have hspot : spot = none := by
        have := hcell 0 (by omega)
        simpa [Addr.add] using World.cell?_spot this
      subst hspot
      refine ⟨b, off, rfl, fun j hj => ?_⟩
      have hj' : j < len := by simpa using hj
      have h1 := hcell j (by omega)
      have e1 : (⟨b, off, none⟩ : Addr).add j = ⟨b, off + j, none⟩ := by cases j <;> simp [Addr.add]
      rw [e1] at h1
      rw [h1]; simp

theorem deepw_any (v : Value) (l : List Bool) (n : Int) (w : World) (h : SlB w v l) (hn : (Lit.int .u8 n).wf = true) : Calls Try.prog 12 #[v, .int .u8 n] w fun e w' => e = .returned (.bool true) ∧ Below w.heap.size w w' := by
  have hb := u8_wf hn
  obtain ⟨k, rfl⟩ : ∃ k : Nat, n = (k : Int) := ⟨n.toNat, by omega⟩
  exact deep_any v l k w h (by omega)
end Go.Proofs.Ytlmgklebikcbjaa

/-
  ParseDeep: so many brackets in one another as may be, are read; one more is too deep. No condition.
-/
namespace Go.Proofs.Ytlmgklebikcbjaa
open Go.ChangeShapes Go.WideShapes Go.ChangeAt Go.RowKit
open Go.ChangeMaps (open_string shut_string)
set_option linter.unusedVariables false

set_option maxRecDepth 100000 in
theorem deepw_lifted (os : Os) (started : os.Started) (H : Type) (enc : TypeId × Value → H) :
    ReturnsInHanded {} Try.checked os 12 .any (Rows.parseDeepSpec.pre6 enc Try.prog Try.f12 Rows.parseDeepRow.domain false) (Rows.parseDeepSpec.post enc Try.prog Try.f12 false true false false) := by
  refine returnsInHanded_of_change (C := Try.checked) own9 started (by kernel_rfl) Try.func12
    (ChangeSpec.witness6 (enc := enc) (C := Try.checked) false ⟨#[], #[.slice none 0 0, .int .u8 0], []⟩ 8 (by kernel_rfl) (by kernel_rfl) (by kernel_rfl) (by kernel_rfl)) ?_
  intro W base args ds gs before hval0 hW hcnd _
  have hval : ∀ (j : Nat) t v, Try.f12.params[j]? = some t → args[j]? = some v → Value.okWide Try.prog W .any base t v := hval0
  have hW' := hW
  obtain ⟨p, q, hA0, hV, rfl, hfz, hnd⟩ := hW
  have hA : DataW.TrodAll enc Try.prog W 0 (fun _ => true) true Try.f12.params.toList args.toList ds p := hA0
  rw [Try.params12] at hA hval
  obtain ⟨v0, v1, d0, d1, p0, p1, rfl, rfl, rfl, h0, h1⟩ := trodAll_two hA
  obtain ⟨rfl, rfl⟩ := trodVars_none hV
  obtain ⟨l0, hl0⟩ := slb_open (hval 0 82 v0 rfl rfl) h0
  obtain ⟨n1, rfl, rfl, rfl, hn1⟩ := open_int Try.underlying5 (hval 1 5 v1 rfl rfl) h1
  clear hA0 hval0
  refine (deepw_any v0 l0 n1 W hl0 hn1).mono fun e W' ⟨he, bel⟩ => ?_
  subst he
  exact ⟨_, rfl, _, _, _, [], _, [], hW', trodAll_mk1 (shut_bool Try.underlying4 _), trodAll_mk2 (Below.trod laidOut9 (by kernel_rfl) (of_decide_eq_true (by kernel_rfl)) h0 bel (trod_lt h0)) (shut_int Try.underlying5 hn1), rfl, bel.frame _, fun h => by cases h⟩

set_option maxRecDepth 100000 in
theorem deepw_holds : Rows.ParseDeepSaid :=
  OpenClaim.holds_of_wide 12 Try.f12 rfl rfl rfl rfl rfl rfl rfl ⟨rfl, rfl, rfl, rfl, rfl⟩ rfl rfl rfl rfl rfl (by kernel_rfl) Try.func12 (by kernel_rfl)
    (of_decide_eq_true (by kernel_rfl)) (by unfold Func.isWrapper; first | (rw [if_pos (by decide +kernel)]; kernel_rfl) | (rw [if_neg (by decide +kernel)]; exact ⟨rfl, rfl⟩))
    (fun os started H enc _ => deepw_lifted os started H enc)
#print axioms deepw_holds
end Go.Proofs.Ytlmgklebikcbjaa
