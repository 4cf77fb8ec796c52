/-
  ParseRefs: whole numbers in a row, and the words between: references are just those of three, the others stay numbers. No condition.
-/
import Derived.Test.YtlmgklebikcbjaaMem
import Derived.Test.YtlmgklebikcbjaaRows
import Derived.ProofKit
import Derived.OpenShut
import Derived.ShutString
import Derived.Lib.SmallJoins
import Derived.Test.YtlmgklebikcbjaaGd
import Derived.Test.YtlmgklebikcbjaaGa
import Derived.Test.YtlmgklebikcbjaaLawNm
import Derived.Test.YtlmgklebikcbjaaRx
import Derived.Test.YtlmgklebikcbjaaHex
import Derived.Test.YtlmgklebikcbjaaGf
import Derived.Test.YtlmgklebikcbjaaGc
import Derived.Test.YtlmgklebikcbjaaLawT
import Derived.Test.YtlmgklebikcbjaaGe
import Derived.Deep.CutRange
import Derived.WalkKit
/-
  From the row's reading of an argument to the words of the walks: a slice of bytes that came in.
-/
namespace Go.Proofs.Ytlmgklebikcbjaa
open Go.ChangeShapes Go.WideShapes Go.ChangeAt Go.RowKit
set_option linter.unusedVariables false

set_option maxRecDepth 100000 in
theorem own9 : ownKnob Try.prog.godebug = none := by kernel_rfl
set_option maxRecDepth 100000 in
theorem laidOut9 : laidOutB Try.prog = true := by kernel_rfl

theorem u8_wf {n : Int} (h : (Lit.int .u8 n).wf = true) : 0 ≤ n ∧ n ≤ 255 := by
  have := bounds_u8 h; omega

theorem sl_of_ints {W : World} {a : Addr} {len cap : Nat} {zs : List Int} (hl : len ≤ cap) (hm : cap ≤ maxLen) (hz : len ≤ zs.length) (hcell : ∀ i, i < zs.length → W.cell? (a.add i) = some (.int .u8 (zs.getD i 0))) (hw : ∀ n ∈ zs, (Lit.int .u8 n).wf = true) :
    ∃ l : List UInt8, l.length = len ∧ Sl W (.slice (some a) len cap) l := by
  refine ⟨(zs.take len).map (fun n => UInt8.ofNat n.toNat), by simp; omega, some a, cap, by simp; omega, by simp; omega, hm, (fun h => by cases h), ?_⟩
  by_cases h0 : len = 0
  · left; subst h0; simp
  · right
    obtain ⟨b, off, spot⟩ := a
    have hspot : spot = none := by
      have := hcell 0 (by omega)
      simpa [Addr.add] using World.cell?_spot this
    subst hspot
    refine ⟨b, off, rfl, fun j hj => ?_⟩
    have hj' : j < len := by simp at hj; omega
    have h1 := hcell j (by omega)
    have e1 : (⟨b, off, none⟩ : Addr).add j = ⟨b, off + j, none⟩ := by cases j <;> simp [Addr.add]
    rw [e1] at h1
    rw [h1]
    have hmem : zs[j]'(by omega) ∈ zs := List.getElem_mem _
    have hb := u8_wf (hw _ hmem)
    have e2 : zs.getD j 0 = zs[j]'(by omega) := by simp [List.getD, List.getElem?_eq_getElem (show j < zs.length by omega)]
    rw [e2]
    congr 2
    have hj2 : j < (List.map (fun n : Int => UInt8.ofNat n.toNat) (List.take len zs)).length := hj
    simp only [b8, List.getD, List.getElem?_eq_getElem hj2, Option.getD_some, List.getElem_map, List.getElem_take]
    rw [UInt8.toNat_ofNat', Nat.mod_eq_of_lt (by omega)]
    omega

variable {H : Type} {enc : TypeId × Value → H}

set_option maxRecDepth 100000 in
/-- a slice of bytes that came in -/
theorem sl_open {W : World} {v : Value} {d : DataW H} {p : List MemPlace} {base : Nat} (hk : Value.okWide Try.prog W .any base 25 v) (h : DataW.Trod enc Try.prog W 0 (fun _ => true) true 25 v d p) : ∃ l, Sl W v l := by
  obtain ⟨a0, len, cap, rfl⟩ := okWide_slice Try.underlying25 hk
  obtain ⟨fuel, hf⟩ := h
  rcases open_ints Try.underlying25 Try.underlying5 (by kernel_rfl) hf with ⟨hcs, _⟩ | ⟨x, l, c, zs, hcs, _, hl, hm, hz, _, hcell, hwz⟩
  · simp [Value.cells] at hcs
    obtain ⟨rfl, rfl, rfl⟩ := hcs
    exact ⟨[], Sl.nil W⟩
  · simp [Value.cells] at hcs
    obtain ⟨rfl, rfl, rfl⟩ := hcs
    simp only [if_true] at hz
    obtain ⟨l, _, h2⟩ := sl_of_ints hl hm (by omega) hcell hwz
    exact ⟨l, h2⟩

theorem trod_lt {W : World} {t : TypeId} {v : Value} {d : DataW H} {p : List MemPlace} {P : Program} (h : DataW.Trod enc P W 0 (fun _ => true) true t v d p) : ∀ x ∈ p, x.block < W.heap.size := by
  obtain ⟨m, hm⟩ := h; exact DataW.trod_lt m _ _ _ hm
end Go.Proofs.Ytlmgklebikcbjaa

/-
  Plain: brackets in one another, as ParseDeep writes them, are read; one more is too deep. No program here.
-/
namespace Go.Proofs.Ytlmgklebikcbjaa
set_option linter.unusedVariables false

def dpo : List Bool → List UInt8
  | [] => []
  | true :: k => 91 :: dpo k
  | false :: k => 60 :: 60 :: 47 :: 75 :: 32 :: dpo k
def dpc : List Bool → List UInt8
  | [] => []
  | true :: k => dpc k ++ [93]
  | false :: k => dpc k ++ [62, 62]
def dob : List Bool → PO
  | [] => poInt 7
  | true :: k => poArr [dob k]
  | false :: k => poDict [([75], dob k)]
theorem dob_kind : ∀ k, ¬ (dob k).kind = 0
  | [] => by decide
  | true :: k => by show ¬ (6 : Int) = 0; decide
  | false :: k => by show ¬ (7 : Int) = 0; decide
theorem dob_dict (k : List Bool) : dictOf [([75], dob k)] = dob (false :: k) := by
  show poDict (wi ([75], dob k) []) = _
  rw [wi, if_neg (dob_kind k)]; rfl

theorem bl0 {x : UInt8} (s : List UInt8) (h : wh (c8 x) = false) (h2 : ¬ c8 x = 37) : bl (x :: s) false = 0 := by rw [bl_cons, if_neg (by rw [h]; decide), if_neg h2]
theorem TK_91 (r : List UInt8) : TK (91 :: r) = .tok 5 0 [] r := by
  unfold TK; rw [bl0 r (by decide) (by decide)]; rfl
theorem TK_93 (r : List UInt8) : TK (93 :: r) = .tok 6 0 [] r := by
  unfold TK; rw [bl0 r (by decide) (by decide)]; rfl
theorem TK_60 (r : List UInt8) : TK (60 :: 60 :: r) = .tok 7 0 [] r := by
  unfold TK; rw [bl0 _ (by decide) (by decide)]; rfl
theorem TK_62 (r : List UInt8) : TK (62 :: 62 :: r) = .tok 8 0 [] r := by
  unfold TK; rw [bl0 _ (by decide) (by decide)]; rfl
theorem TK_sp (s : List UInt8) : TK (32 :: s) = TK s ∧ (32 :: s).drop (bl (32 :: s) false) = s.drop (bl s false) := by
  have e : bl (32 :: s) false = 1 + bl s false := by rw [bl_cons, if_pos (by decide)]
  have e2 : (32 :: s).drop (bl (32 :: s) false) = s.drop (bl s false) := by rw [e, Nat.add_comm]; rfl
  exact ⟨by unfold TK; rw [e2], e2⟩
theorem TK_K (s : List UInt8) : TK (47 :: 75 :: 32 :: s) = .tok 4 0 [75] (32 :: s) := by
  unfold TK; rw [bl0 _ (by decide) (by decide)]
  show wrp 4 (nm (75 :: 32 :: s) []) = _
  rw [nm_cons, if_pos (by decide), if_neg (by decide), if_neg (by simp), nm_cons, if_neg (by decide)]
  rfl
theorem PV.sp {q : Bool} {d : Nat} {s : List UInt8} {res : PRes} (h : PV q (.v d) s res) : PV q (.v d) (32 :: s) res := by
  obtain ⟨f, h⟩ := h
  obtain ⟨e1, e2⟩ := TK_sp s
  cases f with
  | zero => simp [pF] at h
  | succ f =>
    refine ⟨f + 1, ?_⟩
    rw [pF] at h ⊢
    rw [e1, e2]; exact h

/-- what closes -/
def Cl (r : List UInt8) : Prop := r = [] ∨ (∃ t, r = 93 :: t) ∨ ∃ t, r = 62 :: 62 :: t
theorem Cl.rg {r : List UInt8} (h : Cl r) : rg (hd r) = false := by
  rcases h with rfl | ⟨t, rfl⟩ | ⟨t, rfl⟩
  · decide
  · show Go.Proofs.Ytlmgklebikcbjaa.rg (c8 93) = false; decide
  · show Go.Proofs.Ytlmgklebikcbjaa.rg (c8 62) = false; decide
theorem Cl.tk {r : List UInt8} (h : Cl r) : ∃ k out t, TK r = .tok k 0 out t ∧ ¬ k = 1 := by
  rcases h with rfl | ⟨t, rfl⟩ | ⟨t, rfl⟩
  · exact ⟨0, [], [], rfl, by decide⟩
  · exact ⟨6, [], t, TK_93 t, by decide⟩
  · exact ⟨8, [], t, TK_62 t, by decide⟩
theorem Cl.app (k : List Bool) {r : List UInt8} (h : Cl r) : Cl (dpc k ++ r) := by
  induction k generalizing r with
  | nil => exact h
  | cons x k ih =>
    cases x with
    | true => rw [dpc, List.append_assoc]; exact ih (.inr (.inl ⟨r, rfl⟩))
    | false => rw [dpc, List.append_assoc]; exact ih (.inr (.inr ⟨r, rfl⟩))
theorem TK_7 {r : List UInt8} (h : Cl r) : TK (55 :: r) = .tok 1 7 [] r := by
  have hn : rn (55 :: r) = 1 := by
    have h1 := h.rg
    have h2 : rn (55 :: r) = 1 + rn r := rn_step (s := 55 :: r) (by show rg (c8 55) = true; decide)
    rw [h2, rn_stop h1]
  unfold TK; rw [bl0 _ (by decide) (by decide)]
  show numT (55 :: r) = _
  unfold numT
  rw [hn]
  rfl

theorem deep_first (k : List Bool) {r : List UInt8} (h : Cl r) : ∃ kk n out t, TK (dpo k ++ 55 :: r) = .tok kk n out t ∧ ¬ kk = 6 := by
  match k with
  | [] => exact ⟨_, _, _, _, TK_7 h, by decide⟩
  | true :: k => exact ⟨_, _, _, _, TK_91 _, by decide⟩
  | false :: k => exact ⟨_, _, _, _, TK_60 _, by decide⟩
theorem deep_ok : ∀ (k : List Bool) (d : Nat) (r : List UInt8), k.length ≤ d → Cl r → PV false (.v d) (dpo k ++ 55 :: (dpc k ++ r)) (.ok (dob k) r)
  | [], d, r, _, h => by
    refine ⟨1, ?_⟩
    show pF false 1 (.v d) (55 :: r) = _
    rw [pF, TK_7 h]
    obtain ⟨k, out, t, h1, h2⟩ := h.tk
    show some (whole false 7 r) = _
    unfold whole
    rw [if_pos ⟨by decide, by decide, rfl⟩, h1]
    split
    · rename_i heq; injection heq with e1; exact absurd e1 h2
    · rfl
  | true :: k, d + 1, r, hd, h => by
    have ih := deep_ok k d (93 :: r) (by simpa using hd) (.inr (.inl ⟨r, rfl⟩))
    obtain ⟨kk, n, out, t, h1, h2⟩ := deep_first k (Cl.app k (r := 93 :: r) (.inr (.inl ⟨r, rfl⟩)))
    have e : dpo (true :: k) ++ 55 :: (dpc (true :: k) ++ r) = 91 :: (dpo k ++ 55 :: (dpc k ++ 93 :: r)) := by rw [dpo, dpc]; simp
    rw [e]
    exact PV.v_open (TK_91 _) (PV.a_step h1 h2 ih (PV.a_close (TK_93 r)))
  | false :: k, d + 1, r, hd, h => by
    have ih := deep_ok k d (62 :: 62 :: r) (by simpa using hd) (.inr (.inr ⟨r, rfl⟩))
    have e : dpo (false :: k) ++ 55 :: (dpc (false :: k) ++ r) = 60 :: 60 :: 47 :: 75 :: 32 :: (dpo k ++ 55 :: (dpc k ++ 62 :: 62 :: r)) := by rw [dpo, dpc]; simp
    rw [e, ← dob_dict]
    exact PV.v_left (TK_60 _) (PV.m_step (TK_K _) (by simp) ih.sp (PV.m_close (TK_62 r)))
  | x :: k, 0, r, hd, h => by simp at hd
theorem deep_bad : ∀ (k : List Bool) (d : Nat) (T : List UInt8), d < k.length → PV false (.v d) (dpo k ++ T) (.bad 6 (dpo (k.drop d) ++ T))
  | [], d, T, h => by simp at h
  | true :: k, 0, T, h => ⟨1, by
    show pF false 1 (.v 0) (91 :: (dpo k ++ T)) = _
    rw [pF, TK_91, bl0 _ (by decide) (by decide)]; rfl⟩
  | false :: k, 0, T, h => ⟨1, by
    show pF false 1 (.v 0) (60 :: 60 :: 47 :: 75 :: 32 :: (dpo k ++ T)) = _
    rw [pF, TK_60, bl0 _ (by decide) (by decide)]; rfl⟩
  | true :: k, d + 1, T, h => by
    have ih := deep_bad k d T (by simpa using h)
    have hk : ∃ kk n out t, TK (dpo k ++ T) = .tok kk n out t ∧ ¬ kk = 6 := by
      match k, h with
      | [], h => simp at h
      | true :: k, _ => exact ⟨_, _, _, _, TK_91 _, by decide⟩
      | false :: k, _ => exact ⟨_, _, _, _, TK_60 _, by decide⟩
    obtain ⟨kk, n, out, t, h1, h2⟩ := hk
    exact PV.v_open (TK_91 _) (PV.a_stop h1 h2 ih)
  | false :: k, d + 1, T, h => by
    have ih := deep_bad k d T (by simpa using h)
    exact PV.v_left (TK_60 _) (PV.m_stop (TK_K _) (by simp) ih.sp)
end Go.Proofs.Ytlmgklebikcbjaa

/-
  Plain: whole numbers in a row and the words between, as ParseRefs writes them, are read as references and numbers. No program here.
-/
namespace Go.Proofs.Ytlmgklebikcbjaa
set_option linter.unusedVariables false

/-- bytes between two words -/
def GG (g : List UInt8) : Prop := (∀ s, (g ++ s).drop (bl (g ++ s) false) = s.drop (bl s false)) ∧ ∀ s, rg (hd (g ++ s)) = false
theorem gg_sp {x : UInt8} (h : wh (c8 x) = true) (s : List UInt8) : (x :: s).drop (bl (x :: s) false) = s.drop (bl s false) := by
  have e : bl (x :: s) false = 1 + bl s false := by rw [bl_cons, if_pos h]
  rw [e, Nat.add_comm]; rfl
theorem gg1 : GG [32] := ⟨fun s => gg_sp (by decide) s, fun s => by show rg (c8 32) = false; decide⟩
theorem gg2 : GG [10] := ⟨fun s => gg_sp (by decide) s, fun s => by show rg (c8 10) = false; decide⟩
theorem gg4 : GG [32, 32] := ⟨fun s => (gg_sp (x := 32) (by decide) (32 :: s)).trans (gg_sp (by decide) s), fun s => by show rg (c8 32) = false; decide⟩
theorem gg3 : GG [37, 120, 13] := ⟨fun s => by
  have e : bl (37 :: 120 :: 13 :: s) false = 1 + (1 + (1 + bl s false)) := by
    rw [bl_cons, if_neg (by decide), if_pos (by decide), bl_in _ _ (by decide) (by decide), bl_eol _ _ (.inr (by decide)), bl_cons, if_pos (by decide)]
  show (37 :: 120 :: 13 :: s).drop (bl (37 :: 120 :: 13 :: s) false) = _
  rw [e, show 1 + (1 + (1 + bl s false)) = bl s false + 3 by omega]; rfl, fun s => by show rg (c8 37) = false; decide⟩
theorem GG.tk {g : List UInt8} (h : GG g) (s : List UInt8) : TK (g ++ s) = TK s := by unfold TK; rw [h.1]
theorem GG.v {g : List UInt8} (h : GG g) (q : Bool) (d : Nat) (s : List UInt8) : ∀ f, pF q f (.v d) (g ++ s) = pF q f (.v d) s
  | 0 => rfl
  | f + 1 => by rw [pF, pF, h.tk, h.1]
theorem GG.a {g : List UInt8} (h : GG g) (q : Bool) (d : Nat) (acc : List PO) (s : List UInt8) : ∀ f, pF q f (.a d acc) (g ++ s) = pF q f (.a d acc) s
  | 0 => rfl
  | f + 1 => by rw [pF, pF, h.tk, h.1, h.v]
theorem GG.pa {g : List UInt8} (h : GG g) {q : Bool} {d : Nat} {acc : List PO} {s : List UInt8} {r : PRes} (k : PV q (.a d acc) s r) : PV q (.a d acc) (g ++ s) r := by
  obtain ⟨f, k⟩ := k
  exact ⟨f, by rw [h.a]; exact k⟩

def dgt (n : Nat) : UInt8 := UInt8.ofNat (48 + n)
theorem TK_dgt {n : Nat} (hn : n ≤ 8) {r : List UInt8} (h : rg (hd r) = false) : TK (dgt n :: r) = .tok 1 n [] r := by
  have hg : rg (c8 (dgt n)) = true := by
    obtain rfl | rfl | rfl | rfl | rfl | rfl | rfl | rfl | rfl : n = 0 ∨ n = 1 ∨ n = 2 ∨ n = 3 ∨ n = 4 ∨ n = 5 ∨ n = 6 ∨ n = 7 ∨ n = 8 := by omega
    all_goals decide
  have hn : rn (dgt n :: r) = 1 := by rw [rn, if_pos hg, rn_stop h]
  clear hg
  obtain rfl | rfl | rfl | rfl | rfl | rfl | rfl | rfl | rfl : n = 0 ∨ n = 1 ∨ n = 2 ∨ n = 3 ∨ n = 4 ∨ n = 5 ∨ n = 6 ∨ n = 7 ∨ n = 8 := by omega
  all_goals
    unfold TK; rw [bl0 _ (by decide) (by decide)]
    show numT (dgt _ :: r) = _
    unfold numT
    rw [hn]
    rfl
theorem TK_82 {r : List UInt8} (h : rg (hd r) = false) : TK (82 :: r) = .tok 9 0 [82] r := by
  unfold TK; rw [bl0 _ (by decide) (by decide)]
  show tk (82 :: r) = _
  have hn : rn (82 :: r) = 1 := by rw [rn, if_pos (by decide), rn_stop h]
  rw [tk, if_neg (by decide), if_neg (by decide), if_neg (fun q => absurd q.1 (by decide)), if_neg (fun q => absurd q.1 (by decide)), if_neg (by decide), if_neg (by decide), if_neg (by decide), if_neg (by decide), if_pos (by decide), hn]
  rfl

/-- a number, whether a reference is made of it, the bytes behind each word -/
abbrev IT := Nat × Bool × List UInt8
def OkI (t : IT) : Prop := t.1 ≤ 8 ∧ (t.2.1 = true → 1 ≤ t.1) ∧ GG t.2.2
def irest (t : IT) : List UInt8 := (if t.2.1 = true then t.2.2 ++ [48] ++ t.2.2 ++ [82] else []) ++ t.2.2
def itx (t : IT) : List UInt8 := dgt t.1 :: irest t
def ito (t : IT) : PO := if t.2.1 = true then poRef t.1 else poInt t.1
def itxs (L : List IT) : List UInt8 := L.flatMap itx ++ [93]
theorem itxs_cons (t : IT) (L : List IT) : itxs (t :: L) = dgt t.1 :: (irest t ++ itxs L) := by unfold itxs itx; simp
theorem irest_rg {t : IT} (h : OkI t) (s : List UInt8) : rg (hd (irest t ++ s)) = false := by
  unfold irest
  split
  · rw [List.append_assoc, List.append_assoc, List.append_assoc, List.append_assoc]; exact h.2.2.2 _
  · rw [List.nil_append]; exact h.2.2.2 _
theorem TK_item {t : IT} (h : OkI t) (L : List IT) : TK (itxs (t :: L)) = .tok 1 t.1 [] (irest t ++ itxs L) := by
  rw [itxs_cons]; exact TK_dgt h.1 (irest_rg h _)
/-- no word stands there -/
theorem TK_items {L : List IT} (h : ∀ t ∈ L, OkI t) : ∃ k n out r, TK (itxs L) = .tok k n out r ∧ ¬ k = 9 := by
  cases L with
  | nil => exact ⟨_, _, _, _, TK_93 [], by decide⟩
  | cons t L => exact ⟨_, _, _, _, TK_item (h t (by simp)) L, by decide⟩
theorem wholeD (n : Int) (r : List UInt8) (h : ∀ o r1, TK r = .tok 1 0 o r1 → ∀ o2 r2 m, TK r1 = .tok 9 m o2 r2 → False) : whole false n r = .ok (poInt n) r := by
  unfold whole
  split
  · split
    · rename_i o r1 e
      split
      · rename_i m o2 r2 e2
        exact absurd (h _ _ e _ _ _ e2) (fun q => q)
      · rfl
    · rfl
  · rfl
theorem wholeI {t : IT} (h : OkI t) (hr : t.2.1 = false) {L : List IT} (hL : ∀ t ∈ L, OkI t) : whole false t.1 (irest t ++ itxs L) = .ok (poInt t.1) (irest t ++ itxs L) := by
  have e : irest t = t.2.2 := by unfold irest; rw [if_neg (by rw [hr]; decide)]; rfl
  rw [e]
  refine wholeD _ _ fun o r1 h1 o2 r2 m h2 => ?_
  rw [h.2.2.tk] at h1
  cases L with
  | nil => rw [show itxs [] = [93] from rfl, TK_93] at h1; injection h1 with h1; revert h1; decide
  | cons u L =>
    have hu := hL u (by simp)
    rw [TK_item hu] at h1
    injection h1 with _ h3 _ h4
    have h0 : u.1 = 0 := by omega
    have hb : u.2.1 = false := by
      cases hq : u.2.1 with
      | false => rfl
      | true => have := hu.2.1 hq; omega
    have e2 : irest u = u.2.2 := by unfold irest; rw [if_neg (by rw [hb]; decide)]; rfl
    rw [← h4, e2, hu.2.2.tk] at h2
    obtain ⟨k, n, out, r, h5, h6⟩ := TK_items (L := L) (fun t ht => hL t (by simp [ht]))
    rw [h5] at h2
    injection h2 with h2
    exact h6 h2
theorem wholeR {t : IT} (h : OkI t) (hr : t.2.1 = true) (s : List UInt8) : whole false t.1 (irest t ++ s) = .ok (poRef t.1) (t.2.2 ++ s) := by
  have e : irest t ++ s = t.2.2 ++ (dgt 0 :: (t.2.2 ++ (82 :: (t.2.2 ++ s)))) := by unfold irest; rw [if_pos hr]; simp; rfl
  have h1 := h.2.1 hr
  have h2 := h.1
  unfold whole
  rw [if_pos ⟨by omega, by omega, rfl⟩, e, h.2.2.tk, TK_dgt (Nat.zero_le _) (h.2.2.2 _)]
  show (match TK (t.2.2 ++ (82 :: (t.2.2 ++ s))) with
      | .tok 9 _ out r2 => if out = [82] then PRes.ok (poRef t.1) r2 else .ok (poInt t.1) _
      | _ => .ok (poInt t.1) _) = _
  rw [h.2.2.tk, TK_82 (h.2.2.2 _)]
  rfl
theorem v_whole {d : Nat} {s r out : List UInt8} {n : Int} {res : PRes} (hT : TK s = .tok 1 n out r) (h : whole false n r = res) : PV false (.v d) s res := ⟨1, by rw [pF, hT]; simp [h]⟩
theorem refs_arr : ∀ (L : List IT) (acc : List PO), (∀ t ∈ L, OkI t) → PV false (.a 2 acc) (itxs L) (.ok (poArr (acc ++ L.map ito)) [])
  | [], acc, h => by
    rw [List.map_nil, List.append_nil]
    exact PV.a_close (TK_93 [])
  | t :: L, acc, h => by
    have ht := h t (by simp)
    have ih := refs_arr L (acc ++ [ito t]) (fun u hu => h u (by simp [hu]))
    have e : acc ++ [ito t] ++ L.map ito = acc ++ (t :: L).map ito := by simp
    rw [e] at ih
    have hT := TK_item ht L
    cases hr : t.2.1 with
    | true =>
      have hv := v_whole (d := 2) hT (wholeR ht hr (itxs L))
      have eo : ito t = poRef t.1 := by unfold ito; rw [if_pos hr]
      rw [← eo] at hv
      exact PV.a_step hT (by decide) hv (ht.2.2.pa ih)
    | false =>
      have hv := v_whole (d := 2) hT (wholeI ht hr (fun u hu => h u (by simp [hu])))
      have eo : ito t = poInt t.1 := by unfold ito; rw [if_neg (by rw [hr]; decide)]
      have e1 : irest t = t.2.2 := by unfold irest; rw [if_neg (by rw [hr]; decide)]; rfl
      rw [← eo, e1] at hv
      rw [e1] at hT
      exact PV.a_step hT (by decide) hv (ht.2.2.pa ih)
theorem refs_ok (L : List IT) (h : ∀ t ∈ L, OkI t) : PV false (.v 3) (91 :: itxs L) (.ok (poArr (L.map ito)) []) := PV.v_open (TK_91 _) (by have := refs_arr L [] h; rwa [List.nil_append] at this)
theorem dgt_pnum {n : Nat} (h : n ≤ 8) : pnum true (n : Int) = [dgt n] := by
  obtain rfl | rfl | rfl | rfl | rfl | rfl | rfl | rfl | rfl : n = 0 ∨ n = 1 ∨ n = 2 ∨ n = 3 ∨ n = 4 ∨ n = 5 ∨ n = 6 ∨ n = 7 ∨ n = 8 := by omega
  all_goals rfl
end Go.Proofs.Ytlmgklebikcbjaa

/-
  The document's Ref, Int, Arr of nothing; a slice of numbers of sixteen bits that came in. No condition.
-/
namespace Go.Proofs.Ytlmgklebikcbjaa
open Go.ChangeShapes Go.WideShapes Go.ChangeAt Go.RowKit
set_option linter.unusedVariables false

set_option maxRecDepth 100000 in
theorem rref_any (n : Int) (w : World) : Calls Try.prog 38 #[.int .i64 n] w fun e w' => e = .returned (ob 9 n (.slice none 0 0)) ∧ Below w.heap.size w w' := by
  go_enter Try.func38, Try.ntmps38
  go_wp2
  refine bodyPost_ret (v := ob 9 n (.slice none 0 0)) (by simp [results, Try.results38, go_sem]) rfl ⟨rfl, by first | exact alb _ _ | exact below_then (alb _ _) (alb _ _)⟩

set_option maxRecDepth 100000 in
theorem rint_any (n : Int) (w : World) : Calls Try.prog 39 #[.int .i64 n] w fun e w' => e = .returned (ob 2 n (.slice none 0 0)) ∧ Below w.heap.size w w' := by
  go_enter Try.func39, Try.ntmps39
  go_wp2
  refine bodyPost_ret (v := ob 2 n (.slice none 0 0)) (by simp [results, Try.results39, go_sem]) rfl ⟨rfl, by first | exact alb _ _ | exact below_then (alb _ _) (alb _ _)⟩

set_option maxRecDepth 100000 in
theorem rarr_nil (w : World) : Calls Try.prog 37 #[.slice none 0 0] w fun e w' => e = .returned (ob 6 0 (.slice none 0 0)) ∧ Below w.heap.size w w' := by
  go_enter Try.func37, Try.ntmps37
  go_wp2
  go_loopw [4] (fun s4 wr => s4 = .int .i64 0 ∧ wr = (w.alloc (.cells #[.int .i64 0, .int .i64 0, .slice none 0 0, .slice none 0 0, .slice none 0 0] 61)).alloc (.cells #[.int .i64 6, .int .i64 0, .slice none 0 0, .slice none 0 0, .slice none 0 0] 61)) (fun _ _ => 0)
  case atStart => exact ⟨rfl, rfl⟩
  case round =>
    obtain ⟨rfl, rfl⟩ := hrel
    go_wp2
    refine bodyPost_ret (v := ob 6 0 (.slice none 0 0)) (by simp [results, Try.results37, go_sem]) rfl ⟨rfl, by first | exact alb _ _ | exact below_then (alb _ _) (alb _ _)⟩

/-- a slice of numbers of sixteen bits -/
def S16 (w : World) (v : Value) (l : List Nat) : Prop := ∃ ao cap, v = .slice ao l.length cap ∧ (l = [] ∨ ∃ g off, ao = some ⟨g, off, none⟩ ∧ ∀ j (h : j < l.length), l[j] < 65536 ∧ w.cell? ⟨g, off + j, none⟩ = some (.int .u16 (l[j] : Nat)))

variable {H : Type} {enc : TypeId × Value → H}
theorem u16_wf {n : Int} (h : (Lit.int .u16 n).wf = true) : 0 ≤ n ∧ n ≤ 65535 := by
  have := bounds_u16 h; omega

set_option maxRecDepth 100000 in
/-- a slice of numbers of sixteen bits that came in -/
theorem sl16_open {W : World} {v : Value} {d : DataW H} {p : List MemPlace} {base : Nat} (hk : Value.okWide Try.prog W .any base 57 v) (h : DataW.Trod enc Try.prog W 0 (fun _ => true) true 57 v d p) : ∃ l, S16 W v l := by
  obtain ⟨a0, len, cap, rfl⟩ := okWide_slice Try.underlying57 hk
  obtain ⟨fuel, hf⟩ := h
  rcases open_ints Try.underlying57 Try.underlying63 (by kernel_rfl) hf with ⟨hcs, _⟩ | ⟨x, len', cap', zs, hcs, _, hl, hm, hz, _, hcell, hwz⟩
  · simp [Value.cells] at hcs
    obtain ⟨rfl, rfl, rfl⟩ := hcs
    exact ⟨[], none, 0, rfl, .inl rfl⟩
  · simp [Value.cells] at hcs
    obtain ⟨rfl, rfl, rfl⟩ := hcs
    simp only [if_true] at hz
    have hln : ((zs.take len).map Int.toNat).length = len := by simp; omega
    refine ⟨(zs.take len).map Int.toNat, some x, cap, by rw [hln], ?_⟩
    by_cases h0 : len = 0
    · left; subst h0; simp
    · right
      obtain ⟨b, off, spot⟩ := x
      have hspot : spot = none := by
        have := hcell 0 (by omega)
        simpa [Addr.add] using World.cell?_spot this
      subst hspot
      refine ⟨b, off, rfl, fun j hj => ?_⟩
      have hj' : j < len := by omega
      have h1 := hcell j (by omega)
      have e1 : (⟨b, off, none⟩ : Addr).add j = ⟨b, off + j, none⟩ := by cases j <;> simp [Addr.add]
      rw [e1] at h1
      have hmem : zs[j]'(by omega) ∈ zs := List.getElem_mem _
      have hb := u16_wf (hwz _ hmem)
      have e2 : zs.getD j 0 = zs[j]'(by omega) := by simp [List.getD, List.getElem?_eq_getElem (show j < zs.length by omega)]
      rw [e2] at h1
      simp only [List.getElem_map, List.getElem_take]
      rw [h1]
      refine ⟨by omega, ?_⟩
      congr 2
      omega
end Go.Proofs.Ytlmgklebikcbjaa

/-
  The document's Same of two objects in memory that are the same: true. No condition but that they are read.
-/
namespace Go.Proofs.Ytlmgklebikcbjaa
open Go.RowKit
set_option linter.unusedVariables false

/-- the call of Same on two objects, in a world where their blocks are as they were -/
def SameC (w : World) (vs us : List Value) : Prop := ∀ W : World, Below w.heap.size w W →
  Calls Try.prog 41 #[.agg vs.toArray, .agg us.toArray] W fun e w' => e = .returned (.bool true) ∧ Below W.heap.size W w'

set_option maxHeartbeats 4000000 in
set_option maxRecDepth 100000 in
theorem same_of {A : Nat → Prop} {w : World} {vs : List Value} {o : PO} (h : OV A w vs o) : ∀ (B : Nat → Prop) (us : List Value), OV B w us o → SameC w vs us := by
  induction h with
  | mk k n vb vl vd b l d cl cd hb hl hl' hd hkk hd' hz ih1 ih2 =>
    intro B us hu W hW
    obtain ⟨_, _, vb9, vl9, vd9, _, _, _, cl9, cd9, hb9, hl9, hl9', hd9, hkk9, hd9', -⟩ := hu
    obtain ⟨⟨aob, capb, rfl, -, -, -, -⟩, -⟩ := id hb
    obtain ⟨aol, capl, rfl, -⟩ := id hl
    obtain ⟨aod, capd, rfl, -⟩ := id hd
    obtain ⟨⟨aob9, capb9, rfl, -, -, -, -⟩, -⟩ := id hb9
    obtain ⟨aol9, capl9, rfl, -⟩ := id hl9
    obtain ⟨aod9, capd9, rfl, -⟩ := id hd9
    have hP0 := (C5.new W _ rfl [.int .i64 k, .int .i64 n, .slice aob b.length capb, .slice aol l.length capl, .slice aod d.length capd] 61).up (alb _ (.cells #[.int .i64 k, .int .i64 n, .slice aob9 b.length capb9, .slice aol9 l.length capl9, .slice aod9 d.length capd9] 61))
    have hQ0 := C5.new (W.alloc (.cells #[.int .i64 k, .int .i64 n, .slice aob b.length capb, .slice aol l.length capl, .slice aod d.length capd] 61)) (W.heap.size + 1) (by simp) [.int .i64 k, .int .i64 n, .slice aob9 b.length capb9, .slice aol9 l.length capl9, .slice aod9 d.length capd9] 61
    have hWW := below_then (alb W (.cells #[.int .i64 k, .int .i64 n, .slice aob b.length capb, .slice aol l.length capl, .slice aod d.length capd] 61)) (alb _ (.cells #[.int .i64 k, .int .i64 n, .slice aob9 b.length capb9, .slice aol9 l.length capl9, .slice aod9 d.length capd9] 61))
    have HB := hid ((hb.1.up hW).up hWW)
    have HB9 := hid ((hb9.1.up hW).up hWW)
    obtain ⟨C, hC, hCc⟩ := ov_of l cl hl'
    obtain ⟨D, hD, hDc⟩ := ev_of d cd hkk hd'
    obtain ⟨C9, hC9, hCc9⟩ := ov_of l cl9 hl9'
    obtain ⟨D9, hD9, hDc9⟩ := ev_of d cd9 hkk9 hd9'
    have hCl : C.length = l.length := All2.len hC
    have hDl : D.length = d.length := All2.len hD
    have hCl9 : C9.length = l.length := All2.len hC9
    have hDl9 : D9.length = d.length := All2.len hD9
    have HSL := hid ((hl.slx C hCl hCc).1.up hW)
    have HSD := hid ((hd.slx (D.map ecl) (by rw [List.length_map]; exact hDl) (fun i hi => by rw [List.getElem_map]; exact hDc i (by simpa using hi))).1.up hW)
    have HSL9 := hid ((hl9.slx C9 hCl9 hCc9).1.up hW)
    have HSD9 := hid ((hd9.slx (D9.map ecl) (by rw [List.length_map]; exact hDl9) (fun i hi => by rw [List.getElem_map]; exact hDc9 i (by simpa using hi))).1.up hW)
    have HI1 := hid (show ∀ i (h : i < C.length) (h9 : i < C9.length), SameC w C[i] C9[i] ∧ V5 C[i] ∧ V5 C9[i] from fun i h h9 => by
      refine ⟨?_, hC.len5 _ (List.getElem_mem h), hC9.len5 _ (List.getElem_mem h9)⟩
      rw [hCc i h]; exact ih1 i (by omega) B _ (hC9.at i h9 (by omega)))
    have HI2 := hid (show ∀ i (h : i < D.length) (h9 : i < D9.length), SameC w (D[i]).2 (D9[i]).2 ∧ (D[i]).1 = (D9[i]).1 ∧ V5 (D[i]).2 ∧ V5 (D9[i]).2 from fun i h h9 => by
      have e : (D[i]).2 = (cd i).tail := by rw [← hDc i h]; rfl
      refine ⟨?_, (hD.at i h (by omega)).1.trans (hD9.at i h9 (by omega)).1.symm, hD.allV _ (List.getElem_mem h), hD9.allV _ (List.getElem_mem h9)⟩
      rw [e]; exact ih2 i (by omega) B _ (hD9.at i h9 (by omega)).2)
    have hqk : (k == k) = true := by simp
    have hqn : (n == n) = true := by simp
    have HZ := hid hz
    clear hb hl hl' hd hkk hd' hz hb9 hl9 hl9' hd9 hkk9 hd9' ih1 ih2 hCc hDc hCc9 hDc9 hC hD hC9 hD9
    by_cases e1 : k = 1 ∨ k = 2 ∨ k = 3 ∨ k = 9
    · rcases e1 with rfl | rfl | rfl | rfl
      all_goals
        go_enter Try.func41, Try.ntmps41
        go_wp2
        go_ret
        exact ⟨by simp, hWW⟩
    by_cases e2 : k = 4 ∨ k = 5
    · rcases e2 with rfl | rfl
      all_goals
        clear e1
        go_enter Try.func41, Try.ntmps41
        go_wp2_with (go_at_call 24; refine (same_sl _ _ b b _ HB.out HB9.out).mono ?_; rintro e w1 ⟨rfl, m, rfl⟩)
        go_ret
        exact ⟨by simp, below_then hWW (below_drewN (Below.refl _ _) m)⟩
    by_cases e3 : k = 6
    · subst e3
      clear e1 e2
      go_enter Try.func41, Try.ntmps41
      go_wp2
      go_loopw [5] (fun s5 wr => ∃ i : Nat, s5 = .int .i64 i ∧ i ≤ l.length ∧ Below ((W.alloc (.cells #[.int .i64 6, .int .i64 n, .slice aob b.length capb, .slice aol l.length capl, .slice aod d.length capd] 61)).alloc (.cells #[.int .i64 6, .int .i64 n, .slice aob9 b.length capb9, .slice aol9 l.length capl9, .slice aod9 d.length capd9] 61)).heap.size ((W.alloc (.cells #[.int .i64 6, .int .i64 n, .slice aob b.length capb, .slice aol l.length capl, .slice aod d.length capd] 61)).alloc (.cells #[.int .i64 6, .int .i64 n, .slice aob9 b.length capb9, .slice aol9 l.length capl9, .slice aod9 d.length capd9] 61)) wr) (fun s5 _ => l.length - (intOf s5).toNat)
      case atStart => exact ⟨0, rfl, Nat.zero_le _, Below.refl _ _⟩
      case round =>
        obtain ⟨i, rfl, hi, hb⟩ := hrel
        have hP := hP0.up hb
        have hQ := hQ0.up hb
        have hWr := below_then hWW hb
        obtain ⟨rc, rf, rs⟩ := hP
        obtain ⟨oc, of_, os⟩ := hQ
        have hP := hid (hP0.up hb)
        have hlz := HZ.out.2.1
        by_cases hlt : i < l.length
        · have hiz : (i : Int) < (l.length : Int) := by omega
          obtain ⟨g, off, rfl, hcell⟩ := (HSL.out.up hWr).some (by omega)
          obtain ⟨g9, off9, rfl, hcell9⟩ := (HSL9.out.up hWr).some (by omega)
          have l2 := hcell i (by omega)
          have l9 := hcell9 i (by omega)
          obtain ⟨hcp, hv5, hv9⟩ := HI1.out i (by omega) (by omega)
          clear hcell hcell9
          generalize C[i]'(by omega) = ci at l2 hcp hv5
          generalize C9[i]'(by omega) = ci9 at l9 hcp hv9
          obtain ⟨p1, p2, p3, p4, p5, p6, p7, p8, p9, p10, p11, rfl⟩ := hv5
          obtain ⟨r1, r2, r3, r4, r5, r6, r7, r8, r9, r10, r11, rfl⟩ := hv9
          have c0 := l2 0 _ rfl
          have c1 := l2 1 _ rfl
          have c2 := l2 2 _ rfl
          have c3 := l2 3 _ rfl
          have c4 := l2 4 _ rfl
          rw [Nat.add_zero] at c0
          have d0 := l9 0 _ rfl
          have d1 := l9 1 _ rfl
          have d2 := l9 2 _ rfl
          have d3 := l9 3 _ rfl
          have d4 := l9 4 _ rfl
          rw [Nat.add_zero] at d0
          clear l2 l9
          have HCP := hid hcp
          clear hcp
          go_upto_region 18 with fail
          have HS := hid (show ∀ X, Below wr.heap.size wr X → X.cell? ⟨W.heap.size, 3, none⟩ = some (.slice (some ⟨g, off, none⟩) l.length capl) ∧ X.cell? ⟨W.heap.size + 1, 3, none⟩ = some (.slice (some ⟨g9, off9, none⟩) l.length capl9) ∧ X.cell? ⟨g, off + i * 5, none⟩ = some (.int .i64 p1) ∧ X.cell? ⟨g, off + i * 5 + 1, none⟩ = some (.int .i64 p2) ∧ X.cell? ⟨g, off + i * 5 + 2, none⟩ = some (.slice p3 p6 p7) ∧ X.cell? ⟨g, off + i * 5 + 3, none⟩ = some (.slice p4 p8 p9) ∧ X.cell? ⟨g, off + i * 5 + 4, none⟩ = some (.slice p5 p10 p11) ∧ X.cell? ⟨g9, off9 + i * 5, none⟩ = some (.int .i64 r1) ∧ X.cell? ⟨g9, off9 + i * 5 + 1, none⟩ = some (.int .i64 r2) ∧ X.cell? ⟨g9, off9 + i * 5 + 2, none⟩ = some (.slice r3 r6 r7) ∧ X.cell? ⟨g9, off9 + i * 5 + 3, none⟩ = some (.slice r4 r8 r9) ∧ X.cell? ⟨g9, off9 + i * 5 + 4, none⟩ = some (.slice r5 r10 r11) from fun X hX => ⟨cell_up' hX (rc 3), cell_up' hX (oc 3), cell_up' hX c0, cell_up' hX c1, cell_up' hX c2, cell_up' hX c3, cell_up' hX c4, cell_up' hX d0, cell_up' hX d1, cell_up' hX d2, cell_up' hX d3, cell_up' hX d4⟩)
          go_region_held3 (fun w' => w'.cell? ⟨W.heap.size, 3, none⟩ = some (.slice (some ⟨g, off, none⟩) l.length capl) ∧ w'.cell? ⟨W.heap.size + 1, 3, none⟩ = some (.slice (some ⟨g9, off9, none⟩) l.length capl9) ∧ w'.cell? ⟨g, off + i * 5, none⟩ = some (.int .i64 p1) ∧ w'.cell? ⟨g, off + i * 5 + 1, none⟩ = some (.int .i64 p2) ∧ w'.cell? ⟨g, off + i * 5 + 2, none⟩ = some (.slice p3 p6 p7) ∧ w'.cell? ⟨g, off + i * 5 + 3, none⟩ = some (.slice p4 p8 p9) ∧ w'.cell? ⟨g, off + i * 5 + 4, none⟩ = some (.slice p5 p10 p11) ∧ w'.cell? ⟨g9, off9 + i * 5, none⟩ = some (.int .i64 r1) ∧ w'.cell? ⟨g9, off9 + i * 5 + 1, none⟩ = some (.int .i64 r2) ∧ w'.cell? ⟨g9, off9 + i * 5 + 2, none⟩ = some (.slice r3 r6 r7) ∧ w'.cell? ⟨g9, off9 + i * 5 + 3, none⟩ = some (.slice r4 r8 r9) ∧ w'.cell? ⟨g9, off9 + i * 5 + 4, none⟩ = some (.slice r5 r10 r11)) (first | go_keep | exact HS.out _ (Below.refl _ _) | exact HS.out _ (by assumption) | skip) (first | (go_at_call 41; refine (HCP.out _ (below_drewN (hW.trans (hWr.mono hW.size)) _)).mono ?_; rintro e w5 ⟨rfl, hb5⟩; have hb6 : Below wr.heap.size wr w5 := ((below_drewN (Below.refl _ _) _).trans hb5)))
          all_goals
            go_wp2_with fail
            go_roundw
            case rel => exact ⟨i + 1, by go_num, by omega, hb.trans (hb6.mono hb.size)⟩
            case measure => simp [intOf]; omega
        · obtain rfl : i = l.length := by omega
          have hiz : ¬ (l.length : Int) < (l.length : Int) := by omega
          go_wp2
          go_ret
          exact ⟨rfl, hWr⟩
    by_cases e4 : k = 7
    · subst e4
      clear e1 e2 e3
      go_enter Try.func41, Try.ntmps41
      go_wp2
      go_loopw [6] (fun s5 wr => ∃ i : Nat, s5 = .int .i64 i ∧ i ≤ d.length ∧ Below ((W.alloc (.cells #[.int .i64 7, .int .i64 n, .slice aob b.length capb, .slice aol l.length capl, .slice aod d.length capd] 61)).alloc (.cells #[.int .i64 7, .int .i64 n, .slice aob9 b.length capb9, .slice aol9 l.length capl9, .slice aod9 d.length capd9] 61)).heap.size ((W.alloc (.cells #[.int .i64 7, .int .i64 n, .slice aob b.length capb, .slice aol l.length capl, .slice aod d.length capd] 61)).alloc (.cells #[.int .i64 7, .int .i64 n, .slice aob9 b.length capb9, .slice aol9 l.length capl9, .slice aod9 d.length capd9] 61)) wr) (fun s5 _ => d.length - (intOf s5).toNat)
      case atStart => exact ⟨0, rfl, Nat.zero_le _, Below.refl _ _⟩
      case round =>
        obtain ⟨i, rfl, hi, hb⟩ := hrel
        have hP := hP0.up hb
        have hQ := hQ0.up hb
        have hWr := below_then hWW hb
        obtain ⟨rc, rf, rs⟩ := hP
        obtain ⟨oc, of_, os⟩ := hQ
        have hlz := HZ.out.2.2
        by_cases hlt : i < d.length
        · have hiz : (i : Int) < (d.length : Int) := by omega
          obtain ⟨g, off, rfl, hcell⟩ := (HSD.out.up hWr).some (by omega)
          obtain ⟨g9, off9, rfl, hcell9⟩ := (HSD9.out.up hWr).some (by omega)
          have l2 := hcell i (by simp; omega)
          have l9 := hcell9 i (by simp; omega)
          rw [List.getElem_map] at l2 l9
          obtain ⟨hcp, hkk, hv5, hv9⟩ := HI2.out i (by omega) (by omega)
          clear hcell hcell9
          generalize D[i]'(by omega) = ci at l2 hcp hv5 hkk
          generalize D9[i]'(by omega) = ci9 at l9 hcp hv9 hkk
          obtain ⟨kk, vs⟩ := ci
          obtain ⟨kk9, us⟩ := ci9
          dsimp only at hkk hcp hv5 hv9
          subst hkk
          obtain ⟨p1, p2, p3, p4, p5, p6, p7, p8, p9, p10, p11, rfl⟩ := hv5
          obtain ⟨r1, r2, r3, r4, r5, r6, r7, r8, r9, r10, r11, rfl⟩ := hv9
          have c0 := l2 0 _ rfl
          have c1 := l2 1 _ rfl
          have c2 := l2 2 _ rfl
          have c3 := l2 3 _ rfl
          have c4 := l2 4 _ rfl
          have c5 := l2 5 _ rfl
          rw [Nat.add_zero] at c0
          have d0 := l9 0 _ rfl
          have d1 := l9 1 _ rfl
          have d2 := l9 2 _ rfl
          have d3 := l9 3 _ rfl
          have d4 := l9 4 _ rfl
          have d5 := l9 5 _ rfl
          rw [Nat.add_zero] at d0
          clear l2 l9
          have HCP := hid hcp
          clear hcp
          go_upto_region 27 with fail
          have HS := hid (show ∀ X, Below wr.heap.size wr X → X.cell? ⟨W.heap.size, 4, none⟩ = some (.slice (some ⟨g, off, none⟩) d.length capd) ∧ X.cell? ⟨W.heap.size + 1, 4, none⟩ = some (.slice (some ⟨g9, off9, none⟩) d.length capd9) ∧ X.cell? ⟨g, off + i * 6, none⟩ = some (.string (st kk)) ∧ X.cell? ⟨g, off + i * 6 + 1, none⟩ = some (.int .i64 p1) ∧ X.cell? ⟨g, off + i * 6 + 2, none⟩ = some (.int .i64 p2) ∧ X.cell? ⟨g, off + i * 6 + 3, none⟩ = some (.slice p3 p6 p7) ∧ X.cell? ⟨g, off + i * 6 + 4, none⟩ = some (.slice p4 p8 p9) ∧ X.cell? ⟨g, off + i * 6 + 5, none⟩ = some (.slice p5 p10 p11) ∧ X.cell? ⟨g9, off9 + i * 6, none⟩ = some (.string (st kk)) ∧ X.cell? ⟨g9, off9 + i * 6 + 1, none⟩ = some (.int .i64 r1) ∧ X.cell? ⟨g9, off9 + i * 6 + 2, none⟩ = some (.int .i64 r2) ∧ X.cell? ⟨g9, off9 + i * 6 + 3, none⟩ = some (.slice r3 r6 r7) ∧ X.cell? ⟨g9, off9 + i * 6 + 4, none⟩ = some (.slice r4 r8 r9) ∧ X.cell? ⟨g9, off9 + i * 6 + 5, none⟩ = some (.slice r5 r10 r11) from fun X hX => ⟨cell_up' hX (rc 4), cell_up' hX (oc 4), cell_up' hX c0, cell_up' hX c1, cell_up' hX c2, cell_up' hX c3, cell_up' hX c4, cell_up' hX c5, cell_up' hX d0, cell_up' hX d1, cell_up' hX d2, cell_up' hX d3, cell_up' hX d4, cell_up' hX d5⟩)
          go_region_held3 (fun w' => w'.cell? ⟨W.heap.size, 4, none⟩ = some (.slice (some ⟨g, off, none⟩) d.length capd) ∧ w'.cell? ⟨W.heap.size + 1, 4, none⟩ = some (.slice (some ⟨g9, off9, none⟩) d.length capd9) ∧ w'.cell? ⟨g, off + i * 6, none⟩ = some (.string (st kk)) ∧ w'.cell? ⟨g, off + i * 6 + 1, none⟩ = some (.int .i64 p1) ∧ w'.cell? ⟨g, off + i * 6 + 2, none⟩ = some (.int .i64 p2) ∧ w'.cell? ⟨g, off + i * 6 + 3, none⟩ = some (.slice p3 p6 p7) ∧ w'.cell? ⟨g, off + i * 6 + 4, none⟩ = some (.slice p4 p8 p9) ∧ w'.cell? ⟨g, off + i * 6 + 5, none⟩ = some (.slice p5 p10 p11) ∧ w'.cell? ⟨g9, off9 + i * 6, none⟩ = some (.string (st kk)) ∧ w'.cell? ⟨g9, off9 + i * 6 + 1, none⟩ = some (.int .i64 r1) ∧ w'.cell? ⟨g9, off9 + i * 6 + 2, none⟩ = some (.int .i64 r2) ∧ w'.cell? ⟨g9, off9 + i * 6 + 3, none⟩ = some (.slice r3 r6 r7) ∧ w'.cell? ⟨g9, off9 + i * 6 + 4, none⟩ = some (.slice r4 r8 r9) ∧ w'.cell? ⟨g9, off9 + i * 6 + 5, none⟩ = some (.slice r5 r10 r11)) (first | go_keep | exact HS.out _ (Below.refl _ _) | exact HS.out _ (by assumption) | skip) (first | (go_at_call 41; refine (HCP.out _ (below_drewN (hW.trans (hWr.mono hW.size)) _)).mono ?_; rintro e w5 ⟨rfl, hb5⟩; have hb6 : Below wr.heap.size wr w5 := ((below_drewN (Below.refl _ _) _).trans hb5)))
          all_goals
            go_wp2_with fail
            go_roundw
            case rel => exact ⟨i + 1, by go_num, by omega, hb.trans (hb6.mono hb.size)⟩
            case measure => simp [intOf]; omega
        · obtain rfl : i = d.length := by omega
          have hiz : ¬ (d.length : Int) < (d.length : Int) := by omega
          go_wp2
          go_ret
          exact ⟨rfl, hWr⟩
    by_cases e5 : k = 8
    · subst e5
      clear e1 e2 e3 e4
      go_enter Try.func41, Try.ntmps41
      go_wp2_with (go_at_call 24; refine (same_sl _ _ b b _ HB.out HB9.out).mono ?_; rintro e w1 ⟨rfl, m, rfl⟩; have hdd : decide (b = b) = true := decide_eq_true rfl)
      go_loopw [6] (fun s5 wr => ∃ i : Nat, s5 = .int .i64 i ∧ i ≤ d.length ∧ Below ((W.alloc (.cells #[.int .i64 8, .int .i64 n, .slice aob b.length capb, .slice aol l.length capl, .slice aod d.length capd] 61)).alloc (.cells #[.int .i64 8, .int .i64 n, .slice aob9 b.length capb9, .slice aol9 l.length capl9, .slice aod9 d.length capd9] 61)).heap.size ((W.alloc (.cells #[.int .i64 8, .int .i64 n, .slice aob b.length capb, .slice aol l.length capl, .slice aod d.length capd] 61)).alloc (.cells #[.int .i64 8, .int .i64 n, .slice aob9 b.length capb9, .slice aol9 l.length capl9, .slice aod9 d.length capd9] 61)) wr) (fun s5 _ => d.length - (intOf s5).toNat)
      case atStart => exact ⟨0, rfl, Nat.zero_le _, below_drewN (Below.refl _ _) _⟩
      case round =>
        obtain ⟨i, rfl, hi, hb⟩ := hrel
        have hP := hP0.up hb
        have hQ := hQ0.up hb
        have hWr := below_then hWW hb
        obtain ⟨rc, rf, rs⟩ := hP
        obtain ⟨oc, of_, os⟩ := hQ
        have hlz := HZ.out.2.2
        by_cases hlt : i < d.length
        · have hiz : (i : Int) < (d.length : Int) := by omega
          obtain ⟨g, off, rfl, hcell⟩ := (HSD.out.up hWr).some (by omega)
          obtain ⟨g9, off9, rfl, hcell9⟩ := (HSD9.out.up hWr).some (by omega)
          have l2 := hcell i (by simp; omega)
          have l9 := hcell9 i (by simp; omega)
          rw [List.getElem_map] at l2 l9
          obtain ⟨hcp, hkk, hv5, hv9⟩ := HI2.out i (by omega) (by omega)
          clear hcell hcell9
          generalize D[i]'(by omega) = ci at l2 hcp hv5 hkk
          generalize D9[i]'(by omega) = ci9 at l9 hcp hv9 hkk
          obtain ⟨kk, vs⟩ := ci
          obtain ⟨kk9, us⟩ := ci9
          dsimp only at hkk hcp hv5 hv9
          subst hkk
          obtain ⟨p1, p2, p3, p4, p5, p6, p7, p8, p9, p10, p11, rfl⟩ := hv5
          obtain ⟨r1, r2, r3, r4, r5, r6, r7, r8, r9, r10, r11, rfl⟩ := hv9
          have c0 := l2 0 _ rfl
          have c1 := l2 1 _ rfl
          have c2 := l2 2 _ rfl
          have c3 := l2 3 _ rfl
          have c4 := l2 4 _ rfl
          have c5 := l2 5 _ rfl
          rw [Nat.add_zero] at c0
          have d0 := l9 0 _ rfl
          have d1 := l9 1 _ rfl
          have d2 := l9 2 _ rfl
          have d3 := l9 3 _ rfl
          have d4 := l9 4 _ rfl
          have d5 := l9 5 _ rfl
          rw [Nat.add_zero] at d0
          clear l2 l9
          have HCP := hid hcp
          clear hcp
          go_upto_region 27 with fail
          have HS := hid (show ∀ X, Below wr.heap.size wr X → X.cell? ⟨W.heap.size, 4, none⟩ = some (.slice (some ⟨g, off, none⟩) d.length capd) ∧ X.cell? ⟨W.heap.size + 1, 4, none⟩ = some (.slice (some ⟨g9, off9, none⟩) d.length capd9) ∧ X.cell? ⟨g, off + i * 6, none⟩ = some (.string (st kk)) ∧ X.cell? ⟨g, off + i * 6 + 1, none⟩ = some (.int .i64 p1) ∧ X.cell? ⟨g, off + i * 6 + 2, none⟩ = some (.int .i64 p2) ∧ X.cell? ⟨g, off + i * 6 + 3, none⟩ = some (.slice p3 p6 p7) ∧ X.cell? ⟨g, off + i * 6 + 4, none⟩ = some (.slice p4 p8 p9) ∧ X.cell? ⟨g, off + i * 6 + 5, none⟩ = some (.slice p5 p10 p11) ∧ X.cell? ⟨g9, off9 + i * 6, none⟩ = some (.string (st kk)) ∧ X.cell? ⟨g9, off9 + i * 6 + 1, none⟩ = some (.int .i64 r1) ∧ X.cell? ⟨g9, off9 + i * 6 + 2, none⟩ = some (.int .i64 r2) ∧ X.cell? ⟨g9, off9 + i * 6 + 3, none⟩ = some (.slice r3 r6 r7) ∧ X.cell? ⟨g9, off9 + i * 6 + 4, none⟩ = some (.slice r4 r8 r9) ∧ X.cell? ⟨g9, off9 + i * 6 + 5, none⟩ = some (.slice r5 r10 r11) from fun X hX => ⟨cell_up' hX (rc 4), cell_up' hX (oc 4), cell_up' hX c0, cell_up' hX c1, cell_up' hX c2, cell_up' hX c3, cell_up' hX c4, cell_up' hX c5, cell_up' hX d0, cell_up' hX d1, cell_up' hX d2, cell_up' hX d3, cell_up' hX d4, cell_up' hX d5⟩)
          go_region_held3 (fun w' => w'.cell? ⟨W.heap.size, 4, none⟩ = some (.slice (some ⟨g, off, none⟩) d.length capd) ∧ w'.cell? ⟨W.heap.size + 1, 4, none⟩ = some (.slice (some ⟨g9, off9, none⟩) d.length capd9) ∧ w'.cell? ⟨g, off + i * 6, none⟩ = some (.string (st kk)) ∧ w'.cell? ⟨g, off + i * 6 + 1, none⟩ = some (.int .i64 p1) ∧ w'.cell? ⟨g, off + i * 6 + 2, none⟩ = some (.int .i64 p2) ∧ w'.cell? ⟨g, off + i * 6 + 3, none⟩ = some (.slice p3 p6 p7) ∧ w'.cell? ⟨g, off + i * 6 + 4, none⟩ = some (.slice p4 p8 p9) ∧ w'.cell? ⟨g, off + i * 6 + 5, none⟩ = some (.slice p5 p10 p11) ∧ w'.cell? ⟨g9, off9 + i * 6, none⟩ = some (.string (st kk)) ∧ w'.cell? ⟨g9, off9 + i * 6 + 1, none⟩ = some (.int .i64 r1) ∧ w'.cell? ⟨g9, off9 + i * 6 + 2, none⟩ = some (.int .i64 r2) ∧ w'.cell? ⟨g9, off9 + i * 6 + 3, none⟩ = some (.slice r3 r6 r7) ∧ w'.cell? ⟨g9, off9 + i * 6 + 4, none⟩ = some (.slice r4 r8 r9) ∧ w'.cell? ⟨g9, off9 + i * 6 + 5, none⟩ = some (.slice r5 r10 r11)) (first | go_keep | exact HS.out _ (Below.refl _ _) | exact HS.out _ (by assumption) | skip) (first | (go_at_call 41; refine (HCP.out _ (below_drewN (hW.trans (hWr.mono hW.size)) _)).mono ?_; rintro e w5 ⟨rfl, hb5⟩; have hb6 : Below wr.heap.size wr w5 := ((below_drewN (Below.refl _ _) _).trans hb5)))
          all_goals
            go_wp2_with fail
            go_roundw
            case rel => exact ⟨i + 1, by go_num, by omega, hb.trans (hb6.mono hb.size)⟩
            case measure => simp [intOf]; omega
        · obtain rfl : i = d.length := by omega
          have hiz : ¬ (d.length : Int) < (d.length : Int) := by omega
          go_wp2
          go_ret
          exact ⟨rfl, hWr⟩
    have q1 : (k == 1) = false := by simp; omega
    have q2 : (k == 2) = false := by simp; omega
    have q3 : (k == 3) = false := by simp; omega
    have q4 : (k == 4) = false := by simp; omega
    have q5 : (k == 5) = false := by simp; omega
    have q6 : (k == 6) = false := by simp; omega
    have q7 : (k == 7) = false := by simp; omega
    have q8 : (k == 8) = false := by simp; omega
    have q9 : (k == 9) = false := by simp; omega
    clear e1 e2 e3 e4 e5
    go_enter Try.func41, Try.ntmps41
    go_wp2
    go_ret
    exact ⟨rfl, hWW⟩
end Go.Proofs.Ytlmgklebikcbjaa

/-
  ParseRefs: whole numbers in a row, and the words between: references are just those of three; the statement's walk. No condition.
-/
namespace Go.Proofs.Ytlmgklebikcbjaa
open Go.RowKit
set_option linter.unusedVariables false

def gapA : Nat → List UInt8
  | 0 => [32]
  | 1 => [10]
  | 2 => [37, 120, 13]
  | _ => [32, 32]
theorem gapA_ok (n : Nat) : GG (gapA n) ∧ (gapA n).length ≤ 3 := by
  rcases n with _ | _ | _ | n
  · exact ⟨gg1, by decide⟩
  · exact ⟨gg2, by decide⟩
  · exact ⟨gg3, by decide⟩
  · exact ⟨gg4, by simp [gapA]⟩
/-- the bytes behind each word of number i -/
def gapAt (g : List UInt8) (i : Nat) : List UInt8 := if i < g.length then gapA ((g.getD i 0).toNat % 4) else [32]
theorem gapAt_ok (g : List UInt8) (i : Nat) : GG (gapAt g i) ∧ (gapAt g i).length ≤ 3 := by
  unfold gapAt
  split
  · exact gapA_ok _
  · exact ⟨gg1, by decide⟩
def itF (x : Nat) (g : List UInt8) : IT := (x % 9, !(bits .and .u16 ((x : Nat) : Int) 32768 == 0) && decide (0 < x % 9), g)
def itL (l : List Nat) (g : List UInt8) : List IT := (List.range l.length).map fun i => itF (l.getD i 0) (gapAt g i)
theorem itL_len (l : List Nat) (g : List UInt8) : (itL l g).length = l.length := by simp [itL]
theorem itL_at {l : List Nat} {g : List UInt8} {i : Nat} (h : i < l.length) (h2 : i < (itL l g).length) : (itL l g)[i] = itF l[i] (gapAt g i) := by simp [itL, h]
theorem itF_ok (x : Nat) {g : List UInt8} (h : GG g) : OkI (itF x g) := by
  refine ⟨by unfold itF; simp only []; omega, fun q => ?_, h⟩
  unfold itF at q ⊢
  simp only [Bool.and_eq_true, decide_eq_true_eq] at q ⊢
  omega
theorem itL_ok (l : List Nat) (g : List UInt8) : ∀ t ∈ itL l g, OkI t := by
  intro t ht
  unfold itL at ht
  rw [List.mem_map] at ht
  obtain ⟨i, _, rfl⟩ := ht
  exact itF_ok _ (gapAt_ok g i).1
/-- what is written ahead of number i -/
def rtxt (l : List Nat) (g : List UInt8) (i : Nat) : List UInt8 := 91 :: ((itL l g).take i).flatMap itx
theorem rtxt_succ {l : List Nat} {g : List UInt8} {i : Nat} (h : i < l.length) : rtxt l g (i + 1) = rtxt l g i ++ itx (itF l[i] (gapAt g i)) := by
  unfold rtxt
  rw [List.take_succ_eq_append_getElem (by rw [itL_len]; exact h), itL_at h]
  simp
theorem itx_len (x : Nat) {g : List UInt8} (h : g.length ≤ 3) : (itx (itF x g)).length ≤ 12 := by
  unfold itx irest itF
  simp only []
  split
  · simp; omega
  · simp; omega
theorem rtxt_len {l : List Nat} {g : List UInt8} : ∀ {i : Nat}, i ≤ l.length → (rtxt l g i).length ≤ 1 + 12 * i
  | 0, _ => by simp [rtxt]
  | i + 1, h => by
    have ih := rtxt_len (l := l) (g := g) (i := i) (by omega)
    have := itx_len (l[i]'(by omega)) (gapAt_ok g i).2
    rw [rtxt_succ (by omega), List.length_append]; omega
theorem and3_any (c : UInt8) (t : TypeId) : binOp .and t (.int .u8 (c8 c)) (.int .u8 3) = pure (.int .u8 ((c.toNat % 4 : Nat) : Int)) := by
  have hc := c.toNat_lt
  have e1 := u8_and_nat c.toNat 3 (by omega) (by decide)
  have e2 : c.toNat &&& 3 = c.toNat % 4 := Nat.and_two_pow_sub_one_eq_mod c.toNat 2
  rw [e2] at e1
  show pure (Value.int .u8 (bits .and .u8 (c.toNat : Int) ((3 : Nat) : Int))) = _
  rw [e1]

set_option maxHeartbeats 4000000 in
set_option maxRecDepth 100000 in
theorem refs_any (v : Value) (l : List Nat) (u : Value) (gs : List UInt8) (w : World) (h : S16 w v l) (hu : Sl w u gs) : Calls Try.prog 10 #[v, u] w fun e w' => e = .returned (.bool true) ∧ Below w.heap.size w w' := by
  obtain ⟨ao, cap, rfl, hcell⟩ := h
  obtain ⟨au, cu, rfl, u1, u2, u3, hud⟩ := hu
  by_cases hl : 60 < l.length
  · have t1 : decide ((60 : Int) < (l.length : Int)) = true := decide_eq_true (by omega)
    go_enter Try.func10, Try.ntmps10
    go_wp2_with (go_at_call 36; refine (awake12_any _).mono ?_; rintro e w1 ⟨rfl, hb1⟩)
    go_ret
    exact ⟨rfl, hb1⟩
  have t1 : decide ((60 : Int) < (l.length : Int)) = false := decide_eq_false (by omega)
  by_cases hg : 60 < gs.length
  · have t2 : decide ((60 : Int) < (gs.length : Int)) = true := decide_eq_true (by omega)
    go_enter Try.func10, Try.ntmps10
    go_wp2_with (go_at_call 36; refine (awake12_any _).mono ?_; rintro e w1 ⟨rfl, hb1⟩)
    go_ret
    exact ⟨rfl, hb1⟩
  have t2 : decide ((60 : Int) < (gs.length : Int)) = false := decide_eq_false (by omega)
  have HC := hid hcell
  have HU := hid hud
  clear hcell hud
  go_enter Try.func10, Try.ntmps10
  go_wp2_with (first | (go_at_call 37; refine (rarr_nil _).mono ?_; rintro e w2 ⟨rfl, hb2⟩) | (go_at_call 36; refine (awake12_any _).mono ?_; rintro e w1 ⟨rfl, hb1⟩))
  have hb12 : Below w.heap.size w w2 := hb1.trans (hb2.mono hb1.size)
  have hbW := below_then hb12 (alb w2 (.cells #[.int .i64 6, .int .i64 0, .slice none 0 0, .slice none 0 0, .slice none 0 0] 61))
  have hO := C5.new w2 w2.heap.size rfl [.int .i64 6, .int .i64 0, .slice none 0 0, .slice none 0 0, .slice none 0 0] 61
  obtain ⟨LL, hLL⟩ : ∃ LL : List PO, LL = (itL l gs).map ito := ⟨_, rfl⟩
  have hLLl : LL.length = l.length := by rw [hLL, List.length_map, itL_len]
  obtain ⟨wq, hwq⟩ : ∃ wq : World, wq = w2.alloc (.cells #[.int .i64 6, .int .i64 0, .slice none 0 0, .slice none 0 0, .slice none 0 0] 61) := ⟨_, rfl⟩
  have hgo : w2.heap.size < wq.heap.size := by rw [hwq]; simp
  rw [← hwq] at hbW hO
  have HWQ := hid hwq
  have HLL := hid hLL
  clear hLL
  go_loopw [5, 7, 8, 9] (fun s5 s7 _ _ wr => ∃ i : Nat, ∃ P : List UInt8, ∃ aol capl C', s7 = .int .i64 i ∧ i ≤ l.length ∧ s5 = .string (st P) ∧ P = rtxt l gs i ∧ CpL wq wr w2.heap.size 6 0 (.slice none 0 0) (.slice aol i capl) (.slice none 0 0) LL i C') (fun _ s7 _ _ _ => l.length - (intOf s7).toNat)
  case atStart => exact ⟨0, [91], none, 0, [], rfl, Nat.zero_le _, rfl, rfl, by rw [← hwq]; exact ⟨hO, RowG.nil _ _ _ _ _ _, Held.refl _ _ _ _⟩⟩
  case round =>
    obtain ⟨i, P, aol, capl, C', rfl, hi, rfl, hP, hL⟩ := hrel
    by_cases hlt : i < l.length
    · have hiz : (i : Int) < (l.length : Int) := by omega
      have hWr : Below w.heap.size w wr := hbW.trans (hL.hh.below hbW.size hb12.size hb12.size)
      obtain ⟨g, off, rfl, hc⟩ : ∃ g off, ao = some ⟨g, off, none⟩ ∧ ∀ j (h : j < l.length), l[j] < 65536 ∧ w.cell? ⟨g, off + j, none⟩ = some (.int .u16 (l[j] : Nat)) := by
        rcases HC.out with q | q
        · subst q; simp at hlt
        · exact q
      obtain ⟨hx, c0⟩ := hc i hlt
      have c0 := cell_up' hWr c0
      have hPl : P.length ≤ 721 := by rw [hP]; have := rtxt_len (l := l) (g := gs) (i := i) hi; omega
      have HPn := rtxt_succ (g := gs) hlt
      rw [← hP] at HPn
      have HLI : LL[i]'(by omega) = ito (itF l[i] (gapAt gs i)) := by
        have e := HLL.out
        subst e
        rw [List.getElem_map, itL_at hlt]
      obtain ⟨G, hG⟩ : ∃ G, G = gapAt gs i := ⟨_, rfl⟩
      have hGl : G.length ≤ 3 := by rw [hG]; exact (gapAt_ok gs i).2
      rw [← hG] at HPn HLI
      have HPn := hid HPn
      have HLI := hid HLI
      have HG := hid hG
      clear hc hP hG
      generalize l[i] = x at c0 HPn HLI hx
      have hrem : ∀ t, binOp .rem t (.int .i64 (x : Int)) (.int .i64 9) = pure (.int .i64 ((x % 9 : Nat) : Int)) := rem_any .i64 x 9 (by decide)
      have hwx : IntKind.i64.wrap (x : Int) = (x : Int) := IntWalk.i64_in _ (by omega)
      have hnd : ∀ t, binOp .and t (.int .u16 (x : Int)) (.int .u16 32768) = pure (.int .u16 (bits .and .u16 (x : Int) 32768)) := fun t => rfl
      have HF := hid (show itF x G = (x % 9, !(bits .and .u16 ((x : Nat) : Int) 32768 == 0) && decide (0 < x % 9), G) from rfl)
      have hn8 : x % 9 ≤ 8 := by omega
      generalize x % 9 = n at hrem HF hn8
      generalize bits .and .u16 (x : Int) 32768 = z at hnd HF
      have HL0 := hid hL
      obtain ⟨oc, of_, os⟩ := hL.out
      clear hL
      go_upto_if 38 with fail
      go_cut [9] from 23 to 84 (fun s9 wx => s9 = .string (st G) ∧ Below wr.heap.size wr wx)
      case first =>
        by_cases hgi : i < gs.length
        · have hgz : (i : Int) < (gs.length : Int) := by omega
          obtain ⟨g1, off1, rfl, hd1⟩ : ∃ g1 off1, au = some ⟨g1, off1, none⟩ ∧ ∀ j, j < gs.length → w.cell? ⟨g1, off1 + j, none⟩ = some (.int .u8 (b8 gs j)) := by
            rcases HU.out with q | q
            · subst q; simp at hgi
            · exact q
          have d0 : wr.cell? ⟨g1, off1 + i, none⟩ = some (.int .u8 (c8 (gs.getD i 0))) := cell_up' hWr (hd1 i hgi)
          have zd := World.block_lt_of_cell? _ _ d0
          clear hd1
          have e1 : G = gapA ((gs.getD i 0).toNat % 4) := by rw [HG.out]; unfold gapAt; rw [if_pos hgi]
          generalize gs.getD i 0 = y at d0 e1
          have hand := and3_any y
          have hy4 : y.toNat % 4 < 4 := Nat.mod_lt _ (by decide)
          generalize y.toNat % 4 = a at hand e1 hy4
          obtain rfl | rfl | rfl | rfl : a = 0 ∨ a = 1 ∨ a = 2 ∨ a = 3 := by omega
          all_goals
            have e1 := hid e1
            go_wp2_with fail
            go_meet
            exact ⟨by rw [e1.out]; rfl, alb _ _⟩
        · have hgz : ¬ (i : Int) < (gs.length : Int) := by omega
          have e1 : G = [32] := by rw [HG.out]; unfold gapAt; rw [if_neg hgi]
          have e1 := hid e1
          go_wp2_with fail
          go_meet
          exact ⟨by rw [e1.out]; rfl, Below.refl _ _⟩
      case rest =>
        obtain ⟨rfl, hb0⟩ := hcut
        obtain ⟨P1, hP1⟩ : ∃ P1, P1 = P ++ [dgt n] := ⟨_, rfl⟩
        have a1 : ∀ w, (Op.stringOp .add (st P) (st [dgt n])).run Try.prog w = .ok (.string (st P1)) w := fun w => by rw [hP1]; exact st_add P [dgt n] (by simp; omega) w
        have hl1 : P1.length = P.length + 1 := by rw [hP1]; simp
        by_cases hzn : ¬ z = 0 ∧ 0 < n
        · obtain ⟨hz, hn⟩ := hzn
          have hzb : (z == 0) = false := by simpa using hz
          have hzb2 : (z != 0) = true := by simp [hz]
          have hnb : decide ((0 : Int) < (n : Int)) = true := decide_eq_true (by omega)
          have eF : itF x G = (n, true, G) := by rw [HF.out, hzb, decide_eq_true hn]; rfl
          obtain ⟨P2, hP2⟩ : ∃ P2, P2 = P1 ++ G := ⟨_, rfl⟩
          have a2 : ∀ w, (Op.stringOp .add (st P1) (st G)).run Try.prog w = .ok (.string (st P2)) w := fun w => by rw [hP2]; exact st_add P1 G (by omega) w
          have hl2 : P2.length = P1.length + G.length := by rw [hP2]; simp
          obtain ⟨P3, hP3⟩ : ∃ P3, P3 = P2 ++ [48] := ⟨_, rfl⟩
          have a3 : ∀ w, (Op.stringOp .add (st P2) ⟨#[48]⟩).run Try.prog w = .ok (.string (st P3)) w := fun w => by rw [hP3]; exact st_add P2 [48] (by simp; omega) w
          have hl3 : P3.length = P2.length + 1 := by rw [hP3]; simp
          obtain ⟨P4, hP4⟩ : ∃ P4, P4 = P3 ++ G := ⟨_, rfl⟩
          have a4 : ∀ w, (Op.stringOp .add (st P3) (st G)).run Try.prog w = .ok (.string (st P4)) w := fun w => by rw [hP4]; exact st_add P3 G (by omega) w
          have hl4 : P4.length = P3.length + G.length := by rw [hP4]; simp
          obtain ⟨P5, hP5⟩ : ∃ P5, P5 = P4 ++ [82] := ⟨_, rfl⟩
          have a5 : ∀ w, (Op.stringOp .add (st P4) ⟨#[82]⟩).run Try.prog w = .ok (.string (st P5)) w := fun w => by rw [hP5]; exact st_add P4 [82] (by simp; omega) w
          have hl5 : P5.length = P4.length + 1 := by rw [hP5]; simp
          obtain ⟨P6, hP6⟩ : ∃ P6, P6 = P5 ++ G := ⟨_, rfl⟩
          have a6 : ∀ w, (Op.stringOp .add (st P5) (st G)).run Try.prog w = .ok (.string (st P6)) w := fun w => by rw [hP6]; exact st_add P5 G (by omega) w
          have HPe := hid (show P6 = rtxt l gs (i + 1) by rw [HPn.out, eF, hP6, hP5, hP4, hP3, hP2, hP1]; unfold itx irest; rw [if_pos rfl]; simp)
          have HLe := hid (show LL[i]'(by omega) = poRef n by rw [HLI.out, eF]; unfold ito; rw [if_pos rfl])
          clear eF hP1 hP2 hP3 hP4 hP5 hP6 hz
          have hone : ∀ c ∈ ([[.int .i64 9, .int .i64 n, .slice none 0 0, .slice none 0 0, .slice none 0 0]] : List (List Value)), ∀ u ∈ c, u.oneCell' = true := fun c hc => by
            rw [List.mem_singleton] at hc; subst hc; exact V5.one ⟨_, _, _, _, _, _, _, _, _, _, _, rfl⟩
          go_upto_region 17 with (go_at_call 28; refine (text_any (n : Int) true _ (by omega) (by omega)).mono ?_; rw [dgt_pnum hn8]; rintro e wx ⟨rfl, hbx⟩; have hb0x := hb0.trans (hbx.mono hb0.size); have c0x := cell_up' hb0x c0; have hL := HL0.out.up hb0x; have HL := hid hL; obtain ⟨oc, of_, os⟩ := hL.out; have hbz := hL.hh.size; clear hL)
          have hlv : opLd 58 (Operand.tmp 68) = Op.load 58 (Operand.tmp 68) := rfl
          rw [← hlv]
          go_region_held3 (fun w' => w'.cell? ⟨w2.heap.size, 0, none⟩ = some (.int .i64 6)) (first | go_keep | exact HL.out.out.1 0 | exact hLo.1 0 | exact (hLo.up (alb _ _)).1 0 | exact (hLo.set (k := 3) (by simp)).1 0 | skip) (first | (go_at_call 38; refine (rref_any (n : Int) _).mono ?_; rintro e w5 ⟨rfl, hb5⟩; have hb : Below wx.heap.size wx w5 := (below_drewN (Below.refl _ _) _).trans hb5; have hLo := HL.out.out.up hb; obtain ⟨oc, of_, os⟩ := id hLo; have hrow : OwX 5 61 w5 wq.heap.size (.slice aol i capl) C' := (by simpa using (HL.out.row.up keepOV hb).row); have hCl2 : C'.length = i := (by have := All2.len HL.out.row.rel; rw [List.length_take] at this; omega); have hbs := hb.size) | (refine wp_append_slx _ _ 58 rfl wq.heap.size 61 zObj 5 88 objTy' objIn rfl (by decide) (.slice aol i capl) C' rfl (hrow.up (alb _ _)) _ [[.int .i64 9, .int .i64 n, .slice none 0 0, .slice none 0 0, .slice none 0 0]] rfl (SlX.lit1 w5 _ rfl [.int .i64 9, .int .i64 n, .slice none 0 0, .slice none 0 0, .slice none 0 0] _ 5 rfl) hone (by simp; omega) (by decide) (Nat.le_trans hbz (Nat.le_trans hbs (alb _ _).size)) ?_; intro v8 w8 r1 r2 r3; obtain ⟨g8, cap8, rfl⟩ := r1.cons (by simp); have e8 : (C' ++ ([[.int .i64 9, .int .i64 n, .slice none 0 0, .slice none 0 0, .slice none 0 0]] : List (List Value))).length = i + 1 := (by rw [List.length_append, hCl2]; rfl); rw [e8] at r1 r3; have hne8 : (Value.slice aol i capl).ownBlock ≠ some w2.heap.size := (fun q => by have := (hrow.lt _ q).1; omega); have hLo := (hLo.up (alb _ _)).grown r2 hne8; obtain ⟨oc, of_, os⟩ := id hLo))
          all_goals
            go_wp2_with fail
            go_roundw
            case rel => exact ⟨i + 1, _, _, _, _, by go_num, by omega, rfl, HPe.out, HL.out.push (by omega) (below_then hb (alb w5 _)) (by rw [HLe.out]; exact OV.num 9 n) r1 r2 r3 hgo⟩
            case measure => simp [intOf]; omega
        · have eF : itF x G = (n, false, G) := by
            rw [HF.out]
            by_cases hz : z = 0
            · subst hz; rfl
            · have hn : ¬ 0 < n := fun q => hzn ⟨hz, q⟩
              rw [decide_eq_false hn, Bool.and_false]
          obtain ⟨P6, hP6⟩ : ∃ P6, P6 = P1 ++ G := ⟨_, rfl⟩
          have a6 : ∀ w, (Op.stringOp .add (st P1) (st G)).run Try.prog w = .ok (.string (st P6)) w := fun w => by rw [hP6]; exact st_add P1 G (by omega) w
          have HPe := hid (show P6 = rtxt l gs (i + 1) by rw [HPn.out, eF, hP6, hP1]; unfold itx irest; rw [if_neg (by simp)]; simp)
          have HLe := hid (show LL[i]'(by omega) = poInt n by rw [HLI.out, eF]; unfold ito; rw [if_neg (by simp)])
          clear eF hP1 hP6
          by_cases hz : z = 0
          · subst hz
            clear hzn
            have hone : ∀ c ∈ ([[.int .i64 2, .int .i64 n, .slice none 0 0, .slice none 0 0, .slice none 0 0]] : List (List Value)), ∀ u ∈ c, u.oneCell' = true := fun c hc => by
              rw [List.mem_singleton] at hc; subst hc; exact V5.one ⟨_, _, _, _, _, _, _, _, _, _, _, rfl⟩
            go_upto_region 18 with (go_at_call 28; refine (text_any (n : Int) true _ (by omega) (by omega)).mono ?_; rw [dgt_pnum hn8]; rintro e wx ⟨rfl, hbx⟩; have hb0x := hb0.trans (hbx.mono hb0.size); have c0x := cell_up' hb0x c0; have hL := HL0.out.up hb0x; have HL := hid hL; obtain ⟨oc, of_, os⟩ := hL.out; have hbz := hL.hh.size; clear hL)
            have hlv : opLd 58 (Operand.tmp 75) = Op.load 58 (Operand.tmp 75) := rfl
            rw [← hlv]
            go_region_held3 (fun w' => w'.cell? ⟨w2.heap.size, 0, none⟩ = some (.int .i64 6)) (first | go_keep | exact HL.out.out.1 0 | exact hLo.1 0 | exact (hLo.up (alb _ _)).1 0 | exact (hLo.set (k := 3) (by simp)).1 0 | skip) (first | (go_at_call 39; refine (rint_any (n : Int) _).mono ?_; rintro e w5 ⟨rfl, hb5⟩; have hb : Below wx.heap.size wx w5 := (below_drewN (Below.refl _ _) _).trans hb5; have hLo := HL.out.out.up hb; obtain ⟨oc, of_, os⟩ := id hLo; have hrow : OwX 5 61 w5 wq.heap.size (.slice aol i capl) C' := (by simpa using (HL.out.row.up keepOV hb).row); have hCl2 : C'.length = i := (by have := All2.len HL.out.row.rel; rw [List.length_take] at this; omega); have hbs := hb.size) | (refine wp_append_slx _ _ 58 rfl wq.heap.size 61 zObj 5 88 objTy' objIn rfl (by decide) (.slice aol i capl) C' rfl (hrow.up (alb _ _)) _ [[.int .i64 2, .int .i64 n, .slice none 0 0, .slice none 0 0, .slice none 0 0]] rfl (SlX.lit1 w5 _ rfl [.int .i64 2, .int .i64 n, .slice none 0 0, .slice none 0 0, .slice none 0 0] _ 5 rfl) hone (by simp; omega) (by decide) (Nat.le_trans hbz (Nat.le_trans hbs (alb _ _).size)) ?_; intro v8 w8 r1 r2 r3; obtain ⟨g8, cap8, rfl⟩ := r1.cons (by simp); have e8 : (C' ++ ([[.int .i64 2, .int .i64 n, .slice none 0 0, .slice none 0 0, .slice none 0 0]] : List (List Value))).length = i + 1 := (by rw [List.length_append, hCl2]; rfl); rw [e8] at r1 r3; have hne8 : (Value.slice aol i capl).ownBlock ≠ some w2.heap.size := (fun q => by have := (hrow.lt _ q).1; omega); have hLo := (hLo.up (alb _ _)).grown r2 hne8; obtain ⟨oc, of_, os⟩ := id hLo))
            all_goals
              go_wp2_with fail
              go_roundw
              case rel => exact ⟨i + 1, _, _, _, _, by go_num, by omega, rfl, HPe.out, HL.out.push (by omega) (below_then hb (alb w5 _)) (by rw [HLe.out]; exact OV.num 2 n) r1 r2 r3 hgo⟩
              case measure => simp [intOf]; omega
          · have hn : n = 0 := by
              by_cases q : 0 < n
              · exact absurd ⟨hz, q⟩ hzn
              · omega
            have hzb : (z == 0) = false := by simpa using hz
            have hzb2 : (z != 0) = true := by simp [hz]
            subst hn
            clear hzn hz
            have hone : ∀ c ∈ ([[.int .i64 2, .int .i64 ((0 : Nat) : Int), .slice none 0 0, .slice none 0 0, .slice none 0 0]] : List (List Value)), ∀ u ∈ c, u.oneCell' = true := fun c hc => by
              rw [List.mem_singleton] at hc; subst hc; exact V5.one ⟨_, _, _, _, _, _, _, _, _, _, _, rfl⟩
            go_upto_region 18 with (go_at_call 28; refine (text_any ((0 : Nat) : Int) true _ (by omega) (by omega)).mono ?_; rw [dgt_pnum hn8]; rintro e wx ⟨rfl, hbx⟩; have hb0x := hb0.trans (hbx.mono hb0.size); have c0x := cell_up' hb0x c0; have hL := HL0.out.up hb0x; have HL := hid hL; obtain ⟨oc, of_, os⟩ := hL.out; have hbz := hL.hh.size; clear hL)
            have hlv : opLd 58 (Operand.tmp 75) = Op.load 58 (Operand.tmp 75) := rfl
            rw [← hlv]
            go_region_held3 (fun w' => w'.cell? ⟨w2.heap.size, 0, none⟩ = some (.int .i64 6)) (first | go_keep | exact HL.out.out.1 0 | exact hLo.1 0 | exact (hLo.up (alb _ _)).1 0 | exact (hLo.set (k := 3) (by simp)).1 0 | skip) (first | (go_at_call 39; refine (rint_any ((0 : Nat) : Int) _).mono ?_; rintro e w5 ⟨rfl, hb5⟩; have hb : Below wx.heap.size wx w5 := (below_drewN (Below.refl _ _) _).trans hb5; have hLo := HL.out.out.up hb; obtain ⟨oc, of_, os⟩ := id hLo; have hrow : OwX 5 61 w5 wq.heap.size (.slice aol i capl) C' := (by simpa using (HL.out.row.up keepOV hb).row); have hCl2 : C'.length = i := (by have := All2.len HL.out.row.rel; rw [List.length_take] at this; omega); have hbs := hb.size) | (refine wp_append_slx _ _ 58 rfl wq.heap.size 61 zObj 5 88 objTy' objIn rfl (by decide) (.slice aol i capl) C' rfl (hrow.up (alb _ _)) _ [[.int .i64 2, .int .i64 ((0 : Nat) : Int), .slice none 0 0, .slice none 0 0, .slice none 0 0]] rfl (SlX.lit1 w5 _ rfl [.int .i64 2, .int .i64 ((0 : Nat) : Int), .slice none 0 0, .slice none 0 0, .slice none 0 0] _ 5 rfl) hone (by simp; omega) (by decide) (Nat.le_trans hbz (Nat.le_trans hbs (alb _ _).size)) ?_; intro v8 w8 r1 r2 r3; obtain ⟨g8, cap8, rfl⟩ := r1.cons (by simp); have e8 : (C' ++ ([[.int .i64 2, .int .i64 ((0 : Nat) : Int), .slice none 0 0, .slice none 0 0, .slice none 0 0]] : List (List Value))).length = i + 1 := (by rw [List.length_append, hCl2]; rfl); rw [e8] at r1 r3; have hne8 : (Value.slice aol i capl).ownBlock ≠ some w2.heap.size := (fun q => by have := (hrow.lt _ q).1; omega); have hLo := (hLo.up (alb _ _)).grown r2 hne8; obtain ⟨oc, of_, os⟩ := id hLo))
            all_goals
              go_wp2_with fail
              go_roundw
              case rel => exact ⟨i + 1, _, _, _, _, by go_num, by omega, rfl, HPe.out, HL.out.push (by omega) (below_then hb (alb w5 _)) (by rw [HLe.out]; exact OV.num 2 ((0 : Nat) : Int)) r1 r2 r3 hgo⟩
              case measure => simp [intOf]; omega
    · obtain rfl : i = l.length := by omega
      have hiz : ¬ (l.length : Int) < (l.length : Int) := by omega
      have hWr : Below w.heap.size w wr := hbW.trans (hL.hh.below hbW.size hb12.size hb12.size)
      have hPl : P.length ≤ 721 := by rw [hP]; have := rtxt_len (l := l) (g := gs) (i := l.length) (Nat.le_refl _); omega
      obtain ⟨Z, hZ⟩ : ∃ Z, Z = P ++ [93] := ⟨_, rfl⟩
      have a1 : ∀ w, (Op.stringOp .add (st P) ⟨#[93]⟩).run Try.prog w = .ok (.string (st Z)) w := fun w => by rw [hZ]; exact st_add P [93] (by simp; omega) w
      have hZl : Z.length ≤ 722 := by rw [hZ]; simp; omega
      have hZe : Z = 91 :: itxs (itL l gs) := by
        rw [hZ, hP]; unfold rtxt itxs
        rw [List.take_of_length_le (by rw [itL_len]; exact Nat.le_refl _)]; rfl
      have HPV := hid (show PV false (.v (dep 3)) Z (.ok (poArr LL) []) from by rw [hZe, HLL.out]; exact refs_ok (itL l gs) (itL_ok l gs))
      clear hZ hZe hP
      have hZz := st_size Z
      have kb := fun (w : World) (s : List UInt8) => convW_run (P := Try.prog) 9 25 5 (by kernel_rfl) Try.underlying25 Try.underlying5 w s
      have hT : LL.take l.length = LL := List.take_of_length_le (by omega)
      have hrow := hL.row
      rw [hT] at hrow
      have hCl : C'.length = l.length := by have := All2.len hrow.rel; omega
      have hrl := hrow.row.row (A := fun _ => True) (fun _ _ _ => trivial)
      rw [List.map_id'] at hrl
      have hus : OV (fun _ => True) wr [.int .i64 6, .int .i64 0, .slice none 0 0, .slice aol l.length capl, .slice none 0 0] (poArr LL) :=
        OV.make (b := []) (d := []) (D := []) (C := C') (SlA.nil _ _) hrl (hrow.wide keepOV (fun _ _ _ => trivial)) (RowA.nil _ _ _ _) .nil ⟨by simp, by omega, by simp⟩
      have HUS := hid hus
      have HL := hid hL
      obtain ⟨oc, of_, os⟩ := hL.out
      clear hL hrow hrl hus hT
      have HALL := hid (pall_any (.slice (some ⟨wr.heap.size, 0, none⟩) Z.length (convC wr 5 Z)) Z 3 (convW wr 5 Z) (Sl.convW wr 5 Z _ rfl (by omega)) (by omega))
      go_wp2_with (first | (go_at_call 41; refine ((same_of hov2.out _ [.int .i64 6, .int .i64 0, .slice none 0 0, .slice aol l.length capl, .slice none 0 0] (HUS.out.up hB5)) (w5.alloc (.cells #[.int .i64 y1, .int .i64 y2, .slice y3 y6 y7, .slice y4 y8 y9, .slice y5 y10 y11] 61)) (alb w5 (.cells #[.int .i64 y1, .int .i64 y2, .slice y3 y6 y7, .slice y4 y8 y9, .slice y5 y10 y11] 61))).mono ?_; rintro e w9 ⟨rfl, hb9⟩) | (go_at_call 40; refine HALL.out.mono ?_; rintro e w5 ⟨res, hpv, hq⟩; obtain rfl := PV.one hpv HPV.out; obtain ⟨vs, rfl, hov, hb5⟩ := AQ.ok hq; have hX := convW_below wr 5 Z; have hB5 := below_then hX hb5; have hV5 := hov.v5; have hov2 := hid hov; clear hov hq hpv; have hLo := HL.out.out.up hB5; obtain ⟨oc, of_, os⟩ := id hLo; obtain ⟨y1, y2, y3, y4, y5, y6, y7, y8, y9, y10, y11, rfl⟩ := hV5))
      go_ret
      exact ⟨rfl, hWr.trans ((below_then (below_then hB5 (alb _ _)) hb9).mono hWr.size)⟩
end Go.Proofs.Ytlmgklebikcbjaa

/-
  ParseRefs: whole numbers in a row, and the words between: references are just those of three, the others stay numbers. No condition.
-/
namespace Go.Proofs.Ytlmgklebikcbjaa
open Go.ChangeShapes Go.WideShapes Go.ChangeAt Go.RowKit
open Go.ChangeMaps (open_string shut_string)
set_option linter.unusedVariables false

set_option maxRecDepth 100000 in
theorem refs_lifted (os : Os) (started : os.Started) (H : Type) (enc : TypeId × Value → H) :
    ReturnsInHanded {} Try.checked os 10 .any (Rows.parseRefsSpec.pre6 enc Try.prog Try.f10 Rows.parseRefsRow.domain false) (Rows.parseRefsSpec.post enc Try.prog Try.f10 false true false false) := by
  refine returnsInHanded_of_change (C := Try.checked) own9 started (by kernel_rfl) Try.func10
    (ChangeSpec.witness6 (enc := enc) (C := Try.checked) false ⟨#[], #[.slice none 0 0, .slice none 0 0], []⟩ 8 (by kernel_rfl) (by kernel_rfl) (by kernel_rfl) (by kernel_rfl)) ?_
  intro W base args ds gs before hval0 hW hcnd _
  have hval : ∀ (j : Nat) t v, Try.f10.params[j]? = some t → args[j]? = some v → Value.okWide Try.prog W .any base t v := hval0
  have hW' := hW
  obtain ⟨p, q, hA0, hV, rfl, hfz, hnd⟩ := hW
  have hA : DataW.TrodAll enc Try.prog W 0 (fun _ => true) true Try.f10.params.toList args.toList ds p := hA0
  rw [Try.params10] at hA hval
  obtain ⟨v0, v1, d0, d1, p0, p1, rfl, rfl, rfl, h0, h1⟩ := trodAll_two hA
  obtain ⟨rfl, rfl⟩ := trodVars_none hV
  obtain ⟨l0, hl0⟩ := sl16_open (hval 0 57 v0 rfl rfl) h0
  obtain ⟨l1, hl1⟩ := sl_open (hval 1 25 v1 rfl rfl) h1
  clear hA0 hval0
  refine (refs_any v0 l0 v1 l1 W hl0 hl1).mono fun e W' ⟨he, bel⟩ => ?_
  subst he
  exact ⟨_, rfl, _, _, _, [], _, [], hW', trodAll_mk1 (shut_bool Try.underlying4 _), trodAll_mk2 (Below.trod laidOut9 (by kernel_rfl) (of_decide_eq_true (by kernel_rfl)) h0 bel (trod_lt h0)) (Below.trod laidOut9 (by kernel_rfl) (of_decide_eq_true (by kernel_rfl)) h1 bel (trod_lt h1)), rfl, bel.frame _, fun h => by cases h⟩

set_option maxRecDepth 100000 in
theorem refs_holds : Rows.ParseRefsSaid :=
  OpenClaim.holds_of_wide 10 Try.f10 rfl rfl rfl rfl rfl rfl rfl ⟨rfl, rfl, rfl, rfl, rfl⟩ rfl rfl rfl rfl rfl (by kernel_rfl) Try.func10 (by kernel_rfl)
    (of_decide_eq_true (by kernel_rfl)) (by unfold Func.isWrapper; first | (rw [if_pos (by decide +kernel)]; kernel_rfl) | (rw [if_neg (by decide +kernel)]; exact ⟨rfl, rfl⟩))
    (fun os started H enc _ => refs_lifted os started H enc)
#print axioms refs_holds
end Go.Proofs.Ytlmgklebikcbjaa
