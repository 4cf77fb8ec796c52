/-
  Plain laws of contents: operators that are written one behind the other are read as they were. No program here.
-/
import Derived.Test.YtjkoiknjffldjaaGreatDoorKShw
import Derived.Test.YtjkoiknjffldjaaGreatDoorKKin
/-
  Plain laws of contents: operators that are written one behind the other are read as they were. No program here.
-/
namespace Go.Proofs.YtjkoiknjffldjaaGreatDoor
set_option linter.unusedVariables false

/-- one white sign or none -/
def Bw (g : List UInt8) : Prop := g = [] ∨ g = [32] ∨ g = [10]
theorem Bw.dr {g : List UInt8} (h : Bw g) (s : List UInt8) : (g ++ s).drop (bl (g ++ s) false) = s.drop (bl s false) := by
  have hx : ∀ x : UInt8, wh (c8 x) = true → (x :: s).drop (bl (x :: s) false) = s.drop (bl s false) := fun x hx => by
    have e : bl (x :: s) false = 1 + bl s false := by rw [bl_cons, if_pos hx]
    rw [e, Nat.add_comm, List.drop_succ_cons]
  rcases h with rfl | rfl | rfl
  · rfl
  · exact hx 32 (by decide)
  · exact hx 10 (by decide)
theorem Bw.tk {g : List UInt8} (h : Bw g) (s : List UInt8) : TK (g ++ s) = TK s := by unfold TK; rw [h.dr]
theorem Bw.v {g : List UInt8} (h : Bw g) (q : Bool) (f d : Nat) (s : List UInt8) : pF q f (.v d) (g ++ s) = pF q f (.v d) s := by
  have h1 := h.tk s
  have h2 := h.dr s
  cases f with
  | zero => rfl
  | succ f => rw [pF, pF, h1, h2]
theorem Bw.pv {g : List UInt8} (h : Bw g) {q : Bool} {d : Nat} {s : List UInt8} {res : PRes} (k : PV q (.v d) s res) : PV q (.v d) (g ++ s) res := by
  obtain ⟨f, hf⟩ := k
  exact ⟨f, by rw [h.v]; exact hf⟩
theorem Bw.plc {g : List UInt8} (h : Bw g) (N : Nat) (s : List UInt8) : plc N (g ++ s) = plc N s := by unfold Go.Proofs.YtjkoiknjffldjaaGreatDoor.plc; rw [h.dr]
/-- an operand that is written and read -/
def ArgOk (a : PO) : Prop := mayF 28 a = true ∧ ¬ a.kind = 8 ∧ refF 28 a = 0
def argB (as_ : List PO) : List UInt8 := as_.flatMap fun a => shwF 28 a ++ [32]
theorem args_ok {N : Nat} {tail : List UInt8} {res : ORes} : ∀ (as_ acc : List PO) (g : List UInt8), Bw g → (∀ a ∈ as_, ArgOk a) → acc.length + as_.length ≤ 33 → (∀ g', Bw g' → OP N (acc ++ as_) (g' ++ tail) res) → OP N acc (g ++ (argB as_ ++ tail)) res
  | [], acc, g, hg, _, _, h => by
    have := h g hg
    rw [List.append_nil] at this
    exact this
  | a :: as_, acc, g, hg, ha, hl, h => by
    rw [List.length_cons] at hl
    obtain ⟨h1, h2, h3⟩ := ha a (List.mem_cons_self ..)
    obtain ⟨p1, k, n, out, t, p2, -, p3, p4⟩ := shw_ok 28 a h1 h2 h3 (32 :: (argB as_ ++ tail)) (by show rg (c8 32) = false; decide)
    have ih := args_ok as_ (acc ++ [a]) [32] (.inr (.inl rfl)) (fun x hx => ha x (List.mem_cons_of_mem _ hx)) (by simp; omega) (fun g' hg' => by
      have := h g' hg'
      rw [List.append_assoc]; exact this)
    have e : argB (a :: as_) ++ tail = shwF 28 a ++ 32 :: (argB as_ ++ tail) := by unfold argB; simp
    rw [e]
    exact OP.step (by rw [hg.tk]; exact p2) p3 p4 (hg.pv p1) (by omega) ih

/-- an operator's name: one word -/
def wOk : List UInt8 → Bool
  | [] => false
  | x :: w => (x :: w).all (fun y => rg (c8 y)) && decide ((x :: w).length ≤ 127) && !(decide (c8 x = 43) || decide (c8 x = 45) || decide (c8 x = 46) || (decide (48 ≤ c8 x) && decide (c8 x ≤ 57))) && !wh (c8 x) && !decide (c8 x = 37) && !decide (c8 x = 91) && !decide (c8 x = 93) && !decide (c8 x = 60) && !decide (c8 x = 62) && !decide (c8 x = 47) && !decide (c8 x = 40) && !(x :: w == [116, 114, 117, 101]) && !(x :: w == [102, 97, 108, 115, 101]) && !(x :: w == [110, 117, 108, 108])
theorem wOk_all : ∀ r ∈ kRows, ∀ n ∈ Lib.fields r.2, wOk n = true := by decide +kernel
theorem kindIn_ok : ∀ (rs : List (List UInt8 × List UInt8)) (n : List UInt8), (∀ r ∈ rs, ∀ n ∈ Lib.fields r.2, wOk n = true) → (kindIn rs n).isSome = true → wOk n = true
  | [], n, _, h => by cases h
  | r :: rs, n, hr, h => by
    by_cases q : n ∈ Lib.fields r.2
    · exact hr r (List.mem_cons_self ..) n q
    · rw [kindIn_no q] at h
      exact kindIn_ok rs n (fun x hx => hr x (List.mem_cons_of_mem _ hx)) h
theorem kind_ok {n : List UInt8} (h : (kindOf n).isSome = true) : wOk n = true := kindIn_ok kRows n wOk_all h
theorem TK_op {n : List UInt8} (h : wOk n = true) {r : List UInt8} (hr : rg (hd r) = false) : TK (n ++ r) = .tok 9 0 n r ∧ wordO n = none := by
  cases n with
  | nil => cases h
  | cons x w =>
    unfold wOk at h
    simp only [Bool.and_eq_true, Bool.not_eq_true', Bool.or_eq_false_iff, Bool.and_eq_false_iff, decide_eq_true_eq, decide_eq_false_iff_not, List.all_eq_true, beq_eq_false_iff_ne, ne_eq] at h
    obtain ⟨⟨⟨⟨⟨⟨⟨⟨⟨⟨⟨⟨⟨a1, a2⟩, a3⟩, a4⟩, a5⟩, a6⟩, a7⟩, a8⟩, a9⟩, a10⟩, a11⟩, a12⟩, a13⟩, a14⟩ := h
    exact ⟨TK_word x w r a1 hr a2 (by omega) a4 a5 a6 a7 a8 a9 a10 a11, by unfold wordO; rw [if_neg a12, if_neg a13, if_neg a14]⟩

def bImg : List UInt8 := [66, 73, 32, 47, 87, 32, 49, 32, 73, 68, 32]
def bEnd : List UInt8 := [32, 69, 73, 10]
/-- no word EI stands within -/
def noEI (l : List UInt8) : Prop := ∀ j, ¬ (hd (l.drop j) = 69 ∧ hd (l.drop (j + 1)) = 73)
theorem imgN_data : ∀ (l r : List UInt8), noEI l → imgN (l ++ bEnd ++ r) = some l.length
  | [], r, _ => by
    show imgN (32 :: 69 :: 73 :: 10 :: r) = some 0
    rw [imgN, if_pos]
    unfold endI
    simp only [List.drop_succ_cons, List.drop_zero, hd_cons]
    decide
  | x :: l, r, h => by
    have h2 : noEI l := fun j => by have := h (j + 1); simpa using this
    have ih := imgN_data l r h2
    have he : ¬ endI (x :: (l ++ bEnd ++ r)) = true := by
      intro q
      unfold endI at q
      simp only [Bool.and_eq_true, beq_iff_eq, List.drop_succ_cons, List.drop_zero] at q
      obtain ⟨-, q1, q2, -⟩ := q
      cases l with
      | nil =>
        have q1 : (c8 32 : Int) = 69 := q1
        exact absurd q1 (by decide)
      | cons y l =>
        cases l with
        | nil =>
          have q2 : (c8 32 : Int) = 73 := q2
          exact absurd q2 (by decide)
        | cons z l =>
          exact h 1 ⟨q1, q2⟩
    show imgN (x :: (l ++ bEnd ++ r)) = _
    rw [imgN, if_neg he, ih]
    rfl
theorem imgF_data (l r : List UInt8) (h : noEI l) : imgF (32 :: (l ++ bEnd ++ r)) = .inr (l, 10 :: r) := by
  rw [imgF, if_pos (by decide), imgN_data l r h]
  simp only []
  have e1 : (l ++ bEnd ++ r).take l.length = l := by rw [List.append_assoc, List.take_left]
  have e2 : (l ++ bEnd ++ r).drop (l.length + 3) = 10 :: r := by
    rw [List.append_assoc, List.drop_append, List.drop_eq_nil_of_le (by omega), show l.length + 3 - l.length = 3 by omega]; rfl
  rw [e1, e2]
def poW : PO := dictOf [([87], poInt 1)]
theorem img_ok {N : Nat} {g : List UInt8} (hg : Bw g) (l r : List UInt8) (h : noEI l) : OP N [] (g ++ (bImg ++ (l ++ bEnd ++ r))) (.op ⟨bBI, [poW], l, plc N (bImg ++ (l ++ bEnd ++ r))⟩ (10 :: r)) := by
  obtain ⟨S, hS⟩ : ∃ S, S = l ++ bEnd ++ r := ⟨_, rfl⟩
  have hF := imgF_data l r h
  rw [← hS] at hF ⊢
  have h32 : ∀ t : List UInt8, rg (hd (32 :: t)) = false := fun t => by show rg (c8 32) = false; decide
  have b32 : Bw [32] := .inr (.inl rfl)
  have t1 : TK (g ++ (bImg ++ S)) = .tok 9 0 bBI (32 :: 47 :: 87 :: 32 :: 49 :: 32 :: 73 :: 68 :: 32 :: S) := by
    rw [hg.tk]
    exact TK_word 66 [73] _ (by decide) (h32 _) (by decide) (by decide) (by decide) (by decide) (by decide) (by decide) (by decide) (by decide) (by decide) (by decide)
  have t2 : TK (32 :: 47 :: 87 :: 32 :: 49 :: 32 :: 73 :: 68 :: 32 :: S) = .tok 4 0 [87] (32 :: 49 :: 32 :: 73 :: 68 :: 32 :: S) := by
    have := b32.tk (47 :: 87 :: 32 :: 49 :: 32 :: 73 :: 68 :: 32 :: S)
    refine this.trans ?_
    exact TK_pnm' [87] (32 :: 49 :: 32 :: 73 :: 68 :: 32 :: S) (by decide) (h32 _)
  have t3 : TK (49 :: 32 :: 73 :: 68 :: 32 :: S) = .tok 1 1 [] (32 :: 73 :: 68 :: 32 :: S) := by
    have h1 := (TK_pnum true 1 (32 :: 73 :: 68 :: 32 :: S) (by decide) (by decide) (fun _ => by decide) (h32 _)).1
    rw [show pnum true 1 = [49] by decide +kernel] at h1
    exact h1
  have t4 : TK (32 :: 73 :: 68 :: 32 :: S) = .tok 9 0 bID (32 :: S) := by
    have := b32.tk (73 :: 68 :: 32 :: S)
    refine this.trans ?_
    exact TK_word 73 [68] _ (by decide) (h32 _) (by decide) (by decide) (by decide) (by decide) (by decide) (by decide) (by decide) (by decide) (by decide) (by decide)
  have d1 : DI [] [] (32 :: 47 :: 87 :: 32 :: 49 :: 32 :: 73 :: 68 :: 32 :: S) (.ok poW (32 :: S)) := DI.step t2 (by simp) (b32.pv (PV.tok1 t3)) (DI.close t4)
  have h1 := OP.img (N := N) (args := []) t1 d1
  have e : bik ([] : List PO).length (plc N (g ++ (bImg ++ S))) (.ok poW (32 :: S)) = .op ⟨bBI, [poW], l, plc N (bImg ++ S)⟩ (10 :: r) := by
    unfold bik
    simp only []
    rw [hF, hg.plc]
    rfl
  rw [e] at h1
  exact h1

/-- an operator, an image behind it or none -/
structure BO where
  name : List UInt8
  args : List PO
  img : Option (List UInt8)
def BOk (o : BO) : Prop := (kindOf o.name).isSome = true ∧ ¬ o.name = bBI ∧ o.args.length ≤ 33 ∧ (∀ a ∈ o.args, ArgOk a) ∧ ∀ l, o.img = some l → noEI l
def imgB : Option (List UInt8) → List UInt8
  | none => []
  | some l => bImg ++ (l ++ bEnd)
def opB (o : BO) : List UInt8 := argB o.args ++ (o.name ++ 32 :: imgB o.img)
/-- the operators that are read, the first byte at a place -/
def wantO (p : Nat) (o : BO) : List CO := ⟨o.name, o.args, [], ((p + (argB o.args).length : Nat) : Int)⟩ :: match o.img with
  | none => []
  | some l => [⟨bBI, [poW], l, ((p + (argB o.args).length + o.name.length + 1 : Nat) : Int)⟩]
def wants : Nat → List BO → List CO
  | _, [] => []
  | p, o :: os => wantO p o ++ wants (p + (opB o).length) os
theorem wants_len : ∀ (p : Nat) (os : List BO), (wants p os).length ≤ 2 * os.length
  | _, [] => by simp [wants]
  | p, o :: os => by
    have h := wants_len (p + (opB o).length) os
    have h1 : (wantO p o).length ≤ 2 := by unfold wantO; cases o.img <;> simp
    rw [wants, List.length_append, List.length_cons]
    omega
theorem plc_at {N : Nat} {s : List UInt8} {p : Nat} (h : bl s false = 0) (hp : p + s.length = N) : plc N s = (p : Int) := by
  unfold plc
  rw [h, List.drop_zero]
  omega
theorem wOk_bl {n : List UInt8} (h : wOk n = true) (r : List UInt8) : bl (n ++ r) false = 0 := by
  cases n with
  | nil => cases h
  | cons x w =>
    unfold wOk at h
    simp only [Bool.and_eq_true, Bool.not_eq_true', decide_eq_false_iff_not] at h
    obtain ⟨⟨⟨⟨⟨⟨⟨⟨⟨⟨⟨⟨⟨a1, a2⟩, a3⟩, a4⟩, a5⟩, a6⟩, a7⟩, a8⟩, a9⟩, a10⟩, a11⟩, a12⟩, a13⟩, a14⟩ := h
    rw [List.cons_append, bl_cons, if_neg (by rw [a4]; decide), if_neg a5]
theorem back_all {N : Nat} : ∀ (os : List BO) (acc : List CO) (g : List UInt8) (p : Nat), Bw g → (∀ o ∈ os, BOk o) → p + (os.flatMap opB).length = N → acc.length + 2 * os.length < 100000 → AL N acc (g ++ os.flatMap opB) (.ok (acc ++ wants p os))
  | [], acc, g, p, hg, _, _, _ => by
    have hT : TK (g ++ []) = .tok 0 0 [] [] := by rw [hg.tk]; rfl
    have h := AL.fin (l := acc) (OP.fin (N := N) hT)
    rw [wants, List.append_nil]
    exact h
  | o :: os, acc, g, p, hg, h, hp, hl => by
    obtain ⟨k1, k2, k3, k4, k5⟩ := h o (List.mem_cons_self ..)
    have hw := kind_ok k1
    rw [List.flatMap_cons, List.length_append] at hp
    rw [List.length_cons] at hl
    have hos : ∀ x ∈ os, BOk x := fun x hx => h x (List.mem_cons_of_mem _ hx)
    obtain ⟨R, hR⟩ : ∃ R, R = os.flatMap opB := ⟨_, rfl⟩
    have h32 : ∀ t : List UInt8, rg (hd (32 :: t)) = false := fun t => by show rg (c8 32) = false; decide
    have e0 : g ++ (o :: os).flatMap opB = g ++ (argB o.args ++ (o.name ++ 32 :: (imgB o.img ++ R))) := by
      rw [List.flatMap_cons, ← hR]; unfold opB; simp
    have hlen : (opB o).length = (argB o.args).length + (o.name.length + 1 + (imgB o.img).length) := by unfold opB; simp; omega
    have hpl : plc N (o.name ++ 32 :: (imgB o.img ++ R)) = ((p + (argB o.args).length : Nat) : Int) := by
      refine plc_at (wOk_bl hw _) ?_
      rw [← hR] at hp
      simp
      omega
    have hop : OP N [] (g ++ (argB o.args ++ (o.name ++ 32 :: (imgB o.img ++ R)))) (.op ⟨o.name, o.args, [], ((p + (argB o.args).length : Nat) : Int)⟩ (32 :: (imgB o.img ++ R))) := by
      refine args_ok o.args [] g hg k4 (by simpa using k3) fun g' hg' => ?_
      obtain ⟨t1, t2⟩ := TK_op hw (r := 32 :: (imgB o.img ++ R)) (h32 _)
      have h9 := OP.word (N := N) (args := o.args) (s := g' ++ (o.name ++ 32 :: (imgB o.img ++ R))) (by rw [hg'.tk]; exact t1) t2 k2
      rw [hg'.plc, hpl] at h9
      rw [List.nil_append]
      exact h9
    rw [e0]
    cases hi : o.img with
    | none =>
      rw [hi] at hop hlen
      have ih := back_all (N := N) os (acc ++ [⟨o.name, o.args, [], ((p + (argB o.args).length : Nat) : Int)⟩]) [32] (p + (opB o).length) (.inr (.inl rfl)) hos (by rw [← hR] at hp ⊢; omega) (by simp; omega)
      have h2 := AL.step (l := acc) hop (by omega) (by rw [← hR] at ih; exact ih)
      rw [wants, wantO, hi]
      simpa using h2
    | some l =>
      rw [hi] at hop hlen
      have hp2 : plc N (bImg ++ (l ++ bEnd ++ R)) = ((p + (argB o.args).length + o.name.length + 1 : Nat) : Int) := by
        refine plc_at (by unfold bImg; rw [List.cons_append, bl_cons, if_neg (by decide), if_neg (by decide)]) ?_
        rw [← hR] at hp
        have hx : (imgB (some l)).length = bImg.length + (l.length + bEnd.length) := by unfold imgB; simp
        simp
        omega
      have him := img_ok (N := N) (g := [32]) (.inr (.inl rfl)) l R (k5 l hi)
      rw [hp2] at him
      have ih := back_all (N := N) os (acc ++ [⟨o.name, o.args, [], ((p + (argB o.args).length : Nat) : Int)⟩] ++ [⟨bBI, [poW], l, ((p + (argB o.args).length + o.name.length + 1 : Nat) : Int)⟩]) [10] (p + (opB o).length) (.inr (.inr rfl)) hos (by rw [← hR] at hp ⊢; omega) (by simp; omega)
      rw [← hR] at ih
      have h3 := AL.step him (by simp; omega) ih
      have e1 : [32] ++ (bImg ++ (l ++ bEnd ++ R)) = 32 :: (imgB (some l) ++ R) := by unfold imgB; simp
      rw [e1] at h3
      have h2 := AL.step (l := acc) hop (by omega) h3
      rw [wants, wantO, hi]
      simpa using h2
end Go.Proofs.YtjkoiknjffldjaaGreatDoor
