/-
  Plain laws of printed objects: what is printed is read. No program here.
-/
import Derived.Test.YtjkoiknjffldjaaGreatDoorKMae
import Derived.Test.YtjkoiknjffldjaaGreatDoorKLawNum
import Derived.Test.YtjkoiknjffldjaaGreatDoorJa
import Derived.Test.YtjkoiknjffldjaaGreatDoorKLawBl
import Derived.Test.YtjkoiknjffldjaaGreatDoorKCtl
import Derived.Test.YtjkoiknjffldjaaGreatDoorHc
/-
  Plain laws of printed objects: what is printed is read. No program here.
-/
namespace Go.Proofs.YtjkoiknjffldjaaGreatDoor
set_option linter.unusedVariables false

def bTrue : List UInt8 := [116, 114, 117, 101]
def bFalse : List UInt8 := [102, 97, 108, 115, 101]
def bNull : List UInt8 := [110, 117, 108, 108]
/-- items with a blank between -/
def shwA (f : PO → List UInt8) : List PO → List UInt8
  | [] => []
  | x :: l => f x ++ l.flatMap fun y => 32 :: f y
def shwE (f : PO → List UInt8) (e : List UInt8 × PO) : List UInt8 := 47 :: (e.1.flatMap pn1 ++ 32 :: f e.2)
/-- an object as it is printed, what it holds as f says -/
def shwS (f : PO → List UInt8) : PO → List UInt8
  | .mk k n b l d =>
    if k = 1 then (if n = 1 then bTrue else bFalse)
    else if k = 2 then pnum true n
    else if k = 3 then pnum false n
    else if k = 4 then ptx b
    else if k = 5 then 47 :: b.flatMap pn1
    else if k = 9 then pnum true n ++ [32, 48, 32, 82]
    else if k = 6 then 91 :: (shwA f l ++ [93])
    else if k = 7 ∨ k = 8 then 60 :: 60 :: (d.flatMap (shwE f) ++ [62, 62])
    else bNull
def shwF : Nat → PO → List UInt8
  | 0, o => shwS (fun _ => []) o
  | dp + 1, o => shwS (shwF dp) o
/-- how many references an object holds -/
def refS (f : PO → Nat) : PO → Nat
  | .mk k n b l d => if k = 9 then 1 else if k = 6 then (l.map f).sum else if k = 7 ∨ k = 8 then (d.map fun e => f e.2).sum else 0
def refF : Nat → PO → Nat
  | 0, o => refS (fun _ => 0) o
  | dp + 1, o => refS (refF dp) o

/-- a word of regular bytes -/
theorem TK_word (x : UInt8) (w r : List UInt8) (h : ∀ y ∈ x :: w, rg (c8 y) = true) (hr : rg (hd r) = false) (hl : (x :: w).length ≤ 127) (hx : ¬ (c8 x = 43 ∨ c8 x = 45 ∨ c8 x = 46 ∨ 48 ≤ c8 x ∧ c8 x ≤ 57)) (hw : wh (c8 x) = false) (h37 : ¬ c8 x = 37) (h91 : ¬ c8 x = 91) (h93 : ¬ c8 x = 93) (h60 : ¬ c8 x = 60) (h62 : ¬ c8 x = 62) (h47 : ¬ c8 x = 47) (h40 : ¬ c8 x = 40) : TK (x :: w ++ r) = .tok 9 0 (x :: w) r := by
  have hn := rn_app (x :: w) r h hr
  unfold TK
  have hb : bl (x :: w ++ r) false = 0 := by rw [List.cons_append, bl_cons, if_neg (by rw [hw]; decide), if_neg h37]
  rw [hb, List.drop_zero, List.cons_append, tk, if_neg h91, if_neg h93, if_neg (fun q => h60 q.1), if_neg (fun q => h62 q.1), if_neg h47, if_neg h40, if_neg h60, if_neg hx, if_pos (h x (List.mem_cons_self ..))]
  rw [← List.cons_append, hn, if_neg (by omega), List.take_left, List.drop_left]
theorem TK_ptx' (s r : List UInt8) (hs : s.length ≤ 32767) : TK (ptx s ++ r) = .tok 3 0 s r := by
  have h1 := tk_ptx s r hs
  have : ∃ x t, ptx s = x :: t ∧ (x = 40 ∨ x = 60) := by
    unfold ptx
    by_cases q : s.all plain1 = true
    · rw [if_pos q]; exact ⟨_, _, rfl, .inl rfl⟩
    · rw [if_neg q]; exact ⟨_, _, rfl, .inr rfl⟩
  obtain ⟨x, t, hx, hq⟩ := this
  rw [hx, List.cons_append] at h1 ⊢
  have hw : wh (c8 x) = false ∧ ¬ c8 x = 37 := by rcases hq with rfl | rfl <;> decide
  unfold TK
  rw [bl_cons, if_neg (by rw [hw.1]; decide), if_neg hw.2]
  exact h1
theorem TK_pnm' (b r : List UInt8) (h0 : nmOk b = true) (hr : rg (hd r) = false) : TK (47 :: (b.flatMap pn1 ++ r)) = .tok 4 0 b r := by
  unfold nmOk at h0
  simp only [Bool.and_eq_true, decide_eq_true_eq, List.all_eq_true] at h0
  have h1 := tk_pnm b r (fun c hc => by have := h0.2 c hc; simpa using this) h0.1 hr
  unfold TK
  rw [bl_cons, if_neg (by decide), if_neg (by decide)]
  exact h1
theorem TK_b91 (r : List UInt8) : TK (91 :: r) = .tok 5 0 [] r := by unfold TK; rw [bl_cons, if_neg (by decide), if_neg (by decide)]; rfl
theorem TK_b93 (r : List UInt8) : TK (93 :: r) = .tok 6 0 [] r := by unfold TK; rw [bl_cons, if_neg (by decide), if_neg (by decide)]; rfl
theorem TK_b60 (r : List UInt8) : TK (60 :: 60 :: r) = .tok 7 0 [] r := by unfold TK; rw [bl_cons, if_neg (by decide), if_neg (by decide)]; rfl
theorem TK_b62 (r : List UInt8) : TK (62 :: 62 :: r) = .tok 8 0 [] r := by unfold TK; rw [bl_cons, if_neg (by decide), if_neg (by decide)]; rfl
theorem TK_b32 (s : List UInt8) : TK (32 :: s) = TK s ∧ (32 :: s).drop (bl (32 :: s) false) = s.drop (bl s false) := by
  have h : bl (32 :: s) false = 1 + bl s false := by rw [bl_cons, if_pos (by decide)]
  have h2 : (32 :: s).drop (bl (32 :: s) false) = s.drop (bl s false) := by rw [h, Nat.add_comm, List.drop_succ_cons]
  exact ⟨by unfold TK; rw [h2], h2⟩
theorem pF_v32 (q : Bool) (f d : Nat) (s : List UInt8) : pF q f (.v d) (32 :: s) = pF q f (.v d) s := by
  obtain ⟨h1, h2⟩ := TK_b32 s
  cases f with
  | zero => rfl
  | succ f => rw [pF, pF, h1, h2]
theorem pF_a32 (q : Bool) (f d : Nat) (acc : List PO) (s : List UInt8) : pF q f (.a d acc) (32 :: s) = pF q f (.a d acc) s := by
  obtain ⟨h1, h2⟩ := TK_b32 s
  cases f with
  | zero => rfl
  | succ f => rw [pF, pF, h1, h2, pF_v32]
theorem PV.v32 {q : Bool} {d : Nat} {s : List UInt8} {res : PRes} (h : PV q (.v d) s res) : PV q (.v d) (32 :: s) res := by
  obtain ⟨f, hf⟩ := h
  exact ⟨f, by rw [pF_v32]; exact hf⟩
theorem PV.a32 {q : Bool} {d : Nat} {acc : List PO} {s : List UInt8} {res : PRes} (h : PV q (.a d acc) s res) : PV q (.a d acc) (32 :: s) res := by
  obtain ⟨f, hf⟩ := h
  exact ⟨f, by rw [pF_a32]; exact hf⟩
/-- what f writes of an object is read as it, whatever stands behind -/
def Good (f : PO → List UInt8) (d : Nat) (x : PO) : Prop := ∀ r, rg (hd r) = false → PV true (.v d) (f x ++ r) (.ok x r) ∧ ∃ k n out t, TK (f x ++ r) = .tok k n out t ∧ ¬ k = 6 ∧ ¬ k = 0 ∧ ¬ (k = 9 ∧ wordO out = none)
theorem arr_tail {f : PO → List UInt8} {d : Nat} : ∀ (l acc : List PO) (r : List UInt8), (∀ x ∈ l, Good f d x) → PV true (.a d acc) ((l.flatMap fun y => 32 :: f y) ++ 93 :: r) (.ok (poArr (acc ++ l)) r)
  | [], acc, r, _ => by
    have h := PV.a_close (q := true) (d := d) (acc := acc) (TK_b93 r)
    simpa using h
  | x :: l, acc, r, h => by
    have ih := arr_tail l (acc ++ [x]) r (fun y hy => h y (List.mem_cons_of_mem _ hy))
    have hr : rg (hd ((l.flatMap fun y => 32 :: f y) ++ 93 :: r)) = false := by
      cases l with
      | nil => show rg (c8 93) = false; decide
      | cons y l => show rg (c8 32) = false; decide
    obtain ⟨h1, k, n, out, t, h2, h3, -, -⟩ := h x (List.mem_cons_self ..) _ hr
    have h4 := PV.a_step h2 h3 h1 ih
    rw [List.append_assoc] at h4
    rw [List.flatMap_cons, List.append_assoc, List.cons_append]
    exact h4.a32
theorem arr_ok {f : PO → List UInt8} {d : Nat} (l : List PO) (r : List UInt8) (h : ∀ x ∈ l, Good f d x) : PV true (.a d []) (shwA f l ++ 93 :: r) (.ok (poArr l) r) := by
  cases l with
  | nil => exact PV.a_close (TK_b93 r)
  | cons x l =>
    have ih := arr_tail l [x] r (fun y hy => h y (List.mem_cons_of_mem _ hy))
    have hr : rg (hd ((l.flatMap fun y => 32 :: f y) ++ 93 :: r)) = false := by
      cases l with
      | nil => show rg (c8 93) = false; decide
      | cons y l => show rg (c8 32) = false; decide
    obtain ⟨h1, k, n, out, t, h2, h3, -, -⟩ := h x (List.mem_cons_self ..) _ hr
    have h4 := PV.a_step (acc := []) h2 h3 h1 ih
    rw [shwA, List.append_assoc]
    exact h4
theorem ent_ok {f : PO → List UInt8} {d : Nat} : ∀ (l : List (List UInt8 × PO)) (keys : List (List UInt8)) (ents : List (List UInt8 × PO)) (r : List UInt8), (∀ e ∈ l, nmOk e.1 = true ∧ Good f d e.2) → (keys ++ l.map (·.1)).Nodup → PV true (.m d keys ents) (l.flatMap (shwE f) ++ 62 :: 62 :: r) (.ok (dictOf (ents ++ l)) r)
  | [], keys, ents, r, _, _ => by
    have h := PV.m_close (q := true) (d := d) (keys := keys) (ents := ents) (TK_b62 r)
    simpa using h
  | e :: l, keys, ents, r, h, hn => by
    have hn2 : ((keys ++ [e.1]) ++ l.map (·.1)).Nodup := by simpa using hn
    have ih := ent_ok l (keys ++ [e.1]) (ents ++ [e]) r (fun y hy => h y (List.mem_cons_of_mem _ hy)) hn2
    have hk : ¬ e.1 ∈ keys := by
      intro q
      rw [List.map_cons, List.nodup_append] at hn
      exact hn.2.2 _ q _ (List.mem_cons_self ..) rfl
    have hr : rg (hd (l.flatMap (shwE f) ++ 62 :: 62 :: r)) = false := by
      cases l with
      | nil => show rg (c8 62) = false; decide
      | cons y l => show rg (c8 47) = false; decide
    obtain ⟨h0, hg⟩ := h e (List.mem_cons_self ..)
    obtain ⟨h1, -⟩ := hg _ hr
    have h2 := TK_pnm' e.1 (32 :: (f e.2 ++ (l.flatMap (shwE f) ++ 62 :: 62 :: r))) h0 (by show rg (c8 32) = false; decide)
    have h4 := PV.m_step h2 hk h1.v32 ih
    rw [List.append_assoc] at h4
    rw [List.flatMap_cons, List.append_assoc]
    unfold shwE
    simp only [List.cons_append, List.append_assoc]
    exact h4

/-- keys that rise, no Null: the entries are a dictionary as they stand -/
theorem wi_last (e : List UInt8 × PO) (hk : ¬ e.2.kind = 0) : ∀ (d : List (List UInt8 × PO)), (∀ x ∈ d, kle e.1 x.1 = false) → wi e d = d ++ [e]
  | [], _ => by rw [wi, if_neg hk]; rfl
  | x :: d, h => by
    have h1 := h x (List.mem_cons_self ..)
    have h2 : ¬ x.1 = e.1 := fun q => by rw [q, kle_refl] at h1; cases h1
    rw [wi, if_neg (fun q => by rw [h1] at q; exact absurd q.2 (by decide)), if_neg h2, wi_last e hk d (fun y hy => h y (List.mem_cons_of_mem _ hy))]
    rfl
theorem kle_total : ∀ a b : List UInt8, kle a b = false → kle b a = true
  | [], _, h => by cases h
  | _ :: _, [], _ => rfl
  | x :: a, y :: b, h => by
    rw [kle] at h ⊢
    by_cases h1 : x < y
    · rw [if_pos h1] at h; cases h
    · rw [if_neg h1] at h
      by_cases h2 : y < x
      · rw [if_pos h2]
      · rw [if_neg h2] at h
        rw [if_neg h2, if_neg h1]
        exact kle_total a b h
theorem kle_trans : ∀ a b c : List UInt8, kle a b = true → kle b c = true → kle a c = true
  | [], _, _, _, _ => by unfold kle; rfl
  | _ :: _, [], _, h, _ => by cases h
  | _ :: _, _ :: _, [], _, h => by cases h
  | x :: a, y :: b, z :: c, h, k => by
    rw [kle] at h k ⊢
    have lt : ∀ u v : UInt8, u < v ↔ u.toNat < v.toNat := fun u v => UInt8.lt_iff_toNat_lt
    have nlt : ∀ u v : UInt8, ¬ u < v ↔ v.toNat ≤ u.toNat := fun u v => by rw [lt]; omega
    by_cases h1 : x < y
    · have n1 := (lt _ _).1 h1
      by_cases k1 : y < z
      · have n2 := (lt _ _).1 k1
        rw [if_pos ((lt _ _).2 (by omega))]
      · rw [if_neg k1] at k
        have n2 := (nlt _ _).1 k1
        by_cases k2 : z < y
        · rw [if_pos k2] at k; cases k
        · have n3 := (nlt _ _).1 k2
          rw [if_pos ((lt _ _).2 (by omega))]
    · rw [if_neg h1] at h
      have n1 := (nlt _ _).1 h1
      by_cases h2 : y < x
      · rw [if_pos h2] at h; cases h
      · rw [if_neg h2] at h
        have n2 := (nlt _ _).1 h2
        by_cases k1 : y < z
        · have n3 := (lt _ _).1 k1
          rw [if_pos ((lt _ _).2 (by omega))]
        · rw [if_neg k1] at k
          have n3 := (nlt _ _).1 k1
          by_cases k2 : z < y
          · rw [if_pos k2] at k; cases k
          · rw [if_neg k2] at k
            have n4 := (nlt _ _).1 k2
            rw [if_neg ((nlt _ _).2 (by omega)), if_neg ((nlt _ _).2 (by omega))]
            exact kle_trans a b c h k
/-- keys that rise one by one -/
theorem rise_all {d : List (List UInt8 × PO)} (h : ∀ j, j < d.length → ¬ (0 < j ∧ kle (keyAt d j) (keyAt d (j - 1)) = true)) : ∀ (j i : Nat), i < j → j < d.length → kle (keyAt d j) (keyAt d i) = false := by
  intro j
  induction j with
  | zero => intro i hi; omega
  | succ j ih =>
    intro i hi hj
    have h1 : kle (keyAt d (j + 1)) (keyAt d j) = false := by
      have := h (j + 1) hj
      cases hq : kle (keyAt d (j + 1)) (keyAt d j) with
      | false => rfl
      | true => exact absurd ⟨by omega, hq⟩ this
    by_cases hij : i = j
    · subst hij; exact h1
    · have h2 := ih i (by omega) (by omega)
      have h3 := kle_total _ _ h2
      cases hq : kle (keyAt d (j + 1)) (keyAt d i) with
      | false => rfl
      | true => have := kle_trans _ _ _ hq h3; rw [h1] at this; cases this
theorem fold_take {d : List (List UInt8 × PO)} (h : ∀ (j i : Nat), i < j → j < d.length → kle (keyAt d j) (keyAt d i) = false) (h0 : ∀ j, j < d.length → ¬ (valAt d j).kind = 0) : ∀ n, n ≤ d.length → (d.take n).foldl (fun a e => wi e a) [] = d.take n
  | 0, _ => by simp
  | n + 1, hn => by
    have hlt : n < d.length := by omega
    rw [List.take_succ_eq_append_getElem hlt, List.foldl_append, fold_take h h0 n (by omega)]
    show wi d[n] (d.take n) = _
    refine wi_last _ ?_ _ fun x hx => ?_
    · have := h0 n hlt; rwa [valAt_at hlt] at this
    · obtain ⟨i, hi, rfl⟩ := List.getElem_of_mem hx
      rw [List.length_take] at hi
      have := h n i (by omega) hlt
      rw [keyAt_at hlt, keyAt_at (by omega)] at this
      rw [List.getElem_take]
      exact this
theorem dict_self {d : List (List UInt8 × PO)} (h : ∀ (j i : Nat), i < j → j < d.length → kle (keyAt d j) (keyAt d i) = false) (h0 : ∀ j, j < d.length → ¬ (valAt d j).kind = 0) : dictOf d = poDict d := by
  unfold dictOf
  have := fold_take h h0 d.length (Nat.le_refl _)
  rw [List.take_length] at this
  rw [this]
theorem keys_nodup {d : List (List UInt8 × PO)} (h : ∀ (j i : Nat), i < j → j < d.length → kle (keyAt d j) (keyAt d i) = false) : (d.map (·.1)).Nodup := by
  unfold List.Nodup
  rw [List.pairwise_iff_getElem]
  intro i j hi hj hij q
  rw [List.length_map] at hi hj
  have h1 := h j i hij hj
  rw [keyAt_at hj, keyAt_at hi] at h1
  rw [List.getElem_map, List.getElem_map] at q
  rw [q, kle_refl] at h1
  cases h1
theorem mayH_parts {k : Int} {b l d : Nat} (h : mayH k b l d = true) : (¬ k = 6 → l = 0) ∧ (¬ (k = 7 ∨ k = 8) → d = 0) ∧ (¬ (k = 4 ∨ k = 5 ∨ k = 8) → b = 0) := by
  unfold mayH at h
  simp only [Bool.not_eq_true', Bool.or_eq_false_iff, Bool.and_eq_false_iff, decide_eq_false_iff_not, bne_eq_false_iff_eq, Bool.not_eq_false', Bool.or_eq_true, beq_iff_eq] at h
  omega
theorem PV.tok1 {d : Nat} {s r out : List UInt8} {n : Int} (h : TK s = .tok 1 n out r) : PV true (.v d) s (.ok (poInt n) r) := ⟨1, by rw [pF, h]; simp [whole]⟩
theorem PV.tok2 {d : Nat} {s r out : List UInt8} {n : Int} (h : TK s = .tok 2 n out r) : PV true (.v d) s (.ok (poReal n) r) := ⟨1, by rw [pF, h]; simp⟩
theorem PV.tok3 {d : Nat} {s r out : List UInt8} {n : Int} (h : TK s = .tok 3 n out r) : PV true (.v d) s (.ok (poStr out) r) := ⟨1, by rw [pF, h]; simp⟩
theorem PV.tok4 {d : Nat} {s r out : List UInt8} {n : Int} (h : TK s = .tok 4 n out r) : PV true (.v d) s (.ok (poName out) r) := ⟨1, by rw [pF, h]; simp⟩
theorem PV.tok9 {d : Nat} {s r out : List UInt8} {n : Int} {o : PO} (h : TK s = .tok 9 n out r) (ho : wordO out = some o) : PV true (.v d) s (.ok o r) := ⟨1, by rw [pF, h]; simp [ho]⟩
theorem TK_true {r : List UInt8} (hr : rg (hd r) = false) : TK (bTrue ++ r) = .tok 9 0 bTrue r := TK_word 116 [114, 117, 101] r (by decide) hr (by decide) (by decide) (by decide) (by decide) (by decide) (by decide) (by decide) (by decide) (by decide) (by decide)
theorem TK_false {r : List UInt8} (hr : rg (hd r) = false) : TK (bFalse ++ r) = .tok 9 0 bFalse r := TK_word 102 [97, 108, 115, 101] r (by decide) hr (by decide) (by decide) (by decide) (by decide) (by decide) (by decide) (by decide) (by decide) (by decide) (by decide)
theorem TK_null {r : List UInt8} (hr : rg (hd r) = false) : TK (bNull ++ r) = .tok 9 0 bNull r := TK_word 110 [117, 108, 108] r (by decide) hr (by decide) (by decide) (by decide) (by decide) (by decide) (by decide) (by decide) (by decide) (by decide) (by decide)
/-- an object that holds no others -/
theorem flat_ok (f : PO → List UInt8) (fp : Option (PO → Bool)) (d : Nat) {k n : Int} {b : List UInt8} {l : List PO} {dd : List (List UInt8 × PO)} (hm : mayS fp (.mk k n b l dd) = true) (h6 : ¬ k = 6) (h7 : ¬ k = 7) (h8 : ¬ k = 8) (h9 : ¬ k = 9) (r : List UInt8) (hr : rg (hd r) = false) :
    PV true (.v d) (shwS f (.mk k n b l dd) ++ r) (.ok (.mk k n b l dd) r) ∧ ∃ k' n' out t, TK (shwS f (.mk k n b l dd) ++ r) = .tok k' n' out t ∧ ¬ k' = 6 ∧ ¬ k' = 0 ∧ ¬ (k' = 9 ∧ wordO out = none) := by
  unfold mayS at hm
  rw [Bool.and_eq_true] at hm
  obtain ⟨hh, hc⟩ := hm
  obtain ⟨p1, p2, p3⟩ := mayH_parts hh
  obtain rfl : l = [] := List.length_eq_zero_iff.1 (p1 h6)
  obtain rfl : dd = [] := List.length_eq_zero_iff.1 (p2 (by omega))
  have hb0 : ¬ k = 4 → ¬ k = 5 → b = [] := fun a c => List.length_eq_zero_iff.1 (p3 (by omega))
  clear hh p1 p2 p3
  unfold shwS
  simp only []
  by_cases k1 : k = 1
  · subst k1
    rw [if_pos rfl] at hc ⊢
    obtain rfl := hb0 (by decide) (by decide)
    by_cases n1 : n = 1
    · subst n1
      have hT := TK_true hr
      exact ⟨PV.tok9 hT rfl, _, _, _, _, hT, by decide, by decide, fun q => absurd q.2 (by decide)⟩
    · have n0 : n = 0 := by
        simp only [Bool.or_eq_true, beq_iff_eq] at hc
        omega
      subst n0
      have hT := TK_false hr
      exact ⟨PV.tok9 hT rfl, _, _, _, _, hT, by decide, by decide, fun q => absurd q.2 (by decide)⟩
  rw [if_neg k1] at hc ⊢
  by_cases k2 : k = 2
  · subst k2
    rw [if_pos rfl] at hc ⊢
    obtain rfl := hb0 (by decide) (by decide)
    simp only [Bool.and_eq_true, decide_eq_true_eq] at hc
    obtain ⟨hT, -⟩ := TK_pnum true n r (by omega) (by omega) (fun _ => hc) hr
    rw [if_pos rfl] at hT
    exact ⟨PV.tok1 hT, _, _, _, _, hT, by decide, by decide, fun q => absurd q.1 (by decide)⟩
  rw [if_neg k2] at hc ⊢
  by_cases k3 : k = 3
  · subst k3
    rw [if_pos rfl] at hc ⊢
    obtain rfl := hb0 (by decide) (by decide)
    simp only [Bool.and_eq_true, decide_eq_true_eq] at hc
    obtain ⟨hT, -⟩ := TK_pnum false n r (by omega) (by omega) (fun q => by cases q) hr
    rw [if_neg (by decide)] at hT
    exact ⟨PV.tok2 hT, _, _, _, _, hT, by decide, by decide, fun q => absurd q.1 (by decide)⟩
  rw [if_neg k3] at hc ⊢
  rw [if_neg h9] at hc
  by_cases n0 : n = 0
  rotate_left
  · rw [if_pos n0] at hc; cases hc
  subst n0
  rw [if_neg (fun q => q rfl)] at hc
  by_cases k4 : k = 4
  · subst k4
    rw [if_neg (by decide), if_pos rfl, decide_eq_true_eq] at hc
    rw [if_pos rfl]
    have hT := TK_ptx' b r hc
    exact ⟨PV.tok3 hT, _, _, _, _, hT, by decide, by decide, fun q => absurd q.1 (by decide)⟩
  by_cases k5 : k = 5
  · subst k5
    rw [if_neg (by decide), if_neg (by decide), if_pos rfl] at hc
    rw [if_neg k4, if_pos rfl]
    have hT := TK_pnm' b r hc hr
    exact ⟨PV.tok4 hT, _, _, _, _, hT, by decide, by decide, fun q => absurd q.1 (by decide)⟩
  rw [if_neg k4, if_neg k5, if_neg h9, if_neg h6, if_neg (by omega)]
  have k0 : k = 0 := by
    by_cases q : k = 0
    · exact q
    · rw [if_neg q, if_neg k4, if_neg k5, if_neg h6, if_neg (by omega)] at hc; cases hc
  subst k0
  obtain rfl := hb0 (by decide) (by decide)
  have hT := TK_null hr
  exact ⟨PV.tok9 hT rfl, _, _, _, _, hT, by decide, by decide, fun q => absurd q.2 (by decide)⟩

theorem sum_zero {α : Type} {f : α → Nat} : ∀ {l : List α}, (l.map f).sum = 0 → ∀ x ∈ l, f x = 0
  | [], _, x, hx => by cases hx
  | y :: l, h, x, hx => by
    rw [List.map_cons, List.sum_cons] at h
    rcases List.mem_cons.1 hx with q | q
    · subst q; omega
    · exact sum_zero (by omega) x q
/-- an object, if what it holds is read -/
theorem shwS_ok (f : PO → List UInt8) (mf : PO → Bool) (rf : PO → Nat) (d : Nat) (IH : ∀ x, mf x = true → ¬ x.kind = 8 → rf x = 0 → Good f d x) (o : PO) (hm : mayS (some mf) o = true) (h8 : ¬ o.kind = 8) (hr0 : refS rf o = 0) : Good (shwS f) (d + 1) o := by
  obtain ⟨k, n, b, l, dd⟩ := o
  have h8 : ¬ k = 8 := h8
  have h9 : ¬ k = 9 := fun q => by subst q; rw [refS, if_pos rfl] at hr0; cases hr0
  intro r hr
  by_cases h6 : k = 6
  · subst h6
    unfold mayS at hm
    rw [Bool.and_eq_true] at hm
    obtain ⟨hh, hc⟩ := hm
    obtain ⟨-, p2, p3⟩ := mayH_parts hh
    obtain rfl : dd = [] := List.length_eq_zero_iff.1 (p2 (by omega))
    obtain rfl : b = [] := List.length_eq_zero_iff.1 (p3 (by omega))
    rw [if_neg (by decide), if_neg (by decide), if_neg (by decide), if_neg (by decide)] at hc
    by_cases n0 : n = 0
    rotate_left
    · rw [if_pos n0] at hc; cases hc
    subst n0
    rw [if_neg (fun q => q rfl), if_neg (by decide), if_neg (by decide), if_neg (by decide), if_pos rfl] at hc
    simp only [List.all_eq_true, Bool.and_eq_true, bne_iff_ne, ne_eq] at hc
    rw [refS, if_neg (by decide), if_pos rfl] at hr0
    have hg : ∀ x ∈ l, Good f d x := fun x hx => IH x (hc x hx).2 (hc x hx).1 (sum_zero hr0 x hx)
    have e : shwS f (.mk 6 0 [] l []) ++ r = 91 :: (shwA f l ++ 93 :: r) := by
      show 91 :: (shwA f l ++ [93]) ++ r = _
      simp
    rw [e]
    have hT := TK_b91 (shwA f l ++ 93 :: r)
    exact ⟨PV.v_open hT (arr_ok l r hg), _, _, _, _, hT, by decide, by decide, fun q => absurd q.1 (by decide)⟩
  by_cases h7 : k = 7
  · subst h7
    unfold mayS at hm
    rw [Bool.and_eq_true] at hm
    obtain ⟨hh, hc⟩ := hm
    obtain ⟨p1, -, p3⟩ := mayH_parts hh
    obtain rfl : l = [] := List.length_eq_zero_iff.1 (p1 (by omega))
    obtain rfl : b = [] := List.length_eq_zero_iff.1 (p3 (by omega))
    rw [if_neg (by decide), if_neg (by decide), if_neg (by decide), if_neg (by decide)] at hc
    by_cases n0 : n = 0
    rotate_left
    · rw [if_pos n0] at hc; cases hc
    subst n0
    rw [if_neg (fun q => q rfl), if_neg (by decide), if_neg (by decide), if_neg (by decide), if_neg (by decide), if_pos (.inl rfl)] at hc
    unfold entF at hc
    simp only [Bool.and_eq_true, decide_eq_true_eq, List.all_eq_true, List.mem_range] at hc
    have hchk : ∀ j, j < dd.length → nmOk (keyAt dd j) = true ∧ ¬ (0 < j ∧ kle (keyAt dd j) (keyAt dd (j - 1)) = true) ∧ ¬ (valAt dd j).kind = 8 ∧ ¬ (valAt dd j).kind = 0 ∧ mf (valAt dd j) = true := fun j hj => by
      have h := hc.2 j hj
      unfold chkE at h
      simp only [Bool.and_eq_true, Bool.not_eq_true', Bool.and_eq_false_iff, decide_eq_false_iff_not, bne_iff_ne, ne_eq] at h
      obtain ⟨⟨⟨⟨a1, a2⟩, a3⟩, a4⟩, a5⟩ := h
      exact ⟨a1, fun q => a2.elim (fun a => a q.1) (fun a => by rw [a] at q; exact absurd q.2 (by decide)), a3, a4, a5⟩
    have hrise := rise_all (d := dd) fun j hj => (hchk j hj).2.1
    rw [refS, if_neg (by decide), if_neg (by decide), if_pos (.inl rfl)] at hr0
    have hg : ∀ e ∈ dd, nmOk e.1 = true ∧ Good f d e.2 := fun e he => by
      obtain ⟨j, hj, rfl⟩ := List.getElem_of_mem he
      obtain ⟨a1, -, a3, a4, a5⟩ := hchk j hj
      rw [keyAt_at hj] at a1
      rw [valAt_at hj] at a3 a4 a5
      exact ⟨a1, IH _ a5 a3 (sum_zero hr0 _ (List.getElem_mem hj))⟩
    have e : shwS f (.mk 7 0 [] [] dd) ++ r = 60 :: 60 :: (dd.flatMap (shwE f) ++ 62 :: 62 :: r) := by
      show 60 :: 60 :: (dd.flatMap (shwE f) ++ [62, 62]) ++ r = _
      simp
    rw [e]
    have hT := TK_b60 (dd.flatMap (shwE f) ++ 62 :: 62 :: r)
    have h1 := ent_ok dd [] [] r hg (keys_nodup hrise)
    rw [List.nil_append, dict_self hrise fun j hj => (hchk j hj).2.2.2.1] at h1
    exact ⟨PV.v_left hT h1, _, _, _, _, hT, by decide, by decide, fun q => absurd q.1 (by decide)⟩
  exact flat_ok f _ (d + 1) hm h6 h7 h8 h9 r hr
/-- what is printed is read -/
theorem shw_ok : ∀ (dp : Nat) (o : PO), mayF dp o = true → ¬ o.kind = 8 → refF dp o = 0 → Good (shwF dp) dp o
  | 0, .mk k n b l dd, hm, h8, hr0 => by
    have h8 : ¬ k = 8 := h8
    have h9 : ¬ k = 9 := fun q => by subst q; rw [refF, refS, if_pos rfl] at hr0; cases hr0
    have h67 : ¬ k = 6 ∧ ¬ k = 7 := by
      rw [mayF] at hm
      unfold mayS at hm
      constructor
      · intro q; subst q; simp at hm
      · intro q; subst q; simp [entF] at hm
    exact fun r hr => flat_ok (fun _ => []) none 0 hm h67.1 h67.2 h8 h9 r hr
  | dp + 1, o, hm, h8, hr0 => shwS_ok (shwF dp) (mayF dp) (refF dp) dp (fun x a b c => shw_ok dp x a b c) o hm h8 hr0
end Go.Proofs.YtjkoiknjffldjaaGreatDoor
