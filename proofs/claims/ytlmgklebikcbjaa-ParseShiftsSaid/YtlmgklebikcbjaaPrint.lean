/-
  Names and strings as they are printed: the document's PrintName, PrintText. Conditions: sizes.
-/
import Derived.Test.YtlmgklebikcbjaaPrn
namespace Go.Proofs.Ytlmgklebikcbjaa
open Go.RowKit
set_option linter.unusedVariables false

theorem pn1_len (c : UInt8) : (pn1 c).length ≤ 3 := by unfold pn1; split <;> simp
theorem pnm_len (l : List UInt8) : (l.flatMap pn1).length ≤ 3 * l.length := by
  induction l with
  | nil => simp
  | cons c l ih => have := pn1_len c; rw [List.flatMap_cons, List.length_append, List.length_cons]; omega
theorem pnm_snoc (l : List UInt8) (k : Nat) (h : k < l.length) : (l.take (k + 1)).flatMap pn1 = (l.take k).flatMap pn1 ++ pn1 (l.getD k 0) := by
  rw [List.take_succ_eq_append_getElem h, List.flatMap_append]
  simp [List.getD, h]
theorem st_at (l : List UInt8) (k : Nat) (h : k < l.length) (P : Program) (t : TypeId) (ht : P.underlying t = some .string) (w : World) : (Instr.index t (.string (st l)) (.int .i64 (k : Int))).run P w = .ok (.int .u8 (c8 (l.getD k 0))) w := by
  have hz := st_size l
  rw [run_index_string w t (st l) .i64 (k : Int) ht, dif_pos ⟨by omega, by rw [hz]; omega⟩]
  congr 2
  unfold c8
  congr 1
  have e : ((k : Int)).toNat = k := by omega
  simp only [e, List.getD, List.getElem?_eq_getElem h, Option.getD_some]
  unfold st
  rfl
theorem belowD (w : World) : Below w.heap.size w w.drew := ⟨rfl, rfl, rfl, Nat.le_refl _, fun _ _ => rfl⟩
theorem below_then' {B : Nat} {w W W' : World} (p : Below B w W) (q : Below W.heap.size W W') (hB : B ≤ W.heap.size := by omega) : Below B w W' := p.trans (q.mono hB)
theorem belowC (w : World) (o : Obj) : Below w.heap.size w (w.drew.alloc o) := below_then (belowD w) (alb1 w.drew o)
theorem Rd.oneC (w : World) (x : UInt8) (e : TypeId) (g : Nat) (hg : g = w.heap.size) : Rd (w.alloc (.cells #[.int .u8 (c8 x)] e)) (Option.some ⟨g, 0, none⟩) [x] := by
  subst hg
  have h := Rd.one w (c8 x) e (c8_ge x) (c8_le x)
  have e1 : UInt8.ofNat (c8 x).toNat = x := by unfold c8; simp
  rwa [e1] at h
theorem Sl.oneC (w : World) (x : UInt8) (e : TypeId) (g : Nat) (hg : g = w.heap.size) : Sl (w.alloc (.cells #[.int .u8 (c8 x)] e)) (.slice (Option.some ⟨g, 0, none⟩) 1 1) [x] :=
  ⟨_, _, rfl, Nat.le_refl _, by unfold maxLen; omega, (fun q => by cases q), Rd.oneC w x e g hg⟩
theorem OwnB.litg (w : World) (x : UInt8) (n : Int) (e : TypeId) (base g : Nat) (hn : n = c8 x) (hg : g = w.heap.size) (hb : base ≤ w.heap.size) : OwnB (w.alloc (.cells #[.int .u8 n] e)) base e (.slice (Option.some ⟨g, 0, none⟩) 1 1) [x] := by
  subst hn; subst hg; exact OwnB.lit1 w x e base hb
/-- the world, the capacity behind a conversion of a string to bytes -/
def convC (w : World) (e : TypeId) (s : List UInt8) : Nat := grownCap w (st s).size 0 e
def convW (w : World) (e : TypeId) (s : List UInt8) : World := w.drew.alloc (.cells (bytesRow (st s) (convC w e s)) e ((bytesRow (st s) (convC w e s)).size, (bytesRow (st s) (convC w e s)).size + 1))
theorem convW_below (w : World) (e : TypeId) (s : List UInt8) : Below w.heap.size w (convW w e s) := belowC _ _
theorem convW_size (w : World) (e : TypeId) (s : List UInt8) : (convW w e s).heap.size = w.heap.size + 1 := by simp [convW]
theorem convW_run {P : Program} (src dst e : TypeId) (hs : P.underlying src = Option.some .string) (hd : P.underlying dst = Option.some (.slice e)) (he : P.underlying e = Option.some (.int .u8)) (w : World) (s : List UInt8) :
    (convert src dst (.string (st s))).run P w = .ok (.slice (Option.some ⟨w.heap.size, 0, none⟩) s.length (convC w e s)) (convW w e s) := by
  rw [run_bytes_of_string w src dst e (st s) hs hd he]
  have hz := st_size s
  unfold convW convC
  rw [hz]
theorem Sl.convW (w : World) (e : TypeId) (s : List UInt8) (g : Nat) (hg : g = w.heap.size) (hs : s.length ≤ 100000000) :
    Sl (convW w e s) (.slice (Option.some ⟨g, 0, none⟩) s.length (convC w e s)) s := by
  subst hg
  have h := Sl.conv w s e hs
  have e1 : Value.slice (Option.some ⟨w.heap.size, 0, none⟩) s.length (convC w e s) = Value.slice (Option.some ⟨w.heap.size, 0, none⟩) (st s).size (grownCap w (st s).size 0 e) := by rw [st_size]; unfold convC; rw [st_size]
  rw [e1]
  exact h

set_option maxHeartbeats 1600000 in
set_option maxRecDepth 100000 in
theorem printname_any (l : List UInt8) (w : World) (hl : l.length ≤ 100000) :
    Calls Try.prog 22 #[.string (st l)] w fun e w' => ∃ v, e = .returned v ∧ OwnB w' w.heap.size 5 v (47 :: l.flatMap pn1) ∧ Below w.heap.size w w' := by
  have hz := st_size l
  have kb := fun (w : World) (s : List UInt8) => convW_run (P := Try.prog) 9 25 5 (by kernel_rfl) Try.underlying25 Try.underlying5 w s
  go_enter Try.func22, Try.ntmps22
  go_wp2
  go_loopw [3, 4, 5] (fun v i _ wr => ∃ k : Nat, k ≤ l.length ∧ i = .int .i64 k ∧ OwnB wr w.heap.size 5 v (47 :: (l.take k).flatMap pn1) ∧ Below w.heap.size w wr) (fun _ i _ _ => l.length - (intOf i).toNat)
  case atStart => exact ⟨0, Nat.zero_le _, rfl, OwnB.lit1 w 47 _ _ (Nat.le_refl _), alb1 _ _⟩
  case round =>
    obtain ⟨k, hk, rfl, hown, hbel⟩ := hrel
    by_cases hlt : k < l.length
    · have hix := fun w => st_at l k hlt Try.prog 9 (by kernel_rfl) w
      have hsn := pnm_snoc l k hlt
      have hln := pnm_len (l.take k)
      rw [List.length_take] at hln
      have hln : ((l.take k).flatMap pn1).length ≤ 300000 := by omega
      generalize (l.take k).flatMap pn1 = o at hown hsn hln
      generalize l.getD k 0 = x at hix hsn
      have hsz := hbel.size
      have g0 := c8_ge x
      have g1 := c8_le x
      by_cases hp : 33 ≤ c8 x ∧ c8 x ≤ 126 ∧ rg (c8 x) = true ∧ ¬ c8 x = 35
      · have e1 : pn1 x = [x] := by unfold pn1; rw [if_pos hp]
        rw [e1] at hsn
        have b3 : (c8 x != 35) = true := by simp; exact hp.2.2.2
        have t1 : decide (33 ≤ c8 x) = true := decide_eq_true hp.1
        have t2 : decide (c8 x ≤ 126) = true := decide_eq_true hp.2.1
        have R := hid hp.2.2.1
        clear hp
        go_wp2_with (first | (go_at_call 35; (with_reducible refine (rregular_any _ _).mono ?_); rw [R.out]; rintro e w1 ⟨rfl, m, rfl⟩) | (at_builtin; refine wpList_append_bytes bytesTy rfl _ _ rfl w.heap.size _ (47 :: o) [x] rfl ((hown.up (below_drewN (Below.refl _ _) _)).alloc _) _ _ _ rfl rfl (fun q => by cases q) (Rd.oneC _ _ _ _ (by simp)) (by simp; omega) (by simp; omega) ?_; intro v1 w2 q1 q2 q3))
        have hb2 : Below w.heap.size w w2 := below_append (below_then' hbel (below_then (below_drewN (Below.refl _ _) m) (alb1 _ _))) ((hown.up (below_drewN (Below.refl _ _) m)).alloc _) q2 (Nat.le_refl _) (by simp; omega)
        clear q2 q3 hown hbel
        go_wp2
        go_roundw
        case rel => exact ⟨k + 1, by omega, by go_num, by rw [hsn]; exact q1, hb2⟩
        case measure => simp [intOf]; omega
      · have e1 : pn1 x = [35, hxd (x.toNat / 16), hxd (x.toNat % 16)] := by unfold pn1; rw [if_neg hp]
        rw [e1] at hsn
        have hadd : ∀ w : World, (Op.stringOp .add ⟨#[35]⟩ (st (dgts [x]))).run Try.prog w = .ok (.string (st [35, hxd (x.toNat / 16), hxd (x.toNat % 16)])) w := fun w => st_add [35] _ (by rw [dgts_len]; simp) w
        generalize hxd (x.toNat / 16) = d1 at hadd hsn
        generalize hxd (x.toNat % 16) = d2 at hadd hsn
        rcases (by omega : c8 x < 33 ∨ (33 ≤ c8 x ∧ 126 < c8 x) ∨ (33 ≤ c8 x ∧ c8 x ≤ 126)) with q | q | q
        · have t1 : decide (33 ≤ c8 x) = false := decide_eq_false (by omega)
          clear hp e1
          go_wp2_with (first | (go_at_call 54; (with_reducible refine (digits2_any _ [x] _ (Sl.oneC _ _ _ _ (by simp)) (by simp)).mono ?_); rintro e w1 ⟨rfl, m, rfl⟩) | (at_builtin; refine wpList_append_bytes bytesTy rfl _ _ rfl w.heap.size _ (47 :: o) [35, d1, d2] rfl (hown.up (below_then (alb1 _ _) (below_then (below_drewN (Below.refl _ _) m) (convW_below _ _ _)))) _ _ _ rfl rfl (fun q => by cases q) (Sl.convW _ _ [35, d1, d2] _ (by simp) (by simp)).rd (by simp; omega) (by rw [convW_size]; simp; omega) ?_; intro v1 w2 q1 q2 q3))
          have hb2 : Below w.heap.size w w2 := below_append (below_then' hbel (below_then (alb1 _ _) (below_then (below_drewN (Below.refl _ _) m) (convW_below _ _ _)))) (hown.up (below_then (alb1 _ _) (below_then (below_drewN (Below.refl _ _) m) (convW_below _ _ _)))) q2 (Nat.le_refl _) (by rw [convW_size]; simp; omega)
          clear q2 q3 hown hbel
          go_wp2
          go_roundw
          case rel => exact ⟨k + 1, by omega, by go_num, by rw [hsn]; exact q1, hb2⟩
          case measure => simp [intOf]; omega
        · have t1 : decide (33 ≤ c8 x) = true := decide_eq_true (by omega)
          have t2 : decide (c8 x ≤ 126) = false := decide_eq_false (by omega)
          clear hp e1
          go_wp2_with (first | (go_at_call 54; (with_reducible refine (digits2_any _ [x] _ (Sl.oneC _ _ _ _ (by simp)) (by simp)).mono ?_); rintro e w1 ⟨rfl, m, rfl⟩) | (at_builtin; refine wpList_append_bytes bytesTy rfl _ _ rfl w.heap.size _ (47 :: o) [35, d1, d2] rfl (hown.up (below_then (alb1 _ _) (below_then (below_drewN (Below.refl _ _) m) (convW_below _ _ _)))) _ _ _ rfl rfl (fun q => by cases q) (Sl.convW _ _ [35, d1, d2] _ (by simp) (by simp)).rd (by simp; omega) (by rw [convW_size]; simp; omega) ?_; intro v1 w2 q1 q2 q3))
          have hb2 : Below w.heap.size w w2 := below_append (below_then' hbel (below_then (alb1 _ _) (below_then (below_drewN (Below.refl _ _) m) (convW_below _ _ _)))) (hown.up (below_then (alb1 _ _) (below_then (below_drewN (Below.refl _ _) m) (convW_below _ _ _)))) q2 (Nat.le_refl _) (by rw [convW_size]; simp; omega)
          clear q2 q3 hown hbel
          go_wp2
          go_roundw
          case rel => exact ⟨k + 1, by omega, by go_num, by rw [hsn]; exact q1, hb2⟩
          case measure => simp [intOf]; omega
        · have t1 : decide (33 ≤ c8 x) = true := decide_eq_true (by omega)
          have t2 : decide (c8 x ≤ 126) = true := decide_eq_true (by omega)
          cases hr : rg (c8 x) with
          | false =>
            have R := hid hr
            clear hp e1
            go_wp2_with (first | (go_at_call 35; (with_reducible refine (rregular_any _ _).mono ?_); rw [R.out]; rintro e w1 ⟨rfl, mr, rfl⟩) | (go_at_call 54; (with_reducible refine (digits2_any _ [x] _ (Sl.oneC _ _ _ _ (by simp)) (by simp)).mono ?_); rintro e w1 ⟨rfl, m, rfl⟩) | (at_builtin; refine wpList_append_bytes bytesTy rfl _ _ rfl w.heap.size _ (47 :: o) [35, d1, d2] rfl (hown.up (below_then (below_drewN (Below.refl _ _) mr) (below_then (alb1 _ _) (below_then (below_drewN (Below.refl _ _) m) (convW_below _ _ _))))) _ _ _ rfl rfl (fun q => by cases q) (Sl.convW _ _ [35, d1, d2] _ (by simp) (by simp)).rd (by simp; omega) (by rw [convW_size]; simp; omega) ?_; intro v1 w2 q1 q2 q3))
            have hb2 : Below w.heap.size w w2 := below_append (below_then' hbel (below_then (below_drewN (Below.refl _ _) mr) (below_then (alb1 _ _) (below_then (below_drewN (Below.refl _ _) m) (convW_below _ _ _))))) (hown.up (below_then (below_drewN (Below.refl _ _) mr) (below_then (alb1 _ _) (below_then (below_drewN (Below.refl _ _) m) (convW_below _ _ _))))) q2 (Nat.le_refl _) (by rw [convW_size]; simp; omega)
            clear q2 q3 hown hbel
            go_wp2
            go_roundw
            case rel => exact ⟨k + 1, by omega, by go_num, by rw [hsn]; exact q1, hb2⟩
            case measure => simp [intOf]; omega
          | true =>
            have c35 : c8 x = 35 := by by_cases q9 : c8 x = 35; exact q9; exact absurd ⟨q.1, q.2, hr, q9⟩ hp
            have R := hid hr
            have b3 : (c8 x != 35) = false := by rw [c35]; rfl
            clear hp e1 c35
            go_wp2_with (first | (go_at_call 35; (with_reducible refine (rregular_any _ _).mono ?_); rw [R.out]; rintro e w1 ⟨rfl, mr, rfl⟩) | (go_at_call 54; (with_reducible refine (digits2_any _ [x] _ (Sl.oneC _ _ _ _ (by simp)) (by simp)).mono ?_); rintro e w1 ⟨rfl, m, rfl⟩) | (at_builtin; refine wpList_append_bytes bytesTy rfl _ _ rfl w.heap.size _ (47 :: o) [35, d1, d2] rfl (hown.up (below_then (below_drewN (Below.refl _ _) mr) (below_then (alb1 _ _) (below_then (below_drewN (Below.refl _ _) m) (convW_below _ _ _))))) _ _ _ rfl rfl (fun q => by cases q) (Sl.convW _ _ [35, d1, d2] _ (by simp) (by simp)).rd (by simp; omega) (by rw [convW_size]; simp; omega) ?_; intro v1 w2 q1 q2 q3))
            have hb2 : Below w.heap.size w w2 := below_append (below_then' hbel (below_then (below_drewN (Below.refl _ _) mr) (below_then (alb1 _ _) (below_then (below_drewN (Below.refl _ _) m) (convW_below _ _ _))))) (hown.up (below_then (below_drewN (Below.refl _ _) mr) (below_then (alb1 _ _) (below_then (below_drewN (Below.refl _ _) m) (convW_below _ _ _))))) q2 (Nat.le_refl _) (by rw [convW_size]; simp; omega)
            clear q2 q3 hown hbel
            go_wp2
            go_roundw
            case rel => exact ⟨k + 1, by omega, by go_num, by rw [hsn]; exact q1, hb2⟩
            case measure => simp [intOf]; omega
    · go_wp2
      go_ret
      exact ⟨_, rfl, by rw [List.take_of_length_le (by omega)] at hown; exact hown, hbel⟩

theorem plain_facts (x : UInt8) : (plain1 x = true ∧ decide (32 ≤ c8 x) = true ∧ decide (c8 x ≤ 126) = true ∧ (c8 x != 40) = true ∧ (c8 x != 41) = true ∧ (c8 x != 92) = true) ∨ (plain1 x = false ∧ (decide (32 ≤ c8 x) = false ∨ (decide (32 ≤ c8 x) = true ∧ decide (c8 x ≤ 126) = false) ∨ (decide (32 ≤ c8 x) = true ∧ decide (c8 x ≤ 126) = true ∧ ((c8 x != 40) = false ∨ ((c8 x != 40) = true ∧ (c8 x != 41) = false) ∨ ((c8 x != 40) = true ∧ (c8 x != 41) = true ∧ (c8 x != 92) = false))))) := by
  unfold plain1
  cases h1 : decide (32 ≤ c8 x) <;> cases h2 : decide (c8 x ≤ 126) <;> cases h3 : (c8 x == 40) <;> cases h4 : (c8 x == 41) <;> cases h5 : (c8 x == 92) <;> simp [bne, h3, h4, h5]
theorem plain_snoc (l : List UInt8) (k : Nat) (h : k < l.length) : (l.take (k + 1)).all plain1 = ((l.take k).all plain1 && plain1 (l.getD k 0)) := by
  rw [List.take_succ_eq_append_getElem h, List.all_append]
  simp [List.getD, h]

set_option maxHeartbeats 1600000 in
set_option maxRecDepth 100000 in
theorem printtext_any (v : Value) (l : List UInt8) (w : World) (h : Sl w v l) (hl : l.length ≤ 100000) :
    Calls Try.prog 23 #[v] w fun e w' => ∃ v', e = .returned v' ∧ Sl w' v' (ptx l) ∧ Below w.heap.size w w' := by
  have kb := fun (w : World) (s : List UInt8) => convW_run (P := Try.prog) 9 25 5 (by kernel_rfl) Try.underlying25 Try.underlying5 w s
  obtain ⟨ao, cap, rfl, h1, h2, h3, h4⟩ := h
  obtain ⟨z, hz⟩ : ∃ z, ptx l = z := ⟨_, rfl⟩
  rw [hz]
  go_enter Try.func23, Try.ntmps23
  go_wp2
  go_loopw [3, 4] (fun p i wr => ∃ k : Nat, k ≤ l.length ∧ i = .int .i64 k ∧ p = .bool ((l.take k).all plain1) ∧ ∃ n, wr = w.drewN n) (fun _ i _ => l.length - (intOf i).toNat)
  case atStart => exact ⟨0, Nat.zero_le _, rfl, rfl, 0, rfl⟩
  case round =>
    obtain ⟨k, hk, rfl, rfl, n, rfl⟩ := hrel
    by_cases hlt : k < l.length
    · have hsn := plain_snoc l k hlt
      obtain ⟨b1, o1, rfl, hs1, hc1⟩ := (h4.drewN n).some (by omega)
      specialize hc1 k hlt
      have hb8 : b8 l k = c8 (l.getD k 0) := rfl
      rw [hb8] at hc1
      clear hb8
      generalize l.getD k 0 = x at hc1 hsn
      cases hq : (l.take k).all plain1 with
      | false =>
        rw [hq, Bool.false_and] at hsn
        have HS := hid hsn
        clear hq hsn
        go_wp2
        go_roundw
        case rel => exact ⟨k + 1, by omega, by go_num, by rw [HS.out], n, rfl⟩
        case measure => simp [intOf]; omega
      | true =>
        rw [hq, Bool.true_and] at hsn
        clear hq
        rcases plain_facts x with ⟨p0, t1, t2, b1', b2, b3⟩ | ⟨p0, t1 | ⟨t1, t2⟩ | ⟨t1, t2, b1' | ⟨b1', b2⟩ | ⟨b1', b2, b3⟩⟩⟩
        all_goals
          rw [p0] at hsn
          have HS := hid hsn
          clear hsn p0
          go_wp2
          go_roundw
          case rel => exact ⟨k + 1, by omega, by go_num, by rw [HS.out], n, rfl⟩
          case measure => simp [intOf]; omega
    · have ha : l.take k = l := List.take_of_length_le (by omega)
      rw [ha]
      have hnn : ¬ ((k : Int) < (l.length : Int)) := by omega
      cases hq : l.all plain1 with
      | true =>
        have e1 : ptx l = [40] ++ l ++ [41] := by unfold ptx; rw [if_pos hq]; rfl
        rw [hz] at e1
        have E1 := hid e1
        clear hq e1 ha hz
        go_wp2_with (first | (at_builtin; refine wpList_append_bytes bytesTy rfl _ _ rfl w.heap.size _ ([40] ++ l) [byteOf 41] rfl (q1.alloc _) _ 1 1 rfl rfl (fun q => by cases q) (Rd.byteM _ _ _ _ (by simp) (by omega) (by omega)) (by simp; omega) (by have := q2.size; simp at *; omega) ?_; intro v2 w3 p1 p2 p3) | (at_builtin; refine wpList_append_bytes bytesTy rfl _ _ rfl w.heap.size _ [40] l rfl (OwnB.litg _ 40 _ _ _ _ rfl (by simp) (by simp)) ao _ cap rfl rfl h3 (h4.up (below_then (below_drewN (Below.refl _ _) n) (alb1 _ _))) (by simp; omega) (by simp) ?_; intro v1 w2 q1 q2 q3))
        have hb2 : Below w.heap.size w w2 := below_append (below_then (below_drewN (Below.refl _ _) n) (alb1 _ _)) (OwnB.litg (w.drewN n) 40 40 5 w.heap.size w.heap.size rfl (by simp) (by simp)) q2 (Nat.le_refl _) (by simp)
        have hb3 : Below w.heap.size w w3 := below_append (hb2.alloc hb2.size _) (q1.alloc _) p2 (Nat.le_refl _) (by have := hb2.size; simp; omega)
        have e41 : byteOf 41 = 41 := by decide
        rw [e41] at p1
        go_ret
        exact ⟨_, rfl, by rw [E1.out]; exact Sl.own p1, hb3⟩
      | false =>
        have e1 : ptx l = [60] ++ dgts l ++ [62] := by unfold ptx; rw [if_neg (by rw [hq]; decide)]; rfl
        rw [hz] at e1
        subst e1
        have ha1 : ∀ w : World, (Op.stringOp .add ⟨#[60]⟩ (st (dgts l))).run Try.prog w = .ok (.string (st ([60] ++ dgts l))) w := fun w => st_add [60] _ (by rw [dgts_len]; simp; omega) w
        have ha2 : ∀ w : World, (Op.stringOp .add (st ([60] ++ dgts l)) ⟨#[62]⟩).run Try.prog w = .ok (.string (st ([60] ++ dgts l ++ [62]))) w := fun w => st_add _ [62] (by rw [List.length_append, dgts_len]; simp; omega) w
        have hlen : ([60] ++ dgts l ++ [62]).length ≤ 100000000 := by rw [List.length_append, List.length_append, dgts_len]; simp; omega
        generalize hzz : [60] ++ dgts l ++ [62] = z at ha2 hlen
        have HZ := hid hzz
        clear hzz
        generalize [60] ++ dgts l = y at ha1 ha2
        clear hq ha hz
        have hS : Sl (w.drewN n) (.slice ao l.length cap) l := ⟨ao, cap, rfl, h1, h2, h3, h4.drewN _⟩
        go_wp2_with (go_at_call 54; (with_reducible refine (digits2_any _ l _ hS (by omega)).mono ?_); rintro e w1 ⟨rfl, m, rfl⟩)
        go_ret
        exact ⟨_, rfl, by rw [HZ.out]; exact Sl.convW (w.drewN (n + m)) _ z w.heap.size (by simp) hlen, below_then (below_drewN (Below.refl _ _) (n + m)) (convW_below _ _ _)⟩
end Go.Proofs.Ytlmgklebikcbjaa
