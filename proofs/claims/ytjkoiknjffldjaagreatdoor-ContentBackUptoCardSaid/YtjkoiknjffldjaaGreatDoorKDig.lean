/-
  Numbers as they are printed: the document's digits, Text. Conditions: sizes.
-/
import Derived.Test.YtjkoiknjffldjaaGreatDoorJb
import Derived.Test.YtjkoiknjffldjaaGreatDoorKLawNum
/-
  Numbers as they are printed: the document's digits, Text. Conditions: sizes.
-/
namespace Go.Proofs.YtjkoiknjffldjaaGreatDoor
open Go.RowKit
set_option linter.unusedVariables false

theorem wrap64u (n : Int) : IntKind.u64.wrap n = n % 18446744073709551616 := by
  simp [IntKind.wrap, IntKind.signed, IntKind.bits]
theorem quo_u64 (a n : Nat) (hn : 0 < n) (ha : a < 18446744073709551616) (t : TypeId) : binOp .quo t (.int .u64 (a : Int)) (.int .u64 (n : Int)) = pure (.int .u64 ((a / n : Nat) : Int)) := by
  have e0 : binOp .quo t (.int .u64 (a : Int)) (.int .u64 (n : Int)) = Op.intDiv .quo .u64 (a : Int) (n : Int) := by simp [binOp]
  rw [e0]
  unfold Op.intDiv
  rw [if_neg (by omega)]
  have h1 : a / n ≤ a := Nat.div_le_self a n
  have e1 : ((a : Int)).tdiv (n : Int) = ((a / n : Nat) : Int) := rfl
  show pure (Value.int .u64 (IntKind.u64.wrap (((a : Int)).tdiv (n : Int)))) = _
  rw [e1]
  generalize a / n = z at h1
  congr 2
  rw [wrap64u]
  omega
theorem dec_len : ∀ k m : Nat, (dec k m).length ≤ k + 1
  | 0, m => by simp [dec]
  | k + 1, m => by
    rw [dec]; split
    · simp
    · have := dec_len k (m / 10); rw [List.length_append, List.length_singleton]; omega
theorem dec_small (k m : Nat) (h : m < 10) : dec k m = [dg1 m] := by
  cases k with
  | zero => rfl
  | succ k => rw [dec, if_pos h]

set_option maxHeartbeats 1600000 in
set_option maxRecDepth 100000 in
theorem digits_u (N : Nat) (hN : N < 18446744073709551616) (w : World) :
    Calls Tryz.prog 56 #[.int .u64 (N : Int)] w fun e w' => e = .returned (.string (st (dec 19 N))) ∧ Below w.heap.size w w' := by
  go_enter Tryz.func56, Tryz.ntmps56
  go_wp2
  go_loopw [0, 3] (fun v s wr => ∃ m k : Nat, ∃ l : List UInt8, v = .int .u64 (m : Int) ∧ s = .string (st l) ∧ m < 10 ^ (k + 1) ∧ m < 18446744073709551616 ∧ k + l.length ≤ 19 ∧ dec 19 N = dec k m ++ l ∧ Below w.heap.size w wr) (fun v _ _ => (intOf v).toNat)
  case atStart => exact ⟨N, 19, [], rfl, rfl, by omega, hN, by simp, by simp, Below.refl _ _⟩
  case round =>
    obtain ⟨m, k, l, rfl, rfl, hm, hm2, hk, hd, hbel⟩ := hrel
    have hrem : ∀ t, binOp .rem t (.int .u64 (m : Int)) (.int .u64 10) = pure (.int .u64 ((m % 10 : Nat) : Int)) := rem_any .u64 m 10 (by decide)
    have hquo : ∀ t, binOp .quo t (.int .u64 (m : Int)) (.int .u64 10) = pure (.int .u64 ((m / 10 : Nat) : Int)) := quo_u64 m 10 (by decide) hm2
    have hadd : ∀ w : World, (Op.stringOp .add (st [dg1 m]) (st l)).run Tryz.prog w = .ok (.string (st (dg1 m :: l))) w := fun w => st_add [dg1 m] l (by simp; omega) w
    have hr10 : m % 10 < 10 := Nat.mod_lt _ (by decide)
    have hcv : (convert 24 9 (.slice (some ⟨wr.heap.size, 0, none⟩) 1 1)).run Tryz.prog (wr.alloc (.cells #[.int .u8 (48 + ((m % 10 : Nat) : Int))] 5)) = .ok (.string (st [dg1 m])) (wr.alloc (.cells #[.int .u8 (48 + ((m % 10 : Nat) : Int))] 5)) := by
      have e1 : 48 + ((m % 10 : Nat) : Int) = c8 (dg1 m) := by unfold c8; rw [dg1_nat]; omega
      rw [e1]
      exact sl_string (P := Tryz.prog) _ 24 9 5 Tryz.underlying24 (by kernel_rfl) (by kernel_rfl) _ _ (Sl.oneC wr (dg1 m) 5 _ rfl)
    generalize hR : m % 10 = r at hrem hr10 hcv
    have HD := hid hd
    have HM := hid hm
    have HR := hid hR
    clear hd hm hR
    have hdiv : m / 10 ≤ m := Nat.div_le_self _ _
    by_cases hz : m / 10 = 0
    · rw [hz] at hquo
      clear hdiv
      go_wp2
      go_ret
      exact ⟨by rw [HD.out, dec_small k m (by omega)]; rfl, hbel.alloc hbel.size _⟩
    · have hz2 : (((m / 10 : Nat) : Int) == 0) = false := by simp; omega
      have hlt : m / 10 < m := by omega
      have hq64 : m / 10 < 18446744073709551616 := by omega
      go_wp2
      go_roundw
      case rel =>
        obtain ⟨k, rfl⟩ : ∃ k', k = k' + 1 := by
          cases k with
          | zero => have := HM.out; simp at this; omega
          | succ k => exact ⟨k, rfl⟩
        have hm10 : m / 10 < 10 ^ (k + 1) := by
          have := HM.out
          rw [Nat.pow_succ] at this
          exact Nat.div_lt_of_lt_mul (by omega)
        have hdd := HD.out
        have hde : dec (k + 1) m = dec k (m / 10) ++ [dg1 m] := by rw [dec, if_neg (by omega)]
        rw [hde, List.append_assoc] at hdd
        exact ⟨m / 10, k, dg1 m :: l, by rw [Int.natCast_ediv]; rfl, rfl, hm10, hq64, by simp; omega, hdd, hbel.alloc hbel.size _⟩
      case measure => simp [intOf]; omega

set_option maxRecDepth 100000 in
theorem in_any (n : Int) (w : World) :
    Calls Tryz.prog 53 #[.int .i64 n] w fun e w' => e = .returned (.bool (decide (-214748364799999 ≤ n) && decide (n ≤ 214748364799999))) ∧ w = w' := by
  by_cases h1 : -214748364799999 ≤ n
  · have t1 : decide (-214748364799999 ≤ n) = true := decide_eq_true h1
    go_enter Tryz.func53, Tryz.ntmps53
    go_wp2
    go_ret
    exact ⟨by first | rfl | (rw [t1]; rfl), rfl⟩
  · have t1 : decide (-214748364799999 ≤ n) = false := decide_eq_false h1
    go_enter Tryz.func53, Tryz.ntmps53
    go_wp2
    go_ret
    exact ⟨by first | rfl | (rw [t1]; rfl), rfl⟩

theorem digits_uv (z : Int) (N : Nat) (hz : z = N) (hN : N < 18446744073709551616) (w : World) :
    Calls Tryz.prog 56 #[.int .u64 z] w fun e w' => e = .returned (.string (st (dec 19 N))) ∧ Below w.heap.size w w' := by
  subst hz; exact digits_u N hN w
theorem st_extract (l : List UInt8) (a b : Nat) : (st l).extract a b = st ((l.drop a).take (b - a)) := ByteArray.extract_mk l a b
theorem st_from (P : Program) (t : TypeId) (ht : P.underlying t = some .string) (l : List UInt8) (z : Int) (n : Nat) (hz : z = n) (h : n ≤ l.length) (w : World) : (Instr.slice t (.string (st l)) (some (.int .i64 z)) none none).run P w = .ok (.string (st (l.drop n))) w := by
  subst hz
  rw [run_slice_string_l w t (st l) ht .i64 n (by omega) (by rw [st_size]; omega), st_extract, st_size]
  congr 3
  rw [List.take_of_length_le (by simp)]
  simp
theorem st_to (P : Program) (t : TypeId) (ht : P.underlying t = some .string) (l : List UInt8) (z : Int) (n : Nat) (hz : z = n) (h : n ≤ l.length) (w : World) : (Instr.slice t (.string (st l)) none (some (.int .i64 z)) none).run P w = .ok (.string (st (l.take n))) w := by
  subst hz
  rw [run_slice_string_h w t (st l) ht .i64 n (by omega) (by rw [st_size]; omega), st_extract]
  congr 3
theorem trim_step (j : Nat) (l : List UInt8) (h1 : 1 < l.length) (h2 : l.length ≤ j) (x : UInt8) (hx : x = l.getD (l.length - 1) 0) (h48 : (c8 x == 48) = true) : ∃ j', trim j l = trim j' (l.take (l.length - 1)) ∧ l.length - 1 ≤ j' := by
  obtain ⟨j, rfl⟩ : ∃ k, j = k + 1 := ⟨j - 1, by omega⟩
  have hx48 : x = 48 := by
    have : c8 x = 48 := by simpa using h48
    unfold c8 at this
    exact UInt8.toNat_inj.1 (by show x.toNat = 48; omega)
  have hl : l.getLast? = some 48 := by
    rw [List.getLast?_eq_getElem?, List.getElem?_eq_getElem (by omega)]
    rw [hx48] at hx
    simp [List.getD, List.getElem?_eq_getElem (show l.length - 1 < l.length by omega)] at hx
    rw [← hx]
  refine ⟨j, ?_, by omega⟩
  rw [trim, if_pos ⟨h1, hl⟩, List.dropLast_eq_take]
theorem trim_stop (j : Nat) (l : List UInt8) (h : ¬ 1 < l.length ∨ (c8 (l.getD (l.length - 1) 0) == 48) = false) : trim j l = l := by
  cases j with
  | zero => rfl
  | succ j =>
    rw [trim, if_neg]
    rintro ⟨h1, h2⟩
    rcases h with h | h
    · exact h h1
    · rw [List.getLast?_eq_getElem?, List.getElem?_eq_getElem (by omega)] at h2
      injection h2 with h2
      simp [List.getD, List.getElem?_eq_getElem (show l.length - 1 < l.length by omega), h2, c8] at h
def szOf : Value → Nat
  | .string b => b.size
  | _ => 0
theorem five_len (m : Nat) : (five m).length = 5 := rfl

set_option maxHeartbeats 1600000 in
set_option maxRecDepth 100000 in
theorem text_pos_whole (n : Int) (w : World) (h0 : 0 ≤ n) (h1 : n ≤ 214748364799999) :
    Calls Tryz.prog 31 #[.int .i64 n, .bool true] w fun e w' => e = .returned (.string (st (pnum true n))) ∧ Below w.heap.size w w' := by
  obtain ⟨N, hN⟩ : ∃ N : Nat, N = n.natAbs := ⟨_, rfl⟩
  have e0 : pnum true n = [] ++ dec 19 N := by unfold pnum pwh; rw [if_pos rfl, if_neg (by omega), hN]
  have hadd : ∀ w : World, (Op.stringOp .add ⟨#[]⟩ (st (dec 19 N))).run Tryz.prog w = .ok (.string (st ([] ++ dec 19 N))) w := fun w => st_add [] _ (by have := dec_len 19 N; simp; omega) w
  rw [e0]
  have t1 : decide (n < 0) = false := decide_eq_false (by omega)
  have HZ := hid (show n = (N : Int) by omega)
  have HN : N < 18446744073709551616 := by omega
  clear e0 hN
  go_enter Tryz.func31, Tryz.ntmps31
  go_wp2_with (go_at_call 56; refine (digits_uv _ N HZ.out HN _).mono ?_; rintro e w1 ⟨rfl, hb1⟩)
  go_ret
  exact ⟨rfl, hb1⟩

set_option maxHeartbeats 1600000 in
set_option maxRecDepth 100000 in
theorem text_neg_whole (n : Int) (w : World) (h0 : n < 0) (h1 : -214748364799999 ≤ n) :
    Calls Tryz.prog 31 #[.int .i64 n, .bool true] w fun e w' => e = .returned (.string (st (pnum true n))) ∧ Below w.heap.size w w' := by
  obtain ⟨N, hN⟩ : ∃ N : Nat, N = n.natAbs := ⟨_, rfl⟩
  have e0 : pnum true n = [45] ++ dec 19 N := by unfold pnum pwh; rw [if_pos rfl, if_pos h0, hN]
  have hadd : ∀ w : World, (Op.stringOp .add ⟨#[45]⟩ (st (dec 19 N))).run Tryz.prog w = .ok (.string (st ([45] ++ dec 19 N))) w := fun w => st_add [45] _ (by have := dec_len 19 N; simp; omega) w
  rw [e0]
  have t1 : decide (n < 0) = true := decide_eq_true h0
  have HZ := hid (show -(n + 1) + 1 = (N : Int) by omega)
  have HN : N < 18446744073709551616 := by omega
  clear e0 hN
  go_enter Tryz.func31, Tryz.ntmps31
  go_wp2_with (go_at_call 56; refine (digits_uv _ N HZ.out HN _).mono ?_; rintro e w1 ⟨rfl, hb1⟩)
  go_ret
  exact ⟨rfl, hb1⟩

set_option maxHeartbeats 3200000 in
set_option maxRecDepth 100000 in
theorem text_pos_real (n : Int) (w : World) (h0 : 0 ≤ n) (h1 : n ≤ 214748364799999) :
    Calls Tryz.prog 31 #[.int .i64 n, .bool false] w fun e w' => e = .returned (.string (st (pnum false n))) ∧ Below w.heap.size w w' := by
  obtain ⟨N, hN⟩ : ∃ N : Nat, N = n.natAbs := ⟨_, rfl⟩
  have e0 : pnum false n = ([] ++ dec 19 (N / 100000)) ++ [46] ++ trim 5 (five (N % 100000)) := by unfold pnum prl; rw [if_neg (by decide), if_neg (by omega), hN]; simp
  have hz : n = (N : Int) := by omega
  have hrem : ∀ t, binOp .rem t (.int .u64 (n)) (.int .u64 100000) = pure (.int .u64 ((N % 100000 : Nat) : Int)) := fun t => by rw [hz]; exact rem_any .u64 N 100000 (by decide) t
  have hquo : ∀ t, binOp .quo t (.int .u64 (n)) (.int .u64 100000) = pure (.int .u64 ((N / 100000 : Nat) : Int)) := fun t => by rw [hz]; exact quo_u64 N 100000 (by decide) (by omega) t
  have hr : N % 100000 < 100000 := Nat.mod_lt _ (by decide)
  have hq : N / 100000 ≤ 2147483647 := by omega
  rw [e0]
  generalize N % 100000 = r at hrem hr
  generalize N / 100000 = q at hquo hq
  have t1 : decide (n < 0) = false := decide_eq_false (by omega)
  have hsl := fun w => st_from Tryz.prog 9 (by kernel_rfl) (49 :: five r) 1 1 rfl (by simp) w
  rw [show (49 :: five r).drop 1 = five r from rfl] at hsl
  have hd5 := five_len r
  have ha1 : ∀ w : World, (Op.stringOp .add ⟨#[]⟩ (st (dec 19 q))).run Tryz.prog w = .ok (.string (st ([] ++ dec 19 q))) w := fun w => st_add [] _ (by have := dec_len 19 q; simp; omega) w
  have ha2 : ∀ w : World, (Op.stringOp .add (st ([] ++ dec 19 q)) ⟨#[46]⟩).run Tryz.prog w = .ok (.string (st ([] ++ dec 19 q ++ [46]))) w := fun w => st_add _ [46] (by have := dec_len 19 q; simp; omega) w
  have hal : ([] ++ dec 19 q ++ [46]).length ≤ 30 := by have := dec_len 19 q; simp; omega
  generalize hA : [] ++ dec 19 q = A at ha1 ha2
  have HA := hid hA
  generalize hB : A ++ [46] = B at ha2
  have HB := hid hB
  rw [hA, hB] at hal
  have HZ := hid hz
  clear e0 hA hB hN hz
  go_enter Tryz.func31, Tryz.ntmps31
  go_wp2_with (go_at_call 56; refine (digits_uv _ (100000 + r) (by simp) (by omega) _).mono ?_; rw [dec_five r hr]; rintro e w1 ⟨rfl, hb1⟩)
  go_loopw [7] (fun f wr => ∃ j : Nat, ∃ l : List UInt8, f = .string (st l) ∧ trim 5 (five r) = trim j l ∧ l.length ≤ j ∧ 1 ≤ l.length ∧ l.length ≤ 5 ∧ Below w.heap.size w wr) (fun f _ => szOf f)
  case atStart => exact ⟨5, five r, rfl, rfl, by omega, by omega, by omega, hb1⟩
  case round =>
    clear hb1 hsl hd5 hrem
    obtain ⟨j, l, rfl, htr, hj, hl1, hl5, hbel⟩ := hrel
    have hzl := st_size l
    by_cases hlt : 1 < l.length
    · have hz1 : ((l.length : Int) - 1) = ((l.length - 1 : Nat) : Int) := by omega
      have hix : ∀ w, (Instr.index 9 (.string (st l)) (.int .i64 ((l.length : Int) - 1))).run Tryz.prog w = .ok (.int .u8 (c8 (l.getD (l.length - 1) 0))) w := fun w => by rw [hz1]; exact st_at l (l.length - 1) (by omega) Tryz.prog 9 (by kernel_rfl) w
      have hsl := fun w => st_to Tryz.prog 9 (by kernel_rfl) l ((l.length : Int) - 1) (l.length - 1) hz1 (by omega) w
      obtain ⟨x, hx⟩ : ∃ x, x = l.getD (l.length - 1) 0 := ⟨_, rfl⟩
      rw [← hx] at hix
      cases h48 : (c8 x == 48) with
      | true =>
        obtain ⟨j', hj1, hj2⟩ := trim_step j l hlt hj x hx h48
        have HJ := hid (htr.trans hj1)
        have HX := hid hx
        clear hx htr hj1 hz1
        have htl : (l.take (l.length - 1)).length = l.length - 1 := by rw [List.length_take]; omega
        generalize hl' : l.take (l.length - 1) = l' at hsl htl HJ
        clear hl'
        go_wp2
        go_roundw
        case rel => exact ⟨j', l', rfl, HJ.out, by omega, by omega, by omega, hbel⟩
        case measure => show (st l').size < (st l).size; rw [st_size, st_size]; omega
      | false =>
        have hst := trim_stop j l (.inr (by rw [← hx]; exact h48))
        have HT := hid (htr.trans hst)
        have ha3 : ∀ w : World, (Op.stringOp .add (st B) (st l)).run Tryz.prog w = .ok (.string (st (B ++ l))) w := fun w => st_add B l (by omega) w
        have HX := hid hx
        clear hx htr hst hz1 hsl
        go_wp2_with (go_at_call 56; refine (digits_uv _ q (by omega) (by omega) _).mono ?_; rintro e w1 ⟨rfl, hb1⟩)
        go_ret
        exact ⟨by rw [HT.out]; rfl, below_then' hbel hb1 hbel.size⟩
    · have hst := trim_stop j l (.inl hlt)
      have HT := hid (htr.trans hst)
      have ha3 : ∀ w : World, (Op.stringOp .add (st B) (st l)).run Tryz.prog w = .ok (.string (st (B ++ l))) w := fun w => st_add B l (by omega) w
      have hne : ¬ (1 : Int) < (l.length : Int) := by omega
      clear htr hst
      go_wp2_with (go_at_call 56; refine (digits_uv _ q (by omega) (by omega) _).mono ?_; rintro e w1 ⟨rfl, hb1⟩)
      go_ret
      exact ⟨by rw [HT.out]; rfl, below_then' hbel hb1 hbel.size⟩

set_option maxHeartbeats 3200000 in
set_option maxRecDepth 100000 in
theorem text_neg_real (n : Int) (w : World) (h0 : n < 0) (h1 : -214748364799999 ≤ n) :
    Calls Tryz.prog 31 #[.int .i64 n, .bool false] w fun e w' => e = .returned (.string (st (pnum false n))) ∧ Below w.heap.size w w' := by
  obtain ⟨N, hN⟩ : ∃ N : Nat, N = n.natAbs := ⟨_, rfl⟩
  have e0 : pnum false n = ([45] ++ dec 19 (N / 100000)) ++ [46] ++ trim 5 (five (N % 100000)) := by unfold pnum prl; rw [if_neg (by decide), if_pos h0, hN]; simp
  have hz : -(n + 1) + 1 = (N : Int) := by omega
  have hrem : ∀ t, binOp .rem t (.int .u64 (-(n + 1) + 1)) (.int .u64 100000) = pure (.int .u64 ((N % 100000 : Nat) : Int)) := fun t => by rw [hz]; exact rem_any .u64 N 100000 (by decide) t
  have hquo : ∀ t, binOp .quo t (.int .u64 (-(n + 1) + 1)) (.int .u64 100000) = pure (.int .u64 ((N / 100000 : Nat) : Int)) := fun t => by rw [hz]; exact quo_u64 N 100000 (by decide) (by omega) t
  have hr : N % 100000 < 100000 := Nat.mod_lt _ (by decide)
  have hq : N / 100000 ≤ 2147483647 := by omega
  rw [e0]
  generalize N % 100000 = r at hrem hr
  generalize N / 100000 = q at hquo hq
  have t1 : decide (n < 0) = true := decide_eq_true h0
  have hsl := fun w => st_from Tryz.prog 9 (by kernel_rfl) (49 :: five r) 1 1 rfl (by simp) w
  rw [show (49 :: five r).drop 1 = five r from rfl] at hsl
  have hd5 := five_len r
  have ha1 : ∀ w : World, (Op.stringOp .add ⟨#[45]⟩ (st (dec 19 q))).run Tryz.prog w = .ok (.string (st ([45] ++ dec 19 q))) w := fun w => st_add [45] _ (by have := dec_len 19 q; simp; omega) w
  have ha2 : ∀ w : World, (Op.stringOp .add (st ([45] ++ dec 19 q)) ⟨#[46]⟩).run Tryz.prog w = .ok (.string (st ([45] ++ dec 19 q ++ [46]))) w := fun w => st_add _ [46] (by have := dec_len 19 q; simp; omega) w
  have hal : ([45] ++ dec 19 q ++ [46]).length ≤ 30 := by have := dec_len 19 q; simp; omega
  generalize hA : [45] ++ dec 19 q = A at ha1 ha2
  have HA := hid hA
  generalize hB : A ++ [46] = B at ha2
  have HB := hid hB
  rw [hA, hB] at hal
  have HZ := hid hz
  clear e0 hA hB hN hz
  go_enter Tryz.func31, Tryz.ntmps31
  go_wp2_with (go_at_call 56; refine (digits_uv _ (100000 + r) (by simp) (by omega) _).mono ?_; rw [dec_five r hr]; rintro e w1 ⟨rfl, hb1⟩)
  go_loopw [7] (fun f wr => ∃ j : Nat, ∃ l : List UInt8, f = .string (st l) ∧ trim 5 (five r) = trim j l ∧ l.length ≤ j ∧ 1 ≤ l.length ∧ l.length ≤ 5 ∧ Below w.heap.size w wr) (fun f _ => szOf f)
  case atStart => exact ⟨5, five r, rfl, rfl, by omega, by omega, by omega, hb1⟩
  case round =>
    clear hb1 hsl hd5 hrem
    obtain ⟨j, l, rfl, htr, hj, hl1, hl5, hbel⟩ := hrel
    have hzl := st_size l
    by_cases hlt : 1 < l.length
    · have hz1 : ((l.length : Int) - 1) = ((l.length - 1 : Nat) : Int) := by omega
      have hix : ∀ w, (Instr.index 9 (.string (st l)) (.int .i64 ((l.length : Int) - 1))).run Tryz.prog w = .ok (.int .u8 (c8 (l.getD (l.length - 1) 0))) w := fun w => by rw [hz1]; exact st_at l (l.length - 1) (by omega) Tryz.prog 9 (by kernel_rfl) w
      have hsl := fun w => st_to Tryz.prog 9 (by kernel_rfl) l ((l.length : Int) - 1) (l.length - 1) hz1 (by omega) w
      obtain ⟨x, hx⟩ : ∃ x, x = l.getD (l.length - 1) 0 := ⟨_, rfl⟩
      rw [← hx] at hix
      cases h48 : (c8 x == 48) with
      | true =>
        obtain ⟨j', hj1, hj2⟩ := trim_step j l hlt hj x hx h48
        have HJ := hid (htr.trans hj1)
        have HX := hid hx
        clear hx htr hj1 hz1
        have htl : (l.take (l.length - 1)).length = l.length - 1 := by rw [List.length_take]; omega
        generalize hl' : l.take (l.length - 1) = l' at hsl htl HJ
        clear hl'
        go_wp2
        go_roundw
        case rel => exact ⟨j', l', rfl, HJ.out, by omega, by omega, by omega, hbel⟩
        case measure => show (st l').size < (st l).size; rw [st_size, st_size]; omega
      | false =>
        have hst := trim_stop j l (.inr (by rw [← hx]; exact h48))
        have HT := hid (htr.trans hst)
        have ha3 : ∀ w : World, (Op.stringOp .add (st B) (st l)).run Tryz.prog w = .ok (.string (st (B ++ l))) w := fun w => st_add B l (by omega) w
        have HX := hid hx
        clear hx htr hst hz1 hsl
        go_wp2_with (go_at_call 56; refine (digits_uv _ q (by omega) (by omega) _).mono ?_; rintro e w1 ⟨rfl, hb1⟩)
        go_ret
        exact ⟨by rw [HT.out]; rfl, below_then' hbel hb1 hbel.size⟩
    · have hst := trim_stop j l (.inl hlt)
      have HT := hid (htr.trans hst)
      have ha3 : ∀ w : World, (Op.stringOp .add (st B) (st l)).run Tryz.prog w = .ok (.string (st (B ++ l))) w := fun w => st_add B l (by omega) w
      have hne : ¬ (1 : Int) < (l.length : Int) := by omega
      clear htr hst
      go_wp2_with (go_at_call 56; refine (digits_uv _ q (by omega) (by omega) _).mono ?_; rintro e w1 ⟨rfl, hb1⟩)
      go_ret
      exact ⟨by rw [HT.out]; rfl, below_then' hbel hb1 hbel.size⟩

theorem text_any (n : Int) (q : Bool) (w : World) (h0 : -214748364799999 ≤ n) (h1 : n ≤ 214748364799999) :
    Calls Tryz.prog 31 #[.int .i64 n, .bool q] w fun e w' => e = .returned (.string (st (pnum q n))) ∧ Below w.heap.size w w' := by
  by_cases hn : n < 0
  · cases q
    · exact text_neg_real n w hn h0
    · exact text_neg_whole n w hn h0
  · cases q
    · exact text_pos_real n w (by omega) h1
    · exact text_pos_whole n w (by omega) h1
end Go.Proofs.YtjkoiknjffldjaaGreatDoor
