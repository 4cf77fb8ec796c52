/-
  The document's Kinds: of which kinds an operator's operands are. Condition: none.
-/
import Derived.Test.YtjkoiknjffldjaaGreatDoorKFit
/-
  The document's Kinds: of which kinds an operator's operands are. Condition: none.
-/
namespace Go.Proofs.YtjkoiknjffldjaaGreatDoor
open Go.RowKit
set_option linter.unusedVariables false

theorem st_sub (P : Program) (t : TypeId) (ht : P.underlying t = some .string) (l : List UInt8) (m n : Nat) (hm : m ≤ n) (h : n ≤ l.length) (w : World) : (Instr.slice t (.string (st l)) (some (.int .i64 (m : Int))) (some (.int .i64 (n : Int))) none).run P w = .ok (.string (st ((l.drop m).take (n - m)))) w := by
  rw [run_slice_string w t (st l) .i64 .i64 m n ht (by omega) (by omega) (by rw [st_size]; omega), Int.toNat_natCast, Int.toNat_natCast]
  congr 2
  exact ByteArray.extract_mk l m n
/-- is a word in a row, from a place on, with so much of a word ahead? -/
def amgL (s : List UInt8) : List UInt8 → List UInt8 → Bool
  | [], acc => acc == s
  | x :: r, acc => if x = 32 then (acc == s || amgL s r []) else amgL s r (acc ++ [x])
/-- the words between blanks -/
def wsp : List UInt8 → List UInt8 → List (List UInt8)
  | [], acc => [acc]
  | x :: r, acc => if x = 32 then acc :: wsp r [] else wsp r (acc ++ [x])
theorem amgL_mem (s : List UInt8) : ∀ (r acc : List UInt8), amgL s r acc = decide (s ∈ wsp r acc)
  | [], acc => by
    rw [amgL, wsp]
    by_cases h : acc = s
    · subst h; simp
    · have h2 : ¬ s = acc := fun q => h q.symm
      simp [h, h2]
  | x :: r, acc => by
    rw [amgL, wsp]
    by_cases hx : x = 32
    · rw [if_pos hx, if_pos hx, amgL_mem s r []]
      by_cases h : acc = s
      · subst h; simp
      · have h2 : ¬ s = acc := fun q => h q.symm
        simp [h, h2]
    · rw [if_neg hx, if_neg hx]; exact amgL_mem s r _
theorem wsp_fields : ∀ r ∈ kRows, wsp r.2 [] = Lib.fields r.2 := by decide +kernel
theorem amg_kind (s : List UInt8) {r : List UInt8 × List UInt8} (h : r ∈ kRows) : amgL s r.2 [] = decide (s ∈ Lib.fields r.2) := by rw [amgL_mem, wsp_fields r h]

set_option maxHeartbeats 3200000 in
set_option maxRecDepth 100000 in
theorem among_any (s row : List UInt8) (w : World) (hl : row.length ≤ 100) :
    Calls Tryz.prog 17 #[.string (st s), .string (st row)] w fun e w' => e = .returned (.bool (amgL s row [])) ∧ w' = w := by
  obtain ⟨F, hF⟩ : ∃ F, F = amgL s row [] := ⟨_, rfl⟩
  rw [← hF]
  have HF := hid hF
  clear hF
  have hss := st_toList s
  have hsz := st_size row
  go_enter Tryz.func17, Tryz.ntmps17
  go_wp2
  go_loopw [5, 6] (fun s5 s6 wr => ∃ a i : Nat, s5 = .int .i64 a ∧ s6 = .int .i64 i ∧ a ≤ i ∧ i ≤ row.length + 1 ∧ wr = w ∧ (i ≤ row.length → F = amgL s (row.drop i) ((row.drop a).take (i - a))) ∧ (i = row.length + 1 → F = false)) (fun _ s6 _ => row.length + 1 - (intOf s6).toNat)
  case atStart => exact ⟨0, 0, rfl, rfl, Nat.le_refl _, by omega, rfl, fun _ => by rw [HF.out]; rfl, fun h => by omega⟩
  case round =>
    obtain ⟨a, i, rfl, rfl, hai, hi, rfl, h1, h2⟩ := hrel
    by_cases hlt : i ≤ row.length
    · have hz : (i : Int) ≤ (row.length : Int) := by omega
      have H1 := hid (h1 hlt)
      clear h1 h2
      have hsub := fun w => st_sub Tryz.prog 9 Tryz.underlying9 row a i hai hlt w
      obtain ⟨u, hu⟩ : ∃ u, u = (row.drop a).take (i - a) := ⟨_, rfl⟩
      rw [← hu] at hsub H1
      have HU := hid hu
      clear hu
      have hsu := st_toList u
      obtain ⟨bq, hbq⟩ : ∃ bq, bq = (u == s) := ⟨_, rfl⟩
      have HBQ := hid hbq
      by_cases hend : i = row.length
      · have be : ((i : Int) == (row.length : Int)) = true := by rw [hend]; simp
        have hF2 : F = bq := by rw [H1.out, hend, List.drop_length, amgL, hbq]
        have HF2 := hid hF2
        have HEND := hid hend
        clear hF2
        clear hbq hend
        cases bq with
        | true =>
          have hbe : (u == s) = true := HBQ.out.symm
          go_wp2
          go_ret
          exact ⟨by rw [HF2.out]; rfl, rfl⟩
        | false =>
          have hbe : (u == s) = false := HBQ.out.symm
          go_wp2
          go_roundw
          case rel => exact ⟨i + 1, i + 1, by go_num, by go_num, Nat.le_refl _, by omega, trivial, fun h => by have := HEND.out; omega, fun _ => HF2.out⟩
          case measure => simp [intOf]; omega
      · have be : ((i : Int) == (row.length : Int)) = false := by simp; omega
        have hil : i < row.length := by omega
        have hidx := fun w => st_at row i hil Tryz.prog 9 Tryz.underlying9 w
        have hgd : row.getD i 0 = row[i] := by simp [List.getD, hil]
        rw [hgd] at hidx
        have hdr : row.drop i = row[i] :: row.drop (i + 1) := List.drop_eq_getElem_cons hil
        have htk : (row.drop a).take (i + 1 - a) = u ++ [row[i]] := by
          rw [HU.out, show i + 1 - a = (i - a) + 1 by omega, List.take_add_one, List.getElem?_drop, show a + (i - a) = i by omega, List.getElem?_eq_getElem hil]
          rfl
        have H2 := H1.out
        rw [hdr, amgL] at H2
        generalize row[i] = x at *
        by_cases hx : x = 32
        · have bx : (c8 x == 32) = true := by rw [hx]; rfl
          rw [if_pos hx, ← hbq] at H2
          have HF2 := hid H2
          clear H2 hbq hdr htk hgd hx
          cases bq with
          | true =>
            have hbe : (u == s) = true := HBQ.out.symm
            go_wp2
            go_ret
            exact ⟨by rw [HF2.out]; rfl, rfl⟩
          | false =>
            have hbe : (u == s) = false := HBQ.out.symm
            go_wp2
            go_roundw
            case rel => exact ⟨i + 1, i + 1, by go_num, by go_num, Nat.le_refl _, by omega, trivial, fun h => by rw [HF2.out, Nat.sub_self, List.take_zero]; rfl, fun h => by omega⟩
            case measure => simp [intOf]; omega
        · have bx : (c8 x == 32) = false := by
            have h3 : ¬ c8 x = 32 := fun q => hx (UInt8.toNat_inj.1 (show x.toNat = 32 by have q : (x.toNat : Int) = 32 := q; omega))
            simp [h3]
          rw [if_neg hx] at H2
          have HF2 := hid H2
          have HTK := hid htk
          clear H2 hbq hdr htk hgd hx
          go_wp2
          go_roundw
          case rel => exact ⟨a, i + 1, rfl, by go_num, by omega, by omega, trivial, fun h => by rw [HF2.out, HTK.out], fun h => by omega⟩
          case measure => simp [intOf]; omega
    · obtain rfl : i = row.length + 1 := by omega
      have hz : ¬ ((row.length + 1 : Nat) : Int) ≤ (row.length : Int) := by omega
      have HF2 := hid (h2 rfl)
      clear h1 h2
      go_wp2
      go_ret
      exact ⟨by rw [HF2.out]; rfl, rfl⟩

theorem kindIn_nil (rs : List (List UInt8 × List UInt8)) (h : ∀ r ∈ rs, ¬ [] ∈ Lib.fields r.2) : kindIn rs [] = none := by
  induction rs with
  | nil => rfl
  | cons r rs ih => rw [kindIn_no (h r (List.mem_cons_self ..)), ih fun x hx => h x (List.mem_cons_of_mem _ hx)]
theorem kindOf_nil : kindOf [] = none := kindIn_nil _ (by decide +kernel)

set_option maxHeartbeats 3200000 in
set_option maxRecDepth 100000 in
theorem rkinds_any (n : List UInt8) (w : World) :
    Calls Tryz.prog 5 #[.string (st n)] w fun e w' => e = .returned (.tuple #[.string (st (kinds n)), .bool (kindOf n).isSome]) ∧ Below w.heap.size w w' := by
  have hKT := hid (KT.new w 53)
  have hstn := st_toList n
  by_cases hn : n = []
  · subst hn
    have hk : kinds [] = [] := by unfold kinds; rw [kindOf_nil]; rfl
    rw [hk, kindOf_nil]
    have b0 : (st [] != ⟨#[]⟩) = false := by decide
    go_enter Tryz.func5, Tryz.ntmps5
    go_wp2
    go_loopw [5] (fun s5 wr => s5 = .int .i64 0 ∧ Below w.heap.size w wr) (fun _ _ => 0)
    case atStart => exact ⟨rfl, alb _ _⟩
    case round =>
      obtain ⟨rfl, hB⟩ := hrel
      go_wp2
      exact bodyPost_ret (v := .tuple #[.string (st []), .bool false]) (by simp [results, Tryz.results5, go_sem, st]) rfl ⟨rfl, hB⟩
  have bn : (n == []) = false := by simp [hn]
  clear hn
  go_enter Tryz.func5, Tryz.ntmps5
  go_wp2
  go_loopw [5] (fun s5 wr => ∃ i : Nat, s5 = .int .i64 i ∧ i ≤ 16 ∧ KT wr w.heap.size ∧ Below w.heap.size w wr ∧ kindOf n = kindIn (kRows.drop i) n) (fun s5 _ => 16 - (intOf s5).toNat)
  case atStart => exact ⟨0, rfl, by omega, hKT.out, alb _ _, rfl⟩
  case round =>
    obtain ⟨i, rfl, hi, hK, hB, hk⟩ := hrel
    by_cases hlt : i < 16
    · have hz : (i : Int) < 16 := by omega
      obtain ⟨c1, c2⟩ := hK i (by rw [kRows_len]; exact hlt)
      have hdr : kRows.drop i = kRows[i]'(by rw [kRows_len]; exact hlt) :: kRows.drop (i + 1) := List.drop_eq_getElem_cons _
      rw [hdr] at hk
      have hmem := List.getElem_mem (show i < kRows.length by rw [kRows_len]; exact hlt)
      have hok := kRows_ok _ hmem
      have hag := amg_kind n hmem
      generalize kRows[i]'(by rw [kRows_len]; exact hlt) = r at c1 c2 hk hok hag
      have HK := hid hk
      have HKT := hid hK
      clear hk hdr hK hmem
      obtain ⟨r1, r2⟩ := r
      simp only [] at c1 c2 hok hag
      have cA := hid (among_any n r2 wr (by omega))
      rw [hag] at cA
      clear hok hag
      by_cases hm : n ∈ Lib.fields r2
      · have hk0 : kindOf n = some r1 := by rw [HK.out]; exact kindIn_yes hm
        rw [decide_eq_true hm] at cA
        have HK0 := hid hk0
        clear hk0 hm
        go_wp2_with (first | (go_at_call 17; refine cA.out.mono ?_; rintro e w3 ⟨rfl, rfl⟩))
        refine bodyPost_ret (v := .tuple #[.string (st r1), .bool true]) (by simp [results, Tryz.results5, go_sem]) rfl ?_
        unfold kinds
        rw [HK0.out]
        exact ⟨rfl, hB⟩
      · have hk0 : kindOf n = kindIn (kRows.drop (i + 1)) n := by rw [HK.out]; exact kindIn_no hm
        rw [decide_eq_false hm] at cA
        have HK0 := hid hk0
        clear hk0 hm
        go_wp2_with (first | (go_at_call 17; refine cA.out.mono ?_; rintro e w3 ⟨rfl, rfl⟩))
        go_roundw
        case rel => exact ⟨i + 1, by go_num, by omega, HKT.out, hB, HK0.out⟩
        case measure => simp [intOf]; omega
    · obtain rfl : i = 16 := by omega
      have HK0 := hid (show kindOf n = none by rw [hk]; rfl)
      clear hk
      go_wp2
      refine bodyPost_ret (v := .tuple #[.string ⟨#[]⟩, .bool false]) (by simp [results, Tryz.results5, go_sem]) rfl ?_
      unfold kinds
      rw [HK0.out]
      exact ⟨rfl, hB⟩
end Go.Proofs.YtjkoiknjffldjaaGreatDoor
