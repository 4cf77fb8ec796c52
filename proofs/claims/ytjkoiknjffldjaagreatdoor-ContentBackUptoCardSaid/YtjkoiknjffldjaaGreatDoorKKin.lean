/-
  The program's Kinds: of which kinds an operator's operands are. Condition: the table of white signs reads as the library lays it.
-/
import Derived.Test.YtjkoiknjffldjaaGreatDoorKCal
import Derived.Test.YtjkoiknjffldjaaGreatDoorShelf
/-
  The program's Kinds: of which kinds an operator's operands are. Condition: the table of white signs reads as the library lays it.
-/
namespace Go.Proofs.YtjkoiknjffldjaaGreatDoor
open Go.RowKit
set_option linter.unusedVariables false

/-- the kinds of operands and the operators that ask for them -/
def kRows : List (List UInt8 × List UInt8) := [
  ([], [98, 32, 66, 32, 98, 42, 32, 66, 42, 32, 66, 84, 32, 66, 88, 32, 69, 77, 67, 32, 69, 84, 32, 69, 88, 32, 102, 32, 70, 32, 102, 42, 32, 104, 32, 110, 32, 113, 32, 81, 32, 115, 32, 83, 32, 84, 42, 32, 87, 32, 87, 42]),
  ([110], [103, 32, 71, 32, 105, 32, 77, 32, 84, 99, 32, 84, 76, 32, 84, 115, 32, 84, 119, 32, 84, 122, 32, 119]),
  ([105], [74, 32, 106, 32, 84, 114]),
  ([110, 110], [100, 48, 32, 108, 32, 109, 32, 84, 100, 32, 84, 68]),
  ([110, 110, 110], [114, 103, 32, 82, 71]),
  ([110, 110, 110, 110], [107, 32, 75, 32, 114, 101, 32, 118, 32, 121]),
  ([110, 110, 110, 110, 110, 110], [99, 32, 99, 109, 32, 100, 49, 32, 84, 109]),
  ([78], [66, 77, 67, 32, 67, 83, 32, 99, 115, 32, 68, 111, 32, 103, 115, 32, 77, 80, 32, 114, 105, 32, 115, 104]),
  ([115], [84, 106, 32, 39]),
  ([110, 110, 115], [34]),
  ([97], [84, 74]),
  ([97, 110], [100]),
  ([78, 100], [66, 68, 67, 32, 68, 80]),
  ([78, 110], [84, 102]),
  ([42], [115, 99, 32, 83, 67, 32, 115, 99, 110, 32, 83, 67, 78]),
  ([68], [66, 73])]
/-- the kinds of an operator's operands -/
def kindIn : List (List UInt8 × List UInt8) → List UInt8 → Option (List UInt8)
  | [], _ => none
  | r :: rs, n => if n ∈ Lib.fields r.2 then some r.1 else kindIn rs n
def kindOf (n : List UInt8) : Option (List UInt8) := kindIn kRows n
def kinds (n : List UInt8) : List UInt8 := (kindOf n).getD []

theorem tab_up {w w' : World} (h : Lib.TabIs Tryz.prog w "strings.asciiSpace" .u8 Lib.asciiSpaceTab) (hb : Below w.heap.size w w') : Lib.TabIs Tryz.prog w' "strings.asciiSpace" .u8 Lib.asciiSpaceTab := by
  have hg : Tryz.prog.globalNamed "strings.asciiSpace" = some 0 := by kernel_rfl
  unfold Lib.TabIs World.var? at h ⊢
  rw [hg] at h ⊢
  simp only [Option.bind_some] at h ⊢
  have h0 : 0 < w.heap.size := by
    rcases Nat.eq_zero_or_pos w.heap.size with q | q
    · rw [Array.getElem?_eq_none (by omega)] at h; simp at h
    · exact q
  rw [hb.block 0 h0]
  exact h
theorem kRows_len : kRows.length = 16 := rfl
theorem kRows_ok : ∀ r ∈ kRows, r.2.length ≤ 60 ∧ (∀ x ∈ r.2, x.toNat < 128) ∧ (Lib.fields r.2).length ≤ 60 ∧ 0 < (Lib.fields r.2).length := by decide +kernel
/-- block g is the table of the rows -/
def KT (w : World) (g : Nat) : Prop := ∀ i (h : i < kRows.length), w.cell? ⟨g, i * 2, none⟩ = some (.string (st kRows[i].1)) ∧ w.cell? ⟨g, i * 2 + 1, none⟩ = some (.string (st kRows[i].2))
theorem KT.up {w w' : World} {g : Nat} (h : KT w g) (hb : Below w.heap.size w w') : KT w' g := fun i hi => ⟨cell_up' hb (h i hi).1, cell_up' hb (h i hi).2⟩
theorem KT.new (w : World) (e : TypeId) : KT (w.alloc (.cells (kRows.flatMap fun r => [Value.string (st r.1), Value.string (st r.2)]).toArray e)) w.heap.size := by
  intro i hi
  rw [kRows_len] at hi
  rw [World.cell?_alloc_at _ _ _ _ rfl, World.cell?_alloc_at _ _ _ _ rfl]
  obtain rfl | rfl | rfl | rfl | rfl | rfl | rfl | rfl | rfl | rfl | rfl | rfl | rfl | rfl | rfl | rfl : i = 0 ∨ i = 1 ∨ i = 2 ∨ i = 3 ∨ i = 4 ∨ i = 5 ∨ i = 6 ∨ i = 7 ∨ i = 8 ∨ i = 9 ∨ i = 10 ∨ i = 11 ∨ i = 12 ∨ i = 13 ∨ i = 14 ∨ i = 15 := by omega
  all_goals exact ⟨rfl, rfl⟩
theorem kindIn_yes {r : List UInt8 × List UInt8} {rs : List (List UInt8 × List UInt8)} {n : List UInt8} (h : n ∈ Lib.fields r.2) : kindIn (r :: rs) n = some r.1 := by rw [kindIn, if_pos h]
theorem kindIn_no {r : List UInt8 × List UInt8} {rs : List (List UInt8 × List UInt8)} {n : List UInt8} (h : ¬ n ∈ Lib.fields r.2) : kindIn (r :: rs) n = kindIn rs n := by rw [kindIn, if_neg h]

theorem st_inj {a b : List UInt8} (h : (⟨a.toArray⟩ : ByteArray) = st b) : a = b := by
  have h2 := congrArg (fun z : ByteArray => z.data.toList) h
  simpa [st] using h2
theorem contains_mem (fl : List (List UInt8)) (n : List UInt8) : Lib.containsS ((fl.map fun l => (⟨l.toArray⟩ : ByteArray)).take fl.length) (st n) = decide (n ∈ fl) := by
  rw [List.take_of_length_le (by simp)]
  have h1 := Lib.containsS_iff (fl.map fun l => (⟨l.toArray⟩ : ByteArray)) (st n)
  have h2 : st n ∈ (fl.map fun l => (⟨l.toArray⟩ : ByteArray)) ↔ n ∈ fl := by
    rw [List.mem_map]
    constructor
    · rintro ⟨l, hl, he⟩
      rw [← st_inj he]; exact hl
    · intro h; exact ⟨n, h, rfl⟩
  rw [h2] at h1
  by_cases q : n ∈ fl
  · rw [decide_eq_true q]; exact h1.2 q
  · rw [decide_eq_false q]
    cases hb : Lib.containsS (fl.map fun l => (⟨l.toArray⟩ : ByteArray)) (st n) with
    | true => exact absurd (h1.1 hb) q
    | false => rfl
/-- strings.Fields of a row of words, then slices.Contains -/
theorem fields_row (r : List UInt8) (W : World) (hs : r.length ≤ 60) (ha : ∀ x ∈ r, x.toNat < 128) (htab : Lib.TabIs Tryz.prog W "strings.asciiSpace" .u8 Lib.asciiSpaceTab) :
    Calls Tryz.prog 45 #[.string (st r)] W fun e w' => e = .returned (.slice (some ⟨W.heap.size, 0, none⟩) (Lib.fields r).length (Lib.fields r).length) ∧ w' = W.alloc (.cells ((Lib.fields r).map fun l => Value.string ⟨l.toArray⟩).toArray 9) := by
  have hl : (st r).data.toList = r := by simp [st]
  have h := Tryz.strings_Fields (st r) W (by rw [st_size]; omega) (by
    rw [hl]
    intro j b hb
    exact ha b (List.mem_of_getElem? hb)) htab
  rw [hl] at h
  exact h
theorem contains_row (fl : List (List UInt8)) (n : List UInt8) (W : World) (g : Nat) (hg : g = W.heap.size) (hl : fl.length ≤ 60) :
    Calls Tryz.prog 44 #[.slice (some ⟨g, 0, none⟩) fl.length fl.length, .string (st n)] (W.alloc (.cells (fl.map fun l => Value.string ⟨l.toArray⟩).toArray 9)) fun e w' => e = .returned (.bool (decide (n ∈ fl))) ∧ w' = W.alloc (.cells (fl.map fun l => Value.string ⟨l.toArray⟩).toArray 9) := by
  subst hg
  rw [← contains_mem]
  refine Tryz.slices_Contains_string W.heap.size 0 fl.length fl.length (fl.map fun l => (⟨l.toArray⟩ : ByteArray)) (st n) _ (by simp) (by omega) (fun j hj => ?_)
  rw [World.cell?_alloc_at _ _ _ _ rfl]
  have hj2 : j < fl.length := by simpa using hj
  simp [List.getD, hj2]

set_option maxHeartbeats 3200000 in
set_option maxRecDepth 100000 in
theorem kinds_any (n : List UInt8) (w : World) (htab : Lib.TabIs Tryz.prog w "strings.asciiSpace" .u8 Lib.asciiSpaceTab) :
    Calls Tryz.prog 27 #[.string (st n)] w fun e w' => e = .returned (.tuple #[.string (st (kinds n)), .bool (kindOf n).isSome]) ∧ Below w.heap.size w w' := by
  have hKT := hid (KT.new w 53)
  go_enter Tryz.func27, Tryz.ntmps27
  go_wp2
  go_loopw [24, 5] (fun s24 _ wr => ∃ i : Nat, s24 = .int .i64 i ∧ i ≤ 16 ∧ KT wr w.heap.size ∧ Below w.heap.size w wr ∧ kindOf n = kindIn (kRows.drop i) n) (fun s24 _ _ => 16 - (intOf s24).toNat)
  case atStart => exact ⟨0, rfl, by omega, hKT.out, alb _ _, rfl⟩
  case round =>
    obtain ⟨i, rfl, hi, hK, hB, hk⟩ := hrel
    by_cases hlt : i < 16
    · have hz : (i : Int) < 16 := by omega
      obtain ⟨c1, c2⟩ := hK i (by rw [kRows_len]; exact hlt)
      have hdr : kRows.drop i = kRows[i]'(by rw [kRows_len]; exact hlt) :: kRows.drop (i + 1) := List.drop_eq_getElem_cons _
      rw [hdr] at hk
      have hok := kRows_ok _ (List.getElem_mem (show i < kRows.length by rw [kRows_len]; exact hlt))
      generalize kRows[i]'(by rw [kRows_len]; exact hlt) = r at c1 c2 hk hok
      have HK := hid hk
      have HKT := hid hK
      clear hk hdr hK
      obtain ⟨r1, r2⟩ := r
      simp only [] at c1 c2 hok
      have hFL : (Lib.fields r2).length ≤ 60 := hok.2.2.1
      have cF := hid (fields_row r2 (wr.alloc (.cells #[.string (st r1), .string (st r2)] 53)) hok.1 hok.2.1 (tab_up htab (hB.trans ((alb wr _).mono hB.size))))
      have cC := hid (contains_row (Lib.fields r2) n (wr.alloc (.cells #[.string (st r1), .string (st r2)] 53)) (wr.heap.size + 1) (by simp) hFL)
      clear hok
      by_cases hm : n ∈ Lib.fields r2
      · have hk0 : kindOf n = some r1 := by rw [HK.out]; exact kindIn_yes hm
        rw [decide_eq_true hm] at cC
        have HK0 := hid hk0
        clear hk0 hm
        generalize Lib.fields r2 = fl at *
        go_wp2_with (first | (go_at_call 45; refine cF.out.mono ?_; rintro e w3 ⟨rfl, rfl⟩) | (go_at_call 44; refine cC.out.mono ?_; rintro e w4 ⟨rfl, rfl⟩))
        refine bodyPost_ret (v := .tuple #[.string (st r1), .bool true]) (by simp [results, Tryz.results27, go_sem]) rfl ?_
        unfold kinds
        rw [HK0.out]
        exact ⟨rfl, hB.trans ((below_then (alb wr _) (alb _ _)).mono hB.size)⟩
      · have hk0 : kindOf n = kindIn (kRows.drop (i + 1)) n := by rw [HK.out]; exact kindIn_no hm
        rw [decide_eq_false hm] at cC
        have HK0 := hid hk0
        clear hk0 hm
        generalize Lib.fields r2 = fl at *
        go_wp2_with (first | (go_at_call 45; refine cF.out.mono ?_; rintro e w3 ⟨rfl, rfl⟩) | (go_at_call 44; refine cC.out.mono ?_; rintro e w4 ⟨rfl, rfl⟩))
        go_roundw
        case rel => exact ⟨i + 1, by go_num, by omega, (HKT.out.up (alb wr _)).up (alb _ _), (hB.trans ((below_then (alb wr _) (alb _ _)).mono hB.size)), HK0.out⟩
        case measure => simp [intOf]; omega
    · obtain rfl : i = 16 := by omega
      have hk0 : kindOf n = none := by rw [hk]; rfl
      have HK := hid hk0
      clear hk hk0
      go_wp2
      refine bodyPost_ret (v := .tuple #[.string ⟨#[]⟩, .bool false]) (by simp [results, Tryz.results27, go_sem]) rfl ?_
      unfold kinds
      rw [HK.out]
      exact ⟨rfl, hB⟩
end Go.Proofs.YtjkoiknjffldjaaGreatDoor
