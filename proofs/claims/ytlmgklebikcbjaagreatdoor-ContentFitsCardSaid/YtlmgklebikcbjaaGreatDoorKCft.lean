/-
  ContentFits: any operator with any operands: whether there is one of that name, of which kinds its operands are, and whether these are of those; the walk. Condition: the table of white signs reads as the library lays it.
-/
import Derived.Test.YtlmgklebikcbjaaGreatDoorKRft
import Derived.Test.YtlmgklebikcbjaaGreatDoorKMae
import Derived.Test.YtlmgklebikcbjaaGreatDoorKAwc
/-
  ContentFits: any operator with any operands: whether there is one of that name, of which kinds its operands are, and whether these are of those; the walk. Condition: the table of white signs reads as the library lays it.
-/
namespace Go.Proofs.YtlmgklebikcbjaaGreatDoor
open Go.RowKit
set_option linter.unusedVariables false

theorem All2.map {α β γ : Type} {R : α → γ → Prop} (f : β → γ) {l : List α} {m : List β} (h : All2 (fun a b => R a (f b)) l m) : All2 R l (m.map f) := by
  induction h with
  | nil => exact .nil
  | cons h _ ih => exact .cons h ih
theorem GVs.kr {w : World} {v : Value} {l : List PO} (h : GVs w v l) : KR w v (l.map PO.kind) := by
  obtain ⟨C, h1, h2⟩ := h
  exact ⟨C, h1, All2.map PO.kind (h2.mono fun c o q => ⟨q.v5, q.kind1⟩)⟩

set_option maxHeartbeats 3200000 in
set_option maxRecDepth 100000 in
theorem cft_any (s : ByteArray) (v : Value) (l : List PO) (w : World) (htab : Lib.TabIs Tryz.prog w "strings.asciiSpace" .u8 Lib.asciiSpaceTab) (h : GVs w v l) :
    Calls Tryz.prog 5 #[.string s, v] w fun e w' => e = .returned (.bool true) ∧ Below w.heap.size w w' := by
  obtain ⟨n, rfl⟩ : ∃ n, s = st n := ⟨_, (st_self s).symm⟩
  have hsz := st_size n
  have hKR := hid (fun W (hW : Below w.heap.size w W) => (h.up hW).kr)
  obtain ⟨C, hS, hC⟩ := h
  have hCl := All2.len hC
  obtain ⟨ao, cap, rfl, -⟩ := id hS
  rw [hCl] at hS hKR ⊢
  have HS := hid hS
  have HC := hid hC
  clear hS hC
  by_cases hn : (n.length : Int) > 50
  · go_enter Tryz.func5, Tryz.ntmps5
    go_wp2_with (first | (go_at_call 8; refine (awake22_any _ htab).mono ?_; rintro e w1 ⟨rfl, hb1⟩))
    go_ret
    exact ⟨rfl, hb1⟩
  by_cases hl : (l.length : Int) > 50
  · go_enter Tryz.func5, Tryz.ntmps5
    go_wp2_with (first | (go_at_call 8; refine (awake22_any _ htab).mono ?_; rintro e w1 ⟨rfl, hb1⟩))
    go_ret
    exact ⟨rfl, hb1⟩
  have HTB := hid htab
  go_enter Tryz.func5, Tryz.ntmps5
  go_wp2_with (first | (go_at_call 8; refine (awake22_any _ htab).mono ?_; rintro e w1 ⟨rfl, hb1⟩))
  go_loopw [5] (fun s5 wr => ∃ i : Nat, s5 = .int .i64 i ∧ i ≤ l.length ∧ Below w.heap.size w wr) (fun s5 _ => l.length - (intOf s5).toNat)
  case atStart => exact ⟨0, rfl, Nat.zero_le _, hb1⟩
  case round =>
    obtain ⟨i, rfl, hi, hB⟩ := hrel
    by_cases hlt : i < l.length
    · have hz : (i : Int) < (l.length : Int) := by omega
      have hSw := HS.out.up hB
      obtain ⟨g, off, rfl, hcell⟩ := hSw.some (by omega)
      have hCi : i < C.length := by omega
      have l2 := hcell i hCi
      have hgv := All2.at HC.out i hCi hlt
      have hv5 := hgv.v5
      have HGV := hid (fun W (hW : Below w.heap.size w W) => rmay_any (hgv.up hW))
      generalize hce : C[i]'hCi = ci at l2 hgv hv5 HGV
      obtain ⟨p1, p2, p3, p4, p5, p6, p7, p8, p9, p10, p11, rfl⟩ := hv5
      have c0 := l2 0 _ rfl
      have c1 := l2 1 _ rfl
      have c2 := l2 2 _ rfl
      have c3 := l2 3 _ rfl
      have c4 := l2 4 _ rfl
      rw [Nat.add_zero] at c0
      clear l2 hcell hce hgv hSw
      cases hm : mayF 28 l[i] with
      | true =>
        rw [hm] at HGV
        clear hm
        go_wp2_with (first | (go_at_call 17; refine (HGV.out _ hB).mono ?_; rintro e w5 ⟨rfl, hb5⟩))
        go_roundw
        case rel => exact ⟨i + 1, by go_num, by omega, hB.trans (hb5.mono hB.size)⟩
        case measure => simp [intOf]; omega
      | false =>
        rw [hm] at HGV
        clear hm
        go_wp2_with (first | (go_at_call 17; refine (HGV.out _ hB).mono ?_; rintro e w5 ⟨rfl, hb5⟩))
        go_ret
        exact ⟨rfl, hB.trans (hb5.mono hB.size)⟩
    · obtain rfl : i = l.length := by omega
      have hz : ¬ (l.length : Int) < (l.length : Int) := by omega
      obtain ⟨w2, rfl⟩ : ∃ x : World, x = wr := ⟨_, rfl⟩
      have hkz : (l.map PO.kind).length ≤ 1000 := by rw [List.length_map]; omega
      have hst := st_toList (kinds n)
      have hkk : (kinds n == kinds n) = true := by simp
      have hoo : ((kindOf n).isSome == (kindOf n).isSome) = true := by simp
      have hff : (fitsOf n (l.map PO.kind) == fitsOf n (l.map PO.kind)) = true := by simp
      have hK1 := hid (kinds_any n w2 (tab_up HTB.out hB))
      have hK2 := hid (fun W => rkinds_any n W)
      have hF1 := hid (fun W (hW : Below w.heap.size w W) => fits_all n (.slice ao l.length cap) (.slice none 0 0) 0 (l.map PO.kind) W (tab_up HTB.out hW) (hKR.out W hW) hkz)
      have hF2 := hid (fun W (hW : Below w.heap.size w W) => rfits_all n (.slice ao l.length cap) (.slice none 0 0) 0 (l.map PO.kind) W (hKR.out W hW) hkz)
      generalize fitsOf n (l.map PO.kind) = F at *
      generalize kinds n = kn at *
      generalize (kindOf n).isSome = ok at *
      clear HS HC htab
      go_wp2_with (first
        | (go_at_call 19; refine (hF2.out _ hB5).mono ?_; rintro e w6 ⟨rfl, hb6⟩)
        | (go_at_call 13; refine (hF1.out _ hB4).mono ?_; rintro e w5 ⟨rfl, hb5⟩; have hB5 := hB4.trans (hb5.mono hB4.size))
        | (go_at_call 18; refine (hK2.out _).mono ?_; rintro e w4 ⟨rfl, hb4⟩; have hB4 := hB3.trans (hb4.mono hB3.size))
        | (go_at_call 10; refine hK1.out.mono ?_; rintro e w3 ⟨rfl, hb3⟩; have hB3 := hB.trans (hb3.mono hB.size)))
      go_ret
      exact ⟨rfl, hB5.trans (hb6.mono hB5.size)⟩
end Go.Proofs.YtlmgklebikcbjaaGreatDoor
