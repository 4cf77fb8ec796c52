/-
  A cursor's methods that move it; the makers. Conditions: the cursor stands in its bytes; sizes.
-/
import Derived.Test.YtlmgklebikcbjaaGreatHeld
import Derived.Lib.SlBytesRow
import Derived.Shelf.Bytes.SlSmallAll
namespace Go.Proofs.YtlmgklebikcbjaaGreat
open Go.RowKit
set_option linter.unusedVariables false

theorem seek_any (cp : Nat) (ao : Option Addr) (cap : Nat) (b : List UInt8) (i k : Nat) (w : World) (h : CurAt w cp ao cap b i) (hk : k ≤ b.length) :
    Calls Tryz.prog 40 #[.pointer (some ⟨cp, 0, none⟩), .int .i64 k] w fun e w' => e = .returned (.bool true) ∧ CurAt w' cp ao cap b k ∧ Held w.heap.size cp cp w w' := by
  have h0 := h.c0
  have h1 := h.c1
  have h2 := h.f1
  have hs := h.sm
  have t2 : decide (b.length < k) = false := decide_eq_false (by omega)
  go_enter Tryz.func40, Tryz.ntmps40
  go_wp2
  go_ret
  exact ⟨rfl, h.set hk, Held.set w _ _ (.inl rfl)⟩

theorem next_any (cp : Nat) (ao : Option Addr) (cap : Nat) (b : List UInt8) (i : Nat) (w : World) (h : CurAt w cp ao cap b i) :
    Calls Tryz.prog 55 #[.pointer (some ⟨cp, 0, none⟩)] w fun e w' => e = .returned (.int .i64 (pk b i)) ∧ CurAt w' cp ao cap b (nx b i) ∧ Held w.heap.size cp cp w w' := by
  have hs := h.sm
  have ha := h.at_
  by_cases hlt : i < b.length
  · have hp : pk b i = b8 b i := pk_in hlt
    have x0 := b8_ge b i
    have x1 := b8_le b i
    have t1 : decide (0 ≤ b8 b i) = true := decide_eq_true x0
    rw [hp, nx_in hlt]
    have P := hid hp
    clear hp
    go_enter Tryz.func55, Tryz.ntmps55
    go_wp2_with (first
      | (go_at_call 39; refine (peek_any cp ao cap b i 0 _ h (by decide) (by decide)).mono ?_; rintro e w1 ⟨rfl, n, rfl⟩; rw [Int.add_zero, P.out]; have c1 := (h.same (below_drewN (Below.refl _ _) n)).c1; have f1 := (h.same (below_drewN (Below.refl _ _) n)).f1))
    go_ret
    exact ⟨rfl, (h.same (below_drewN (Below.refl _ _) n)).set (j := i + 1) hlt, (Held.drewN w n).trans (Held.set _ _ _ (.inl rfl))⟩
  · have hp : pk b i = -1 := pk_out (by omega)
    rw [hp, nx_out (by omega)]
    have P := hid hp
    clear hp
    go_enter Tryz.func55, Tryz.ntmps55
    go_wp2_with (first
      | (go_at_call 39; refine (peek_any cp ao cap b i 0 _ h (by decide) (by decide)).mono ?_; rintro e w1 ⟨rfl, n, rfl⟩; rw [Int.add_zero, P.out]))
    go_ret
    exact ⟨rfl, h.same (below_drewN (Below.refl _ _) n), Held.drewN w n⟩

theorem bytesTy : BytesTy Tryz.prog 22 5 := ⟨Tryz.underlying22, by kernel_rfl⟩

/-- v[lo:hi] of a slice that reads as l: a slice that reads as that part -/
theorem sl_part {P : Program} {t e : TypeId} (T : BytesTy P t e) {w : World} {ao : Option Addr} {cap : Nat} {l : List UInt8} (h : Rd w ao l) (hle : l.length ≤ cap) (hmx : cap ≤ maxLen) (hni : ao = none → cap = 0) (lo hi : Nat) (h1 : lo ≤ hi) (h2 : hi ≤ l.length) :
    ∃ v, Sl w v ((l.drop lo).take (hi - lo)) ∧ ∀ w', (Instr.slice t (.slice ao l.length cap) (some (.int .i64 lo)) (some (.int .i64 hi)) none).run P w' = .ok v w' := by
  have hT : P.underlying t = some (.slice (P.elem t)) := by rw [T.elemOf]; exact T.under
  have hlen : ((l.drop lo).take (hi - lo)).length = hi - lo := by simp; omega
  refine ⟨sliced ao lo hi cap 1, ⟨if cap = lo then ao else ao.map (·.add (lo * 1)), cap - lo, ?_, ?_, ?_, ?_, ?_⟩, fun w' => ?_⟩
  · simp only [sliced]; rw [hlen]
  · rw [hlen]; omega
  · omega
  · intro hc
    by_cases he : cap = lo
    · omega
    · rw [if_neg he] at hc
      have : ao = none := by cases ao <;> simp_all
      have := hni this; omega
  · by_cases he : cap = lo
    · have : hi - lo = 0 := by omega
      exact .inl (by rw [this]; simp)
    · rw [if_neg he, Nat.mul_one]
      exact (h.drop _).take _
  · rw [run_slice_lh w' t ao l.length cap hT .i64 .i64 lo hi (by omega) (by omega) (by omega), T.sizeRun w']
    simp [Result.andThen]

/-- string(v) of a slice that reads as l -/
theorem sl_string {P : Program} (w : World) (src dst e : TypeId) (hs : P.underlying src = some (.slice e)) (he : P.underlying e = some (.int .u8)) (hd : P.underlying dst = some .string) (v : Value) (l : List UInt8) (h : Sl w v l) :
    (convert src dst v).run P w = .ok (.string ⟨l.toArray⟩) w := by
  obtain ⟨ao, cap, rfl, c1, c2, c3, c4⟩ := h
  by_cases hl : l.length = 0
  · have : l = [] := List.length_eq_zero_iff.1 hl
    subst this
    exact run_convert_bytes_zero w src e hs he ao cap dst hd
  · obtain ⟨b, off, rfl, _, hc⟩ := c4.some (by omega)
    rw [run_convert_bytes_arg w src e hs he b off l.length cap (l.map fun x => (x.toNat : Int)) (by simp) (fun i hi => by rw [hc i hi]; simp [List.getD, hi, b8]) dst hd]
    unfold strOfNums
    rw [List.map_map]
    congr 4
    conv => rhs; rw [← List.map_id l]
    apply List.map_congr_left
    intro x _
    simp
end Go.Proofs.YtlmgklebikcbjaaGreat
