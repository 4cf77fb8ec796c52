/-
  append once more, told of one operation: what was appended to reads as it did; for regions that draw their order. And near, told in rows.
-/
import Derived.Test.YtmlaakadjkmphaaMem2
import Derived.Test.YtmlaakadjkmphaaNear
import Derived.Deep.RegionHeld3
namespace Go.Proofs.Ytmlaakadjkmphaa
open Go.RowKit
set_option linter.unusedVariables false

/-- what was appended to is still the same row -/
theorem run_append_still {P : Program} (w : World) (base : Nat) (t ty e : TypeId) (i : TypeInfo) (z : Value) (size bytes : Nat) (ht : P.underlying t = some (.slice e)) (hi : P.info? e = some i) (hz : i.zero = some z)
    (hsize : i.size = size) (hby : i.bytes = bytes) (hsz : 0 < size)
    (v : Value) (n : Nat) (xs : List Value) (hown : w.ownsRow base e size v n xs)
    (a : Addr) (m c : Nat) (news : List Value) (hl : news.length = m * size) (hnews : ∀ j u, news[j]? = some u → w.cell? (a.add j) = some u) (h1 : ∀ u ∈ news, u.oneCell' = true)
    (h63 : n + m ≤ maxLen) (hbytes : (n + m) * bytes ≤ 140737488355328) (v' : Value) (w' : World)
    (hr : (Builtin.append_ #[t, t] ty #[v, .slice (some a) m c]).run P w = .ok v' w') (hg : w.grownBy w' v.ownBlock) : w'.ownsRow base e size v n xs := by
  subst hsize
  subst hby
  have hs : n + m ≤ 9223372036854775807 := by simp only [maxLen] at h63; omega
  have h0 := hown
  rcases hown.2 with ⟨rfl, rfl⟩ | ⟨g, cap, cur, rfl, hbg, hgg, hnc, hcm, hcs, htake⟩
  · exact h0.kept hg (.inl rfl)
  · by_cases hroom : n + m ≤ cap
    · have hfit : n * i.size + news.length ≤ cur.size := by rw [hl, hcs, ← Nat.add_mul]; exact Nat.mul_le_mul_right _ hroom
      have h2 := run_append_room (P := P) w t ty e i ht hi g n cap cur hgg a m c news hl hnews h1 hroom hfit
      rw [h2] at hr
      injection hr with _ q
      subst q
      refine ⟨h0.1, .inr ⟨g, cap, _, rfl, hbg, setRow_heap w g cur _ e _ hgg, hnc, hcm, ?_, ?_⟩⟩
      · simp only [List.size_toArray, List.length_append, List.length_take, List.length_drop, Array.length_toList]
        omega
      · rw [htake, List.append_assoc]; exact List.take_left' h0.1
    · have h2 := run_append_grow (P := P) w t ty e i z ht hi hz ⟨g, 0, none⟩ n cap xs h0.1 (h0.cells (g := g) rfl) a m c news hl hnews (by omega) (by omega) (growslice_fits (by omega) hbytes)
      rw [h2] at hr
      injection hr with _ q
      subst q
      exact World.ownsRow.alloc h0 _

section
variable {P : Program} {w : World} {ops : Array Oper} {rest : List Oper} {o : Oper} {a : Act} {K : Act → World → Prop} {Q : Exit → Act → World → Prop} {t e : TypeId}

theorem wp_append_bytes1 (T : BytesTy P t e) (s x : Operand)
    (ho : o.op = .call { callee := .builtin .append, args := #[s, x], argTypes := #[t, t] })
    (base : Nat) (v : Value) (l m : List UInt8) (hs : a.eval s = v) (hown : OwnB w base e v l)
    (ad : Addr) (n c : Nat) (hx : a.eval x = .slice (some ad) n c) (hn : n = m.length) (hm : Rd w (some ad) m)
    (hbytes : l.length + m.length ≤ 140737488355328) (hbase : base ≤ w.heap.size)
    (h : ∀ v' w', OwnB w' base e v' (l ++ m) → OwnB w' base e v l → w.grownBy w' v.ownBlock → Moved w v v' → K (a.put o.dst v') w') : o.wp P a w K Q := by
  subst hn
  obtain ⟨i, hi', hz, hsize, hby⟩ := info_parts T.elem
  have hnews : ∀ j u, (m.map bv)[j]? = some u → w.cell? (ad.add j) = some u := by
    intro j u hj
    rw [List.getElem?_map] at hj
    by_cases hlt : j < m.length
    · obtain ⟨b, off, h1, _, h2⟩ := hm.some (by omega)
      cases h1
      have := h2 j hlt
      simp only [List.getElem?_eq_getElem hlt, Option.map_some, Option.some.injEq] at hj
      subst hj
      have e1 : (⟨b, off, none⟩ : Addr).add j = ⟨b, off + j, none⟩ := by cases j <;> simp [Addr.add]
      rw [e1]; simpa [bv, b8, List.getD, hlt] using this
    · simp [List.getElem?_eq_none (Nat.le_of_not_lt hlt)] at hj
  have h1c : ∀ u ∈ m.map bv, u.oneCell' = true := by
    intro u hu
    simp only [List.mem_map] at hu
    obtain ⟨y, _, rfl⟩ := hu
    rfl
  have k1 : l.length + m.length ≤ maxLen := by unfold maxLen; omega
  have k2 : (l.length + m.length) * 1 ≤ 140737488355328 := by omega
  obtain ⟨v', w', hr, h2, h3, h4⟩ := run_append_own (P := P) w base t o.type e i (.int .u8 0) 1 1 T.under hi' hz hsize hby rfl (by decide) v l.length (l.map bv) hown ad m.length c (m.map bv) (by simp) hnews h1c k1 k2 hbase
  have hmv := run_append_moved (P := P) w base t o.type e i (.int .u8 0) 1 1 T.under hi' hz hsize hby (by decide) v l.length (l.map bv) hown ad m.length c (m.map bv) (by simp) hnews h1c k1 k2 v' w' hr
  have hst := run_append_still (P := P) w base t o.type e i (.int .u8 0) 1 1 T.under hi' hz hsize hby (by decide) v l.length (l.map bv) hown ad m.length c (m.map bv) (by simp) hnews h1c k1 k2 v' w' hr h3
  unfold Oper.wp execOp
  simp only [ho, resolve, invoke, builtin, Sem.run_bind, Sem.run_pure, Result.andThen_ok, List.map_toArray, List.map_cons, List.map_nil, hs, hx, hr]
  exact h v' w' (by unfold OwnB; rw [List.length_append, List.map_append]; exact h2) hst h3 hmv

theorem step_append_bytes {E : Prop} (T : BytesTy P t e) (hgd : o.guard = none) (s x : Operand)
    (ho : o.op = .call { callee := .builtin .append, args := #[s, x], argTypes := #[t, t] })
    (base : Nat) (v : Value) (l m : List UInt8) (hs : a.eval s = v) (hown : OwnB w base e v l)
    (ad : Addr) (n c : Nat) (hx : a.eval x = .slice (some ad) n c) (hn : n = m.length) (hm : Rd w (some ad) m)
    (hbytes : l.length + m.length ≤ 140737488355328) (hbase : base ≤ w.heap.size)
    (h : ∀ v' w', OwnB w' base e v' (l ++ m) → OwnB w' base e v l → w.grownBy w' v.ownBlock → Moved w v v' → K (a.put o.dst v') w') :
    if Region.wanted o (yielded ops a.tmps) = true then o.wp P a w K Q else E := by
  rw [if_pos (by simp [Region.wanted, hgd])]
  exact wp_append_bytes1 T s x ho base v l m hs hown ad n c hx hn hm hbytes hbase h
end
end Go.Proofs.Ytmlaakadjkmphaa
