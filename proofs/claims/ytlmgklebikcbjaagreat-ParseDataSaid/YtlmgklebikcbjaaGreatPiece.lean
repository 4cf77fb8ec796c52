/-
  Remainders, appends of a string's bytes, appends that leave what they were made from, LexTexts' parts. Conditions: sizes.
-/
import Derived.Test.YtlmgklebikcbjaaGreatPrint
import Derived.Test.YtlmgklebikcbjaaGreatLawTx
import Derived.Lib.AppendStr
namespace Go.Proofs.YtlmgklebikcbjaaGreat
open Go.RowKit
set_option linter.unusedVariables false

theorem rem_any (k : IntKind) (a n : Nat) (hn : 0 < n) (t : TypeId) : binOp .rem t (.int k (a : Int)) (.int k (n : Int)) = pure (.int k ((a % n : Nat) : Int)) := by
  rw [binOp_rem]
  unfold Op.intDiv
  rw [if_neg (by omega)]
  rfl

theorem run_append_str_moved {P : Program} (w : World) (base : Nat) (t u ty e : TypeId) (i : TypeInfo) (ht : P.underlying t = some (.slice e)) (hu : P.underlying u = some .string) (hi : P.info? e = some i) (hz : i.zero = some (.int .u8 0))
    (hsize : i.size = 1) (hby : i.bytes = 1)
    (v : Value) (n : Nat) (xs : List Value) (hown : w.ownsRow base e 1 v n xs) (s : ByteArray)
    (h63 : n + s.size ≤ maxLen) (hbytes : n + s.size ≤ 140737488355328) (v' : Value) (w' : World)
    (hr : (Builtin.append_ #[t, u] ty #[v, .string s]).run P w = .ok v' w') : Moved w v v' := by
  have hsmall : n + s.size ≤ 9223372036854775807 := by simp only [maxLen] at h63; omega
  have hxl : xs.length = n := by simpa using hown.1
  rcases hown.2 with ⟨rfl, rfl⟩ | ⟨g, cap, cur, rfl, hbg, hg, hnc, hcm, hcs, htake⟩
  · by_cases hm : s.size = 0
    · have hf := Lib.run_firstCells_string (P := P) w 1 s
      rw [hm] at hf
      have h2 : (Builtin.append_ #[t, u] ty #[.slice none 0 0, .string s]).run P w = .ok (.slice none 0 0) w := by
        simp [Builtin.append_, run_underlying ht, run_underlying hu, sizeOf, typeInfo, hi, hsize, Builtin.lenOf, hm, hf]
      rw [h2] at hr
      injection hr with q _
      exact .inl (by rw [← q])
    · have h2 := run_append_nil_string (P := P) w t u ty e i (.int .u8 0) ht hu hi hz s (by omega) (by omega) (by rw [hby]; omega)
      rw [h2] at hr
      injection hr with q _
      exact .inr (by rw [← q]; rfl)
  · by_cases hroom : n + s.size ≤ cap
    · have hcs' : cur.size = cap := by simpa using hcs
      have h2 := Lib.run_append_room_string (P := P) w t u ty e i ht hu hi hsize g n cap cur hg s hroom (by omega)
      rw [h2] at hr
      injection hr with q _
      exact .inl (by rw [← q]; rfl)
    · have holds : ∀ j u, xs[j]? = some u → w.cell? ((⟨g, 0, none⟩ : Addr).add j) = some u := hown.cells (g := g) rfl
      have h2 := Lib.run_append_grow_string (P := P) w t u ty e i (.int .u8 0) ht hu hi hz ⟨g, 0, none⟩ n cap xs (by rw [hsize]; simpa using hxl) holds s (by omega) (by omega) (by rw [hby]; exact growslice_fits (by omega) (by omega))
      rw [h2] at hr
      injection hr with q _
      exact .inr (by rw [← q]; rfl)

section
variable {P : Program} {w : World} {ops : Array Oper} {rest : List Oper} {o : Oper} {a : Act} {Q : Exit → Act → World → Prop} {t e : TypeId}

/-- append of a string's bytes onto a row of the call's own -/
theorem wpList_append_st (T : BytesTy P t e) (hgd : o.guard = none) (sl x : Operand) (u : TypeId) (hu : P.underlying u = some .string)
    (ho : o.op = .call { callee := .builtin .append, args := #[sl, x], argTypes := #[t, u] })
    (base : Nat) (v : Value) (l m : List UInt8) (hs : a.eval sl = v) (hown : OwnB w base e v l) (hx : a.eval x = .string (st m))
    (hbytes : l.length + m.length ≤ 140737488355328) (hbase : base ≤ w.heap.size)
    (h : ∀ v' w', OwnB w' base e v' (l ++ m) → w.grownBy w' v.ownBlock → Moved w v v' → wpList P ops Q rest (a.put o.dst v') w') : wpList P ops Q (o :: rest) a w := by
  obtain ⟨i, hi, hz, hsize, hby⟩ := info_parts T.elem
  have hzm := st_size m
  refine wpList_plain hgd fun K hK => ?_
  obtain ⟨v', w', hr, h2, h3, h4⟩ := Lib.run_append_own_string (P := P) w base t u o.type e i T.under hu hi hz hsize hby v l.length (l.map bv) hown (st m) (by unfold maxLen; omega) (by omega) hbase
  have hmv := run_append_str_moved (P := P) w base t u o.type e i T.under hu hi hz hsize hby v l.length (l.map bv) hown (st m) (by unfold maxLen; omega) (by omega) v' w' hr
  unfold Oper.wp execOp
  simp only [ho, resolve, invoke, builtin, Sem.run_bind, Sem.run_pure, Result.andThen_ok, List.map_toArray, List.map_cons, List.map_nil, hs, hx, hr]
  refine hK _ _ (h v' w' ?_ h3 hmv)
  have e1 : Lib.strCells (st m) = m.map bv := by unfold Lib.strCells st bv; simp
  unfold OwnB
  rw [List.length_append, List.map_append, ← e1, ← hzm]
  exact h2

/-- .. of bytes; what was appended to is still there -/
theorem wpList_append_keep (T : BytesTy P t e) (hgd : o.guard = none) (s x : Operand)
    (ho : o.op = .call { callee := .builtin .append, args := #[s, x], argTypes := #[t, t] })
    (base : Nat) (v : Value) (l m : List UInt8) (hs : a.eval s = v) (hown : OwnB w base e v l)
    (ao : Option Addr) (n c : Nat) (hx : a.eval x = .slice ao n c) (hn : n = m.length) (hc : ao = none → c = 0) (hm : Rd w ao m)
    (hbytes : l.length + m.length ≤ 140737488355328) (hbase : base ≤ w.heap.size)
    (h : ∀ v' w', OwnB w' base e v' (l ++ m) → OwnB w' base e v l → w.grownBy w' v.ownBlock → Moved w v v' → wpList P ops Q rest (a.put o.dst v') w') : wpList P ops Q (o :: rest) a w := by
  subst hn
  cases ao with
  | none =>
    have hm0 : m = [] := by
      rcases hm with hm | ⟨b, off, h1, _⟩
      · exact hm
      · cases h1
    subst hm0
    have hc0 := hc rfl
    subst hc0
    obtain ⟨i, hi, _, _, _⟩ := info_parts T.elem
    refine wpList_append_own_none hgd s x t ho base e i 1 T.under hi v l.length (l.map bv) hs hown (by simpa using hx) ?_
    exact h v w (by simpa using hown) hown ⟨rfl, rfl, rfl, Nat.le_refl _, fun _ _ _ => rfl⟩ (.inl rfl)
  | some ad =>
    refine wpList_plain hgd fun K hK => ?_
    exact wp_append_bytes1 T s x ho base v l m hs hown ad m.length c hx rfl hm hbytes hbase fun v' w' q1 q2 q3 q4 => hK _ _ (h v' w' q1 q2 q3 q4)
end

theorem Apart.symm {w : World} {base : Nat} {e : TypeId} {v u : Value} {l : List UInt8} (h : Apart w v u) (hv : OwnB w base e v l) : Apart w u v := by
  intro g hg
  have h1 := (World.ownsRow.lt hv g hg).2
  refine ⟨fun q => (h g q).1 hg, h1⟩
end Go.Proofs.YtlmgklebikcbjaaGreat
