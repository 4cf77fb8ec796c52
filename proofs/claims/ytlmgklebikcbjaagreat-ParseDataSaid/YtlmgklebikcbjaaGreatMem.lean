/-
  Memory: slices that read as bytes, rows of the call's own; the operations on them, a rule each.
-/
import Derived.WalkKit
import Derived.WalkSpells
import Derived.KernelRfl
import Derived.BigQuiet
import Derived.WalkSmall
import Derived.Laws.AppendOwnNone
import Derived.Laws.CopyOwn
import Derived.Deep.RegionHeld3
import Derived.Deep.RegionWith
namespace Go.Proofs.YtlmgklebikcbjaaGreat
open Go.RowKit
set_option linter.unusedVariables false

theorem hid {p : Prop} (h : p) : Hid p := h

/-- the byte at a place, as a number -/
def b8 (l : List UInt8) (k : Nat) : Int := ((l.getD k 0).toNat : Int)

theorem b8_ge (l : List UInt8) (k : Nat) : 0 ≤ b8 l k := by unfold b8; omega
theorem b8_le (l : List UInt8) (k : Nat) : b8 l k ≤ 255 := by unfold b8; have := (l.getD k 0).toNat_lt; omega
theorem b8_inj {la lb : List UInt8} {j k : Nat} (h : b8 la j = b8 lb k) : la.getD j 0 = lb.getD k 0 := by
  unfold b8 at h; exact UInt8.toNat_inj.1 (by omega)

/-- the byte x as a value -/
def bv (x : UInt8) : Value := .int .u8 (x.toNat : Int)

/-- the slice at ao, of length l.length, reads as the bytes l -/
def Rd (w : World) (ao : Option Addr) (l : List UInt8) : Prop :=
  l = [] ∨ ∃ b off, ao = some ⟨b, off, none⟩ ∧ ∀ j, j < l.length → w.cell? ⟨b, off + j, none⟩ = some (.int .u8 (b8 l j))

theorem Rd.nil (w : World) (ao : Option Addr) : Rd w ao [] := .inl rfl

theorem Rd.up {w w' : World} {ao : Option Addr} {l : List UInt8} (h : Rd w ao l) (hb : Below w.heap.size w w') : Rd w' ao l := by
  rcases h with h | ⟨b, off, h1, h2⟩
  · exact .inl h
  · refine .inr ⟨b, off, h1, fun j hj => ?_⟩
    have h3 := h2 j hj
    rw [hb.cell (World.block_lt_of_cell? w _ h3)]; exact h3

theorem Rd.some {w : World} {ao : Option Addr} {l : List UInt8} (h : Rd w ao l) (hl : 0 < l.length) :
    ∃ b off, ao = some ⟨b, off, none⟩ ∧ b < w.heap.size ∧ ∀ j, j < l.length → w.cell? ⟨b, off + j, none⟩ = some (.int .u8 (b8 l j)) := by
  rcases h with h | ⟨b, off, h1, h2⟩
  · subst h; simp at hl
  · exact ⟨b, off, h1, World.block_lt_of_cell? w _ (h2 0 hl), h2⟩


/-- what the program's tables say of a slice type t of bytes, e the bytes' type -/
structure BytesTy (P : Program) (t e : TypeId) : Prop where
  under : P.underlying t = Option.some (.slice e)
  elem : (P.info? e).map (fun i => (i.zero, i.size, i.bytes)) = Option.some (Option.some (.int .u8 0), 1, 1)

/-- v is a row of bytes l of the call's own, from block base on -/
abbrev OwnB (w : World) (base : Nat) (e : TypeId) (v : Value) (l : List UInt8) : Prop := w.ownsRow base e 1 v l.length (l.map bv)

theorem OwnB.nil (w : World) (base : Nat) (e : TypeId) : OwnB w base e (.slice none 0 0) [] := World.ownsRow_nil w base e 1

theorem Rd.own {w : World} {base : Nat} {e : TypeId} {v : Value} {l : List UInt8} (h : OwnB w base e v l) :
    ∃ ao cap, v = .slice ao l.length cap ∧ l.length ≤ cap ∧ cap ≤ maxLen ∧ Rd w ao l := by
  have h0 := h
  obtain ⟨_, h2⟩ := h
  rcases h2 with ⟨h2, h3⟩ | ⟨g, cap, cur, rfl, hg, hh, hn, hcap, hsz, htake⟩
  · have : l = [] := List.length_eq_zero_iff.1 h3
    subst this
    exact ⟨none, 0, h2, by simp, by simp [maxLen], .inl rfl⟩
  · refine ⟨_, cap, rfl, hn, hcap, .inr ⟨g, 0, rfl, fun j hj => ?_⟩⟩
    have := h0.cellAt j (by omega)
    rw [Nat.zero_add, this]
    simp [List.getD, hj, bv, b8]

theorem OwnB.up {w w' : World} {base : Nat} {e : TypeId} {v : Value} {l : List UInt8} (h : OwnB w base e v l) (hb : Below w.heap.size w w') : OwnB w' base e v l :=
  World.ownsRow.kept (row := none) h ⟨hb.os, hb.tape, hb.output, hb.size, fun k hk _ => hb.block k hk⟩ (by cases hv : v.ownBlock <;> simp)

theorem bv_of (n : Int) (h : 0 ≤ n) (h' : n ≤ 255) : bv (UInt8.ofNat n.toNat) = .int .u8 n := by
  unfold bv
  congr 1
  rw [UInt8.toNat_ofNat', Nat.mod_eq_of_lt (by omega)]
  omega

/-- where the row lies that an append leaves: where it lay, or in a new block -/
def Moved (w : World) (v v' : Value) : Prop := v'.ownBlock = v.ownBlock ∨ v'.ownBlock = Option.some w.heap.size

theorem run_append_moved {P : Program} (w : World) (base : Nat) (t ty e : TypeId) (i : TypeInfo) (z : Value) (size bytes : Nat) (ht : P.underlying t = Option.some (.slice e)) (hi : P.info? e = Option.some i) (hz : i.zero = Option.some z)
    (hsize : i.size = size) (hby : i.bytes = bytes) (hsz : 0 < size)
    (v : Value) (n : Nat) (xs : List Value) (hown : w.ownsRow base e size v n xs)
    (a : Addr) (m c : Nat) (news : List Value) (hl : news.length = m * size) (hnews : ∀ j u, news[j]? = Option.some u → w.cell? (a.add j) = Option.some u) (h1 : ∀ u ∈ news, u.oneCell' = true)
    (h63 : n + m ≤ maxLen) (hbytes : (n + m) * bytes ≤ 140737488355328) (v' : Value) (w' : World)
    (hr : (Builtin.append_ #[t, t] ty #[v, .slice (Option.some a) m c]).run P w = .ok v' w') : Moved w v v' := by
  subst hsize
  subst hby
  have hs : n + m ≤ 9223372036854775807 := by simp only [maxLen] at h63; omega
  rcases hown.2 with ⟨rfl, rfl⟩ | ⟨g, cap, cur, rfl, hbg, hg, hnc, hcm, hcs, htake⟩
  · by_cases hm : m = 0
    · subst hm
      have hn : news = [] := List.eq_nil_of_length_eq_zero (by simpa using hl)
      subst hn
      have h2 : (Builtin.append_ #[t, t] ty #[.slice none 0 0, .slice (Option.some a) 0 c]).run P w = .ok (.slice none 0 0) w := by
        simp [Builtin.append_, run_underlying ht, sizeOf, typeInfo, hi, Builtin.lenOf, Builtin.firstCells, loadCells, loadCellsFrom]
      rw [h2] at hr
      injection hr with q _
      exact .inl (by rw [← q])
    · have h2 := run_append_nil (P := P) w t ty e i z ht hi hz a m c news hl hnews (by omega) (by omega) (by simp only [Nat.zero_add] at hbytes; omega)
      rw [h2] at hr
      injection hr with q _
      exact .inr (by rw [← q]; rfl)
  · by_cases hroom : n + m ≤ cap
    · have hfit : n * i.size + news.length ≤ cur.size := by rw [hl, hcs, ← Nat.add_mul]; exact Nat.mul_le_mul_right _ hroom
      have h2 := run_append_room (P := P) w t ty e i ht hi g n cap cur hg a m c news hl hnews h1 hroom hfit
      rw [h2] at hr
      injection hr with q _
      exact .inl (by rw [← q]; rfl)
    · have h2 := run_append_grow (P := P) w t ty e i z ht hi hz ⟨g, 0, none⟩ n cap xs hown.1 (hown.cells (g := g) rfl) a m c news hl hnews (by omega) (by omega) (growslice_fits (by omega) hbytes)
      rw [h2] at hr
      injection hr with q _
      exact .inr (by rw [← q]; rfl)

theorem wpList_append_row {P : Program} {w : World} {ops : Array Oper} {rest : List Oper} {o : Oper} {a : Act} {Q : Exit → Act → World → Prop} (hgd : o.guard = none) (s x : Operand) (t : TypeId)
    (ho : o.op = .call { callee := .builtin .append, args := #[s, x], argTypes := #[t, t] })
    (base : Nat) (e : TypeId) (z : Value) (size bytes : Nat) (ht : P.underlying t = Option.some (.slice e))
    (hi : (P.info? e).map (fun i => (i.zero, i.size, i.bytes)) = Option.some (Option.some z, size, bytes)) (hzs : z.cells.size = size) (hsz : 0 < size)
    (v : Value) (n : Nat) (xs : List Value) (hs : a.eval s = v) (hown : w.ownsRow base e size v n xs)
    (ad : Addr) (m c : Nat) (news : List Value) (hx : a.eval x = .slice (Option.some ad) m c) (hl : news.length = m * size) (hnews : ∀ j u, news[j]? = Option.some u → w.cell? (ad.add j) = Option.some u) (h1 : ∀ u ∈ news, u.oneCell' = true)
    (h63 : n + m ≤ maxLen) (hbytes : (n + m) * bytes ≤ 140737488355328) (hbase : base ≤ w.heap.size)
    (h : ∀ v' w', w'.ownsRow base e size v' (n + m) (xs ++ news) → w.grownBy w' v.ownBlock → Moved w v v' → wpList P ops Q rest (a.put o.dst v') w') : wpList P ops Q (o :: rest) a w := by
  obtain ⟨i, hi', hz, hsize, hby⟩ := info_parts hi
  refine wpList_plain hgd fun K hK => ?_
  obtain ⟨v', w', hr, h2, h3, h4⟩ := run_append_own (P := P) w base t o.type e i z size bytes ht hi' hz hsize hby hzs hsz v n xs hown ad m c news hl hnews h1 h63 hbytes hbase
  have hmv := run_append_moved (P := P) w base t o.type e i z size bytes ht hi' hz hsize hby hsz v n xs hown ad m c news hl hnews h1 h63 hbytes v' w' hr
  unfold Oper.wp execOp
  simp only [ho, resolve, invoke, builtin, Sem.run_bind, Sem.run_pure, Result.andThen_ok, List.map_toArray, List.map_cons, List.map_nil, hs, hx, hr]
  exact hK _ _ (h v' w' h2 h3 hmv)

/-- append of bytes that can be read, onto a row of the call's own -/
theorem wpList_append_bytes {P : Program} {w : World} {ops : Array Oper} {rest : List Oper} {o : Oper} {a : Act} {Q : Exit → Act → World → Prop} {t e : TypeId}
    (T : BytesTy P t e) (hgd : o.guard = none) (s x : Operand)
    (ho : o.op = .call { callee := .builtin .append, args := #[s, x], argTypes := #[t, t] })
    (base : Nat) (v : Value) (l m : List UInt8) (hs : a.eval s = v) (hown : OwnB w base e v l)
    (ao : Option Addr) (n c : Nat) (hx : a.eval x = .slice ao n c) (hn : n = m.length) (hc : ao = none → c = 0) (hm : Rd w ao m)
    (hbytes : l.length + m.length ≤ 140737488355328) (hbase : base ≤ w.heap.size)
    (h : ∀ v' w', OwnB w' base e v' (l ++ m) → w.grownBy w' v.ownBlock → Moved w v v' → wpList P ops Q rest (a.put o.dst v') w') : wpList P ops Q (o :: rest) a w := by
  subst hn
  cases ao with
  | none =>
    have hm0 : m = [] := by
      rcases hm with hm | ⟨b, off, h1, _⟩
      · exact hm
      · cases h1
    subst hm0
    have hc0 := hc rfl
    subst hc0
    obtain ⟨i, hi, _, _, _⟩ := info_parts T.elem
    refine wpList_append_own_none hgd s x t ho base e i 1 T.under hi v l.length (l.map bv) hs hown (by simpa using hx) ?_
    exact h v w (by simpa using hown) ⟨rfl, rfl, rfl, Nat.le_refl _, fun _ _ _ => rfl⟩ (.inl rfl)
  | some ad =>
    refine wpList_append_row hgd s x t ho base e (.int .u8 0) 1 1 T.under T.elem rfl (by decide) v l.length (l.map bv) hs hown ad m.length c (m.map bv) hx (by simp) ?_ ?_ ?_ ?_ hbase ?_
    · intro j u hj
      rw [List.getElem?_map] at hj
      by_cases hlt : j < m.length
      · obtain ⟨b, off, h1, _, h2⟩ := hm.some (by omega)
        cases h1
        have := h2 j hlt
        simp only [List.getElem?_eq_getElem hlt, Option.map_some, Option.some.injEq] at hj
        subst hj
        have e1 : (⟨b, off, none⟩ : Addr).add j = ⟨b, off + j, none⟩ := by cases j <;> simp [Addr.add]
        rw [e1]; simpa [bv, b8, List.getD, hlt] using this
      · simp [List.getElem?_eq_none (Nat.le_of_not_lt hlt)] at hj
    · intro u hu
      simp only [List.mem_map] at hu
      obtain ⟨y, _, rfl⟩ := hu
      rfl
    · unfold maxLen; omega
    · omega
    · intro v' w' h1 h2 h3
      exact h v' w' (by unfold OwnB; rw [List.length_append, List.map_append]; exact h1) h2 h3

/-- what an append leaves, over what was there from 'base' on -/
theorem below_append {B : Nat} {w0 w w' : World} {base : Nat} {e : TypeId} {v : Value} {n : Nat} {xs : List Value} (h : Below B w0 w) (hown : w.ownsRow base e 1 v n xs) (hg : w.grownBy w' v.ownBlock) (hB : B ≤ base) (hB' : B ≤ w.heap.size) : Below B w0 w' :=
  h.grown hg hB' fun k hk => Nat.le_trans hB (hown.lt k hk).1

/-- a new block of one byte -/
theorem Rd.one (w : World) (n : Int) (e : TypeId) (h : 0 ≤ n) (h' : n ≤ 255) : Rd (w.alloc (.cells #[.int .u8 n] e)) (Option.some ⟨w.heap.size, 0, none⟩) [UInt8.ofNat n.toNat] := by
  refine .inr ⟨w.heap.size, 0, rfl, fun j hj => ?_⟩
  obtain rfl : j = 0 := by simpa using hj
  rw [World.cell?_alloc_at _ _ _ _ rfl]
  have := bv_of n h h'
  simp [b8] at *
  simpa [bv] using this.symm


/-- v is a slice that reads as the bytes l -/
def Sl (w : World) (v : Value) (l : List UInt8) : Prop :=
  ∃ ao cap, v = .slice ao l.length cap ∧ l.length ≤ cap ∧ cap ≤ maxLen ∧ (ao = none → cap = 0) ∧ Rd w ao l

theorem Sl.up {w w' : World} {v : Value} {l : List UInt8} (h : Sl w v l) (hb : Below w.heap.size w w') : Sl w' v l := by
  obtain ⟨ao, cap, h1, h2, h3, h4, h5⟩ := h
  exact ⟨ao, cap, h1, h2, h3, h4, h5.up hb⟩

theorem Sl.own {w : World} {base : Nat} {e : TypeId} {v : Value} {l : List UInt8} (h : OwnB w base e v l) : Sl w v l := by
  obtain ⟨ao, cap, h1, h2, h3, h4⟩ := Rd.own h
  refine ⟨ao, cap, h1, h2, h3, ?_, h4⟩
  rintro rfl
  subst h1
  obtain ⟨_, h5⟩ := h
  rcases h5 with ⟨h5, _⟩ | ⟨g, cap', cur, h5, _⟩
  · injection h5
  · injection h5 with h6; cases h6

theorem Sl.nil (w : World) : Sl w (.slice none 0 0) [] := ⟨none, 0, rfl, Nat.le_refl _, by simp [maxLen], fun _ => rfl, .inl rfl⟩

theorem Rd.drop {w : World} {ao : Option Addr} {l : List UInt8} (h : Rd w ao l) (n : Nat) : Rd w (ao.map (·.add n)) (l.drop n) := by
  rcases h with rfl | ⟨b, off, rfl, h2⟩
  · exact .inl (by simp)
  · refine .inr ⟨b, off + n, by cases n <;> simp [Addr.add], fun j hj => ?_⟩
    have hj' : n + j < l.length := by simp at hj; omega
    rw [Nat.add_assoc, h2 (n + j) hj']
    simp [b8, List.getD]

theorem Rd.take {w : World} {ao : Option Addr} {l : List UInt8} (h : Rd w ao l) (n : Nat) : Rd w ao (l.take n) := by
  rcases h with rfl | ⟨b, off, rfl, h2⟩
  · exact .inl (by simp)
  · refine .inr ⟨b, off, rfl, fun j hj => ?_⟩
    rw [List.length_take] at hj
    have hj1 : j < n := by omega
    rw [h2 j (by omega)]
    simp [b8, List.getD, hj1]

theorem BytesTy.elemOf {P : Program} {t e : TypeId} (T : BytesTy P t e) : P.elem t = e := by simp [Program.elem, T.under]

theorem BytesTy.sizeRun {P : Program} {t e : TypeId} (T : BytesTy P t e) (w : World) : (sizeOf (P.elem t)).run P w = .ok 1 w := by
  rw [T.elemOf]
  have h2 := T.elem
  simp only [sizeOf, typeInfo]
  cases hh : P.info? e with
  | none => rw [hh] at h2; simp at h2
  | some i =>
    rw [hh] at h2; simp at h2
    simp [go_sem, hh, h2.2.1]

section
variable {P : Program} {w : World} {ops : Array Oper} {rest : List Oper} {o : Oper} {a : Act} {Q : Exit → Act → World → Prop} {t e : TypeId}

/-- x[n:] -/
theorem wpList_slice_from (T : BytesTy P t e) (hgd : o.guard = none) (x lo : Operand) (ho : o.op = .slice t x (Option.some lo) none none)
    (v : Value) (l : List UInt8) (hx : a.eval x = v) {w0 : World} (hv : Sl w0 v l) (k : IntKind) (n : Int) (hlo : a.eval lo = .int k n) (h0 : 0 ≤ n) (h1 : n ≤ l.length)
    (h : ∀ v', Sl w0 v' (l.drop n.toNat) → wpList P ops Q rest (a.put o.dst v') w) : wpList P ops Q (o :: rest) a w := by
  obtain ⟨ao, cap, rfl, c1, c2, c3, c4⟩ := hv
  refine wpList_plain hgd fun K hK => ?_
  have hT : P.underlying t = Option.some (.slice (P.elem t)) := by rw [T.elemOf]; exact T.under
  have hrun : (Instr.sliceAt t (a.eval x) (Option.some (a.eval lo)) none none).run P w = .ok (sliced ao n.toNat l.length cap 1) w := by
    rw [hx, hlo, run_sliceAt_slice w t _ _ _ _ hT, run_slice_l w t ao l.length cap hT k n h0 h1, T.sizeRun w]; rfl
  unfold Oper.wp
  simp [execOp, ho, hrun, Result.andThen]
  refine hK _ _ (h _ ⟨if cap = n.toNat then ao else ao.map (·.add (n.toNat * 1)), cap - n.toNat, ?_, ?_, ?_, ?_, ?_⟩)
  · simp only [sliced]; rw [List.length_drop]
  · simp; omega
  · omega
  · intro hc
    by_cases he : cap = n.toNat
    · omega
    · rw [if_neg he] at hc
      have : ao = none := by cases ao <;> simp_all
      have := c3 this; omega
  · by_cases he : cap = n.toNat
    · rw [if_pos he]
      exact .inl (by rw [List.drop_eq_nil_of_le (by omega)])
    · rw [if_neg he, Nat.mul_one]; exact c4.drop _

/-- x[:n:n] -/
theorem wpList_slice_tight (T : BytesTy P t e) (hgd : o.guard = none) (x hi mx : Operand) (ho : o.op = .slice t x none (Option.some hi) (Option.some mx))
    (v : Value) (l : List UInt8) (hx : a.eval x = v) {w0 : World} (hv : Sl w0 v l) (k k' : IntKind) (n : Int) (hhi : a.eval hi = .int k n) (hmx : a.eval mx = .int k' n) (h0 : 0 ≤ n) (h1 : n ≤ l.length)
    (h : ∀ v', Sl w0 v' (l.take n.toNat) → wpList P ops Q rest (a.put o.dst v') w) : wpList P ops Q (o :: rest) a w := by
  obtain ⟨ao, cap, rfl, c1, c2, c3, c4⟩ := hv
  refine wpList_plain hgd fun K hK => ?_
  have hT : P.underlying t = Option.some (.slice (P.elem t)) := by rw [T.elemOf]; exact T.under
  have hrun : (Instr.sliceAt t (a.eval x) none (Option.some (a.eval hi)) (Option.some (a.eval mx))).run P w = .ok (sliced ao 0 n.toNat n.toNat 1) w := by
    rw [hx, hhi, hmx, run_sliceAt_slice w t _ _ _ _ hT, run_slice_hm w t ao l.length cap hT k k' n n h0 (Int.le_refl _) (by omega), T.sizeRun w]; rfl
  have e0 : ao.map (fun x => x.add (0 * 1)) = ao := by cases ao <;> simp [Addr.add]
  unfold Oper.wp
  simp [execOp, ho, hrun, Result.andThen]
  refine hK _ _ (h _ ⟨ao, n.toNat, ?_, ?_, ?_, ?_, ?_⟩)
  · simp only [sliced, e0]; rw [List.length_take]; simp; omega
  · simp; omega
  · omega
  · intro hc; have := c3 hc; omega
  · exact c4.take _
end


theorem Sl.kept {w w' : World} {v : Value} {l : List UInt8} {row : Option Nat} (h : Sl w v l) (hg : w.grownBy w' row) (hne : v.ownBlock = none ∨ v.ownBlock ≠ row) : Sl w' v l := by
  obtain ⟨ao, cap, rfl, h2, h3, h4, h5⟩ := h
  refine ⟨ao, cap, rfl, h2, h3, h4, ?_⟩
  rcases h5 with h5 | ⟨b, off, rfl, h6⟩
  · exact .inl h5
  · refine .inr ⟨b, off, rfl, fun j hj => ?_⟩
    refine hg.cell (h6 j hj) ?_
    rcases hne with hne | hne
    · simp [Value.ownBlock] at hne
    · simpa [Value.ownBlock] using hne

theorem grownBy_trans {a b c : World} {row : Option Nat} (h : a.grownBy b row) (k : b.grownBy c row) : a.grownBy c row :=
  ⟨k.os.trans h.os, k.tape.trans h.tape, k.output.trans h.output, Nat.le_trans h.size k.size, fun i hi hn => (k.block i (Nat.lt_of_lt_of_le hi h.size) hn).trans (h.block i hi hn)⟩
theorem grownBy_below {a b : World} (h : Below a.heap.size a b) (row : Option Nat) : a.grownBy b row :=
  ⟨h.os, h.tape, h.output, h.size, fun k hk _ => h.block k hk⟩
theorem below_grownBy {a b : World} (h : a.grownBy b none) : Below a.heap.size a b :=
  ⟨h.os, h.tape, h.output, h.size, fun k hk => h.block k hk (by simp)⟩
theorem grownBy_setCell (a : World) (p : Addr) (u : Value) : a.grownBy (a.setCell p u) (Option.some p.block) :=
  ⟨rfl, rfl, rfl, by simp [World.setCell], fun k hk hn => Below.heap_setCell _ _ _ _ (by rintro rfl; exact hn rfl)⟩

/-- one byte of an owned row is written -/
theorem OwnB.stored {w : World} {base g n cap : Nat} {e : TypeId} {l : List UInt8} (h : OwnB w base e (.slice (Option.some ⟨g, 0, none⟩) n cap) l) (hn : n = l.length) (j : Nat) (x : UInt8) :
    OwnB (w.setCell ⟨g, j, none⟩ (bv x)) base e (.slice (Option.some ⟨g, 0, none⟩) n cap) (l.set j x) := by
  subst hn
  have := World.ownsRow.stored h j (bv x)
  unfold OwnB
  rw [List.length_set, List.map_set]
  exact this.1

theorem OwnB.cell {w : World} {base g n cap : Nat} {e : TypeId} {l : List UInt8} (h : OwnB w base e (.slice (Option.some ⟨g, 0, none⟩) n cap) l) (hn : n = l.length) (j : Nat) (hj : j < l.length) :
    w.cell? ⟨g, j, none⟩ = Option.some (.int .u8 (b8 l j)) := by
  subst hn
  have := World.ownsRow.cellAt h j (by omega)
  rw [this]; simp [List.getD, hj, bv, b8]
theorem OwnB.free {w : World} {base g n cap : Nat} {e : TypeId} {l : List UInt8} (h : OwnB w base e (.slice (Option.some ⟨g, 0, none⟩) n cap) l) (hn : n = l.length) (j : Nat) :
    w.frozen? ⟨g, j, none⟩ = false := by
  subst hn
  exact World.ownsRow.frozenAt h j

theorem ownsRow_mono {w : World} {base base' : Nat} {e : TypeId} {size : Nat} {v : Value} {n : Nat} {xs : List Value} (h : w.ownsRow base e size v n xs) (hb : base' ≤ base) : w.ownsRow base' e size v n xs := by
  refine ⟨h.1, ?_⟩
  rcases h.2 with h2 | ⟨g, cap, cur, h1, h2, h3⟩
  · exact .inl h2
  · exact .inr ⟨g, cap, cur, h1, Nat.le_trans hb h2, h3⟩
theorem OwnB.mono {w : World} {base base' : Nat} {e : TypeId} {v : Value} {l : List UInt8} (h : OwnB w base e v l) (hb : base' ≤ base) : OwnB w base' e v l := ownsRow_mono h hb
theorem OwnB.kept {w w' : World} {base : Nat} {e : TypeId} {v : Value} {l : List UInt8} {row : Option Nat} (h : OwnB w base e v l) (hg : w.grownBy w' row) (hne : v.ownBlock = none ∨ v.ownBlock ≠ row) : OwnB w' base e v l := World.ownsRow.kept h hg hne

/-- make([]byte, n) -/
theorem wpList_make_bytes {P : Program} {w : World} {ops : Array Oper} {rest : List Oper} {o : Oper} {a : Act} {Q : Exit → Act → World → Prop} {t e : TypeId}
    (T : BytesTy P t e) (hgd : o.guard = none) (l c : Operand) (ho : o.op = .makeSlice t l c) (base : Nat) (kl kc : IntKind) (n : Nat)
    (hl : a.eval l = .int kl (n : Int)) (hc : a.eval c = .int kc (n : Int)) (hn : n ≤ 140737488355328) (hbase : base ≤ w.heap.size)
    (h : ∀ w', OwnB w' base e (.slice (Option.some ⟨w.heap.size, 0, none⟩) n n) (List.replicate n 0) → Below w.heap.size w w' → wpList P ops Q rest (a.put o.dst (.slice (Option.some ⟨w.heap.size, 0, none⟩) n n)) w') : wpList P ops Q (o :: rest) a w := by
  obtain ⟨i, hi, hz, hs, hb⟩ := info_parts T.elem
  refine wpList_make_full w hgd l c t ho base e i (.int .u8 0) 1 T.under hi hz hs kl kc n n n hl hc rfl rfl (by rw [hb]; omega) (by unfold maxLen; omega) hbase ?_
  intro w' h1 h2
  refine h w' ?_ (below_grownBy h2)
  have e1 : (madeCells (Value.int .u8 0).cells (n * 1)).toList = (List.replicate n (0 : UInt8)).map bv := by
    rw [Nat.mul_one, show (Value.int .u8 0).cells = #[.int .u8 0] from rfl, toList_madeCells_one]; simp [bv]
  unfold OwnB
  rw [List.length_replicate, ← e1]
  exact h1

theorem ret_bool {a b : Bool} (h : a = b) : Ending.returned (.bool a) = .returned (.bool b) := by rw [h]
theorem ret_int {k : IntKind} {a b : Int} (h : a = b) : Ending.returned (.int k a) = .returned (.int k b) := by rw [h]
theorem eq_of_b8 {la lb : List UInt8} (hl : la.length = lb.length) (h : ∀ j, j < la.length → b8 la j = b8 lb j) : la = lb := by
  refine List.ext_getElem hl fun i h1 h2 => ?_
  have := b8_inj (h i h1)
  simpa [List.getD, h1, h2] using this
theorem ne_of_b8 {la lb : List UInt8} {k : Nat} (h : ¬ b8 la k = b8 lb k) : ¬ la = lb := by
  rintro rfl; exact h rfl
def byteOf (n : Int) : UInt8 := UInt8.ofNat (n % 256).toNat
theorem byteOf_nat (n : Int) : ((byteOf n).toNat : Int) = n % 256 := by
  unfold byteOf
  rw [UInt8.toNat_ofNat', Nat.mod_eq_of_lt (by omega)]
  omega

theorem OwnB.rd {w : World} {base n cap : Nat} {e : TypeId} {ao : Option Addr} {l : List UInt8} (h : OwnB w base e (.slice ao n cap) l) : Rd w ao l := by
  obtain ⟨ao', cap', h1, _, _, h2⟩ := Rd.own h
  injection h1 with h3
  rw [h3]; exact h2

theorem bv_byteOf (n : Int) : bv (byteOf n) = .int .u8 (n % 256) := by
  unfold bv; rw [byteOf_nat]
theorem wrap8 (n : Int) : IntKind.u8.wrap n = n % 256 := by
  simp [IntKind.wrap, IntKind.signed, IntKind.bits]
theorem below_then {w W W' : World} (p : Below w.heap.size w W) (q : Below W.heap.size W W') : Below w.heap.size w W' := p.trans (q.mono p.size)
theorem b8_app_left {a b : List UInt8} {j : Nat} (h : j < a.length) : b8 (a ++ b) j = b8 a j := by
  simp [b8, List.getD, List.getElem?_append_left h]
theorem b8_app_right {a b : List UInt8} {j : Nat} : b8 (a ++ b) (a.length + j) = b8 b j := by
  simp [b8, List.getD, List.getElem?_append_right]

theorem b8_drop {b : List UInt8} {h j : Nat} : b8 (b.drop h) j = b8 b (h + j) := by
  unfold b8; simp only [List.getD]; rw [List.getElem?_drop]
theorem b8_set_same {l : List UInt8} {i : Nat} {x : UInt8} (h : i < l.length) : b8 (l.set i x) i = x.toNat := by simp [b8, List.getD, h]
theorem b8_set_other {l : List UInt8} {i j : Nat} {x : UInt8} (h : j ≠ i) : b8 (l.set i x) j = b8 l j := by simp [b8, List.getD, Ne.symm h]

theorem cell_up {B : Nat} {a W : World} (h : Below B a W) {p : Addr} {v : Value} (hc : a.cell? p = some v) (hp : p.block < B) : W.cell? p = some v := by rw [h.cell hp]; exact hc
theorem cell_up' {a W : World} (h : Below a.heap.size a W) {p : Addr} {v : Value} (hc : a.cell? p = some v) : W.cell? p = some v := cell_up h hc (World.block_lt_of_cell? _ _ hc)

/-- what was appended to is still the same row -/
theorem run_append_still {P : Program} (w : World) (base : Nat) (t ty e : TypeId) (i : TypeInfo) (z : Value) (size bytes : Nat) (ht : P.underlying t = some (.slice e)) (hi : P.info? e = some i) (hz : i.zero = some z)
    (hsize : i.size = size) (hby : i.bytes = bytes) (hsz : 0 < size)
    (v : Value) (n : Nat) (xs : List Value) (hown : w.ownsRow base e size v n xs)
    (a : Addr) (m c : Nat) (news : List Value) (hl : news.length = m * size) (hnews : ∀ j u, news[j]? = some u → w.cell? (a.add j) = some u) (h1 : ∀ u ∈ news, u.oneCell' = true)
    (h63 : n + m ≤ maxLen) (hbytes : (n + m) * bytes ≤ 140737488355328) (v' : Value) (w' : World)
    (hr : (Builtin.append_ #[t, t] ty #[v, .slice (some a) m c]).run P w = .ok v' w') (hg : w.grownBy w' v.ownBlock) : w'.ownsRow base e size v n xs := by
  subst hsize
  subst hby
  have hs : n + m ≤ 9223372036854775807 := by simp only [maxLen] at h63; omega
  have h0 := hown
  rcases hown.2 with ⟨rfl, rfl⟩ | ⟨g, cap, cur, rfl, hbg, hgg, hnc, hcm, hcs, htake⟩
  · exact h0.kept hg (.inl rfl)
  · by_cases hroom : n + m ≤ cap
    · have hfit : n * i.size + news.length ≤ cur.size := by rw [hl, hcs, ← Nat.add_mul]; exact Nat.mul_le_mul_right _ hroom
      have h2 := run_append_room (P := P) w t ty e i ht hi g n cap cur hgg a m c news hl hnews h1 hroom hfit
      rw [h2] at hr
      injection hr with _ q
      subst q
      refine ⟨h0.1, .inr ⟨g, cap, _, rfl, hbg, setRow_heap w g cur _ e _ hgg, hnc, hcm, ?_, ?_⟩⟩
      · simp only [List.size_toArray, List.length_append, List.length_take, List.length_drop, Array.length_toList]
        omega
      · rw [htake, List.append_assoc]; exact List.take_left' h0.1
    · have h2 := run_append_grow (P := P) w t ty e i z ht hi hz ⟨g, 0, none⟩ n cap xs h0.1 (h0.cells (g := g) rfl) a m c news hl hnews (by omega) (by omega) (growslice_fits (by omega) hbytes)
      rw [h2] at hr
      injection hr with _ q
      subst q
      exact World.ownsRow.alloc h0 _

section
variable {P : Program} {w : World} {ops : Array Oper} {rest : List Oper} {o : Oper} {a : Act} {K : Act → World → Prop} {Q : Exit → Act → World → Prop} {t e : TypeId}

theorem wp_append_bytes1 (T : BytesTy P t e) (s x : Operand)
    (ho : o.op = .call { callee := .builtin .append, args := #[s, x], argTypes := #[t, t] })
    (base : Nat) (v : Value) (l m : List UInt8) (hs : a.eval s = v) (hown : OwnB w base e v l)
    (ad : Addr) (n c : Nat) (hx : a.eval x = .slice (some ad) n c) (hn : n = m.length) (hm : Rd w (some ad) m)
    (hbytes : l.length + m.length ≤ 140737488355328) (hbase : base ≤ w.heap.size)
    (h : ∀ v' w', OwnB w' base e v' (l ++ m) → OwnB w' base e v l → w.grownBy w' v.ownBlock → Moved w v v' → K (a.put o.dst v') w') : o.wp P a w K Q := by
  subst hn
  obtain ⟨i, hi', hz, hsize, hby⟩ := info_parts T.elem
  have hnews : ∀ j u, (m.map bv)[j]? = some u → w.cell? (ad.add j) = some u := by
    intro j u hj
    rw [List.getElem?_map] at hj
    by_cases hlt : j < m.length
    · obtain ⟨b, off, h1, _, h2⟩ := hm.some (by omega)
      cases h1
      have := h2 j hlt
      simp only [List.getElem?_eq_getElem hlt, Option.map_some, Option.some.injEq] at hj
      subst hj
      have e1 : (⟨b, off, none⟩ : Addr).add j = ⟨b, off + j, none⟩ := by cases j <;> simp [Addr.add]
      rw [e1]; simpa [bv, b8, List.getD, hlt] using this
    · simp [List.getElem?_eq_none (Nat.le_of_not_lt hlt)] at hj
  have h1c : ∀ u ∈ m.map bv, u.oneCell' = true := by
    intro u hu
    simp only [List.mem_map] at hu
    obtain ⟨y, _, rfl⟩ := hu
    rfl
  have k1 : l.length + m.length ≤ maxLen := by unfold maxLen; omega
  have k2 : (l.length + m.length) * 1 ≤ 140737488355328 := by omega
  obtain ⟨v', w', hr, h2, h3, h4⟩ := run_append_own (P := P) w base t o.type e i (.int .u8 0) 1 1 T.under hi' hz hsize hby rfl (by decide) v l.length (l.map bv) hown ad m.length c (m.map bv) (by simp) hnews h1c k1 k2 hbase
  have hmv := run_append_moved (P := P) w base t o.type e i (.int .u8 0) 1 1 T.under hi' hz hsize hby (by decide) v l.length (l.map bv) hown ad m.length c (m.map bv) (by simp) hnews h1c k1 k2 v' w' hr
  have hst := run_append_still (P := P) w base t o.type e i (.int .u8 0) 1 1 T.under hi' hz hsize hby (by decide) v l.length (l.map bv) hown ad m.length c (m.map bv) (by simp) hnews h1c k1 k2 v' w' hr h3
  unfold Oper.wp execOp
  simp only [ho, resolve, invoke, builtin, Sem.run_bind, Sem.run_pure, Result.andThen_ok, List.map_toArray, List.map_cons, List.map_nil, hs, hx, hr]
  exact h v' w' (by unfold OwnB; rw [List.length_append, List.map_append]; exact h2) hst h3 hmv

theorem step_append_bytes {E : Prop} (T : BytesTy P t e) (hgd : o.guard = none) (s x : Operand)
    (ho : o.op = .call { callee := .builtin .append, args := #[s, x], argTypes := #[t, t] })
    (base : Nat) (v : Value) (l m : List UInt8) (hs : a.eval s = v) (hown : OwnB w base e v l)
    (ad : Addr) (n c : Nat) (hx : a.eval x = .slice (some ad) n c) (hn : n = m.length) (hm : Rd w (some ad) m)
    (hbytes : l.length + m.length ≤ 140737488355328) (hbase : base ≤ w.heap.size)
    (h : ∀ v' w', OwnB w' base e v' (l ++ m) → OwnB w' base e v l → w.grownBy w' v.ownBlock → Moved w v v' → K (a.put o.dst v') w') :
    if Region.wanted o (yielded ops a.tmps) = true then o.wp P a w K Q else E := by
  rw [if_pos (by simp [Region.wanted, hgd])]
  exact wp_append_bytes1 T s x ho base v l m hs hown ad n c hx hn hm hbytes hbase h
end
theorem wpList_copy_bytes {P : Program} {w : World} {ops : Array Oper} {rest : List Oper} {o : Oper} {a : Act} {Q : Exit → Act → World → Prop} {t e : TypeId}
    (T : BytesTy P t e) (hgd : o.guard = none) (d s : Operand) (ho : o.op = .call { callee := .builtin .copy, args := #[d, s], argTypes := #[t, t] })
    (base g n : Nat) (hd : a.eval d = .slice (some ⟨g, 0, none⟩) n n) (l : List UInt8) (hl : l.length = n) (hown : OwnB w base e (.slice (some ⟨g, 0, none⟩) n n) l)
    (v : Value) (hs : a.eval s = v) (m : List UInt8) (hm : Sl w v m)
    (h : ∀ w' (l' : List UInt8) (k : Nat), l'.length = n → OwnB w' base e (.slice (some ⟨g, 0, none⟩) n n) l' → Below g w w' → wpList P ops Q rest (a.put o.dst (.int .i64 k)) w') : wpList P ops Q (o :: rest) a w := by
  subst hl
  obtain ⟨i, hi, hz, hsz, hby⟩ := info_parts T.elem
  obtain ⟨ao, cap, rfl, c1, c2, c3, c4⟩ := hm
  obtain ⟨h1, h2⟩ := hown
  rcases h2 with ⟨h2, _⟩ | ⟨g', cap', cur, h2, hbg, hgg, hnc, hcm, hcs, htake⟩
  · cases h2
  · injection h2 with q1 q2 q3
    injection q1 with q4
    injection q4 with q5
    subst q5
    subst q3
    have hcur : cur.toList = l.map bv := by rw [← htake, List.take_of_length_le (by simp [hcs])]
    have hcl : (l.map bv).length = l.length := by simp
    refine wpList_copy_splice hgd d s t t ho e T.under (by simp [hi, hsz]) _ ao l.length l.length m.length cap hd hs g 0 (l.map bv) e (by rw [hgg, ← hcur]) ((m.take l.length).map bv) (by simp [Nat.min_comm]) ?_ (by simp; omega) ?_ g w (Below.refl _ _) (Nat.le_refl _) ?_
    · intro hpos
      have hml : 0 < m.length := by simp at hpos; omega
      obtain ⟨b, off, rfl, _, hc⟩ := c4.some hml
      refine ⟨rfl, _, rfl, ?_⟩
      intro j u hj
      have hjl : j < ((m.take l.length).map bv).length := by
        rcases Nat.lt_or_ge j ((m.take l.length).map bv).length with q | q
        · exact q
        · rw [List.getElem?_eq_none q] at hj; cases hj
      simp at hjl
      have := hc j (by omega)
      have e1 : (⟨b, off, none⟩ : Addr).add j = ⟨b, off + j, none⟩ := by cases j <;> simp [Addr.add]
      rw [e1, this, ← hj]
      have hjm : j < m.length := by omega
      simp [bv, b8, List.getD, hjl, hjm]
    · intro u hu
      simp only [List.mem_map] at hu
      obtain ⟨y, _, rfl⟩ := hu
      rfl
    · intro w' hw' hb'
      have hsp : splice (l.map bv) 0 ((m.take l.length).map bv) = (m.take l.length ++ l.drop (m.take l.length).length).map bv := by
        simp [splice, List.map_drop]
      have hlen : (m.take l.length ++ l.drop (m.take l.length).length).length = l.length := by simp; omega
      have hown' : OwnB w' base e (.slice (some ⟨g, 0, none⟩) l.length l.length) (m.take l.length ++ l.drop (m.take l.length).length) := by
        refine ⟨by simp, .inr ⟨g, l.length, (splice (l.map bv) 0 ((m.take l.length).map bv)).toArray, by rw [hlen], hbg, hw'.out, by rw [hlen]; exact Nat.le_refl _, hcm, ?_, ?_⟩⟩
        · rw [hsp, List.size_toArray, List.length_map, hlen, Nat.mul_one]
        · rw [hsp, Nat.mul_one, List.take_of_length_le (by simp)]
      exact h w' _ _ hlen hown' hb'

theorem OwnB.lit1 (w : World) (x : UInt8) (e : TypeId) (base : Nat) (hb : base ≤ w.heap.size) : OwnB (w.alloc (.cells #[bv x] e)) base e (.slice (some ⟨w.heap.size, 0, none⟩) 1 1) [x] := by
  have := World.ownsRow_lit (base := base) (e := e) (size := 1) w #[bv x] 1 hb (by unfold maxLen; omega) (by simp)
  exact this

/-- the second does not lie where the first does -/
def Apart (w : World) (v u : Value) : Prop := ∀ g, u.ownBlock = some g → v.ownBlock ≠ some g ∧ g < w.heap.size
theorem Apart.moved {w w' : World} {v v' u : Value} (h : Apart w v u) (hm : Moved w v v') (hw : w.heap.size ≤ w'.heap.size) : Apart w' v' u := by
  intro g hg
  obtain ⟨h1, h2⟩ := h g hg
  refine ⟨?_, by omega⟩
  rcases hm with hm | hm
  · rw [hm]; exact h1
  · rw [hm]; simp; omega
theorem Apart.ne {w : World} {v u : Value} (h : Apart w v u) : u.ownBlock = none ∨ u.ownBlock ≠ v.ownBlock := by
  cases hu : u.ownBlock with
  | none => exact .inl rfl
  | some g => right; rw [← hu, hu]; exact Ne.symm (h g hu).1
theorem Apart.up {w w' : World} {v u : Value} (h : Apart w v u) (hw : w.heap.size ≤ w'.heap.size) : Apart w' v u := fun g hg => ⟨(h g hg).1, by have := (h g hg).2; omega⟩
/-- a row made later lies apart -/
theorem Apart.later {w w' : World} {base e : Nat} {v u : Value} {l m : List UInt8} (hv : ∀ k, v.ownBlock = some k → k < w.heap.size) (hu : OwnB w' w.heap.size e u m) : Apart w' v u := by
  intro g hg
  obtain ⟨h1, h2⟩ := World.ownsRow.lt hu g hg
  refine ⟨?_, h2⟩
  intro q; have := hv g q; omega
theorem grownBy_drew {a b : World} {row : Option Nat} (h : a.grownBy b row) : a.grownBy b.drew row := ⟨h.os, h.tape, h.output, h.size, h.block⟩
theorem below_of_drewN (w : World) {w' : World} (h : ∃ n, w' = w.drewN n) : Below w.heap.size w w' := by
  obtain ⟨n, rfl⟩ := h; exact below_drewN (Below.refl _ _) n
theorem Sl.lit (w : World) (vs : Array Value) (l : List UInt8) (n : Nat) (e : TypeId) (h : vs = (l.map bv).toArray) (hn : n = l.length) (hl : l.length ≤ 1000000) : Sl (w.alloc (.cells vs e)) (.slice (Option.some ⟨w.heap.size, 0, none⟩) n n) l := by
  subst h; subst hn
  refine ⟨_, _, rfl, Nat.le_refl _, by unfold maxLen; omega, (fun q => by cases q), .inr ⟨w.heap.size, 0, rfl, fun j hj => ?_⟩⟩
  rw [Nat.zero_add, World.cell?_alloc_at _ _ _ _ rfl]
  simp [List.getD, hj, bv, b8]
theorem Sl.rd {w : World} {ao : Option Addr} {n cap : Nat} {l : List UInt8} (h : Sl w (.slice ao n cap) l) : Rd w ao l := by
  obtain ⟨_, _, q1, _, _, _, q5⟩ := h
  injection q1 with e1 e2 e3
  rw [e1]; exact q5
theorem rd_drop1 {w : World} {b off : Nat} {l : List UInt8} (h : Rd w (some ⟨b, off, none⟩) l) (n : Nat) : Rd w (some ⟨b, off + n, none⟩) (l.drop n) := by
  have := h.drop n
  have e1 : (some (⟨b, off, none⟩ : Addr)).map (·.add n) = some ⟨b, off + n, none⟩ := by cases n <;> simp [Addr.add]
  rwa [e1] at this
theorem Rd.drewN {w : World} {ao : Option Addr} {l : List UInt8} (h : Rd w ao l) (n : Nat) : Rd (w.drewN n) ao l := h.up (below_drewN (Below.refl _ _) n)
end Go.Proofs.YtlmgklebikcbjaaGreat
