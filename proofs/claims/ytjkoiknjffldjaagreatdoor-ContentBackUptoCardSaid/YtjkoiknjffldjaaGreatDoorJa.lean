/-
  The document's lexer: it stands at place i, with the bytes s from there on, since a world w0; what it looks at. Condition: it stands in its bytes.
-/
import Derived.WalkKit
import Derived.WalkSpells
import Derived.KernelRfl
import Derived.BigQuiet
import Derived.WalkSmall
import Derived.Laws.AppendOwnNone
import Derived.Laws.CopyOwn
import Derived.Deep.RegionHeld3
import Derived.Deep.RegionWith
import Derived.Test.YtjkoiknjffldjaaGreatDoorProg
import Derived.Lib.SlBytesRow
import Derived.Shelf.Bytes.SlSmallAll
import Derived.Lib.SliceRun
import Derived.Lib.Strings
import Derived.Lib.Slices
import Derived.Lib.Walk
import Derived.Lib.Bytealg
/-
  Memory: slices that read as bytes, rows of the call's own; the operations on them, a rule each.
-/
namespace Go.Proofs.YtjkoiknjffldjaaGreatDoor
open Go.RowKit
set_option linter.unusedVariables false

theorem hid {p : Prop} (h : p) : Hid p := h

/-- the byte at a place, as a number -/
def b8 (l : List UInt8) (k : Nat) : Int := ((l.getD k 0).toNat : Int)

theorem b8_ge (l : List UInt8) (k : Nat) : 0 ≤ b8 l k := by unfold b8; omega
theorem b8_le (l : List UInt8) (k : Nat) : b8 l k ≤ 255 := by unfold b8; have := (l.getD k 0).toNat_lt; omega
theorem b8_inj {la lb : List UInt8} {j k : Nat} (h : b8 la j = b8 lb k) : la.getD j 0 = lb.getD k 0 := by
  unfold b8 at h; exact UInt8.toNat_inj.1 (by omega)

/-- the byte x as a value -/
def bv (x : UInt8) : Value := .int .u8 (x.toNat : Int)

/-- the slice at ao, of length l.length, reads as the bytes l -/
def Rd (w : World) (ao : Option Addr) (l : List UInt8) : Prop :=
  l = [] ∨ ∃ b off, ao = some ⟨b, off, none⟩ ∧ ∀ j, j < l.length → w.cell? ⟨b, off + j, none⟩ = some (.int .u8 (b8 l j))

theorem Rd.nil (w : World) (ao : Option Addr) : Rd w ao [] := .inl rfl

theorem Rd.up {w w' : World} {ao : Option Addr} {l : List UInt8} (h : Rd w ao l) (hb : Below w.heap.size w w') : Rd w' ao l := by
  rcases h with h | ⟨b, off, h1, h2⟩
  · exact .inl h
  · refine .inr ⟨b, off, h1, fun j hj => ?_⟩
    have h3 := h2 j hj
    rw [hb.cell (World.block_lt_of_cell? w _ h3)]; exact h3

theorem Rd.some {w : World} {ao : Option Addr} {l : List UInt8} (h : Rd w ao l) (hl : 0 < l.length) :
    ∃ b off, ao = some ⟨b, off, none⟩ ∧ b < w.heap.size ∧ ∀ j, j < l.length → w.cell? ⟨b, off + j, none⟩ = some (.int .u8 (b8 l j)) := by
  rcases h with h | ⟨b, off, h1, h2⟩
  · subst h; simp at hl
  · exact ⟨b, off, h1, World.block_lt_of_cell? w _ (h2 0 hl), h2⟩


/-- what the program's tables say of a slice type t of bytes, e the bytes' type -/
structure BytesTy (P : Program) (t e : TypeId) : Prop where
  under : P.underlying t = Option.some (.slice e)
  elem : (P.info? e).map (fun i => (i.zero, i.size, i.bytes)) = Option.some (Option.some (.int .u8 0), 1, 1)

/-- v is a row of bytes l of the call's own, from block base on -/
abbrev OwnB (w : World) (base : Nat) (e : TypeId) (v : Value) (l : List UInt8) : Prop := w.ownsRow base e 1 v l.length (l.map bv)

theorem OwnB.nil (w : World) (base : Nat) (e : TypeId) : OwnB w base e (.slice none 0 0) [] := World.ownsRow_nil w base e 1

theorem Rd.own {w : World} {base : Nat} {e : TypeId} {v : Value} {l : List UInt8} (h : OwnB w base e v l) :
    ∃ ao cap, v = .slice ao l.length cap ∧ l.length ≤ cap ∧ cap ≤ maxLen ∧ Rd w ao l := by
  have h0 := h
  obtain ⟨_, h2⟩ := h
  rcases h2 with ⟨h2, h3⟩ | ⟨g, cap, cur, rfl, hg, hh, hn, hcap, hsz, htake⟩
  · have : l = [] := List.length_eq_zero_iff.1 h3
    subst this
    exact ⟨none, 0, h2, by simp, by simp [maxLen], .inl rfl⟩
  · refine ⟨_, cap, rfl, hn, hcap, .inr ⟨g, 0, rfl, fun j hj => ?_⟩⟩
    have := h0.cellAt j (by omega)
    rw [Nat.zero_add, this]
    simp [List.getD, hj, bv, b8]

theorem OwnB.up {w w' : World} {base : Nat} {e : TypeId} {v : Value} {l : List UInt8} (h : OwnB w base e v l) (hb : Below w.heap.size w w') : OwnB w' base e v l :=
  World.ownsRow.kept (row := none) h ⟨hb.os, hb.tape, hb.output, hb.size, fun k hk _ => hb.block k hk⟩ (by cases hv : v.ownBlock <;> simp)

theorem bv_of (n : Int) (h : 0 ≤ n) (h' : n ≤ 255) : bv (UInt8.ofNat n.toNat) = .int .u8 n := by
  unfold bv
  congr 1
  rw [UInt8.toNat_ofNat', Nat.mod_eq_of_lt (by omega)]
  omega

/-- where the row lies that an append leaves: where it lay, or in a new block -/
def Moved (w : World) (v v' : Value) : Prop := v'.ownBlock = v.ownBlock ∨ v'.ownBlock = Option.some w.heap.size

theorem run_append_moved {P : Program} (w : World) (base : Nat) (t ty e : TypeId) (i : TypeInfo) (z : Value) (size bytes : Nat) (ht : P.underlying t = Option.some (.slice e)) (hi : P.info? e = Option.some i) (hz : i.zero = Option.some z)
    (hsize : i.size = size) (hby : i.bytes = bytes) (hsz : 0 < size)
    (v : Value) (n : Nat) (xs : List Value) (hown : w.ownsRow base e size v n xs)
    (a : Addr) (m c : Nat) (news : List Value) (hl : news.length = m * size) (hnews : ∀ j u, news[j]? = Option.some u → w.cell? (a.add j) = Option.some u) (h1 : ∀ u ∈ news, u.oneCell' = true)
    (h63 : n + m ≤ maxLen) (hbytes : (n + m) * bytes ≤ 140737488355328) (v' : Value) (w' : World)
    (hr : (Builtin.append_ #[t, t] ty #[v, .slice (Option.some a) m c]).run P w = .ok v' w') : Moved w v v' := by
  subst hsize
  subst hby
  have hs : n + m ≤ 9223372036854775807 := by simp only [maxLen] at h63; omega
  rcases hown.2 with ⟨rfl, rfl⟩ | ⟨g, cap, cur, rfl, hbg, hg, hnc, hcm, hcs, htake⟩
  · by_cases hm : m = 0
    · subst hm
      have hn : news = [] := List.eq_nil_of_length_eq_zero (by simpa using hl)
      subst hn
      have h2 : (Builtin.append_ #[t, t] ty #[.slice none 0 0, .slice (Option.some a) 0 c]).run P w = .ok (.slice none 0 0) w := by
        simp [Builtin.append_, run_underlying ht, sizeOf, typeInfo, hi, Builtin.lenOf, Builtin.firstCells, loadCells, loadCellsFrom]
      rw [h2] at hr
      injection hr with q _
      exact .inl (by rw [← q])
    · have h2 := run_append_nil (P := P) w t ty e i z ht hi hz a m c news hl hnews (by omega) (by omega) (by simp only [Nat.zero_add] at hbytes; omega)
      rw [h2] at hr
      injection hr with q _
      exact .inr (by rw [← q]; rfl)
  · by_cases hroom : n + m ≤ cap
    · have hfit : n * i.size + news.length ≤ cur.size := by rw [hl, hcs, ← Nat.add_mul]; exact Nat.mul_le_mul_right _ hroom
      have h2 := run_append_room (P := P) w t ty e i ht hi g n cap cur hg a m c news hl hnews h1 hroom hfit
      rw [h2] at hr
      injection hr with q _
      exact .inl (by rw [← q]; rfl)
    · have h2 := run_append_grow (P := P) w t ty e i z ht hi hz ⟨g, 0, none⟩ n cap xs hown.1 (hown.cells (g := g) rfl) a m c news hl hnews (by omega) (by omega) (growslice_fits (by omega) hbytes)
      rw [h2] at hr
      injection hr with q _
      exact .inr (by rw [← q]; rfl)

theorem wpList_append_row {P : Program} {w : World} {ops : Array Oper} {rest : List Oper} {o : Oper} {a : Act} {Q : Exit → Act → World → Prop} (hgd : o.guard = none) (s x : Operand) (t : TypeId)
    (ho : o.op = .call { callee := .builtin .append, args := #[s, x], argTypes := #[t, t] })
    (base : Nat) (e : TypeId) (z : Value) (size bytes : Nat) (ht : P.underlying t = Option.some (.slice e))
    (hi : (P.info? e).map (fun i => (i.zero, i.size, i.bytes)) = Option.some (Option.some z, size, bytes)) (hzs : z.cells.size = size) (hsz : 0 < size)
    (v : Value) (n : Nat) (xs : List Value) (hs : a.eval s = v) (hown : w.ownsRow base e size v n xs)
    (ad : Addr) (m c : Nat) (news : List Value) (hx : a.eval x = .slice (Option.some ad) m c) (hl : news.length = m * size) (hnews : ∀ j u, news[j]? = Option.some u → w.cell? (ad.add j) = Option.some u) (h1 : ∀ u ∈ news, u.oneCell' = true)
    (h63 : n + m ≤ maxLen) (hbytes : (n + m) * bytes ≤ 140737488355328) (hbase : base ≤ w.heap.size)
    (h : ∀ v' w', w'.ownsRow base e size v' (n + m) (xs ++ news) → w.grownBy w' v.ownBlock → Moved w v v' → wpList P ops Q rest (a.put o.dst v') w') : wpList P ops Q (o :: rest) a w := by
  obtain ⟨i, hi', hz, hsize, hby⟩ := info_parts hi
  refine wpList_plain hgd fun K hK => ?_
  obtain ⟨v', w', hr, h2, h3, h4⟩ := run_append_own (P := P) w base t o.type e i z size bytes ht hi' hz hsize hby hzs hsz v n xs hown ad m c news hl hnews h1 h63 hbytes hbase
  have hmv := run_append_moved (P := P) w base t o.type e i z size bytes ht hi' hz hsize hby hsz v n xs hown ad m c news hl hnews h1 h63 hbytes v' w' hr
  unfold Oper.wp execOp
  simp only [ho, resolve, invoke, builtin, Sem.run_bind, Sem.run_pure, Result.andThen_ok, List.map_toArray, List.map_cons, List.map_nil, hs, hx, hr]
  exact hK _ _ (h v' w' h2 h3 hmv)

/-- append of bytes that can be read, onto a row of the call's own -/
theorem wpList_append_bytes {P : Program} {w : World} {ops : Array Oper} {rest : List Oper} {o : Oper} {a : Act} {Q : Exit → Act → World → Prop} {t e : TypeId}
    (T : BytesTy P t e) (hgd : o.guard = none) (s x : Operand)
    (ho : o.op = .call { callee := .builtin .append, args := #[s, x], argTypes := #[t, t] })
    (base : Nat) (v : Value) (l m : List UInt8) (hs : a.eval s = v) (hown : OwnB w base e v l)
    (ao : Option Addr) (n c : Nat) (hx : a.eval x = .slice ao n c) (hn : n = m.length) (hc : ao = none → c = 0) (hm : Rd w ao m)
    (hbytes : l.length + m.length ≤ 140737488355328) (hbase : base ≤ w.heap.size)
    (h : ∀ v' w', OwnB w' base e v' (l ++ m) → w.grownBy w' v.ownBlock → Moved w v v' → wpList P ops Q rest (a.put o.dst v') w') : wpList P ops Q (o :: rest) a w := by
  subst hn
  cases ao with
  | none =>
    have hm0 : m = [] := by
      rcases hm with hm | ⟨b, off, h1, _⟩
      · exact hm
      · cases h1
    subst hm0
    have hc0 := hc rfl
    subst hc0
    obtain ⟨i, hi, _, _, _⟩ := info_parts T.elem
    refine wpList_append_own_none hgd s x t ho base e i 1 T.under hi v l.length (l.map bv) hs hown (by simpa using hx) ?_
    exact h v w (by simpa using hown) ⟨rfl, rfl, rfl, Nat.le_refl _, fun _ _ _ => rfl⟩ (.inl rfl)
  | some ad =>
    refine wpList_append_row hgd s x t ho base e (.int .u8 0) 1 1 T.under T.elem rfl (by decide) v l.length (l.map bv) hs hown ad m.length c (m.map bv) hx (by simp) ?_ ?_ ?_ ?_ hbase ?_
    · intro j u hj
      rw [List.getElem?_map] at hj
      by_cases hlt : j < m.length
      · obtain ⟨b, off, h1, _, h2⟩ := hm.some (by omega)
        cases h1
        have := h2 j hlt
        simp only [List.getElem?_eq_getElem hlt, Option.map_some, Option.some.injEq] at hj
        subst hj
        have e1 : (⟨b, off, none⟩ : Addr).add j = ⟨b, off + j, none⟩ := by cases j <;> simp [Addr.add]
        rw [e1]; simpa [bv, b8, List.getD, hlt] using this
      · simp [List.getElem?_eq_none (Nat.le_of_not_lt hlt)] at hj
    · intro u hu
      simp only [List.mem_map] at hu
      obtain ⟨y, _, rfl⟩ := hu
      rfl
    · unfold maxLen; omega
    · omega
    · intro v' w' h1 h2 h3
      exact h v' w' (by unfold OwnB; rw [List.length_append, List.map_append]; exact h1) h2 h3

/-- what an append leaves, over what was there from 'base' on -/
theorem below_append {B : Nat} {w0 w w' : World} {base : Nat} {e : TypeId} {v : Value} {n : Nat} {xs : List Value} (h : Below B w0 w) (hown : w.ownsRow base e 1 v n xs) (hg : w.grownBy w' v.ownBlock) (hB : B ≤ base) (hB' : B ≤ w.heap.size) : Below B w0 w' :=
  h.grown hg hB' fun k hk => Nat.le_trans hB (hown.lt k hk).1

/-- a new block of one byte -/
theorem Rd.one (w : World) (n : Int) (e : TypeId) (h : 0 ≤ n) (h' : n ≤ 255) : Rd (w.alloc (.cells #[.int .u8 n] e)) (Option.some ⟨w.heap.size, 0, none⟩) [UInt8.ofNat n.toNat] := by
  refine .inr ⟨w.heap.size, 0, rfl, fun j hj => ?_⟩
  obtain rfl : j = 0 := by simpa using hj
  rw [World.cell?_alloc_at _ _ _ _ rfl]
  have := bv_of n h h'
  simp [b8] at *
  simpa [bv] using this.symm


/-- v is a slice that reads as the bytes l -/
def Sl (w : World) (v : Value) (l : List UInt8) : Prop :=
  ∃ ao cap, v = .slice ao l.length cap ∧ l.length ≤ cap ∧ cap ≤ maxLen ∧ (ao = none → cap = 0) ∧ Rd w ao l

theorem Sl.up {w w' : World} {v : Value} {l : List UInt8} (h : Sl w v l) (hb : Below w.heap.size w w') : Sl w' v l := by
  obtain ⟨ao, cap, h1, h2, h3, h4, h5⟩ := h
  exact ⟨ao, cap, h1, h2, h3, h4, h5.up hb⟩

theorem Sl.own {w : World} {base : Nat} {e : TypeId} {v : Value} {l : List UInt8} (h : OwnB w base e v l) : Sl w v l := by
  obtain ⟨ao, cap, h1, h2, h3, h4⟩ := Rd.own h
  refine ⟨ao, cap, h1, h2, h3, ?_, h4⟩
  rintro rfl
  subst h1
  obtain ⟨_, h5⟩ := h
  rcases h5 with ⟨h5, _⟩ | ⟨g, cap', cur, h5, _⟩
  · injection h5
  · injection h5 with h6; cases h6

theorem Sl.nil (w : World) : Sl w (.slice none 0 0) [] := ⟨none, 0, rfl, Nat.le_refl _, by simp [maxLen], fun _ => rfl, .inl rfl⟩

theorem Rd.drop {w : World} {ao : Option Addr} {l : List UInt8} (h : Rd w ao l) (n : Nat) : Rd w (ao.map (·.add n)) (l.drop n) := by
  rcases h with rfl | ⟨b, off, rfl, h2⟩
  · exact .inl (by simp)
  · refine .inr ⟨b, off + n, by cases n <;> simp [Addr.add], fun j hj => ?_⟩
    have hj' : n + j < l.length := by simp at hj; omega
    rw [Nat.add_assoc, h2 (n + j) hj']
    simp [b8, List.getD]

theorem Rd.take {w : World} {ao : Option Addr} {l : List UInt8} (h : Rd w ao l) (n : Nat) : Rd w ao (l.take n) := by
  rcases h with rfl | ⟨b, off, rfl, h2⟩
  · exact .inl (by simp)
  · refine .inr ⟨b, off, rfl, fun j hj => ?_⟩
    rw [List.length_take] at hj
    have hj1 : j < n := by omega
    rw [h2 j (by omega)]
    simp [b8, List.getD, hj1]

theorem BytesTy.elemOf {P : Program} {t e : TypeId} (T : BytesTy P t e) : P.elem t = e := by simp [Program.elem, T.under]

theorem BytesTy.sizeRun {P : Program} {t e : TypeId} (T : BytesTy P t e) (w : World) : (sizeOf (P.elem t)).run P w = .ok 1 w := by
  rw [T.elemOf]
  have h2 := T.elem
  simp only [sizeOf, typeInfo]
  cases hh : P.info? e with
  | none => rw [hh] at h2; simp at h2
  | some i =>
    rw [hh] at h2; simp at h2
    simp [go_sem, hh, h2.2.1]

section
variable {P : Program} {w : World} {ops : Array Oper} {rest : List Oper} {o : Oper} {a : Act} {Q : Exit → Act → World → Prop} {t e : TypeId}

/-- x[n:] -/
theorem wpList_slice_from (T : BytesTy P t e) (hgd : o.guard = none) (x lo : Operand) (ho : o.op = .slice t x (Option.some lo) none none)
    (v : Value) (l : List UInt8) (hx : a.eval x = v) {w0 : World} (hv : Sl w0 v l) (k : IntKind) (n : Int) (hlo : a.eval lo = .int k n) (h0 : 0 ≤ n) (h1 : n ≤ l.length)
    (h : ∀ v', Sl w0 v' (l.drop n.toNat) → wpList P ops Q rest (a.put o.dst v') w) : wpList P ops Q (o :: rest) a w := by
  obtain ⟨ao, cap, rfl, c1, c2, c3, c4⟩ := hv
  refine wpList_plain hgd fun K hK => ?_
  have hT : P.underlying t = Option.some (.slice (P.elem t)) := by rw [T.elemOf]; exact T.under
  have hrun : (Instr.sliceAt t (a.eval x) (Option.some (a.eval lo)) none none).run P w = .ok (sliced ao n.toNat l.length cap 1) w := by
    rw [hx, hlo, run_sliceAt_slice w t _ _ _ _ hT, run_slice_l w t ao l.length cap hT k n h0 h1, T.sizeRun w]; rfl
  unfold Oper.wp
  simp [execOp, ho, hrun, Result.andThen]
  refine hK _ _ (h _ ⟨if cap = n.toNat then ao else ao.map (·.add (n.toNat * 1)), cap - n.toNat, ?_, ?_, ?_, ?_, ?_⟩)
  · simp only [sliced]; rw [List.length_drop]
  · simp; omega
  · omega
  · intro hc
    by_cases he : cap = n.toNat
    · omega
    · rw [if_neg he] at hc
      have : ao = none := by cases ao <;> simp_all
      have := c3 this; omega
  · by_cases he : cap = n.toNat
    · rw [if_pos he]
      exact .inl (by rw [List.drop_eq_nil_of_le (by omega)])
    · rw [if_neg he, Nat.mul_one]; exact c4.drop _

/-- x[:n:n] -/
theorem wpList_slice_tight (T : BytesTy P t e) (hgd : o.guard = none) (x hi mx : Operand) (ho : o.op = .slice t x none (Option.some hi) (Option.some mx))
    (v : Value) (l : List UInt8) (hx : a.eval x = v) {w0 : World} (hv : Sl w0 v l) (k k' : IntKind) (n : Int) (hhi : a.eval hi = .int k n) (hmx : a.eval mx = .int k' n) (h0 : 0 ≤ n) (h1 : n ≤ l.length)
    (h : ∀ v', Sl w0 v' (l.take n.toNat) → wpList P ops Q rest (a.put o.dst v') w) : wpList P ops Q (o :: rest) a w := by
  obtain ⟨ao, cap, rfl, c1, c2, c3, c4⟩ := hv
  refine wpList_plain hgd fun K hK => ?_
  have hT : P.underlying t = Option.some (.slice (P.elem t)) := by rw [T.elemOf]; exact T.under
  have hrun : (Instr.sliceAt t (a.eval x) none (Option.some (a.eval hi)) (Option.some (a.eval mx))).run P w = .ok (sliced ao 0 n.toNat n.toNat 1) w := by
    rw [hx, hhi, hmx, run_sliceAt_slice w t _ _ _ _ hT, run_slice_hm w t ao l.length cap hT k k' n n h0 (Int.le_refl _) (by omega), T.sizeRun w]; rfl
  have e0 : ao.map (fun x => x.add (0 * 1)) = ao := by cases ao <;> simp [Addr.add]
  unfold Oper.wp
  simp [execOp, ho, hrun, Result.andThen]
  refine hK _ _ (h _ ⟨ao, n.toNat, ?_, ?_, ?_, ?_, ?_⟩)
  · simp only [sliced, e0]; rw [List.length_take]; simp; omega
  · simp; omega
  · omega
  · intro hc; have := c3 hc; omega
  · exact c4.take _
end


theorem Sl.kept {w w' : World} {v : Value} {l : List UInt8} {row : Option Nat} (h : Sl w v l) (hg : w.grownBy w' row) (hne : v.ownBlock = none ∨ v.ownBlock ≠ row) : Sl w' v l := by
  obtain ⟨ao, cap, rfl, h2, h3, h4, h5⟩ := h
  refine ⟨ao, cap, rfl, h2, h3, h4, ?_⟩
  rcases h5 with h5 | ⟨b, off, rfl, h6⟩
  · exact .inl h5
  · refine .inr ⟨b, off, rfl, fun j hj => ?_⟩
    refine hg.cell (h6 j hj) ?_
    rcases hne with hne | hne
    · simp [Value.ownBlock] at hne
    · simpa [Value.ownBlock] using hne

theorem grownBy_trans {a b c : World} {row : Option Nat} (h : a.grownBy b row) (k : b.grownBy c row) : a.grownBy c row :=
  ⟨k.os.trans h.os, k.tape.trans h.tape, k.output.trans h.output, Nat.le_trans h.size k.size, fun i hi hn => (k.block i (Nat.lt_of_lt_of_le hi h.size) hn).trans (h.block i hi hn)⟩
theorem grownBy_below {a b : World} (h : Below a.heap.size a b) (row : Option Nat) : a.grownBy b row :=
  ⟨h.os, h.tape, h.output, h.size, fun k hk _ => h.block k hk⟩
theorem below_grownBy {a b : World} (h : a.grownBy b none) : Below a.heap.size a b :=
  ⟨h.os, h.tape, h.output, h.size, fun k hk => h.block k hk (by simp)⟩
theorem grownBy_setCell (a : World) (p : Addr) (u : Value) : a.grownBy (a.setCell p u) (Option.some p.block) :=
  ⟨rfl, rfl, rfl, by simp [World.setCell], fun k hk hn => Below.heap_setCell _ _ _ _ (by rintro rfl; exact hn rfl)⟩

/-- one byte of an owned row is written -/
theorem OwnB.stored {w : World} {base g n cap : Nat} {e : TypeId} {l : List UInt8} (h : OwnB w base e (.slice (Option.some ⟨g, 0, none⟩) n cap) l) (hn : n = l.length) (j : Nat) (x : UInt8) :
    OwnB (w.setCell ⟨g, j, none⟩ (bv x)) base e (.slice (Option.some ⟨g, 0, none⟩) n cap) (l.set j x) := by
  subst hn
  have := World.ownsRow.stored h j (bv x)
  unfold OwnB
  rw [List.length_set, List.map_set]
  exact this.1

theorem OwnB.cell {w : World} {base g n cap : Nat} {e : TypeId} {l : List UInt8} (h : OwnB w base e (.slice (Option.some ⟨g, 0, none⟩) n cap) l) (hn : n = l.length) (j : Nat) (hj : j < l.length) :
    w.cell? ⟨g, j, none⟩ = Option.some (.int .u8 (b8 l j)) := by
  subst hn
  have := World.ownsRow.cellAt h j (by omega)
  rw [this]; simp [List.getD, hj, bv, b8]
theorem OwnB.free {w : World} {base g n cap : Nat} {e : TypeId} {l : List UInt8} (h : OwnB w base e (.slice (Option.some ⟨g, 0, none⟩) n cap) l) (hn : n = l.length) (j : Nat) :
    w.frozen? ⟨g, j, none⟩ = false := by
  subst hn
  exact World.ownsRow.frozenAt h j

theorem ownsRow_mono {w : World} {base base' : Nat} {e : TypeId} {size : Nat} {v : Value} {n : Nat} {xs : List Value} (h : w.ownsRow base e size v n xs) (hb : base' ≤ base) : w.ownsRow base' e size v n xs := by
  refine ⟨h.1, ?_⟩
  rcases h.2 with h2 | ⟨g, cap, cur, h1, h2, h3⟩
  · exact .inl h2
  · exact .inr ⟨g, cap, cur, h1, Nat.le_trans hb h2, h3⟩
theorem OwnB.mono {w : World} {base base' : Nat} {e : TypeId} {v : Value} {l : List UInt8} (h : OwnB w base e v l) (hb : base' ≤ base) : OwnB w base' e v l := ownsRow_mono h hb
theorem OwnB.kept {w w' : World} {base : Nat} {e : TypeId} {v : Value} {l : List UInt8} {row : Option Nat} (h : OwnB w base e v l) (hg : w.grownBy w' row) (hne : v.ownBlock = none ∨ v.ownBlock ≠ row) : OwnB w' base e v l := World.ownsRow.kept h hg hne

/-- make([]byte, n) -/
theorem wpList_make_bytes {P : Program} {w : World} {ops : Array Oper} {rest : List Oper} {o : Oper} {a : Act} {Q : Exit → Act → World → Prop} {t e : TypeId}
    (T : BytesTy P t e) (hgd : o.guard = none) (l c : Operand) (ho : o.op = .makeSlice t l c) (base : Nat) (kl kc : IntKind) (n : Nat)
    (hl : a.eval l = .int kl (n : Int)) (hc : a.eval c = .int kc (n : Int)) (hn : n ≤ 140737488355328) (hbase : base ≤ w.heap.size)
    (h : ∀ w', OwnB w' base e (.slice (Option.some ⟨w.heap.size, 0, none⟩) n n) (List.replicate n 0) → Below w.heap.size w w' → wpList P ops Q rest (a.put o.dst (.slice (Option.some ⟨w.heap.size, 0, none⟩) n n)) w') : wpList P ops Q (o :: rest) a w := by
  obtain ⟨i, hi, hz, hs, hb⟩ := info_parts T.elem
  refine wpList_make_full w hgd l c t ho base e i (.int .u8 0) 1 T.under hi hz hs kl kc n n n hl hc rfl rfl (by rw [hb]; omega) (by unfold maxLen; omega) hbase ?_
  intro w' h1 h2
  refine h w' ?_ (below_grownBy h2)
  have e1 : (madeCells (Value.int .u8 0).cells (n * 1)).toList = (List.replicate n (0 : UInt8)).map bv := by
    rw [Nat.mul_one, show (Value.int .u8 0).cells = #[.int .u8 0] from rfl, toList_madeCells_one]; simp [bv]
  unfold OwnB
  rw [List.length_replicate, ← e1]
  exact h1

theorem ret_bool {a b : Bool} (h : a = b) : Ending.returned (.bool a) = .returned (.bool b) := by rw [h]
theorem ret_int {k : IntKind} {a b : Int} (h : a = b) : Ending.returned (.int k a) = .returned (.int k b) := by rw [h]
theorem eq_of_b8 {la lb : List UInt8} (hl : la.length = lb.length) (h : ∀ j, j < la.length → b8 la j = b8 lb j) : la = lb := by
  refine List.ext_getElem hl fun i h1 h2 => ?_
  have := b8_inj (h i h1)
  simpa [List.getD, h1, h2] using this
theorem ne_of_b8 {la lb : List UInt8} {k : Nat} (h : ¬ b8 la k = b8 lb k) : ¬ la = lb := by
  rintro rfl; exact h rfl
def byteOf (n : Int) : UInt8 := UInt8.ofNat (n % 256).toNat
theorem byteOf_nat (n : Int) : ((byteOf n).toNat : Int) = n % 256 := by
  unfold byteOf
  rw [UInt8.toNat_ofNat', Nat.mod_eq_of_lt (by omega)]
  omega

theorem OwnB.rd {w : World} {base n cap : Nat} {e : TypeId} {ao : Option Addr} {l : List UInt8} (h : OwnB w base e (.slice ao n cap) l) : Rd w ao l := by
  obtain ⟨ao', cap', h1, _, _, h2⟩ := Rd.own h
  injection h1 with h3
  rw [h3]; exact h2

theorem bv_byteOf (n : Int) : bv (byteOf n) = .int .u8 (n % 256) := by
  unfold bv; rw [byteOf_nat]
theorem wrap8 (n : Int) : IntKind.u8.wrap n = n % 256 := by
  simp [IntKind.wrap, IntKind.signed, IntKind.bits]
theorem below_then {w W W' : World} (p : Below w.heap.size w W) (q : Below W.heap.size W W') : Below w.heap.size w W' := p.trans (q.mono p.size)
theorem b8_app_left {a b : List UInt8} {j : Nat} (h : j < a.length) : b8 (a ++ b) j = b8 a j := by
  simp [b8, List.getD, List.getElem?_append_left h]
theorem b8_app_right {a b : List UInt8} {j : Nat} : b8 (a ++ b) (a.length + j) = b8 b j := by
  simp [b8, List.getD, List.getElem?_append_right]

theorem b8_drop {b : List UInt8} {h j : Nat} : b8 (b.drop h) j = b8 b (h + j) := by
  unfold b8; simp only [List.getD]; rw [List.getElem?_drop]
theorem b8_set_same {l : List UInt8} {i : Nat} {x : UInt8} (h : i < l.length) : b8 (l.set i x) i = x.toNat := by simp [b8, List.getD, h]
theorem b8_set_other {l : List UInt8} {i j : Nat} {x : UInt8} (h : j ≠ i) : b8 (l.set i x) j = b8 l j := by simp [b8, List.getD, Ne.symm h]

theorem cell_up {B : Nat} {a W : World} (h : Below B a W) {p : Addr} {v : Value} (hc : a.cell? p = some v) (hp : p.block < B) : W.cell? p = some v := by rw [h.cell hp]; exact hc
theorem cell_up' {a W : World} (h : Below a.heap.size a W) {p : Addr} {v : Value} (hc : a.cell? p = some v) : W.cell? p = some v := cell_up h hc (World.block_lt_of_cell? _ _ hc)

/-- what was appended to is still the same row -/
theorem run_append_still {P : Program} (w : World) (base : Nat) (t ty e : TypeId) (i : TypeInfo) (z : Value) (size bytes : Nat) (ht : P.underlying t = some (.slice e)) (hi : P.info? e = some i) (hz : i.zero = some z)
    (hsize : i.size = size) (hby : i.bytes = bytes) (hsz : 0 < size)
    (v : Value) (n : Nat) (xs : List Value) (hown : w.ownsRow base e size v n xs)
    (a : Addr) (m c : Nat) (news : List Value) (hl : news.length = m * size) (hnews : ∀ j u, news[j]? = some u → w.cell? (a.add j) = some u) (h1 : ∀ u ∈ news, u.oneCell' = true)
    (h63 : n + m ≤ maxLen) (hbytes : (n + m) * bytes ≤ 140737488355328) (v' : Value) (w' : World)
    (hr : (Builtin.append_ #[t, t] ty #[v, .slice (some a) m c]).run P w = .ok v' w') (hg : w.grownBy w' v.ownBlock) : w'.ownsRow base e size v n xs := by
  subst hsize
  subst hby
  have hs : n + m ≤ 9223372036854775807 := by simp only [maxLen] at h63; omega
  have h0 := hown
  rcases hown.2 with ⟨rfl, rfl⟩ | ⟨g, cap, cur, rfl, hbg, hgg, hnc, hcm, hcs, htake⟩
  · exact h0.kept hg (.inl rfl)
  · by_cases hroom : n + m ≤ cap
    · have hfit : n * i.size + news.length ≤ cur.size := by rw [hl, hcs, ← Nat.add_mul]; exact Nat.mul_le_mul_right _ hroom
      have h2 := run_append_room (P := P) w t ty e i ht hi g n cap cur hgg a m c news hl hnews h1 hroom hfit
      rw [h2] at hr
      injection hr with _ q
      subst q
      refine ⟨h0.1, .inr ⟨g, cap, _, rfl, hbg, setRow_heap w g cur _ e _ hgg, hnc, hcm, ?_, ?_⟩⟩
      · simp only [List.size_toArray, List.length_append, List.length_take, List.length_drop, Array.length_toList]
        omega
      · rw [htake, List.append_assoc]; exact List.take_left' h0.1
    · have h2 := run_append_grow (P := P) w t ty e i z ht hi hz ⟨g, 0, none⟩ n cap xs h0.1 (h0.cells (g := g) rfl) a m c news hl hnews (by omega) (by omega) (growslice_fits (by omega) hbytes)
      rw [h2] at hr
      injection hr with _ q
      subst q
      exact World.ownsRow.alloc h0 _

section
variable {P : Program} {w : World} {ops : Array Oper} {rest : List Oper} {o : Oper} {a : Act} {K : Act → World → Prop} {Q : Exit → Act → World → Prop} {t e : TypeId}

theorem wp_append_bytes1 (T : BytesTy P t e) (s x : Operand)
    (ho : o.op = .call { callee := .builtin .append, args := #[s, x], argTypes := #[t, t] })
    (base : Nat) (v : Value) (l m : List UInt8) (hs : a.eval s = v) (hown : OwnB w base e v l)
    (ad : Addr) (n c : Nat) (hx : a.eval x = .slice (some ad) n c) (hn : n = m.length) (hm : Rd w (some ad) m)
    (hbytes : l.length + m.length ≤ 140737488355328) (hbase : base ≤ w.heap.size)
    (h : ∀ v' w', OwnB w' base e v' (l ++ m) → OwnB w' base e v l → w.grownBy w' v.ownBlock → Moved w v v' → K (a.put o.dst v') w') : o.wp P a w K Q := by
  subst hn
  obtain ⟨i, hi', hz, hsize, hby⟩ := info_parts T.elem
  have hnews : ∀ j u, (m.map bv)[j]? = some u → w.cell? (ad.add j) = some u := by
    intro j u hj
    rw [List.getElem?_map] at hj
    by_cases hlt : j < m.length
    · obtain ⟨b, off, h1, _, h2⟩ := hm.some (by omega)
      cases h1
      have := h2 j hlt
      simp only [List.getElem?_eq_getElem hlt, Option.map_some, Option.some.injEq] at hj
      subst hj
      have e1 : (⟨b, off, none⟩ : Addr).add j = ⟨b, off + j, none⟩ := by cases j <;> simp [Addr.add]
      rw [e1]; simpa [bv, b8, List.getD, hlt] using this
    · simp [List.getElem?_eq_none (Nat.le_of_not_lt hlt)] at hj
  have h1c : ∀ u ∈ m.map bv, u.oneCell' = true := by
    intro u hu
    simp only [List.mem_map] at hu
    obtain ⟨y, _, rfl⟩ := hu
    rfl
  have k1 : l.length + m.length ≤ maxLen := by unfold maxLen; omega
  have k2 : (l.length + m.length) * 1 ≤ 140737488355328 := by omega
  obtain ⟨v', w', hr, h2, h3, h4⟩ := run_append_own (P := P) w base t o.type e i (.int .u8 0) 1 1 T.under hi' hz hsize hby rfl (by decide) v l.length (l.map bv) hown ad m.length c (m.map bv) (by simp) hnews h1c k1 k2 hbase
  have hmv := run_append_moved (P := P) w base t o.type e i (.int .u8 0) 1 1 T.under hi' hz hsize hby (by decide) v l.length (l.map bv) hown ad m.length c (m.map bv) (by simp) hnews h1c k1 k2 v' w' hr
  have hst := run_append_still (P := P) w base t o.type e i (.int .u8 0) 1 1 T.under hi' hz hsize hby (by decide) v l.length (l.map bv) hown ad m.length c (m.map bv) (by simp) hnews h1c k1 k2 v' w' hr h3
  unfold Oper.wp execOp
  simp only [ho, resolve, invoke, builtin, Sem.run_bind, Sem.run_pure, Result.andThen_ok, List.map_toArray, List.map_cons, List.map_nil, hs, hx, hr]
  exact h v' w' (by unfold OwnB; rw [List.length_append, List.map_append]; exact h2) hst h3 hmv

theorem step_append_bytes {E : Prop} (T : BytesTy P t e) (hgd : o.guard = none) (s x : Operand)
    (ho : o.op = .call { callee := .builtin .append, args := #[s, x], argTypes := #[t, t] })
    (base : Nat) (v : Value) (l m : List UInt8) (hs : a.eval s = v) (hown : OwnB w base e v l)
    (ad : Addr) (n c : Nat) (hx : a.eval x = .slice (some ad) n c) (hn : n = m.length) (hm : Rd w (some ad) m)
    (hbytes : l.length + m.length ≤ 140737488355328) (hbase : base ≤ w.heap.size)
    (h : ∀ v' w', OwnB w' base e v' (l ++ m) → OwnB w' base e v l → w.grownBy w' v.ownBlock → Moved w v v' → K (a.put o.dst v') w') :
    if Region.wanted o (yielded ops a.tmps) = true then o.wp P a w K Q else E := by
  rw [if_pos (by simp [Region.wanted, hgd])]
  exact wp_append_bytes1 T s x ho base v l m hs hown ad n c hx hn hm hbytes hbase h
end
theorem wpList_copy_bytes {P : Program} {w : World} {ops : Array Oper} {rest : List Oper} {o : Oper} {a : Act} {Q : Exit → Act → World → Prop} {t e : TypeId}
    (T : BytesTy P t e) (hgd : o.guard = none) (d s : Operand) (ho : o.op = .call { callee := .builtin .copy, args := #[d, s], argTypes := #[t, t] })
    (base g n : Nat) (hd : a.eval d = .slice (some ⟨g, 0, none⟩) n n) (l : List UInt8) (hl : l.length = n) (hown : OwnB w base e (.slice (some ⟨g, 0, none⟩) n n) l)
    (v : Value) (hs : a.eval s = v) (m : List UInt8) (hm : Sl w v m)
    (h : ∀ w' (l' : List UInt8) (k : Nat), l'.length = n → OwnB w' base e (.slice (some ⟨g, 0, none⟩) n n) l' → Below g w w' → wpList P ops Q rest (a.put o.dst (.int .i64 k)) w') : wpList P ops Q (o :: rest) a w := by
  subst hl
  obtain ⟨i, hi, hz, hsz, hby⟩ := info_parts T.elem
  obtain ⟨ao, cap, rfl, c1, c2, c3, c4⟩ := hm
  obtain ⟨h1, h2⟩ := hown
  rcases h2 with ⟨h2, _⟩ | ⟨g', cap', cur, h2, hbg, hgg, hnc, hcm, hcs, htake⟩
  · cases h2
  · injection h2 with q1 q2 q3
    injection q1 with q4
    injection q4 with q5
    subst q5
    subst q3
    have hcur : cur.toList = l.map bv := by rw [← htake, List.take_of_length_le (by simp [hcs])]
    have hcl : (l.map bv).length = l.length := by simp
    refine wpList_copy_splice hgd d s t t ho e T.under (by simp [hi, hsz]) _ ao l.length l.length m.length cap hd hs g 0 (l.map bv) e (by rw [hgg, ← hcur]) ((m.take l.length).map bv) (by simp [Nat.min_comm]) ?_ (by simp; omega) ?_ g w (Below.refl _ _) (Nat.le_refl _) ?_
    · intro hpos
      have hml : 0 < m.length := by simp at hpos; omega
      obtain ⟨b, off, rfl, _, hc⟩ := c4.some hml
      refine ⟨rfl, _, rfl, ?_⟩
      intro j u hj
      have hjl : j < ((m.take l.length).map bv).length := by
        rcases Nat.lt_or_ge j ((m.take l.length).map bv).length with q | q
        · exact q
        · rw [List.getElem?_eq_none q] at hj; cases hj
      simp at hjl
      have := hc j (by omega)
      have e1 : (⟨b, off, none⟩ : Addr).add j = ⟨b, off + j, none⟩ := by cases j <;> simp [Addr.add]
      rw [e1, this, ← hj]
      have hjm : j < m.length := by omega
      simp [bv, b8, List.getD, hjl, hjm]
    · intro u hu
      simp only [List.mem_map] at hu
      obtain ⟨y, _, rfl⟩ := hu
      rfl
    · intro w' hw' hb'
      have hsp : splice (l.map bv) 0 ((m.take l.length).map bv) = (m.take l.length ++ l.drop (m.take l.length).length).map bv := by
        simp [splice, List.map_drop]
      have hlen : (m.take l.length ++ l.drop (m.take l.length).length).length = l.length := by simp; omega
      have hown' : OwnB w' base e (.slice (some ⟨g, 0, none⟩) l.length l.length) (m.take l.length ++ l.drop (m.take l.length).length) := by
        refine ⟨by simp, .inr ⟨g, l.length, (splice (l.map bv) 0 ((m.take l.length).map bv)).toArray, by rw [hlen], hbg, hw'.out, by rw [hlen]; exact Nat.le_refl _, hcm, ?_, ?_⟩⟩
        · rw [hsp, List.size_toArray, List.length_map, hlen, Nat.mul_one]
        · rw [hsp, Nat.mul_one, List.take_of_length_le (by simp)]
      exact h w' _ _ hlen hown' hb'

theorem OwnB.lit1 (w : World) (x : UInt8) (e : TypeId) (base : Nat) (hb : base ≤ w.heap.size) : OwnB (w.alloc (.cells #[bv x] e)) base e (.slice (some ⟨w.heap.size, 0, none⟩) 1 1) [x] := by
  have := World.ownsRow_lit (base := base) (e := e) (size := 1) w #[bv x] 1 hb (by unfold maxLen; omega) (by simp)
  exact this

/-- the second does not lie where the first does -/
def Apart (w : World) (v u : Value) : Prop := ∀ g, u.ownBlock = some g → v.ownBlock ≠ some g ∧ g < w.heap.size
theorem Apart.moved {w w' : World} {v v' u : Value} (h : Apart w v u) (hm : Moved w v v') (hw : w.heap.size ≤ w'.heap.size) : Apart w' v' u := by
  intro g hg
  obtain ⟨h1, h2⟩ := h g hg
  refine ⟨?_, by omega⟩
  rcases hm with hm | hm
  · rw [hm]; exact h1
  · rw [hm]; simp; omega
theorem Apart.ne {w : World} {v u : Value} (h : Apart w v u) : u.ownBlock = none ∨ u.ownBlock ≠ v.ownBlock := by
  cases hu : u.ownBlock with
  | none => exact .inl rfl
  | some g => right; rw [← hu, hu]; exact Ne.symm (h g hu).1
theorem Apart.up {w w' : World} {v u : Value} (h : Apart w v u) (hw : w.heap.size ≤ w'.heap.size) : Apart w' v u := fun g hg => ⟨(h g hg).1, by have := (h g hg).2; omega⟩
/-- a row made later lies apart -/
theorem Apart.later {w w' : World} {base e : Nat} {v u : Value} {l m : List UInt8} (hv : ∀ k, v.ownBlock = some k → k < w.heap.size) (hu : OwnB w' w.heap.size e u m) : Apart w' v u := by
  intro g hg
  obtain ⟨h1, h2⟩ := World.ownsRow.lt hu g hg
  refine ⟨?_, h2⟩
  intro q; have := hv g q; omega
theorem grownBy_drew {a b : World} {row : Option Nat} (h : a.grownBy b row) : a.grownBy b.drew row := ⟨h.os, h.tape, h.output, h.size, h.block⟩
theorem below_of_drewN (w : World) {w' : World} (h : ∃ n, w' = w.drewN n) : Below w.heap.size w w' := by
  obtain ⟨n, rfl⟩ := h; exact below_drewN (Below.refl _ _) n
theorem Sl.lit (w : World) (vs : Array Value) (l : List UInt8) (n : Nat) (e : TypeId) (h : vs = (l.map bv).toArray) (hn : n = l.length) (hl : l.length ≤ 4000000) : Sl (w.alloc (.cells vs e)) (.slice (Option.some ⟨w.heap.size, 0, none⟩) n n) l := by
  subst h; subst hn
  refine ⟨_, _, rfl, Nat.le_refl _, by unfold maxLen; omega, (fun q => by cases q), .inr ⟨w.heap.size, 0, rfl, fun j hj => ?_⟩⟩
  rw [Nat.zero_add, World.cell?_alloc_at _ _ _ _ rfl]
  simp [List.getD, hj, bv, b8]
theorem Sl.rd {w : World} {ao : Option Addr} {n cap : Nat} {l : List UInt8} (h : Sl w (.slice ao n cap) l) : Rd w ao l := by
  obtain ⟨_, _, q1, _, _, _, q5⟩ := h
  injection q1 with e1 e2 e3
  rw [e1]; exact q5
theorem rd_drop1 {w : World} {b off : Nat} {l : List UInt8} (h : Rd w (some ⟨b, off, none⟩) l) (n : Nat) : Rd w (some ⟨b, off + n, none⟩) (l.drop n) := by
  have := h.drop n
  have e1 : (some (⟨b, off, none⟩ : Addr)).map (·.add n) = some ⟨b, off + n, none⟩ := by cases n <;> simp [Addr.add]
  rwa [e1] at this
theorem Rd.drewN {w : World} {ao : Option Addr} {l : List UInt8} (h : Rd w ao l) (n : Nat) : Rd (w.drewN n) ao l := h.up (below_drewN (Below.refl _ _) n)
end Go.Proofs.YtjkoiknjffldjaaGreatDoor

/-
  A cursor in memory, and what its methods answer. Conditions: the cursor stands in its bytes; sizes.
-/
namespace Go.Proofs.YtjkoiknjffldjaaGreatDoor
open Go.RowKit
set_option linter.unusedVariables false

/-- the byte at a place, -1 where there is none -/
def pk (b : List UInt8) (n : Int) : Int := if 0 ≤ n ∧ n < b.length then b8 b n.toNat else -1

/-- block cp is a cursor over the bytes b, at the place i; the bytes lie in no other block of a cursor -/
structure CurAt (w : World) (cp : Nat) (ao : Option Addr) (cap : Nat) (b : List UInt8) (i : Nat) : Prop where
  c0 : w.cell? ⟨cp, 0, none⟩ = some (.slice ao b.length cap)
  c1 : w.cell? ⟨cp, 1, none⟩ = some (.int .i64 i)
  f1 : w.frozen? ⟨cp, 1, none⟩ = false
  rd : Rd w ao b
  le : b.length ≤ cap
  mx : cap ≤ maxLen
  ni : ao = none → cap = 0
  at_ : i ≤ b.length
  sm : b.length ≤ 4000000
  ne : 0 < b.length → ∀ a, ao = some a → a.block ≠ cp

theorem CurAt.same {w w' : World} {cp : Nat} {ao : Option Addr} {cap : Nat} {b : List UInt8} {i : Nat} (h : CurAt w cp ao cap b i) (hb : Below w.heap.size w w') : CurAt w' cp ao cap b i := by
  have hc := World.block_lt_of_cell? _ _ h.c0
  exact ⟨cell_up' hb h.c0, cell_up' hb h.c1, by rw [hb.frozen (p := ⟨cp, 1, none⟩) hc]; exact h.f1, h.rd.up hb, h.le, h.mx, h.ni, h.at_, h.sm, h.ne⟩

theorem pos_any (cp : Nat) (ao : Option Addr) (cap : Nat) (b : List UInt8) (i : Nat) (w : World) (h : CurAt w cp ao cap b i) :
    Calls Tryz.prog 38 #[.pointer (some ⟨cp, 0, none⟩)] w fun e w' => e = .returned (.int .i64 i) ∧ w = w' := by
  have h1 := h.c1
  go_enter Tryz.func38, Tryz.ntmps38
  go_wp2
  go_ret
  exact ⟨rfl, rfl⟩

theorem len_any (cp : Nat) (ao : Option Addr) (cap : Nat) (b : List UInt8) (i : Nat) (w : World) (h : CurAt w cp ao cap b i) :
    Calls Tryz.prog 109 #[.pointer (some ⟨cp, 0, none⟩)] w fun e w' => e = .returned (.int .i64 b.length) ∧ w = w' := by
  have h1 := h.c0
  have h2 := h.sm
  go_enter Tryz.func109, Tryz.ntmps109
  go_wp2
  go_ret
  exact ⟨rfl, rfl⟩

theorem left_any (cp : Nat) (ao : Option Addr) (cap : Nat) (b : List UInt8) (i : Nat) (w : World) (h : CurAt w cp ao cap b i) :
    Calls Tryz.prog 89 #[.pointer (some ⟨cp, 0, none⟩)] w fun e w' => e = .returned (.int .i64 ((b.length : Int) - i)) ∧ w = w' := by
  have h2 := h.sm
  have h3 := h.at_
  go_enter Tryz.func89, Tryz.ntmps89
  go_wp2_with (first
    | (go_at_call 109; refine (len_any cp ao cap b i _ h).mono ?_; rintro e w' ⟨rfl, rfl⟩)
    | (go_at_call 38; refine (pos_any cp ao cap b i _ h).mono ?_; rintro e w' ⟨rfl, rfl⟩))
  go_ret
  exact ⟨rfl, rfl⟩

theorem pk_in {b : List UInt8} {n : Nat} (h : n < b.length) : pk b n = b8 b n := by unfold pk; rw [if_pos ⟨by omega, by omega⟩]; congr 1
theorem pk_out {b : List UInt8} {n : Int} (h : (b.length : Int) ≤ n) : pk b n = -1 := by unfold pk; rw [if_neg (by omega)]

theorem peek_any (cp : Nat) (ao : Option Addr) (cap : Nat) (b : List UInt8) (i : Nat) (k : Int) (w : World) (h : CurAt w cp ao cap b i) (hk : 0 ≤ k) (hk' : k ≤ 4000000) :
    Calls Tryz.prog 77 #[.pointer (some ⟨cp, 0, none⟩), .int .i64 k] w fun e w' => e = .returned (.int .i64 (pk b (i + k))) ∧ ∃ n, w' = w.drewN n := by
  have h2 := h.sm
  have h3 := h.at_
  obtain ⟨k, rfl⟩ := Int.eq_ofNat_of_zero_le hk
  by_cases hlt : i + k < b.length
  · have hp : pk b ((i : Int) + (k : Int)) = b8 b (i + k) := by
      have := pk_in (b := b) hlt
      simpa using this
    rw [hp]
    obtain ⟨bb, oo, rfl, hs, hc⟩ := h.rd.some (by omega)
    have hck := hc (i + k) hlt
    have h1 := h.c1
    have h0 := h.c0
    have x0 := b8_ge b (i + k)
    have x1 := b8_le b (i + k)
    have d1 : IntKind.i64.wrap ((i : Int) + (k : Int)) = (i : Int) + (k : Int) := IntWalk.i64_in _ (by omega)
    have d2 : (0 : Int) ≤ (i : Int) + (k : Int) := by omega
    have d3 : (i : Int) + (k : Int) < (b.length : Int) := by omega
    have d4 : ((i : Int) + (k : Int)).toNat = i + k := by omega
    have t1 : decide ((b.length : Int) - (i : Int) ≤ (k : Int)) = false := decide_eq_false (by omega)
    have t2 : decide ((k : Int) < -(i : Int)) = false := decide_eq_false (by omega)
    have D1 := hid d1
    have D4 := hid d4
    clear hc hp d1 d4
    go_enter Tryz.func77, Tryz.ntmps77
    go_wp2_with (first
      | (go_at_call 89; refine (left_any cp _ cap b i _ h).mono ?_; rintro e w' ⟨rfl, rfl⟩)
      | (go_at_call 38; refine (pos_any cp _ cap b i _ h).mono ?_; rintro e w' ⟨rfl, rfl⟩))
    have d1 := D1.out
    have d4 := D4.out
    go_quiet (fail)
    go_wp2
    go_ret
    exact ⟨rfl, _, rfl⟩
  · have hp : pk b ((i : Int) + (k : Int)) = -1 := pk_out (by omega)
    rw [hp]
    have t1 : decide ((b.length : Int) - (i : Int) ≤ (k : Int)) = true := decide_eq_true (by omega)
    clear hp
    go_enter Tryz.func77, Tryz.ntmps77
    go_wp2_with (first
      | (go_at_call 89; refine (left_any cp _ cap b i _ h).mono ?_; rintro e w' ⟨rfl, rfl⟩)
      | (go_at_call 38; refine (pos_any cp _ cap b i _ h).mono ?_; rintro e w' ⟨rfl, rfl⟩))
    go_ret
    exact ⟨rfl, 0, rfl⟩
end Go.Proofs.YtjkoiknjffldjaaGreatDoor

/-
  What stays as it was but for two blocks; a cursor and a lexer in memory over that.
-/
namespace Go.Proofs.YtjkoiknjffldjaaGreatDoor
open Go.RowKit
set_option linter.unusedVariables false


/-- every block below B but p and q is as it was -/
structure Held (B p q : Nat) (w w' : World) : Prop where
  os : w'.os = w.os
  tape : w'.tape = w.tape
  output : w'.output = w.output
  size : w.heap.size ≤ w'.heap.size
  block : ∀ k, k < B → k ≠ p → k ≠ q → w'.heap[k]? = w.heap[k]?

theorem Held.refl (B p q : Nat) (w : World) : Held B p q w w := ⟨rfl, rfl, rfl, Nat.le_refl _, fun _ _ _ _ => rfl⟩
theorem Held.trans {B p q : Nat} {a b c : World} (h : Held B p q a b) (k : Held B p q b c) : Held B p q a c :=
  ⟨k.os.trans h.os, k.tape.trans h.tape, k.output.trans h.output, Nat.le_trans h.size k.size, fun i hi h1 h2 => (k.block i hi h1 h2).trans (h.block i hi h1 h2)⟩
theorem Held.mono {B B' p q : Nat} {w w' : World} (h : Held B p q w w') (hB : B' ≤ B) : Held B' p q w w' := ⟨h.os, h.tape, h.output, h.size, fun k hk => h.block k (Nat.lt_of_lt_of_le hk hB)⟩
/-- one world on: what was held of the later world's blocks is held of the earlier one's -/
theorem Held.then {p q : Nat} {a b c : World} (h : Held a.heap.size p q a b) (k : Held b.heap.size p q b c) : Held a.heap.size p q a c := h.trans (k.mono h.size)
/-- the same, over blocks below an earlier B -/
theorem Held.then' {B p q : Nat} {a b c : World} (h : Held B p q a b) (k : Held b.heap.size p q b c) (hB : B ≤ a.heap.size := by exact Nat.le_refl _) : Held B p q a c := h.trans (k.mono (Nat.le_trans hB h.size))
theorem Held.of_below {B p q : Nat} {w w' : World} (h : Below B w w') : Held B p q w w' := ⟨h.os, h.tape, h.output, h.size, fun k hk _ _ => h.block k hk⟩
theorem Held.below {B B' p q : Nat} {w w' : World} (h : Held B p q w w') (hB : B' ≤ B) (hp : B' ≤ p) (hq : B' ≤ q) : Below B' w w' := ⟨h.os, h.tape, h.output, h.size, fun k hk => h.block k (by omega) (by omega) (by omega)⟩
theorem Held.drewN {B p q : Nat} (w : World) (n : Nat) : Held B p q w (w.drewN n) := .of_below (below_drewN (Below.refl _ _) n)
theorem Held.widen {B p q r s : Nat} {w w' : World} (h : Held B p q w w') (hp : p = r ∨ p = s ∨ B ≤ p) (hq : q = r ∨ q = s ∨ B ≤ q) : Held B r s w w' :=
  ⟨h.os, h.tape, h.output, h.size, fun k hk h1 h2 => h.block k hk (by omega) (by omega)⟩
theorem Held.set {B p q : Nat} (w : World) (a : Addr) (u : Value) (h : a.block = p ∨ a.block = q ∨ B ≤ a.block) : Held B p q w (w.setCell a u) :=
  ⟨rfl, rfl, rfl, by simp, fun k hk h1 h2 => heap_setCell_other w a k u (by omega)⟩
theorem Held.grown {B p q : Nat} {w w' : World} {row : Option Nat} (hg : w.grownBy w' row) (hB : B ≤ w.heap.size) (hr : ∀ k, row = some k → B ≤ k) : Held B p q w w' :=
  .of_below ((Below.refl _ _).grown hg hB hr)
theorem Held.cell {B p q : Nat} {w w' : World} (h : Held B p q w w') {a : Addr} (ha : a.block < B) (hp : a.block ≠ p) (hq : a.block ≠ q) : w'.cell? a = w.cell? a := World.cell?_of_block (w := w) (h.block a.block ha hp hq)
theorem Held.frozen {B p q : Nat} {w w' : World} (h : Held B p q w w') {a : Addr} (ha : a.block < B) (hp : a.block ≠ p) (hq : a.block ≠ q) : w'.frozen? a = w.frozen? a := World.frozen?_of_block (w := w) (h.block a.block ha hp hq)
theorem Held.cell' {p q : Nat} {w w' : World} (h : Held w.heap.size p q w w') {a : Addr} {v : Value} (hc : w.cell? a = some v) (hp : a.block ≠ p) (hq : a.block ≠ q) : w'.cell? a = some v := by
  rw [h.cell (World.block_lt_of_cell? w _ hc) hp hq]; exact hc

theorem Rd.held {p q : Nat} {w w' : World} {ao : Option Addr} {l : List UInt8} (h : Rd w ao l) (hb : Held w.heap.size p q w w') (hn : 0 < l.length → ∀ a, ao = Option.some a → a.block ≠ p ∧ a.block ≠ q) : Rd w' ao l := by
  rcases h with h | ⟨b, off, h1, h2⟩
  · exact .inl h
  · rcases Nat.eq_zero_or_pos l.length with h0 | h0
    · exact .inl (List.length_eq_zero_iff.1 h0)
    · refine .inr ⟨b, off, h1, fun j hj => ?_⟩
      have h3 := hn h0 _ h1
      exact hb.cell' (h2 j hj) h3.1 h3.2

theorem OwnB.held {p q : Nat} {w w' : World} {base : Nat} {e : TypeId} {v : Value} {l : List UInt8} (h : OwnB w base e v l) (hb : Held w.heap.size p q w w') (hn : ∀ g, v.ownBlock = some g → g ≠ p ∧ g ≠ q) : OwnB w' base e v l := by
  obtain ⟨h1, h2⟩ := h
  refine ⟨h1, ?_⟩
  rcases h2 with h2 | ⟨g, cap, cur, hv, hg, hh, h3⟩
  · exact .inl h2
  · refine .inr ⟨g, cap, cur, hv, hg, ?_, h3⟩
    have h4 := hn g (by rw [hv]; rfl)
    have hlt : g < w.heap.size := by
      rcases Nat.lt_or_ge g w.heap.size with q | q
      · exact q
      · rw [Array.getElem?_eq_none q] at hh; cases hh
    rw [hb.block g hlt h4.1 h4.2]; exact hh

theorem OwnB.grow {w w' : World} {base : Nat} {e : TypeId} {v : Value} {l : List UInt8} {row : Option Nat} (h : OwnB w base e v l) (hg : w.grownBy w' row) (hr : v.ownBlock = none ∨ v.ownBlock ≠ row) : OwnB w' base e v l := World.ownsRow.kept h hg hr

theorem cset {w : World} {p : Addr} {u v : Value} (h : w.cell? p = some u) : (w.setCell p v).cell? p = some v := World.cell?_setCell_same' w p v (by rw [h]; rfl)
theorem cset_ne {w : World} {p q : Addr} {v : Value} (h : p ≠ q) : (w.setCell p v).cell? q = w.cell? q := by
  first | exact World.cell?_setCell_other w p q v h | exact World.cell?_setCell_other _ _ _ h | exact World.cell?_setCell_other (h := h) ..

/-- where a cursor stands behind one byte -/
def nx (b : List UInt8) (i : Nat) : Nat := if i < b.length then i + 1 else i
theorem nx_in {b : List UInt8} {i : Nat} (h : i < b.length) : nx b i = i + 1 := by simp [nx, h]
theorem nx_out {b : List UInt8} {i : Nat} (h : b.length ≤ i) : nx b i = i := by simp [nx]; omega
theorem nx_le {b : List UInt8} {i : Nat} (h : i ≤ b.length) : nx b i ≤ b.length := by unfold nx; split <;> omega

theorem CurAt.set {w : World} {cp : Nat} {ao : Option Addr} {cap : Nat} {b : List UInt8} {i j : Nat} (h : CurAt w cp ao cap b i) (hj : j ≤ b.length) : CurAt (w.setCell ⟨cp, 1, none⟩ (.int .i64 j)) cp ao cap b j := by
  refine ⟨?_, ?_, ?_, ?_, h.le, h.mx, h.ni, hj, h.sm, h.ne⟩
  · rw [cset_ne (by simp)]; exact h.c0
  · exact cset h.c1
  · rw [World.frozen?_setCell]; exact h.f1
  · exact h.rd.held (p := cp) (q := cp) (Held.set w ⟨cp, 1, none⟩ _ (.inl rfl)) (fun h0 a ha => ⟨h.ne h0 a ha, h.ne h0 a ha⟩)

theorem CurAt.held {p q : Nat} {w w' : World} {cp : Nat} {ao : Option Addr} {cap : Nat} {b : List UInt8} {i : Nat} (h : CurAt w cp ao cap b i) (hb : Held w.heap.size p q w w') (hp : cp ≠ p) (hq : cp ≠ q) (hn : 0 < b.length → ∀ a, ao = some a → a.block ≠ p ∧ a.block ≠ q) : CurAt w' cp ao cap b i := by
  have hc := World.block_lt_of_cell? _ _ h.c0
  exact ⟨hb.cell' h.c0 hp hq, hb.cell' h.c1 hp hq, by rw [hb.frozen (a := ⟨cp, 1, none⟩) hc hp hq]; exact h.f1, h.rd.held hb hn, h.le, h.mx, h.ni, h.at_, h.sm, h.ne⟩

/-- block lp is a lexer over the cursor cp; its bound m, what it has read v -/
structure LexAt (w : World) (lp cp : Nat) (ao : Option Addr) (cap : Nat) (b : List UInt8) (i : Nat) (m v : Value) : Prop where
  cur : CurAt w cp ao cap b i
  p0 : w.cell? ⟨lp, 0, none⟩ = some (.pointer (some ⟨cp, 0, none⟩))
  p1 : w.cell? ⟨lp, 1, none⟩ = some m
  p2 : w.cell? ⟨lp, 2, none⟩ = some v
  f1 : w.frozen? ⟨lp, 1, none⟩ = false
  f2 : w.frozen? ⟨lp, 2, none⟩ = false
  ne : lp ≠ cp
  na : 0 < b.length → ∀ a, ao = some a → a.block ≠ lp

theorem LexAt.cur' {w w' : World} {lp cp : Nat} {ao : Option Addr} {cap : Nat} {b : List UInt8} {i j : Nat} {m v : Value} (h : LexAt w lp cp ao cap b i m v) (hc : CurAt w' cp ao cap b j) (hb : Held w.heap.size cp cp w w') : LexAt w' lp cp ao cap b j m v := by
  have hl := World.block_lt_of_cell? _ _ h.p0
  exact ⟨hc, hb.cell' h.p0 h.ne h.ne, hb.cell' h.p1 h.ne h.ne, hb.cell' h.p2 h.ne h.ne, by rw [hb.frozen (a := ⟨lp, 1, none⟩) hl h.ne h.ne]; exact h.f1, by rw [hb.frozen (a := ⟨lp, 2, none⟩) hl h.ne h.ne]; exact h.f2, h.ne, h.na⟩

theorem LexAt.held {p q : Nat} {w w' : World} {lp cp : Nat} {ao : Option Addr} {cap : Nat} {b : List UInt8} {i : Nat} {m v : Value} (h : LexAt w lp cp ao cap b i m v) (hb : Held w.heap.size p q w w')
    (h1 : lp ≠ p ∧ lp ≠ q) (h2 : cp ≠ p ∧ cp ≠ q) (hn : 0 < b.length → ∀ a, ao = some a → a.block ≠ p ∧ a.block ≠ q) : LexAt w' lp cp ao cap b i m v := by
  have hl := World.block_lt_of_cell? _ _ h.p0
  exact ⟨h.cur.held hb h2.1 h2.2 hn, hb.cell' h.p0 h1.1 h1.2, hb.cell' h.p1 h1.1 h1.2, hb.cell' h.p2 h1.1 h1.2, by rw [hb.frozen (a := ⟨lp, 1, none⟩) hl h1.1 h1.2]; exact h.f1, by rw [hb.frozen (a := ⟨lp, 2, none⟩) hl h1.1 h1.2]; exact h.f2, h.ne, h.na⟩

theorem LexAt.same {w w' : World} {lp cp : Nat} {ao : Option Addr} {cap : Nat} {b : List UInt8} {i : Nat} {m v : Value} (h : LexAt w lp cp ao cap b i m v) (hb : Below w.heap.size w w') : LexAt w' lp cp ao cap b i m v := by
  have hl := World.block_lt_of_cell? _ _ h.p0
  exact ⟨h.cur.same hb, cell_up' hb h.p0, cell_up' hb h.p1, cell_up' hb h.p2, by rw [hb.frozen (p := ⟨lp, 1, none⟩) hl]; exact h.f1, by rw [hb.frozen (p := ⟨lp, 2, none⟩) hl]; exact h.f2, h.ne, h.na⟩

theorem LexAt.set1 {w : World} {lp cp : Nat} {ao : Option Addr} {cap : Nat} {b : List UInt8} {i : Nat} {m v m' : Value} (h : LexAt w lp cp ao cap b i m v) : LexAt (w.setCell ⟨lp, 1, none⟩ m') lp cp ao cap b i m' v := by
  refine ⟨h.cur.held (p := lp) (q := lp) (Held.set w ⟨lp, 1, none⟩ _ (.inl rfl)) h.ne.symm h.ne.symm (fun h0 a ha => ⟨h.na h0 a ha, h.na h0 a ha⟩), ?_, ?_, ?_, ?_, ?_, h.ne, h.na⟩
  · rw [cset_ne (by simp)]; exact h.p0
  · exact cset h.p1
  · rw [cset_ne (by simp)]; exact h.p2
  · rw [World.frozen?_setCell]; exact h.f1
  · rw [World.frozen?_setCell]; exact h.f2

theorem LexAt.set2 {w : World} {lp cp : Nat} {ao : Option Addr} {cap : Nat} {b : List UInt8} {i : Nat} {m v v' : Value} (h : LexAt w lp cp ao cap b i m v) : LexAt (w.setCell ⟨lp, 2, none⟩ v') lp cp ao cap b i m v' := by
  refine ⟨h.cur.held (p := lp) (q := lp) (Held.set w ⟨lp, 2, none⟩ _ (.inl rfl)) h.ne.symm h.ne.symm (fun h0 a ha => ⟨h.na h0 a ha, h.na h0 a ha⟩), ?_, ?_, ?_, ?_, ?_, h.ne, h.na⟩
  · rw [cset_ne (by simp)]; exact h.p0
  · rw [cset_ne (by simp)]; exact h.p1
  · exact cset h.p2
  · rw [World.frozen?_setCell]; exact h.f1
  · rw [World.frozen?_setCell]; exact h.f2
end Go.Proofs.YtjkoiknjffldjaaGreatDoor

/-
  A cursor's methods that move it; the makers. Conditions: the cursor stands in its bytes; sizes.
-/
namespace Go.Proofs.YtjkoiknjffldjaaGreatDoor
open Go.RowKit
set_option linter.unusedVariables false

theorem seek_any (cp : Nat) (ao : Option Addr) (cap : Nat) (b : List UInt8) (i k : Nat) (w : World) (h : CurAt w cp ao cap b i) (hk : k ≤ b.length) :
    Calls Tryz.prog 42 #[.pointer (some ⟨cp, 0, none⟩), .int .i64 k] w fun e w' => e = .returned (.bool true) ∧ CurAt w' cp ao cap b k ∧ Held w.heap.size cp cp w w' := by
  have h0 := h.c0
  have h1 := h.c1
  have h2 := h.f1
  have hs := h.sm
  have t2 : decide (b.length < k) = false := decide_eq_false (by omega)
  go_enter Tryz.func42, Tryz.ntmps42
  go_wp2
  go_ret
  exact ⟨rfl, h.set hk, Held.set w _ _ (.inl rfl)⟩

theorem next_any (cp : Nat) (ao : Option Addr) (cap : Nat) (b : List UInt8) (i : Nat) (w : World) (h : CurAt w cp ao cap b i) :
    Calls Tryz.prog 79 #[.pointer (some ⟨cp, 0, none⟩)] w fun e w' => e = .returned (.int .i64 (pk b i)) ∧ CurAt w' cp ao cap b (nx b i) ∧ Held w.heap.size cp cp w w' := by
  have hs := h.sm
  have ha := h.at_
  by_cases hlt : i < b.length
  · have hp : pk b i = b8 b i := pk_in hlt
    have x0 := b8_ge b i
    have x1 := b8_le b i
    have t1 : decide (0 ≤ b8 b i) = true := decide_eq_true x0
    rw [hp, nx_in hlt]
    have P := hid hp
    clear hp
    go_enter Tryz.func79, Tryz.ntmps79
    go_wp2_with (first
      | (go_at_call 77; refine (peek_any cp ao cap b i 0 _ h (by decide) (by decide)).mono ?_; rintro e w1 ⟨rfl, n, rfl⟩; rw [Int.add_zero, P.out]; have c1 := (h.same (below_drewN (Below.refl _ _) n)).c1; have f1 := (h.same (below_drewN (Below.refl _ _) n)).f1))
    go_ret
    exact ⟨rfl, (h.same (below_drewN (Below.refl _ _) n)).set (j := i + 1) hlt, (Held.drewN w n).trans (Held.set _ _ _ (.inl rfl))⟩
  · have hp : pk b i = -1 := pk_out (by omega)
    rw [hp, nx_out (by omega)]
    have P := hid hp
    clear hp
    go_enter Tryz.func79, Tryz.ntmps79
    go_wp2_with (first
      | (go_at_call 77; refine (peek_any cp ao cap b i 0 _ h (by decide) (by decide)).mono ?_; rintro e w1 ⟨rfl, n, rfl⟩; rw [Int.add_zero, P.out]))
    go_ret
    exact ⟨rfl, h.same (below_drewN (Below.refl _ _) n), Held.drewN w n⟩

theorem bytesTy : BytesTy Tryz.prog 24 5 := ⟨Tryz.underlying24, by kernel_rfl⟩

/-- v[lo:hi] of a slice that reads as l: a slice that reads as that part -/
theorem sl_part {P : Program} {t e : TypeId} (T : BytesTy P t e) {w : World} {ao : Option Addr} {cap : Nat} {l : List UInt8} (h : Rd w ao l) (hle : l.length ≤ cap) (hmx : cap ≤ maxLen) (hni : ao = none → cap = 0) (lo hi : Nat) (h1 : lo ≤ hi) (h2 : hi ≤ l.length) :
    ∃ v, Sl w v ((l.drop lo).take (hi - lo)) ∧ ∀ w', (Instr.slice t (.slice ao l.length cap) (some (.int .i64 lo)) (some (.int .i64 hi)) none).run P w' = .ok v w' := by
  have hT : P.underlying t = some (.slice (P.elem t)) := by rw [T.elemOf]; exact T.under
  have hlen : ((l.drop lo).take (hi - lo)).length = hi - lo := by simp; omega
  refine ⟨sliced ao lo hi cap 1, ⟨if cap = lo then ao else ao.map (·.add (lo * 1)), cap - lo, ?_, ?_, ?_, ?_, ?_⟩, fun w' => ?_⟩
  · simp only [sliced]; rw [hlen]
  · rw [hlen]; omega
  · omega
  · intro hc
    by_cases he : cap = lo
    · omega
    · rw [if_neg he] at hc
      have : ao = none := by cases ao <;> simp_all
      have := hni this; omega
  · by_cases he : cap = lo
    · have : hi - lo = 0 := by omega
      exact .inl (by rw [this]; simp)
    · rw [if_neg he, Nat.mul_one]
      exact (h.drop _).take _
  · rw [run_slice_lh w' t ao l.length cap hT .i64 .i64 lo hi (by omega) (by omega) (by omega), T.sizeRun w']
    simp [Result.andThen]

/-- string(v) of a slice that reads as l -/
theorem sl_string {P : Program} (w : World) (src dst e : TypeId) (hs : P.underlying src = some (.slice e)) (he : P.underlying e = some (.int .u8)) (hd : P.underlying dst = some .string) (v : Value) (l : List UInt8) (h : Sl w v l) :
    (convert src dst v).run P w = .ok (.string ⟨l.toArray⟩) w := by
  obtain ⟨ao, cap, rfl, c1, c2, c3, c4⟩ := h
  by_cases hl : l.length = 0
  · have : l = [] := List.length_eq_zero_iff.1 hl
    subst this
    exact run_convert_bytes_zero w src e hs he ao cap dst hd
  · obtain ⟨b, off, rfl, _, hc⟩ := c4.some (by omega)
    rw [run_convert_bytes_arg w src e hs he b off l.length cap (l.map fun x => (x.toNat : Int)) (by simp) (fun i hi => by rw [hc i hi]; simp [List.getD, hi, b8]) dst hd]
    unfold strOfNums
    rw [List.map_map]
    congr 4
    conv => rhs; rw [← List.map_id l]
    apply List.map_congr_left
    intro x _
    simp
end Go.Proofs.YtjkoiknjffldjaaGreatDoor

/-
  Take and bytes.Clone: the next bytes, in new memory; the makers. Conditions: the cursor stands in its bytes; sizes.
-/
namespace Go.Proofs.YtjkoiknjffldjaaGreatDoor
open Go.RowKit
set_option linter.unusedVariables false

theorem Sl.isNone {w : World} {ao : Option Addr} {n c : Nat} {l : List UInt8} (h : Sl w (.slice ao n c) l) (ha : ao = none) : l = [] := by
  obtain ⟨_, _, q1, q2, _, q4, _⟩ := h
  injection q1 with e1 e2 e3
  have := q4 (by rw [← e1]; exact ha)
  exact List.length_eq_zero_iff.1 (by omega)

theorem OwnB.lit0 (w : World) (e : TypeId) (base : Nat) (hb : base ≤ w.heap.size) : OwnB (w.alloc (.cells #[] e)) base e (.slice (some ⟨w.heap.size, 0, none⟩) 0 0) [] := by
  have := World.ownsRow_lit (base := base) (e := e) (size := 1) w #[] 0 hb (by unfold maxLen; omega) (by simp)
  exact this

theorem clone_any (v : Value) (l : List UInt8) (w : World) (h : Sl w v l) (hl : l.length ≤ 4000000) :
    Calls Tryz.prog 110 #[v] w fun e w' => ∃ v', e = .returned v' ∧ OwnB w' w.heap.size 5 v' l ∧ Below w.heap.size w w' := by
  obtain ⟨ao, cap, rfl, c1, c2, c3, c4⟩ := id h
  have qT : ∀ (w : World) (a : Option Addr) (n c n' c' : Nat), (binOp .eql 24 (.slice a n c) (.slice none n' c')).run Tryz.prog w = .ok (.bool a.isNone) w := fun w a n c n' c' => Lib.run_eql_slice_nil w _ _ a n c n' c' Tryz.underlying24
  cases ao with
  | none =>
    have hn := h.isNone rfl
    subst hn
    go_enter Tryz.func110, Tryz.ntmps110
    go_wp2
    go_ret
    exact ⟨_, rfl, OwnB.nil _ _ _, Below.refl _ _⟩
  | some a =>
    go_enter Tryz.func110, Tryz.ntmps110
    go_wp2_with (at_builtin; refine wpList_append_bytes (t := 24) (e := 5) bytesTy rfl _ _ rfl w.heap.size _ [] l rfl (OwnB.lit0 w _ _ (Nat.le_refl _)) (some a) l.length cap rfl rfl c3 (c4.up (Below.alloc (Below.refl _ _) (Nat.le_refl _) _)) (by simp; omega) (by simp) ?_; intro v1 w1 q1 q2 q3)
    go_ret
    rw [List.nil_append] at q1
    exact ⟨_, rfl, q1, ((Below.alloc (Below.refl _ _) (Nat.le_refl _) _).grown q2 (by simp) (fun k hk => by have h8 : some w.heap.size = some k := hk; injection h8 with h8; omega))⟩

theorem take_any (cp : Nat) (ao : Option Addr) (cap : Nat) (b : List UInt8) (i n : Nat) (w : World) (h : CurAt w cp ao cap b i) (hn : i + n ≤ b.length) :
    Calls Tryz.prog 90 #[.pointer (some ⟨cp, 0, none⟩), .int .i64 n] w fun e w' => ∃ v, e = .returned (.tuple #[v, .bool true]) ∧ OwnB w' w.heap.size 5 v ((b.drop i).take n) ∧ CurAt w' cp ao cap b (i + n) ∧ Held w.heap.size cp cp w w' := by
  have h0 := h.c0
  have h1 := h.c1
  have h2 := h.f1
  have hs := h.sm
  have ha := h.at_
  have H := h
  obtain ⟨u, hu, hrun⟩ := sl_part bytesTy (t := 24) h.rd h.le h.mx h.ni i (i + n) (by omega) (by omega)
  rw [Nat.add_sub_cancel_left] at hu
  have hrun : ∀ w', (Instr.slice 24 (.slice ao b.length cap) (some (.int .i64 (i : Int))) (some (.int .i64 ((i : Int) + (n : Int)))) none).run Tryz.prog w' = .ok u w' := fun w' => by simpa only [Int.natCast_add] using hrun w'
  have t1 : decide ((b.length : Int) - (i : Int) < (n : Int)) = false := decide_eq_false (by omega)
  have t2 : decide ((n : Int) < 0) = false := decide_eq_false (by omega)
  have hl : ((b.drop i).take n).length ≤ 4000000 := by simp; omega
  have hle := hid (show i + n ≤ b.length from hn)
  have E1 : ∀ w', CurAt w' cp ao cap b i → CurAt (w'.setCell ⟨cp, 1, none⟩ (.int .i64 ((i : Int) + (n : Int)))) cp ao cap b (i + n) := fun w' h' => by
    have := h'.set hn
    rwa [Int.natCast_add] at this
  have hd1 : IntKind.i64.wrap ((i : Int) + (n : Int)) = (i : Int) + (n : Int) := IntWalk.i64_in _ (by omega)
  clear hn h
  go_enter Tryz.func90, Tryz.ntmps90
  go_wp2_with (first
    | (go_at_call 89; refine (left_any cp ao cap b i _ H).mono ?_; rintro e w' ⟨rfl, rfl⟩))
  go_region_held3 (fun w' => w'.cell? ⟨cp, 0, none⟩ = some (.slice ao b.length cap) ∧ w'.cell? ⟨cp, 1, none⟩ = some (.int .i64 i))
    (first | go_keep | skip)
    (first
      | (go_at_call 110; refine (clone_any u _ _ (hu.up (below_drewN (Below.refl _ _) _)) hl).mono ?_; rintro e w1 ⟨v, rfl, hv, hb⟩; have HC := (H.same (below_drewN (Below.refl _ _) _)).same hb; have k0 := HC.c0; have k1 := HC.c1; have k2 := HC.f1))
  go_wp2
  have hcp : cp < w.heap.size := World.block_lt_of_cell? _ _ H.c0
  have hv2 : OwnB w1 w.heap.size 5 v ((b.drop i).take n) := hv
  have hb2 : Below w.heap.size w w1 := below_then (below_drewN (Below.refl _ _) 1) hb
  have hne : ∀ g, v.ownBlock = some g → g ≠ cp ∧ g ≠ cp := fun g hg => by
    have := (World.ownsRow.lt hv2 g hg).1
    exact ⟨by omega, by omega⟩
  have hfin := E1 _ HC
  go_ret2
  exact ⟨v, rfl, hv2.held (p := cp) (q := cp) (Held.set _ _ _ (.inl rfl)) hne, hfin, (Held.of_below hb2).trans (Held.set _ _ _ (.inl rfl))⟩

theorem cursor_new (v : Value) (b : List UInt8) (w : World) (h : Sl w v b) (hl : b.length ≤ 4000000) :
    Calls Tryz.prog 76 #[v] w fun e w' => e = .returned (.pointer (some ⟨w.heap.size, 0, none⟩)) ∧ (∃ ao cap, CurAt w' w.heap.size ao cap b 0) ∧ Below w.heap.size w w' ∧ w'.heap.size = w.heap.size + 1 := by
  obtain ⟨ao, cap, rfl, c1, c2, c3, c4⟩ := id h
  go_enter Tryz.func76, Tryz.ntmps76
  go_wp2_with (refine wpList_slice_tight (t := 24) (e := 5) bytesTy rfl _ _ _ rfl _ b rfl h .i64 .i64 b.length rfl rfl (by omega) (by omega) ?_; rintro _ ⟨ao2, cap2, rfl, d2, d3, d1', d4⟩)
  have e0 : b.take ((b.length : Int)).toNat = b := by rw [Int.toNat_natCast]; exact List.take_length
  rw [e0] at d4
  have d2' : b.length ≤ cap2 := by rw [e0] at d2; exact d2
  have bl : Below w.heap.size w (w.alloc (Obj.cells #[Value.slice ao2 b.length cap2, Value.int IntKind.i64 0] 114)) := Below.alloc (Below.refl _ _) (Nat.le_refl _) _
  go_ret
  refine ⟨rfl, ⟨ao2, cap2, ⟨?_, ?_, ?_, d4.up bl, d2', d3, d1', Nat.zero_le _, hl, ?_⟩⟩, bl, by simp⟩
  · rw [World.cell?_alloc_at _ _ _ _ rfl]; rfl
  · rw [World.cell?_alloc_at _ _ _ _ rfl]; rfl
  · exact World.frozen?_alloc_at _ _ _ _ rfl
  · intro h0 a ha
    obtain ⟨bb, off, h1, h2, _⟩ := d4.some h0
    rw [h1] at ha; injection ha with ha; subst ha
    show bb ≠ w.heap.size
    omega

theorem lex_new (v : Value) (b : List UInt8) (w : World) (h : Sl w v b) (hl : b.length ≤ 4000000) :
    Calls Tryz.prog 59 #[v] w fun e w' => e = .returned (.pointer (some ⟨w.heap.size + 1, 0, none⟩)) ∧ (∃ ao cap, LexAt w' (w.heap.size + 1) w.heap.size ao cap b 0 (.int .i64 0) (.slice none 0 0)) ∧ Below w.heap.size w w' := by
  go_enter Tryz.func59, Tryz.ntmps59
  go_wp2_with (go_at_call 76; refine (cursor_new v b w h hl).mono ?_; rintro e w1 ⟨rfl, ⟨ao, cap, hc⟩, hb, hsz⟩)
  have al : Below w1.heap.size w1 (w1.alloc (Obj.cells #[Value.pointer (some ⟨w.heap.size, 0, none⟩), Value.int IntKind.i64 0, Value.slice none 0 0] 83)) := Below.alloc (Below.refl _ _) (Nat.le_refl _) _
  go_ret
  refine ⟨rfl, ⟨ao, cap, ⟨hc.same al, ?_, ?_, ?_, ?_, ?_, by omega, ?_⟩⟩, below_then hb al⟩
  · rw [World.cell?_alloc_at _ _ _ _ hsz.symm]; rfl
  · rw [World.cell?_alloc_at _ _ _ _ hsz.symm]; rfl
  · rw [World.cell?_alloc_at _ _ _ _ hsz.symm]; rfl
  · exact World.frozen?_alloc_at _ _ _ _ hsz.symm
  · exact World.frozen?_alloc_at _ _ _ _ hsz.symm
  · intro h0 a ha
    obtain ⟨bb, off, h1, h2, _⟩ := hc.rd.some h0
    rw [h1] at ha; injection ha with ha; subst ha
    show bb ≠ w.heap.size + 1
    omega

theorem made_any (lp cp : Nat) (w : World) (h : w.cell? ⟨lp, 0, none⟩ = some (.pointer (some ⟨cp, 0, none⟩))) :
    Calls Tryz.prog 60 #[.pointer (some ⟨lp, 0, none⟩)] w fun e w' => e = .returned (.bool true) ∧ w = w' := by
  go_enter Tryz.func60, Tryz.ntmps60
  go_wp2
  go_ret
  exact ⟨rfl, rfl⟩
end Go.Proofs.YtjkoiknjffldjaaGreatDoor

/-
  Match: a text that stands at the cursor is passed. Conditions: the cursor stands in its bytes; sizes.
-/
namespace Go.Proofs.YtjkoiknjffldjaaGreatDoor
open Go.RowKit
set_option linter.unusedVariables false

/-- s stands at the beginning of l -/
def pfx (s l : List UInt8) : Bool := l.take s.length == s

theorem pfx_long {s l : List UInt8} (h : l.length < s.length) : pfx s l = false := by
  unfold pfx
  rw [beq_eq_false_iff_ne]
  intro q
  have := congrArg List.length q
  simp at this; omega

theorem str_eq (l : List UInt8) (s : ByteArray) : ((⟨l.toArray⟩ : ByteArray).toList == s.toList) = (l == s.data.toList) := by
  rw [ByteArray.toList_eq, ByteArray.toList_eq]

set_option maxHeartbeats 1600000 in
theorem match_any (cp : Nat) (ao : Option Addr) (cap : Nat) (b : List UInt8) (i : Nat) (s : ByteArray) (w : World) (h : CurAt w cp ao cap b i) (hss : s.size ≤ 4000000) :
    Calls Tryz.prog 80 #[.pointer (some ⟨cp, 0, none⟩), .string s] w fun e w' => e = .returned (.bool (pfx s.data.toList (b.drop i))) ∧ CurAt w' cp ao cap b (if pfx s.data.toList (b.drop i) then i + s.size else i) ∧ Held w.heap.size cp cp w w' := by
  have h0 := h.c0
  have h1 := h.c1
  have h2 := h.f1
  have hs := h.sm
  have ha := h.at_
  have hz : s.data.toList.length = s.size := by show s.data.toList.length = s.data.size; simp
  have H := h
  by_cases hlt : b.length < i + s.size
  · have hp : pfx s.data.toList (b.drop i) = false := pfx_long (by rw [hz]; simp; omega)
    simp only [hp, Bool.false_eq_true, if_false]
    have t1 : decide ((b.length : Int) - (i : Int) < (s.size : Int)) = true := decide_eq_true (by omega)
    clear hp h
    go_enter Tryz.func80, Tryz.ntmps80
    go_wp2
    go_quiet ((first | (go_at_call_of 89 (Value.pointer (some ⟨cp, 0, none⟩)); exact Calls.quiet_of_same ((left_any cp ao cap b i _ (H.same (below_drewN (Below.refl _ _) _))).mono fun e w' ⟨h1, h2⟩ => ⟨h1, h2.symm⟩))))
    go_wp2
    go_ret
    exact ⟨rfl, H.same (below_drewN (Below.refl _ _) _), Held.drewN w _⟩
  · obtain ⟨u, hu, hrun⟩ := sl_part bytesTy (t := 24) h.rd h.le h.mx h.ni i (i + s.size) (by omega) (by omega)
    have hrun : ∀ w', (Instr.slice 24 (.slice ao b.length cap) (some (.int .i64 (i : Int))) (some (.int .i64 ((i : Int) + (s.size : Int)))) none).run Tryz.prog w' = .ok u w' := fun w' => by simpa only [Int.natCast_add] using hrun w'
    have hconv : ∀ n, (convert 24 9 u).run Tryz.prog (w.drewN n) = .ok (.string ⟨((b.drop i).take (i + s.size - i)).toArray⟩) (w.drewN n) := fun n =>
      sl_string (w.drewN n) 24 9 5 Tryz.underlying24 (by kernel_rfl) (by kernel_rfl) u _ (hu.up (below_drewN (Below.refl _ _) n))
    have t1 : decide ((b.length : Int) - (i : Int) < (s.size : Int)) = false := decide_eq_false (by omega)
    have q : ((⟨((b.drop i).take (i + s.size - i)).toArray⟩ : ByteArray).toList == s.toList) = pfx s.data.toList (b.drop i) := by
      rw [str_eq, Nat.add_sub_cancel_left]; unfold pfx; rw [hz]
    generalize hS : (⟨((b.drop i).take (i + s.size - i)).toArray⟩ : ByteArray) = S at hconv q
    cases hp : pfx s.data.toList (b.drop i) with
    | false =>
      rw [hp] at q
      simp only [Bool.false_eq_true, if_false]
      clear hp h
      go_enter Tryz.func80, Tryz.ntmps80
      go_wp2
      go_quiet ((first | (go_at_call_of 89 (Value.pointer (some ⟨cp, 0, none⟩)); exact Calls.quiet_of_same ((left_any cp ao cap b i _ (H.same (below_drewN (Below.refl _ _) _))).mono fun e w' ⟨h1, h2⟩ => ⟨h1, h2.symm⟩))))
      go_wp2
      go_ret
      exact ⟨rfl, H.same (below_drewN (Below.refl _ _) _), Held.drewN w _⟩
    | true =>
      rw [hp] at q
      have hlen : i + s.size ≤ b.length := by omega
      have hsum : ((i + s.size : Nat) : Int) = (i : Int) + (s.size : Int) := rfl
      simp only [if_true]
      have P := hid hsum
      clear hp h hsum
      have hk : ∀ n, (w.drewN n).cell? ⟨cp, 1, none⟩ = some (.int .i64 i) := fun n => (H.same (below_drewN (Below.refl _ _) n)).c1
      have hf : ∀ n, (w.drewN n).frozen? ⟨cp, 1, none⟩ = false := fun n => (H.same (below_drewN (Below.refl _ _) n)).f1
      have E1 : ∀ n, CurAt ((w.drewN n).setCell ⟨cp, 1, none⟩ (.int .i64 ((i : Int) + (s.size : Int)))) cp ao cap b (i + s.size) := fun n => by
        have := (H.same (below_drewN (Below.refl _ _) n)).set hlen
        rwa [P.out] at this
      go_enter Tryz.func80, Tryz.ntmps80
      go_wp2
      go_quiet ((first | (go_at_call_of 89 (Value.pointer (some ⟨cp, 0, none⟩)); exact Calls.quiet_of_same ((left_any cp ao cap b i _ (H.same (below_drewN (Below.refl _ _) _))).mono fun e w' ⟨h1, h2⟩ => ⟨h1, h2.symm⟩))))
      go_wp2
      go_ret
      exact ⟨rfl, E1 _, (Held.drewN w _).trans (Held.set _ _ _ (.inl rfl))⟩
end Go.Proofs.YtjkoiknjffldjaaGreatDoor

/-
  Signs: white ones, digits, regular ones; the program's and the document's. No condition.
-/
namespace Go.Proofs.YtjkoiknjffldjaaGreatDoor
open Go.RowKit
set_option linter.unusedVariables false

/-- white signs -/
def wh (c : Int) : Bool := c == 0 || c == 9 || c == 10 || c == 12 || c == 13 || c == 32
/-- a digit's number -/
def dig (c : Int) : Int := if 48 ≤ c ∧ c ≤ 57 then c - 48 else if 97 ≤ c ∧ c ≤ 102 then c - 87 else if 65 ≤ c ∧ c ≤ 70 then c - 55 else -1
/-- delimiters -/
def dl (c : Int) : Bool := c == 40 || c == 41 || c == 60 || c == 62 || c == 91 || c == 93 || c == 123 || c == 125 || c == 47 || c == 37
/-- regular signs -/
def rg (c : Int) : Bool := decide (0 ≤ c) && decide (c ≤ 255) && !wh c && !dl c

theorem wh_cases (c : Int) : c = 0 ∨ c = 9 ∨ c = 10 ∨ c = 12 ∨ c = 13 ∨ c = 32 ∨ ((c == 0) = false ∧ (c == 9) = false ∧ (c == 10) = false ∧ (c == 12) = false ∧ (c == 13) = false ∧ (c == 32) = false) := by
  simp only [beq_eq_false_iff_ne]; omega

theorem white_any (c : Int) (w : World) : Calls Tryz.prog 78 #[.int .i64 c] w fun e w' => e = .returned (.bool (wh c)) ∧ w = w' := by
  rcases wh_cases c with rfl | rfl | rfl | rfl | rfl | rfl | ⟨h1, h2, h3, h4, h5, h6⟩
  all_goals
    go_enter Tryz.func78, Tryz.ntmps78
    go_wp2
    go_ret
    first | exact ⟨rfl, rfl⟩ | exact ⟨ret_bool (by simp [wh, h1, h2, h3, h4, h5, h6]), rfl⟩

theorem rwhite_any (c : Int) (w : World) : Calls Tryz.prog 8 #[.int .i64 c] w fun e w' => e = .returned (.bool (wh c)) ∧ w = w' := by
  rcases wh_cases c with rfl | rfl | rfl | rfl | rfl | rfl | ⟨h1, h2, h3, h4, h5, h6⟩
  all_goals
    go_enter Tryz.func8, Tryz.ntmps8
    go_wp2
    go_ret
    first | exact ⟨rfl, rfl⟩ | exact ⟨ret_bool (by simp [wh, h1, h2, h3, h4, h5, h6]), rfl⟩

theorem digit_any (c : Int) (w : World) : Calls Tryz.prog 102 #[.int .i64 c] w fun e w' => e = .returned (.int .i64 (dig c)) ∧ w = w' := by
  rcases (by omega : c < 48 ∨ (48 ≤ c ∧ c ≤ 57) ∨ (57 < c ∧ c < 65) ∨ (65 ≤ c ∧ c ≤ 70) ∨ (70 < c ∧ c < 97) ∨ (97 ≤ c ∧ c ≤ 102) ∨ 102 < c) with h | h | h | h | h | h | h
  all_goals
    have e1 : dig c = dig c := rfl
    conv at e1 => rhs; unfold dig
    first
      | rw [if_pos (by omega)] at e1
      | rw [if_neg (by omega), if_pos (by omega)] at e1
      | rw [if_neg (by omega), if_neg (by omega), if_pos (by omega)] at e1
      | rw [if_neg (by omega), if_neg (by omega), if_neg (by omega)] at e1
    first | have f1 : decide (48 ≤ c) = true := decide_eq_true (by omega) | have f1 : decide (48 ≤ c) = false := decide_eq_false (by omega)
    first | have f2 : decide (c ≤ 57) = true := decide_eq_true (by omega) | have f2 : decide (c ≤ 57) = false := decide_eq_false (by omega)
    first | have f3 : decide (97 ≤ c) = true := decide_eq_true (by omega) | have f3 : decide (97 ≤ c) = false := decide_eq_false (by omega)
    first | have f4 : decide (c ≤ 102) = true := decide_eq_true (by omega) | have f4 : decide (c ≤ 102) = false := decide_eq_false (by omega)
    first | have f5 : decide (65 ≤ c) = true := decide_eq_true (by omega) | have f5 : decide (65 ≤ c) = false := decide_eq_false (by omega)
    first | have f6 : decide (c ≤ 70) = true := decide_eq_true (by omega) | have f6 : decide (c ≤ 70) = false := decide_eq_false (by omega)
    go_enter Tryz.func102, Tryz.ntmps102
    go_wp2
    go_ret
    exact ⟨ret_int (by omega), rfl⟩
set_option maxHeartbeats 1000000 in
set_option maxRecDepth 100000 in
theorem sindex_any (s : ByteArray) (c : Int) (w : World) :
    Calls Tryz.prog 120 #[.string s, .int .u8 c] w fun e w' => e = .returned (.int .i64 (Lib.indexByte s.data.toList c.toNat.toUInt8)) ∧ w = w' := by
  go_enter Tryz.func120, Tryz.ntmps120
  go_wp2
  rw [run_callFunc_extern Tryz.func126 (by kernel_rfl) (by kernel_rfl) (by kernel_rfl) (e := Extern.BytealgIndexByte.indexByte) (by kernel_rfl), Lib.run_indexByteString]
  simp only [Result.andThen]
  rw [Oper.upon_value]
  go_wp2
  go_ret
  exact ⟨rfl, rfl⟩

set_option maxHeartbeats 1000000 in
theorem index_any (s : ByteArray) (c : Int) (w : World) :
    Calls Tryz.prog 107 #[.string s, .int .u8 c] w fun e w' => e = .returned (.int .i64 (Lib.indexByte s.data.toList c.toNat.toUInt8)) ∧ w = w' := by
  go_enter Tryz.func107, Tryz.ntmps107
  go_wp2_with (go_at_call 120; refine (sindex_any _ _ _).mono ?_; rintro e w' ⟨rfl, rfl⟩)
  go_ret
  exact ⟨rfl, rfl⟩

theorem dl_index : ∀ n : Fin 256, decide (Lib.indexByte [40, 41, 60, 62, 91, 93, 123, 125, 47, 37] ((n.1 : Int)).toNat.toUInt8 < 0) = !dl (n.1 : Int) := by decide +kernel

theorem dl_index' (c : Int) (h : 0 ≤ c) (h' : c ≤ 255) : decide (Lib.indexByte [40, 41, 60, 62, 91, 93, 123, 125, 47, 37] c.toNat.toUInt8 < 0) = !dl c := by
  obtain ⟨n, rfl⟩ := Int.eq_ofNat_of_zero_le h
  exact dl_index ⟨n, by omega⟩

theorem regular_any (c : Int) (w : World) : Calls Tryz.prog 86 #[.int .i64 c] w fun e w' => e = .returned (.bool (rg c)) ∧ ∃ n, w' = w.drewN n := by
  rcases (by omega : c < 0 ∨ 255 < c ∨ (0 ≤ c ∧ c ≤ 255)) with h | h | h
  · have f1 : decide (0 ≤ c) = false := decide_eq_false (by omega)
    go_enter Tryz.func86, Tryz.ntmps86
    go_wp2
    go_ret
    exact ⟨ret_bool (by simp [rg, f1]), 0, rfl⟩
  · have f1 : decide (0 ≤ c) = true := decide_eq_true (by omega)
    have f2 : decide (c ≤ 255) = false := decide_eq_false (by omega)
    go_enter Tryz.func86, Tryz.ntmps86
    go_wp2
    go_ret
    exact ⟨ret_bool (by simp [rg, f2]), 0, rfl⟩
  · have f1 : decide (0 ≤ c) = true := decide_eq_true (by omega)
    have f2 : decide (c ≤ 255) = true := decide_eq_true (by omega)
    have D := dl_index' c h.1 h.2
    have d1 : IntKind.u8.wrap c = c := by rw [wrap8]; omega
    cases hw : wh c with
    | true =>
      go_enter Tryz.func86, Tryz.ntmps86
      go_wp2_with (first
        | (go_at_call 78; refine (white_any _ _).mono ?_; rintro e w' ⟨rfl, rfl⟩; rw [hw]))
      go_ret
      exact ⟨ret_bool (by simp [rg, hw]), 0, rfl⟩
    | false =>
      go_enter Tryz.func86, Tryz.ntmps86
      go_wp2_with (first
        | (go_at_call 78; refine (white_any _ _).mono ?_; rintro e w' ⟨rfl, rfl⟩; rw [hw])
        | (go_at_call 107; refine (index_any _ _ _).mono ?_; rintro e w' ⟨rfl, rfl⟩))
      go_ret
      exact ⟨ret_bool (by simp [rg, f1, f2, hw]), 0, rfl⟩

theorem dl_cases (c : Int) : c = 40 ∨ c = 41 ∨ c = 60 ∨ c = 62 ∨ c = 91 ∨ c = 93 ∨ c = 123 ∨ c = 125 ∨ c = 47 ∨ c = 37 ∨ ((c == 40) = false ∧ (c == 41) = false ∧ (c == 60) = false ∧ (c == 62) = false ∧ (c == 91) = false ∧ (c == 93) = false ∧ (c == 123) = false ∧ (c == 125) = false ∧ (c == 47) = false ∧ (c == 37) = false) := by
  simp only [beq_eq_false_iff_ne]; omega

theorem rregular_any (c : Int) (w : World) : Calls Tryz.prog 58 #[.int .i64 c] w fun e w' => e = .returned (.bool (rg c)) ∧ ∃ n, w' = w.drewN n := by
  rcases (by omega : c < 0 ∨ 255 < c ∨ (0 ≤ c ∧ c ≤ 255)) with h | h | h
  · have f1 : decide (c < 0) = true := decide_eq_true (by omega)
    have g1 : decide (0 ≤ c) = false := decide_eq_false (by omega)
    go_enter Tryz.func58, Tryz.ntmps58
    go_wp2
    go_ret
    exact ⟨ret_bool (by simp [rg, g1]), 0, rfl⟩
  · have f1 : decide (c < 0) = false := decide_eq_false (by omega)
    have f2 : decide (255 < c) = true := decide_eq_true (by omega)
    have g2 : decide (c ≤ 255) = false := decide_eq_false (by omega)
    go_enter Tryz.func58, Tryz.ntmps58
    go_wp2
    go_ret
    exact ⟨ret_bool (by simp [rg, g2]), 0, rfl⟩
  · have f1 : decide (c < 0) = false := decide_eq_false (by omega)
    have f2 : decide (255 < c) = false := decide_eq_false (by omega)
    have g1 : decide (0 ≤ c) = true := decide_eq_true (by omega)
    have g2 : decide (c ≤ 255) = true := decide_eq_true (by omega)
    cases hw : wh c with
    | true =>
      go_enter Tryz.func58, Tryz.ntmps58
      go_wp2_with (first
        | (go_at_call 8; refine (rwhite_any _ _).mono ?_; rintro e w' ⟨rfl, rfl⟩; rw [hw]))
      go_ret
      exact ⟨ret_bool (by simp [rg, hw]), 0, rfl⟩
    | false =>
      rcases dl_cases c with q | q | q | q | q | q | q | q | q | q | ⟨q1, q2, q3, q4, q5, q6, q7, q8, q9, q10⟩
      all_goals
        try subst q
        go_enter Tryz.func58, Tryz.ntmps58
        go_wp2_with (first
          | (go_at_call 8; refine (rwhite_any _ _).mono ?_; rintro e w' ⟨rfl, rfl⟩; rw [hw]))
        go_ret
        first | exact ⟨rfl, 0, rfl⟩ | exact ⟨ret_bool (by simp [rg, g1, g2, hw, dl, q1, q2, q3, q4, q5, q6, q7, q8, q9, q10]), 0, rfl⟩
end Go.Proofs.YtjkoiknjffldjaaGreatDoor

/-
  The plain model of a lexer: over the bytes from its place on. No program here.
-/
namespace Go.Proofs.YtjkoiknjffldjaaGreatDoor
set_option linter.unusedVariables false

abbrev c8 (x : UInt8) : Int := (x.toNat : Int)

/-- how many bytes white signs and comments are; true: within a comment -/
def bl : List UInt8 → Bool → Nat
  | [], _ => 0
  | x :: s, false => if wh (c8 x) = true then 1 + bl s false else if c8 x = 37 then 1 + bl s true else 0
  | x :: s, true => if c8 x = 10 ∨ c8 x = 13 then 1 + bl s false else 1 + bl s true

theorem drop_at {b : List UInt8} {i : Nat} (h : i < b.length) : ∃ x, b.drop i = x :: b.drop (i + 1) ∧ c8 x = b8 b i := by
  refine ⟨b[i], (List.getElem_cons_drop h).symm, ?_⟩
  simp [b8, List.getD, h]
theorem drop_end {b : List UInt8} {i : Nat} (h : ¬ i < b.length) : b.drop i = [] := List.drop_eq_nil_of_le (by omega)

/-- where blanks end -/
def bt (b : List UInt8) (i : Nat) (q : Bool) : Nat := i + bl (b.drop i) q

theorem bt_white {b : List UInt8} {i : Nat} (h : i < b.length) (hw : wh (b8 b i) = true) : bt b i false = bt b (i + 1) false := by
  obtain ⟨x, h1, h2⟩ := drop_at h
  unfold bt; rw [h1, bl, if_pos (by rw [h2]; exact hw)]; omega
theorem bt_open {b : List UInt8} {i : Nat} (h : i < b.length) (hw : b8 b i = 37) : bt b i false = bt b (i + 1) true := by
  obtain ⟨x, h1, h2⟩ := drop_at h
  unfold bt; rw [h1, bl, if_neg (by rw [h2, hw]; decide), if_pos (by rw [h2]; exact hw)]; omega
theorem bt_stop {b : List UInt8} {i : Nat} (hw : wh (b8 b i) = false) (hn : ¬ b8 b i = 37) : bt b i false = i := by
  by_cases h : i < b.length
  · obtain ⟨x, h1, h2⟩ := drop_at h
    unfold bt; rw [h1, bl, if_neg (by rw [h2, hw]; decide), if_neg (by rw [h2]; exact hn)]; omega
  · unfold bt; rw [drop_end h]; rfl
theorem bt_end {b : List UInt8} {i : Nat} (h : ¬ i < b.length) (q : Bool) : bt b i q = i := by
  unfold bt; rw [drop_end h]; cases q <;> rfl
theorem bt_in {b : List UInt8} {i : Nat} (h : i < b.length) (h1 : ¬ b8 b i = 10) (h2 : ¬ b8 b i = 13) : bt b i true = bt b (i + 1) true := by
  obtain ⟨x, h3, h4⟩ := drop_at h
  unfold bt; rw [h3, bl, if_neg (by rw [h4]; omega)]; omega
theorem bt_eol {b : List UInt8} {i : Nat} (h : i < b.length) (h1 : b8 b i = 10 ∨ b8 b i = 13) : bt b i true = bt b i false := by
  obtain ⟨x, h3, h4⟩ := drop_at h
  unfold bt
  rw [h3, bl, bl, if_pos (by rw [h4]; exact h1), if_pos]
  rcases h1 with h1 | h1 <;> rw [h4, h1] <;> decide
theorem bl_le : ∀ (s : List UInt8) (q : Bool), bl s q ≤ s.length
  | [], _ => Nat.le_refl _
  | x :: s, false => by have h1 := bl_le s false; have h2 := bl_le s true; rw [bl, List.length_cons]; split <;> (try split) <;> omega
  | x :: s, true => by have h1 := bl_le s false; have h2 := bl_le s true; rw [bl, List.length_cons]; split <;> omega
theorem bt_le {b : List UInt8} {i : Nat} (h : i ≤ b.length) (q : Bool) : bt b i q ≤ b.length := by
  have := bl_le (b.drop i) q
  rw [List.length_drop] at this
  unfold bt; omega
end Go.Proofs.YtjkoiknjffldjaaGreatDoor

/-
  Blank: white signs and comments are passed; the program's. Condition: the lexer stands in its bytes.
-/
namespace Go.Proofs.YtjkoiknjffldjaaGreatDoor
open Go.RowKit
set_option linter.unusedVariables false

def posOf (w : World) (cp : Nat) : Nat := match w.cell? ⟨cp, 1, none⟩ with | some (.int _ n) => n.toNat | _ => 0
theorem posOf_cur {w : World} {cp : Nat} {ao : Option Addr} {cap : Nat} {b : List UInt8} {i : Nat} (h : CurAt w cp ao cap b i) : posOf w cp = i := by
  unfold posOf; rw [h.c1]; simp

set_option maxHeartbeats 1600000 in
theorem blank_any (lp cp : Nat) (ao : Option Addr) (cap : Nat) (b : List UInt8) (i : Nat) (m v : Value) (w : World) (h : LexAt w lp cp ao cap b i m v) :
    Calls Tryz.prog 61 #[.pointer (some ⟨lp, 0, none⟩)] w fun e w' => e = .returned (.tuple #[]) ∧ LexAt w' lp cp ao cap b (bt b i false) m v ∧ Held w.heap.size cp cp w w' := by
  go_enter Tryz.func61, Tryz.ntmps61
  go_wp2_with (first
    | (go_at_call 60; refine (made_any lp cp _ h.p0).mono ?_; rintro e w1 ⟨rfl, rfl⟩))
  go_loopw [2] (fun v2 wr => ∃ j, LexAt wr lp cp ao cap b j m v ∧ bt b j false = bt b i false ∧ Held w.heap.size cp cp w wr) (fun v2 wr => b.length - posOf wr cp)
  case atStart => exact ⟨i, h, rfl, Held.refl _ _ _ _⟩
  case round =>
    obtain ⟨j, hj, hbt, hh⟩ := hrel
    obtain ⟨wo, rfl⟩ : ∃ wo : World, wo = wr := ⟨_, rfl⟩
    have j0 := hj.p0
    have jl := hj.cur.at_
    have jp := posOf_cur hj.cur
    have BT := hid hbt
    by_cases hlt : j < b.length
    · have P := hid (pk_in hlt)
      have x0 := b8_ge b j
      have t0 : decide (0 ≤ b8 b j) = true := decide_eq_true x0
      cases hw : wh (b8 b j) with
      | true =>
        clear hbt
        go_wp2_with (first
          | (go_at_call 77; refine (peek_any cp ao cap b j 0 _ hj.cur (by decide) (by decide)).mono ?_; rintro e w1 ⟨rfl, n1, rfl⟩; rw [Int.add_zero, P.out]; have k0 := (hj.same (below_drewN (Below.refl _ _) n1)).p0)
          | (go_at_call 78; refine (white_any _ _).mono ?_; rintro e w2 ⟨rfl, rfl⟩; rw [hw])
          | (go_at_call 79; refine (next_any cp ao cap b j _ (hj.same (below_drewN (Below.refl _ _) _)).cur).mono ?_; rintro e w3 ⟨rfl, hc3, hh3⟩))
        have L1 := hj.same (below_drewN (Below.refl _ _) n1)
        have L3 := L1.cur' hc3 hh3
        rw [nx_in hlt] at L3
        have p3 := posOf_cur L3.cur
        refine ⟨⟨j + 1, L3, by rw [← bt_white hlt hw]; exact BT.out, hh.then ((Held.drewN wo n1).then hh3)⟩, by rw [p3, jp]; omega⟩
      | false =>
        by_cases hc : b8 b j = 37
        · have P' := hid (pk_in hlt)
          rw [hc] at P
          have BI : bt b j true = bt b i false := by
            rw [bt_in hlt (by omega) (by omega), ← bt_open hlt hc]; exact BT.out
          have hw' : wh 37 = false := by decide
          clear hbt hc hw x0 t0
          go_wp2_with (first
            | (go_at_call 77; refine (peek_any cp ao cap b j 0 _ hj.cur (by decide) (by decide)).mono ?_; rintro e w1 ⟨rfl, n1, rfl⟩; rw [Int.add_zero, P.out]; have k0 := (hj.same (below_drewN (Below.refl _ _) n1)).p0)
            | (go_at_call 78; refine (white_any _ _).mono ?_; rintro e w2 ⟨rfl, rfl⟩; rw [hw']))
          go_loopw [2] (fun v2 wr => ∃ k, LexAt wr lp cp ao cap b k m v ∧ v2 = .int .i64 (pk b k) ∧ bt b k true = bt b i false ∧ (k = j ∨ j < k) ∧ Held w.heap.size cp cp w wr) (fun v2 wr => b.length - posOf wr cp)
          case atStart => exact ⟨j, hj.same (below_drewN (Below.refl _ _) n1), by rw [P.out], BI, .inl rfl, hh.then (Held.drewN wo n1)⟩
          case round =>
            obtain ⟨k, hk, rfl, hbk, hjk, hhk⟩ := hrel
            obtain ⟨wi, rfl⟩ : ∃ wi : World, wi = wr := ⟨_, rfl⟩
            have i0 := hk.p0
            have BK := hid hbk
            have HJ := hid hjk
            have PP := hid P'.out
            have ip := posOf_cur hk.cur
            by_cases hkl : k < b.length
            · rw [pk_in hkl]
              have x0 := b8_ge b k
              have t0 : decide (0 ≤ b8 b k) = true := decide_eq_true x0
              by_cases h10 : b8 b k = 10
              · rw [h10]
                clear hbk hjk t0 x0
                have hne : j < k := by
                  rcases HJ.out with rfl | q
                  · have := pk_in hkl; rw [P.out] at this; omega
                  · exact q
                have E1 : bt b k false = bt b i false := by rw [← bt_eol hkl (.inl h10)]; exact BK.out
                clear h10
                go_wp2
                exact ⟨⟨k, hk, E1, hhk⟩, by rw [ip, jp]; omega⟩
              by_cases h13 : b8 b k = 13
              · rw [h13]
                clear hbk hjk t0 x0
                have hne : j < k := by
                  rcases HJ.out with rfl | q
                  · have := pk_in hkl; rw [P.out] at this; omega
                  · exact q
                have E1 : bt b k false = bt b i false := by rw [← bt_eol hkl (.inr h13)]; exact BK.out
                clear h13 h10
                go_wp2
                exact ⟨⟨k, hk, E1, hhk⟩, by rw [ip, jp]; omega⟩
              have q1 : (b8 b k != 10) = true := by simpa using h10
              have q2 : (b8 b k != 13) = true := by simpa using h13
              have E1 : bt b (k + 1) true = bt b i false := by rw [← bt_in hkl h10 h13]; exact BK.out
              have hjk' : j < k + 1 := by omega
              clear hbk hjk h10 h13
              go_wp2_with (first
                | (go_at_call 79; refine (next_any cp ao cap b k _ hk.cur).mono ?_; rintro e w3 ⟨rfl, hc3, hh3⟩; have L3 := hk.cur' hc3 hh3; have k3 := L3.p0)
                | (go_at_call 77; refine (peek_any cp ao cap b (nx b k) 0 _ hc3 (by decide) (by decide)).mono ?_; rintro e w4 ⟨rfl, n4, rfl⟩; rw [Int.add_zero]))
              rw [nx_in hkl] at L3 ⊢
              have L4 := L3.same (below_drewN (Below.refl _ _) n4)
              have p4 := posOf_cur L4.cur
              refine ⟨⟨k + 1, L4, rfl, E1, .inr hjk', hhk.then (hh3.then (Held.drewN _ n4))⟩, by rw [p4, ip]; omega⟩
            · rw [pk_out (by omega)]
              have hne : j < k := by
                rcases HJ.out with rfl | q
                · omega
                · exact q
              have E1 : bt b k false = bt b i false := by rw [bt_end hkl, ← bt_end hkl true]; exact BK.out
              clear hbk hjk
              go_wp2
              exact ⟨⟨k, hk, E1, hhk⟩, by rw [ip, jp]; omega⟩
        · have E1 : bt b i false = j := by rw [← BT.out]; exact bt_stop hw hc
          have q1 : (b8 b j == 37) = false := by simpa using hc
          have E := hid E1
          clear hbt hc E1
          go_wp2_with (first
            | (go_at_call 77; refine (peek_any cp ao cap b j 0 _ hj.cur (by decide) (by decide)).mono ?_; rintro e w1 ⟨rfl, n1, rfl⟩; rw [Int.add_zero, P.out]; have k0 := (hj.same (below_drewN (Below.refl _ _) n1)).p0)
            | (go_at_call 78; refine (white_any _ _).mono ?_; rintro e w2 ⟨rfl, rfl⟩; rw [hw]))
          ((try simp only [Exit.inBlock, Exit.then]); first | refine bodyPost_ret (results_none rfl _ _ _) rfl ?_ | refine bodyPost_end (results_none rfl _ _ _) rfl ?_)
          exact ⟨rfl, by rw [E.out]; exact hj.same (below_drewN (Below.refl _ _) n1), hh.then (Held.drewN wo n1)⟩
    · have P := hid (pk_out (b := b) (n := (j : Int)) (by omega))
      have E1 : bt b i false = j := by rw [← BT.out]; exact bt_end hlt false
      have E := hid E1
      clear hbt E1
      go_wp2_with (first
        | (go_at_call 77; refine (peek_any cp ao cap b j 0 _ hj.cur (by decide) (by decide)).mono ?_; rintro e w1 ⟨rfl, n1, rfl⟩; rw [Int.add_zero, P.out]; have k0 := (hj.same (below_drewN (Below.refl _ _) n1)).p0))
      ((try simp only [Exit.inBlock, Exit.then]); first | refine bodyPost_ret (results_none rfl _ _ _) rfl ?_ | refine bodyPost_end (results_none rfl _ _ _) rfl ?_)
      exact ⟨rfl, by rw [E.out]; exact hj.same (below_drewN (Below.refl _ _) n1), hh.then (Held.drewN wo n1)⟩
end Go.Proofs.YtjkoiknjffldjaaGreatDoor

/-
  put: a byte is kept, within the bound. Conditions: the lexer's row is the call's own.
-/
namespace Go.Proofs.YtjkoiknjffldjaaGreatDoor
open Go.RowKit
set_option linter.unusedVariables false

/-- a lexer's blocks and its bytes lie below B -/
structure Low (B lp cp : Nat) (ao : Option Addr) (b : List UInt8) : Prop where
  lp : lp < B
  cp : cp < B
  ao : 0 < b.length → ∀ a, ao = some a → a.block < B

theorem Low.mono {B B' lp cp : Nat} {ao : Option Addr} {b : List UInt8} (h : Low B lp cp ao b) (hB : B ≤ B') : Low B' lp cp ao b := ⟨by have := h.lp; omega, by have := h.cp; omega, fun h0 a ha => by have := h.ao h0 a ha; omega⟩

theorem LexAt.low {w : World} {lp cp : Nat} {ao : Option Addr} {cap : Nat} {b : List UInt8} {i : Nat} {m v : Value} (h : LexAt w lp cp ao cap b i m v) : Low w.heap.size lp cp ao b := by
  refine ⟨World.block_lt_of_cell? _ _ h.p0, World.block_lt_of_cell? _ _ h.cur.c0, fun h0 a ha => ?_⟩
  obtain ⟨bb, off, h1, h2, _⟩ := h.cur.rd.some h0
  rw [h1] at ha; injection ha with ha; subst ha; exact h2

theorem LexAt.under {w w' : World} {B lp cp : Nat} {ao : Option Addr} {cap : Nat} {b : List UInt8} {i : Nat} {m v : Value} (h : LexAt w lp cp ao cap b i m v) (hb : Below B w w') (hl : Low B lp cp ao b) : LexAt w' lp cp ao cap b i m v := by
  have hc : ∀ k u, w.cell? ⟨lp, k, none⟩ = some u → w'.cell? ⟨lp, k, none⟩ = some u := fun k u q => by rw [hb.cell (p := ⟨lp, k, none⟩) hl.lp]; exact q
  have hc2 : ∀ k u, w.cell? ⟨cp, k, none⟩ = some u → w'.cell? ⟨cp, k, none⟩ = some u := fun k u q => by rw [hb.cell (p := ⟨cp, k, none⟩) hl.cp]; exact q
  have hr : Rd w' ao b := by
    rcases h.cur.rd with q | ⟨g, off, h1, h2⟩
    · exact .inl q
    · rcases Nat.eq_zero_or_pos b.length with h0 | h0
      · exact .inl (List.length_eq_zero_iff.1 h0)
      · exact .inr ⟨g, off, h1, fun j hj => by rw [hb.cell (p := ⟨g, off + j, none⟩) (show g < B from hl.ao h0 _ h1)]; exact h2 j hj⟩
  exact ⟨⟨hc2 _ _ h.cur.c0, hc2 _ _ h.cur.c1, by rw [hb.frozen (p := ⟨cp, 1, none⟩) hl.cp]; exact h.cur.f1, hr, h.cur.le, h.cur.mx, h.cur.ni, h.cur.at_, h.cur.sm, h.cur.ne⟩,
    hc _ _ h.p0, hc _ _ h.p1, hc _ _ h.p2, by rw [hb.frozen (p := ⟨lp, 1, none⟩) hl.lp]; exact h.f1, by rw [hb.frozen (p := ⟨lp, 2, none⟩) hl.lp]; exact h.f2, h.ne, h.na⟩

theorem Rd.byte (w : World) (c : Int) (e : TypeId) : Rd (w.alloc (.cells #[.int .u8 (IntKind.u8.wrap c)] e)) (Option.some ⟨w.heap.size, 0, none⟩) [byteOf c] := by
  have h := Rd.one w (IntKind.u8.wrap c) e (by rw [wrap8]; omega) (by rw [wrap8]; omega)
  have e1 : UInt8.ofNat (IntKind.u8.wrap c).toNat = byteOf c := by rw [wrap8]; rfl
  rwa [e1] at h

theorem put_full (lp cp : Nat) (ao : Option Addr) (cap : Nat) (b : List UInt8) (i M base : Nat) (v : Value) (out : List UInt8) (c : Int) (w : World) (h : LexAt w lp cp ao cap b i (.int .i64 M) v) (ho : OwnB w base 5 v out) (hM : M ≤ 100000) (hout : M ≤ out.length) :
    Calls Tryz.prog 103 #[.pointer (some ⟨lp, 0, none⟩), .int .i64 c] w fun e w' => e = .returned (.int .i64 3) ∧ ∃ n, w' = w.drewN n := by
  obtain ⟨ao2, cap2, rfl, c1, c2, c3⟩ := Rd.own ho
  have h1 := h.p1
  have h2 := h.p2
  have t1 : decide (M ≤ out.length) = true := decide_eq_true hout
  go_enter Tryz.func103, Tryz.ntmps103
  go_wp2
  go_quiet (fail)
  go_wp2
  go_ret
  exact ⟨rfl, _, rfl⟩

theorem put_room (lp cp : Nat) (ao : Option Addr) (cap : Nat) (b : List UInt8) (i M base : Nat) (v : Value) (out : List UInt8) (c : Int) (w : World) (h : LexAt w lp cp ao cap b i (.int .i64 M) v) (hl : Low base lp cp ao b) (hb : base ≤ w.heap.size) (ho : OwnB w base 5 v out) (hM : M ≤ 100000) (hout : out.length < M) :
    Calls Tryz.prog 103 #[.pointer (some ⟨lp, 0, none⟩), .int .i64 c] w fun e w' => e = .returned (.int .i64 0) ∧ ∃ v', LexAt w' lp cp ao cap b i (.int .i64 M) v' ∧ OwnB w' base 5 v' (out ++ [byteOf c]) ∧ Held base lp cp w w' := by
  obtain ⟨ao2, cap2, rfl, c1, c2, c3⟩ := Rd.own ho
  have h1 := h.p1
  have h2 := h.p2
  have t1 : decide (M ≤ out.length) = false := decide_eq_false (by omega)
  go_enter Tryz.func103, Tryz.ntmps103
  go_wp2
  go_quiet (fail)
  go_wp2_with (at_builtin; refine wpList_append_bytes (t := 24) (e := 5) bytesTy rfl _ _ rfl base _ out [byteOf c] rfl (by exact (OwnB.up ho (below_drewN (Below.refl _ _) _)).alloc _) _ 1 1 rfl rfl (fun q => by cases q) (Rd.byte _ c _) (by simp; omega) (by simp; omega) ?_; intro v1 w1 q1 q2 q3; obtain ⟨a1, kc, rfl, -, -, -⟩ := Rd.own q1; have bel : Below base w w1 := below_append ((below_drewN (Below.refl _ _) _).alloc hb _) ((OwnB.up ho (below_drewN (Below.refl _ _) _)).alloc _) q2 (Nat.le_refl _) (by simp; omega); have L1 := h.under bel hl; have k1 := L1.p2; have k2 := L1.f2)
  have hlp := hl.lp
  have hcp := hl.cp
  have hne : ∀ g, (Value.slice a1 (out ++ [byteOf c]).length kc).ownBlock = some g → g ≠ lp ∧ g ≠ lp := fun g hg => by
    have := (World.ownsRow.lt q1 g hg).1
    exact ⟨by omega, by omega⟩
  have hlen : (out ++ [byteOf c]).length = out.length + 1 := by simp
  have q5 := q1.held (p := lp) (q := lp) (Held.set w1 ⟨lp, 2, none⟩ (Value.slice a1 (out ++ [byteOf c]).length kc) (.inl rfl)) hne
  have q6 := L1.set2 (v' := Value.slice a1 (out ++ [byteOf c]).length kc)
  rw [hlen] at q5 q6
  go_ret
  exact ⟨rfl, _, q6, q5, (Held.of_below bel).trans (Held.set _ _ _ (.inl rfl))⟩
end Go.Proofs.YtjkoiknjffldjaaGreatDoor

/-
  A lexer that stands at place i, with the bytes s from there on, since a world w0; its methods in these words. Condition: the lexer stands in its bytes.
-/
namespace Go.Proofs.YtjkoiknjffldjaaGreatDoor
open Go.RowKit
set_option linter.unusedVariables false

/-- the first byte, -1 where there is none -/
def hd : List UInt8 → Int
  | [] => -1
  | x :: _ => c8 x
theorem hd_nil : hd [] = -1 := rfl
theorem hd_cons (x : UInt8) (s : List UInt8) : hd (x :: s) = c8 x := rfl
theorem c8_ge (x : UInt8) : 0 ≤ c8 x := by unfold c8; omega
theorem c8_le (x : UInt8) : c8 x ≤ 255 := by unfold c8; have := x.toNat_lt; omega
theorem hd_ge (s : List UInt8) : -1 ≤ hd s := by cases s with | nil => simp [hd] | cons x s => have := c8_ge x; rw [hd_cons]; omega
theorem hd_le (s : List UInt8) : hd s ≤ 255 := by cases s with | nil => simp [hd] | cons x s => exact c8_le x
theorem byteOf_c8 (x : UInt8) : byteOf (c8 x) = x := by
  unfold byteOf c8
  have := x.toNat_lt
  rw [show ((x.toNat : Int) % 256).toNat = x.toNat by omega]; simp

theorem pk_drop {b : List UInt8} {j : Nat} : pk b j = hd (b.drop j) := by
  by_cases h : j < b.length
  · obtain ⟨x, h1, h2⟩ := drop_at h
    rw [h1, pk_in h]; exact h2.symm
  · rw [drop_end h, pk_out (by omega)]; rfl
theorem pk_drop_add {b s : List UInt8} {i : Nat} (h : b.drop i = s) (k : Nat) : pk b ((i : Int) + (k : Int)) = hd (s.drop k) := by
  rw [← Int.natCast_add, pk_drop, ← h, List.drop_drop]
theorem drop_succ_of {b t : List UInt8} {i : Nat} {x : UInt8} (h : b.drop i = x :: t) : b.drop (i + 1) = t := by
  rw [← List.drop_drop, h]; rfl
theorem lt_of_drop {b t : List UInt8} {i : Nat} {x : UInt8} (h : b.drop i = x :: t) : i < b.length := by
  rcases Nat.lt_or_ge i b.length with q | q
  · exact q
  · rw [List.drop_eq_nil_of_le q] at h; cases h
theorem ge_of_drop {b : List UInt8} {i : Nat} (h : b.drop i = []) : b.length ≤ i := by
  have := congrArg List.length h; simp at this; omega

theorem OwnB.base {w : World} {base base' : Nat} {e : TypeId} {v : Value} {l : List UInt8} (h : OwnB w base e v l) (hb : base' ≤ base) : OwnB w base' e v l := by
  obtain ⟨h1, h2⟩ := h
  refine ⟨h1, ?_⟩
  rcases h2 with h2 | ⟨g, cap, cur, hv, hg, hh⟩
  · exact .inl h2
  · exact .inr ⟨g, cap, cur, hv, Nat.le_trans hb hg, hh⟩

/-- how many bytes a cursor has left -/
def remOf (w : World) (cp : Nat) : Nat := match w.cell? ⟨cp, 0, none⟩, w.cell? ⟨cp, 1, none⟩ with | some (.slice _ n _), some (.int _ i) => n - i.toNat | _, _ => 0

/-- a lexer's blocks and its bytes lay in w0 -/
structure LowS (w0 : World) (lpN cpN : Nat) (aoN : Option Addr) (cap : Nat) (b : List UInt8) : Prop extends Low w0.heap.size lpN cpN aoN b where
  c0 : w0.cell? ⟨cpN, 0, none⟩ = some (.slice aoN b.length cap)

/-- block lp is a lexer over the cursor cp, at place i of b, s stands from there on; since w0 all but lp, cp is as it was; u is a row made since w0 -/
structure Lx (w0 w : World) (lp cp : Nat) (b : List UInt8) (i : Nat) (s : List UInt8) (m v u : Value) (out : List UInt8) : Prop where
  drp : b.drop i = s
  lex : ∃ ao cap, LexAt w lp cp ao cap b i m v ∧ LowS w0 lp cp ao cap b
  held : Held w0.heap.size lp cp w0 w
  row : OwnB w w0.heap.size 5 u out

section
variable {w0 w w' : World} {lp cp : Nat} {b : List UInt8} {i : Nat} {s t : List UInt8} {m v u : Value} {out : List UInt8} {x : UInt8}

theorem Lx.start {ao : Option Addr} {cap : Nat} (h : LexAt w lp cp ao cap b i m v) : Lx w w lp cp b i (b.drop i) m v (.slice none 0 0) [] :=
  ⟨rfl, ⟨ao, cap, h, ⟨h.low, h.cur.c0⟩⟩, Held.refl _ _ _ _, OwnB.nil _ _ _⟩

theorem Lx.p0 (h : Lx w0 w lp cp b i s m v u out) : w.cell? ⟨lp, 0, none⟩ = some (.pointer (some ⟨cp, 0, none⟩)) := by
  obtain ⟨ao, cap, h1, h2⟩ := h.lex; exact h1.p0
theorem Lx.at_ (h : Lx w0 w lp cp b i s m v u out) : i + s.length = b.length := by
  obtain ⟨ao, cap, h1, h2⟩ := h.lex
  have := h1.cur.at_
  rw [← h.drp, List.length_drop]; omega
theorem Lx.sm (h : Lx w0 w lp cp b i s m v u out) : b.length ≤ 4000000 := by
  obtain ⟨ao, cap, h1, h2⟩ := h.lex; exact h1.cur.sm
theorem Lx.rem (h : Lx w0 w lp cp b i s m v u out) : remOf w cp = s.length := by
  obtain ⟨ao, cap, h1, h2⟩ := h.lex
  have := h1.cur.at_
  unfold remOf; rw [h1.cur.c0, h1.cur.c1, ← h.drp, List.length_drop]; simp
theorem Lx.size (h : Lx w0 w lp cp b i s m v u out) : w0.heap.size ≤ w.heap.size := h.held.size

/-- a row made since w0 is not touched where only lp, cp are -/
theorem Lx.keep (h : Lx w0 w lp cp b i s m v u out) (hh : Held w.heap.size lp cp w w') {v2 : Value} {l2 : List UInt8} (hr : OwnB w w0.heap.size 5 v2 l2) : OwnB w' w0.heap.size 5 v2 l2 := by
  obtain ⟨ao, cap, h1, h2⟩ := h.lex
  refine hr.held hh fun g hg => ?_
  have h3 := (World.ownsRow.lt hr g hg).1
  have := h2.lp
  have := h2.cp
  exact ⟨by omega, by omega⟩

theorem Lx.next (h : Lx w0 w lp cp b i s m v u out) {ao : Option Addr} {cap j : Nat} {m' v' : Value} {s' : List UInt8} (hl : LexAt w' lp cp ao cap b j m' v') (hlow : LowS w0 lp cp ao cap b) (hs : b.drop j = s') (hh : Held w.heap.size lp cp w w') : Lx w0 w' lp cp b j s' m' v' u out :=
  ⟨hs, ⟨ao, cap, hl, hlow⟩, h.held.then' hh, h.keep hh h.row⟩

theorem Lx.below (h : Lx w0 w lp cp b i s m v u out) (hb : Below w.heap.size w w') : Lx w0 w' lp cp b i s m v u out := by
  obtain ⟨ao, cap, h1, h2⟩ := h.lex
  exact h.next (h1.same hb) h2 h.drp (Held.of_below hb)
theorem Lx.drew (h : Lx w0 w lp cp b i s m v u out) (n : Nat) : Lx w0 (w.drewN n) lp cp b i s m v u out := h.below (below_drewN (Below.refl _ _) n)
/-- another row -/
theorem Lx.take (h : Lx w0 w lp cp b i s m v u out) {u2 : Value} {l2 : List UInt8} (hr : OwnB w w0.heap.size 5 u2 l2) : Lx w0 w lp cp b i s m v u2 l2 := ⟨h.drp, h.lex, h.held, hr⟩
theorem Lx.bare (h : Lx w0 w lp cp b i s m v u out) : Lx w0 w lp cp b i s m v (.slice none 0 0) [] := h.take (OwnB.nil _ _ _)

/-- from here on anew -/
theorem Lx.fresh (h : Lx w0 w lp cp b i s m v u out) : Lx w w lp cp b i s m v (.slice Option.none 0 0) [] := by
  obtain ⟨ao, cap, h1, h2⟩ := h.lex
  exact ⟨h.drp, ⟨ao, cap, h1, ⟨h2.toLow.mono h.held.size, h1.cur.c0⟩⟩, Held.refl _ _ _ _, OwnB.nil _ _ _⟩
theorem Lx.join (h : Lx w0 w lp cp b i s m v u out) {j : Nat} {s' : List UInt8} {m' v' u' : Value} {out' : List UInt8} (k : Lx w w' lp cp b j s' m' v' u' out') : Lx w0 w' lp cp b j s' m' v' u' out' := by
  obtain ⟨ao, cap, h1, h2⟩ := h.lex
  obtain ⟨ao', cap', k1, k2⟩ := k.lex
  have e := k2.c0
  rw [h1.cur.c0] at e
  injection e with e
  injection e with e1 e2 e3
  subst e1; subst e3
  exact ⟨k.drp, ⟨_, _, k1, h2⟩, h.held.then' k.held, k.row.base h.held.size⟩

theorem Lx.set1 (h : Lx w0 w lp cp b i s m v u out) {m' : Value} : Lx w0 (w.setCell ⟨lp, 1, none⟩ m') lp cp b i s m' v u out := by
  obtain ⟨ao, cap, h1, h2⟩ := h.lex
  exact h.next h1.set1 h2 h.drp (Held.set _ _ _ (.inl rfl))
theorem Lx.set2 (h : Lx w0 w lp cp b i s m v u out) {v' : Value} : Lx w0 (w.setCell ⟨lp, 2, none⟩ v') lp cp b i s m v' u out := by
  obtain ⟨ao, cap, h1, h2⟩ := h.lex
  exact h.next h1.set2 h2 h.drp (Held.set _ _ _ (.inl rfl))
theorem Lx.p1 (h : Lx w0 w lp cp b i s m v u out) : w.cell? ⟨lp, 1, none⟩ = some m := by
  obtain ⟨ao, cap, h1, h2⟩ := h.lex; exact h1.p1
theorem Lx.p2 (h : Lx w0 w lp cp b i s m v u out) : w.cell? ⟨lp, 2, none⟩ = some v := by
  obtain ⟨ao, cap, h1, h2⟩ := h.lex; exact h1.p2
theorem Lx.f1 (h : Lx w0 w lp cp b i s m v u out) : w.frozen? ⟨lp, 1, none⟩ = false := by
  obtain ⟨ao, cap, h1, h2⟩ := h.lex; exact h1.f1
theorem Lx.f2 (h : Lx w0 w lp cp b i s m v u out) : w.frozen? ⟨lp, 2, none⟩ = false := by
  obtain ⟨ao, cap, h1, h2⟩ := h.lex; exact h1.f2

theorem peekn (n : Nat) (hn : n ≤ 4000000) (h : Lx w0 w lp cp b i s m v u out) :
    Calls Tryz.prog 77 #[.pointer (some ⟨cp, 0, none⟩), .int .i64 n] w fun e w' => e = .returned (.int .i64 (hd (s.drop n))) ∧ Lx w0 w' lp cp b i s m v u out ∧ ∃ n, w' = w.drewN n := by
  obtain ⟨ao, cap, h1, h2⟩ := h.lex
  refine (peek_any cp ao cap b i n w h1.cur (by omega) (by omega)).mono ?_
  rintro e w' ⟨rfl, k, rfl⟩
  exact ⟨by rw [pk_drop_add h.drp n], h.drew k, k, rfl⟩
theorem peek0 (h : Lx w0 w lp cp b i s m v u out) :
    Calls Tryz.prog 77 #[.pointer (some ⟨cp, 0, none⟩), .int .i64 0] w fun e w' => e = .returned (.int .i64 (hd s)) ∧ Lx w0 w' lp cp b i s m v u out ∧ ∃ n, w' = w.drewN n := peekn 0 (by decide) h
theorem peek1 (h : Lx w0 w lp cp b i s m v u out) :
    Calls Tryz.prog 77 #[.pointer (some ⟨cp, 0, none⟩), .int .i64 1] w fun e w' => e = .returned (.int .i64 (hd s.tail)) ∧ Lx w0 w' lp cp b i s m v u out ∧ ∃ n, w' = w.drewN n := by
  have := peekn 1 (by decide) h
  rw [List.drop_one] at this; exact this
theorem qpeek0 (n : Nat) (h : Lx w0 w lp cp b i s m v u out) :
    Calls Tryz.prog 77 #[.pointer (some ⟨cp, 0, none⟩), .int .i64 0] (w.drewN n) fun e w' => e = .returned (.int .i64 (hd s)) ∧ ∃ n, w' = w.drewN n := by
  refine (peek0 (h.drew n)).mono ?_
  rintro e w' ⟨h1, -, m, h2⟩
  exact ⟨h1, n + m, by rw [h2, World.drewN_drewN]⟩
theorem qpeek1 (n : Nat) (h : Lx w0 w lp cp b i s m v u out) :
    Calls Tryz.prog 77 #[.pointer (some ⟨cp, 0, none⟩), .int .i64 1] (w.drewN n) fun e w' => e = .returned (.int .i64 (hd s.tail)) ∧ ∃ n, w' = w.drewN n := by
  refine (peek1 (h.drew n)).mono ?_
  rintro e w' ⟨h1, -, m, h2⟩
  exact ⟨h1, n + m, by rw [h2, World.drewN_drewN]⟩
theorem next_nil (h : Lx w0 w lp cp b i [] m v u out) :
    Calls Tryz.prog 79 #[.pointer (some ⟨cp, 0, none⟩)] w fun e w' => e = .returned (.int .i64 (-1)) ∧ Lx w0 w' lp cp b i [] m v u out := by
  obtain ⟨ao, cap, h1, h2⟩ := h.lex
  refine (next_any cp ao cap b i w h1.cur).mono ?_
  rintro e w' ⟨rfl, hc, hh⟩
  have hz := ge_of_drop h.drp
  rw [nx_out hz] at hc
  exact ⟨by rw [pk_out (by omega)], h.next (h1.cur' hc hh) h2 h.drp (hh.widen (.inr (.inl rfl)) (.inr (.inl rfl)))⟩
theorem next_cons (h : Lx w0 w lp cp b i (x :: t) m v u out) :
    Calls Tryz.prog 79 #[.pointer (some ⟨cp, 0, none⟩)] w fun e w' => e = .returned (.int .i64 (c8 x)) ∧ Lx w0 w' lp cp b (i + 1) t m v u out := by
  obtain ⟨ao, cap, h1, h2⟩ := h.lex
  refine (next_any cp ao cap b i w h1.cur).mono ?_
  rintro e w' ⟨rfl, hc, hh⟩
  have hz := lt_of_drop h.drp
  rw [nx_in hz] at hc
  exact ⟨by rw [pk_drop, h.drp]; rfl, h.next (h1.cur' hc hh) h2 (drop_succ_of h.drp) (hh.widen (.inr (.inl rfl)) (.inr (.inl rfl)))⟩
theorem pos_l (h : Lx w0 w lp cp b i s m v u out) :
    Calls Tryz.prog 38 #[.pointer (some ⟨cp, 0, none⟩)] w fun e w' => e = .returned (.int .i64 i) ∧ w = w' := by
  obtain ⟨ao, cap, h1, h2⟩ := h.lex
  exact pos_any cp ao cap b i w h1.cur
theorem seek_l (k : Nat) (n : Int) (hn : n = k) (hk : k ≤ b.length) (h : Lx w0 w lp cp b i s m v u out) :
    Calls Tryz.prog 42 #[.pointer (some ⟨cp, 0, none⟩), .int .i64 n] w fun e w' => e = .returned (.bool true) ∧ Lx w0 w' lp cp b k (b.drop k) m v u out := by
  subst hn
  obtain ⟨ao, cap, h1, h2⟩ := h.lex
  refine (seek_any cp ao cap b i k w h1.cur hk).mono ?_
  rintro e w' ⟨rfl, hc, hh⟩
  exact ⟨rfl, h.next (h1.cur' hc hh) h2 rfl (hh.widen (.inr (.inl rfl)) (.inr (.inl rfl)))⟩
theorem match_yes (p : ByteArray) (hp : p.size ≤ 4000000) (hy : pfx p.data.toList s = true) (h : Lx w0 w lp cp b i s m v u out) :
    Calls Tryz.prog 80 #[.pointer (some ⟨cp, 0, none⟩), .string p] w fun e w' => e = .returned (.bool true) ∧ Lx w0 w' lp cp b (i + p.size) (s.drop p.size) m v u out := by
  obtain ⟨ao, cap, h1, h2⟩ := h.lex
  refine (match_any cp ao cap b i p w h1.cur hp).mono ?_
  rw [h.drp, hy]
  rintro e w' ⟨rfl, hc, hh⟩
  exact ⟨rfl, h.next (h1.cur' hc hh) h2 (by rw [← h.drp, List.drop_drop]) (hh.widen (.inr (.inl rfl)) (.inr (.inl rfl)))⟩
theorem match_no (p : ByteArray) (hp : p.size ≤ 4000000) (hy : pfx p.data.toList s = false) (h : Lx w0 w lp cp b i s m v u out) :
    Calls Tryz.prog 80 #[.pointer (some ⟨cp, 0, none⟩), .string p] w fun e w' => e = .returned (.bool false) ∧ Lx w0 w' lp cp b i s m v u out := by
  obtain ⟨ao, cap, h1, h2⟩ := h.lex
  refine (match_any cp ao cap b i p w h1.cur hp).mono ?_
  rw [h.drp, hy]
  rintro e w' ⟨rfl, hc, hh⟩
  exact ⟨rfl, h.next (h1.cur' hc hh) h2 h.drp (hh.widen (.inr (.inl rfl)) (.inr (.inl rfl)))⟩
theorem take_l (n : Nat) (hn : n ≤ s.length) (h : Lx w0 w lp cp b i s m v u out) :
    Calls Tryz.prog 90 #[.pointer (some ⟨cp, 0, none⟩), .int .i64 n] w fun e w' => ∃ u', e = .returned (.tuple #[u', .bool true]) ∧ Lx w0 w' lp cp b (i + n) (s.drop n) m v u' (s.take n) := by
  obtain ⟨ao, cap, h1, h2⟩ := h.lex
  have ha := h.at_
  refine (take_any cp ao cap b i n w h1.cur (by omega)).mono ?_
  rintro e w' ⟨u', rfl, hr, hc, hh⟩
  rw [h.drp] at hr
  have hr2 : OwnB w' w0.heap.size 5 u' (s.take n) := hr.base h.held.size
  exact ⟨u', rfl, (h.next (h1.cur' hc hh) h2 (by rw [← h.drp, List.drop_drop]) (hh.widen (.inr (.inl rfl)) (.inr (.inl rfl)))).take hr2⟩
theorem blank_l (h : Lx w0 w lp cp b i s m v u out) :
    Calls Tryz.prog 61 #[.pointer (some ⟨lp, 0, none⟩)] w fun e w' => e = .returned (.tuple #[]) ∧ Lx w0 w' lp cp b (i + bl s false) (s.drop (bl s false)) m v u out := by
  obtain ⟨ao, cap, h1, h2⟩ := h.lex
  refine (blank_any lp cp ao cap b i m v w h1).mono ?_
  rintro e w' ⟨rfl, hl, hh⟩
  unfold bt at hl
  rw [h.drp] at hl
  exact ⟨rfl, h.next hl h2 (by rw [← h.drp, List.drop_drop]) (hh.widen (.inr (.inl rfl)) (.inr (.inl rfl)))⟩
theorem regular_l (c : Int) (h : Lx w0 w lp cp b i s m v u out) :
    Calls Tryz.prog 86 #[.int .i64 c] w fun e w' => e = .returned (.bool (rg c)) ∧ Lx w0 w' lp cp b i s m v u out := by
  refine (regular_any c w).mono ?_
  rintro e w' ⟨rfl, n, rfl⟩
  exact ⟨rfl, h.drew n⟩
theorem put_no (M : Nat) (c : Int) (hM : M ≤ 100000) (ho : M ≤ out.length) (h : Lx w0 w lp cp b i s (.int .i64 M) v v out) :
    Calls Tryz.prog 103 #[.pointer (some ⟨lp, 0, none⟩), .int .i64 c] w fun e w' => e = .returned (.int .i64 3) ∧ Lx w0 w' lp cp b i s (.int .i64 M) v v out := by
  obtain ⟨ao, cap, h1, h2⟩ := h.lex
  refine (put_full lp cp ao cap b i M w0.heap.size v out c w h1 h.row hM ho).mono ?_
  rintro e w' ⟨rfl, n, rfl⟩
  exact ⟨rfl, h.drew n⟩
theorem put_yes (M : Nat) (c : Int) (hM : M ≤ 100000) (ho : out.length < M) (h : Lx w0 w lp cp b i s (.int .i64 M) v v out) :
    Calls Tryz.prog 103 #[.pointer (some ⟨lp, 0, none⟩), .int .i64 c] w fun e w' => e = .returned (.int .i64 0) ∧ ∃ v', Lx w0 w' lp cp b i s (.int .i64 M) v' v' (out ++ [byteOf c]) := by
  obtain ⟨ao, cap, h1, h2⟩ := h.lex
  refine (put_room lp cp ao cap b i M w0.heap.size v out c w h1 h2.toLow h.held.size h.row hM ho).mono ?_
  rintro e w' ⟨rfl, v', hl, hr, hh⟩
  exact ⟨rfl, v', h.drp, ⟨ao, cap, hl, h2⟩, h.held.trans hh, hr⟩
end
end Go.Proofs.YtjkoiknjffldjaaGreatDoor

/-
  The plain model of what stands behind a stroke, a bracket, a sign: names, strings, digits; of a token. No program here.
-/
namespace Go.Proofs.YtjkoiknjffldjaaGreatDoor
set_option linter.unusedVariables false

/-- what a reader of bytes answers: an error, or the bytes and what stands behind them -/
inductive Res where
  | bad (e : Int)
  | ok (out rest : List UInt8)
deriving DecidableEq

/-- a name, behind its stroke -/
def nm : List UInt8 → List UInt8 → Res
  | [], out => .ok out []
  | c :: s, out =>
    if rg (c8 c) = true then
      if c8 c = 35 then
        match s with
        | x :: y :: t => if dig (c8 x) < 0 ∨ dig (c8 y) < 0 ∨ 16 * dig (c8 x) + dig (c8 y) = 0 then .bad 4 else if 127 ≤ out.length then .bad 3 else nm t (out ++ [byteOf (16 * dig (c8 x) + dig (c8 y))])
        | _ => .bad 4
      else if 127 ≤ out.length then .bad 3 else nm s (out ++ [c])
    else .ok out (c :: s)

theorem nm_cons (c : UInt8) (s out : List UInt8) : nm (c :: s) out = if rg (c8 c) = true then
      if c8 c = 35 then
        if dig (hd s) < 0 ∨ dig (hd s.tail) < 0 ∨ 16 * dig (hd s) + dig (hd s.tail) = 0 then .bad 4 else if 127 ≤ out.length then .bad 3 else nm (s.drop 2) (out ++ [byteOf (16 * dig (hd s) + dig (hd s.tail))])
      else if 127 ≤ out.length then .bad 3 else nm s (out ++ [c])
    else .ok out (c :: s) := by
  have dn : dig (-1) = -1 := by decide
  rcases s with _ | ⟨x, _ | ⟨y, t⟩⟩ <;> simp [nm, hd, dn]

/-- an end of line's second sign -/
def sk : List UInt8 → List UInt8
  | [] => []
  | x :: t => if c8 x = 10 then t else x :: t

/-- digits behind the first: the number, the rest -/
def oc : Nat → Int → List UInt8 → Int × List UInt8
  | 0, n, s => (n, s)
  | k + 1, n, [] => (n, [])
  | k + 1, n, x :: s => if 48 ≤ c8 x ∧ c8 x ≤ 55 then oc k (8 * n + (c8 x - 48)) s else (n, x :: s)

/-- behind a backslash and a sign: the byte, -1: none; the rest -/
def es (c : Int) (s : List UInt8) : Int × List UInt8 :=
  if c = 110 then (10, s) else if c = 114 then (13, s) else if c = 116 then (9, s) else if c = 98 then (8, s) else if c = 102 then (12, s)
  else if c = 10 then (-1, s) else if c = 13 then (-1, sk s)
  else if 48 ≤ c ∧ c ≤ 55 then ((oc 2 (c - 48) s).1 % 256, (oc 2 (c - 48) s).2)
  else (c, s)

/-- one part of a string: the byte, -1: none; the rest; -/
def tx : Nat → List UInt8 → Nat → List UInt8 → Res
  | 0, _, _, _ => .bad 2
  | _ + 1, [], _, _ => .bad 2
  | k + 1, x :: s, o, out =>
    if c8 x = 92 then
      if hd s < 0 then .bad 2
      else if (es (hd s) s.tail).1 < 0 then tx k (es (hd s) s.tail).2 o out else if 32767 ≤ out.length then .bad 3 else tx k (es (hd s) s.tail).2 o (out ++ [byteOf (es (hd s) s.tail).1])
    else if c8 x = 41 ∧ o = 1 then .ok out s
    else if 32767 ≤ out.length then .bad 3
    else if c8 x = 10 then tx k s o (out ++ [10])
    else if c8 x = 13 then tx k (sk s) o (out ++ [10])
    else tx k s (if c8 x = 40 then o + 1 else if c8 x = 41 then o - 1 else o) (out ++ [x])

theorem sk_len (s : List UInt8) : (sk s).length ≤ s.length := by
  cases s with
  | nil => exact Nat.le_refl _
  | cons x t => rw [sk]; split <;> simp
theorem oc_len : ∀ (k : Nat) (n : Int) (s : List UInt8), (oc k n s).2.length ≤ s.length
  | 0, n, s => Nat.le_refl _
  | k + 1, n, [] => Nat.le_refl _
  | k + 1, n, x :: s => by
    rw [oc]; split
    · have := oc_len k (8 * n + (c8 x - 48)) s; rw [List.length_cons]; omega
    · exact Nat.le_refl _
theorem es_len (c : Int) (s : List UInt8) : (es c s).2.length ≤ s.length := by
  have h1 := sk_len s
  have h2 := oc_len 2 (c - 48) s
  unfold es
  repeat (split; · first | exact Nat.le_refl _ | exact h1 | exact h2)
  exact Nat.le_refl _

/-- enough is enough -/
theorem tx_more : ∀ (k m : Nat) (s : List UInt8) (o : Nat) (out : List UInt8), s.length < k → s.length < m → tx k s o out = tx m s o out
  | 0, m, s, o, out, h, _ => absurd h (Nat.not_lt_zero _)
  | k + 1, 0, s, o, out, _, h => absurd h (Nat.not_lt_zero _)
  | k + 1, m + 1, [], o, out, _, _ => rfl
  | k + 1, m + 1, x :: s, o, out, h, h' => by
    rw [List.length_cons] at h h'
    have hs := sk_len s
    have ih := tx_more k m
    rw [tx, tx]
    have he := es_len (hd s) s.tail
    rw [List.length_tail] at he
    simp only [ih s _ _ (by omega) (by omega), ih (sk s) _ _ (by omega) (by omega), ih (es (hd s) s.tail).2 _ _ (by omega) (by omega)]

/-- a string, behind its bracket, within so many brackets -/
def TX (s : List UInt8) (o : Nat) (out : List UInt8) : Res := tx (s.length + 1) s o out

theorem TX_nil (o : Nat) (out : List UInt8) : TX [] o out = .bad 2 := rfl
theorem TX_cons (x : UInt8) (s : List UInt8) (o : Nat) (out : List UInt8) : TX (x :: s) o out =
    if c8 x = 92 then
      if hd s < 0 then .bad 2
      else if (es (hd s) s.tail).1 < 0 then TX (es (hd s) s.tail).2 o out else if 32767 ≤ out.length then .bad 3 else TX (es (hd s) s.tail).2 o (out ++ [byteOf (es (hd s) s.tail).1])
    else if c8 x = 41 ∧ o = 1 then .ok out s
    else if 32767 ≤ out.length then .bad 3
    else if c8 x = 10 then TX s o (out ++ [10])
    else if c8 x = 13 then TX (sk s) o (out ++ [10])
    else TX s (if c8 x = 40 then o + 1 else if c8 x = 41 then o - 1 else o) (out ++ [x]) := by
  have hs := sk_len s
  have e0 : TX (x :: s) o out = tx (s.length + 1 + 1) (x :: s) o out := rfl
  rw [e0, tx]
  unfold TX
  have he := es_len (hd s) s.tail
  rw [List.length_tail] at he
  rw [tx_more (s.length + 1) ((sk s).length + 1) (sk s) _ _ (by omega) (by omega)]
  simp only [tx_more (s.length + 1) ((es (hd s) s.tail).2.length + 1) (es (hd s) s.tail).2 _ _ (by omega) (by omega)]

/-- digits by pairs, behind the sign; half: the first of a pair, -1: none -/
def hx : List UInt8 → Int → List UInt8 → Res
  | [], _, _ => .bad 2
  | x :: s, h, out =>
    if wh (c8 x) = true then hx s h out
    else if c8 x = 62 then
      if h < 0 then .ok out s else if 32767 ≤ out.length then .bad 3 else .ok (out ++ [byteOf (16 * h)]) s
    else if dig (c8 x) < 0 then .bad 4
    else if h < 0 then hx s (dig (c8 x)) out
    else if 32767 ≤ out.length then .bad 3
    else hx s (-1) (out ++ [byteOf (16 * h + dig (c8 x))])

/-- how many regular signs stand there -/
def rn : List UInt8 → Nat
  | [] => 0
  | x :: s => if rg (c8 x) = true then 1 + rn s else 0
theorem rn_le : ∀ s : List UInt8, rn s ≤ s.length
  | [] => Nat.le_refl _
  | x :: s => by have := rn_le s; rw [rn, List.length_cons]; split <;> omega
end Go.Proofs.YtjkoiknjffldjaaGreatDoor

/-
  The plain model of a number and of a token. No program here.
-/
namespace Go.Proofs.YtjkoiknjffldjaaGreatDoor
set_option linter.unusedVariables false

/-- is it a digit? -/
def isd (c : Int) : Bool := decide (48 ≤ c) && decide (c ≤ 57)
/-- how many digits stand there -/
def dgs : List UInt8 → Nat
  | [] => 0
  | x :: s => if isd (c8 x) = true then 1 + dgs s else 0
/-- the number that digits say -/
def vl : List UInt8 → Nat → Nat
  | [], n => n
  | x :: s, n => vl s (10 * n + (x.toNat - 48))
/-- so many places behind a point -/
def fr : Nat → List UInt8 → Nat → Nat
  | 0, _, n => n
  | k + 1, [], n => fr k [] (10 * n)
  | k + 1, x :: s, n => fr k s (10 * n + (x.toNat - 48))
/-- a sign -/
def sgn (s : List UInt8) : Int := if hd s = 45 then -1 else 1
def uns (s : List UInt8) : List UInt8 := if hd s = 43 ∨ hd s = 45 then s.tail else s
/-- behind the sign: the digits that stand there, and what stands behind them -/
def numb (g : Int) (a r : List UInt8) : Int × Bool × Int :=
  match r with
  | [] => if a.length = 0 then (0, false, 4) else if 2147483647 < vl a 0 then (0, false, 5) else (g * (vl a 0 : Int), true, 0)
  | x :: f => if c8 x = 46 ∧ dgs f = f.length ∧ ¬ (a.length + f.length = 0) then (if 2147483647 < vl a 0 then (0, false, 5) else (g * ((vl a 0 : Int) * 100000 + (fr 5 f 0 : Int)), false, 0)) else (0, false, 4)
/-- the number that bytes say; whether it is a whole one; the error -/
def np (s : List UInt8) : Int × Bool × Int := numb (sgn s) ((uns s).take (dgs (uns s))) ((uns s).drop (dgs (uns s)))

/-- a token -/
inductive TRes where
  | bad (e : Int)
  | tok (kind n : Int) (out rest : List UInt8)
deriving DecidableEq

def wrp (kind : Int) : Res → TRes
  | .bad e => .bad e
  | .ok out rest => .tok kind 0 out rest
def numT (s : List UInt8) : TRes := if (np (s.take (rn s))).2.2 = 0 then .tok (if (np (s.take (rn s))).2.1 = true then 1 else 2) (np (s.take (rn s))).1 [] (s.drop (rn s)) else .bad (np (s.take (rn s))).2.2

/-- the token that stands there -/
def tk : List UInt8 → TRes
  | [] => .tok 0 0 [] []
  | x :: t =>
    if c8 x = 91 then .tok 5 0 [] t
    else if c8 x = 93 then .tok 6 0 [] t
    else if c8 x = 60 ∧ hd t = 60 then .tok 7 0 [] t.tail
    else if c8 x = 62 ∧ hd t = 62 then .tok 8 0 [] t.tail
    else if c8 x = 47 then wrp 4 (nm t [])
    else if c8 x = 40 then wrp 3 (TX t 1 [])
    else if c8 x = 60 then wrp 3 (hx t (-1) [])
    else if c8 x = 43 ∨ c8 x = 45 ∨ c8 x = 46 ∨ 48 ≤ c8 x ∧ c8 x ≤ 57 then numT (x :: t)
    else if rg (c8 x) = true then (if 127 < rn (x :: t) then .bad 3 else .tok 9 0 ((x :: t).take (rn (x :: t))) ((x :: t).drop (rn (x :: t))))
    else .bad 4
/-- blanks, and the token behind them -/
def TK (s : List UInt8) : TRes := tk (s.drop (bl s false))
end Go.Proofs.YtjkoiknjffldjaaGreatDoor

/-
  Plain laws of strings, names, tokens: what is written is read. No program here.
-/
namespace Go.Proofs.YtjkoiknjffldjaaGreatDoor
set_option linter.unusedVariables false

/-- the parts of a string in LexTexts, and what they stand for -/
def pcs : Nat → List UInt8 × List UInt8
  | 0 => ([92, 110], [10])
  | 1 => ([92, 40], [40])
  | 2 => ([92, 41], [41])
  | 3 => ([92, 92], [92])
  | 4 => ([92, 13, 10], [])
  | 5 => ([13, 10], [10])
  | 6 => ([92, 49, 48, 49], [65])
  | 7 => ([92, 48, 53, 51, 56], [43, 56])
  | 8 => ([40, 97, 40, 98, 41, 41], [40, 97, 40, 98, 41, 41])
  | 9 => ([92, 113], [113])
  | 10 => ([92, 53, 48, 48], [64])
  | 11 => ([92, 116, 92, 98, 92, 102, 92, 114], [9, 8, 12, 13])
  | 12 => ([92, 55, 120], [7, 120])
  | _ => ([97, 98, 99, 37, 60, 62], [97, 98, 99, 37, 60, 62])

theorem TX_pcs (k : Nat) (r out : List UInt8) (o : Nat) (ho : 1 ≤ o) (hl : out.length + 8 ≤ 32767) : TX ((pcs k).1 ++ r) o out = TX r o (out ++ (pcs k).2) := by
  have h1 : ¬ 32767 ≤ out.length := by omega
  have h2 : ¬ 32767 ≤ out.length + 1 := by omega
  have h3 : ¬ 32767 ≤ out.length + 1 + 1 := by omega
  have h4 : ¬ 32767 ≤ out.length + 1 + 1 + 1 := by omega
  have h5 : ¬ 32767 ≤ out.length + 1 + 1 + 1 + 1 := by omega
  have h6 : ¬ 32767 ≤ out.length + 1 + 1 + 1 + 1 + 1 := by omega
  have ho0 : ¬ o = 0 := by omega
  rcases k with _ | _ | _ | _ | _ | _ | _ | _ | _ | _ | _ | _ | _ | k
  all_goals
    simp [pcs, TX_cons, es, oc, sk, hd, c8, byteOf, h1, h2, h3, h4, h5, h6, ho0]

/-- parts in a row -/
theorem TX_row : ∀ (ks : List Nat) (r out : List UInt8), out.length + 8 * ks.length ≤ 32767 → TX ((ks.flatMap fun k => (pcs k).1) ++ r) 1 out = TX r 1 (out ++ ks.flatMap fun k => (pcs k).2)
  | [], r, out, h => by simp
  | k :: ks, r, out, h => by
    rw [List.length_cons] at h
    have hp : ((pcs k).2).length ≤ 6 := by
      rcases k with _ | _ | _ | _ | _ | _ | _ | _ | _ | _ | _ | _ | _ | k <;> simp [pcs]
    rw [List.flatMap_cons, List.flatMap_cons, List.append_assoc, TX_pcs k _ out 1 (Nat.le_refl _) (by omega), TX_row ks r _ (by rw [List.length_append]; omega), List.append_assoc]

/-- a string of such parts, between its brackets -/
theorem tk_parts (ks : List Nat) (r : List UInt8) (h : ks.length ≤ 60) : tk (40 :: ((ks.flatMap fun k => (pcs k).1) ++ 41 :: r)) = .tok 3 0 (ks.flatMap fun k => (pcs k).2) r := by
  have h1 := TX_row ks (41 :: r) [] (by simp; omega)
  have e : ∀ t : List UInt8, tk (40 :: t) = wrp 3 (TX t 1 []) := fun t => by simp [tk, c8]
  rw [e, h1, TX_cons]
  simp [c8, wrp]
/-- .. without the end -/
theorem tk_short (ks : List Nat) (h : ks.length ≤ 60) : tk (40 :: (ks.flatMap fun k => (pcs k).1)) = .bad 2 := by
  have h1 := TX_row ks [] [] (by simp; omega)
  rw [List.append_nil] at h1
  have e : ∀ t : List UInt8, tk (40 :: t) = wrp 3 (TX t 1 []) := fun t => by simp [tk, c8]
  rw [e, h1, TX_nil]; rfl
end Go.Proofs.YtjkoiknjffldjaaGreatDoor

/-
  Plain laws of names: what is printed as a name is read. No program here.
-/
namespace Go.Proofs.YtjkoiknjffldjaaGreatDoor
set_option linter.unusedVariables false

/-- a digit of a byte's half -/
def hxd (n : Nat) : UInt8 := if n < 10 then UInt8.ofNat (48 + n) else UInt8.ofNat (87 + n)
/-- a byte in a name, as it is printed -/
def pn1 (c : UInt8) : List UInt8 := if 33 ≤ c8 c ∧ c8 c ≤ 126 ∧ rg (c8 c) = true ∧ ¬ c8 c = 35 then [c] else [35, hxd (c.toNat / 16), hxd (c.toNat % 16)]

theorem hxd_dig : ∀ n : Fin 16, dig (c8 (hxd n.1)) = (n.1 : Int) := by decide +kernel

theorem nm_one (c : UInt8) (r out : List UInt8) (h0 : ¬ c = 0) (hl : out.length < 127) : nm (pn1 c ++ r) out = nm r (out ++ [c]) := by
  unfold pn1
  by_cases h : 33 ≤ c8 c ∧ c8 c ≤ 126 ∧ rg (c8 c) = true ∧ ¬ c8 c = 35
  · rw [if_pos h, List.singleton_append, nm_cons, if_pos h.2.2.1, if_neg h.2.2.2, if_neg (by omega)]
  · rw [if_neg h]
    have hc := c.toNat_lt
    have d1 := hxd_dig ⟨c.toNat / 16, by omega⟩
    have d2 := hxd_dig ⟨c.toNat % 16, by omega⟩
    simp only [] at d1 d2
    have hn : ¬ c.toNat = 0 := fun q => h0 (UInt8.toNat_inj.1 (by simpa using q))
    have r35 : rg (c8 35) = true := by decide
    have c35 : c8 35 = 35 := by decide
    rw [List.cons_append, nm_cons, if_pos r35, if_pos c35]
    simp only [List.cons_append, List.nil_append, hd_cons, List.tail_cons, d1, d2]
    rw [if_neg (by omega), if_neg (by omega)]
    have e : byteOf (16 * ((c.toNat / 16 : Nat) : Int) + ((c.toNat % 16 : Nat) : Int)) = c := by
      rw [show 16 * ((c.toNat / 16 : Nat) : Int) + ((c.toNat % 16 : Nat) : Int) = c8 c by unfold c8; omega, byteOf_c8]
    rw [e]; rfl

/-- a printed name is read as it was -/
theorem nm_print : ∀ (b r out : List UInt8), (∀ c ∈ b, ¬ c = 0) → out.length + b.length ≤ 127 → rg (hd r) = false → nm (b.flatMap pn1 ++ r) out = .ok (out ++ b) r
  | [], r, out, _, _, hr => by
    rw [List.flatMap_nil, List.nil_append, List.append_nil]
    cases r with
    | nil => rfl
    | cons x t => rw [nm_cons, if_neg (by rw [hd_cons] at hr; simp [hr])]
  | c :: b, r, out, h0, hl, hr => by
    rw [List.length_cons] at hl
    rw [List.flatMap_cons, List.append_assoc, nm_one c _ out (h0 c (by simp)) (by omega), nm_print b r _ (fun x hx => h0 x (by simp [hx])) (by simp; omega) hr]
    simp
end Go.Proofs.YtjkoiknjffldjaaGreatDoor

/-
  Plain laws of printed strings: what is printed as a string is read. No program here.
-/
namespace Go.Proofs.YtjkoiknjffldjaaGreatDoor
set_option linter.unusedVariables false

/-- a byte that stands for itself between brackets -/
def plain1 (c : UInt8) : Bool := decide (32 ≤ c8 c) && decide (c8 c ≤ 126) && !(c8 c == 40) && !(c8 c == 41) && !(c8 c == 92)

theorem TX_plain : ∀ (s r out : List UInt8), (∀ c ∈ s, plain1 c = true) → out.length + s.length ≤ 32767 → TX (s ++ 41 :: r) 1 out = .ok (out ++ s) r
  | [], r, out, _, _ => by rw [List.nil_append, TX_cons]; simp [c8]
  | c :: s, r, out, h0, hl => by
    rw [List.length_cons] at hl
    have hc := h0 c (by simp)
    simp only [plain1, Bool.and_eq_true, decide_eq_true_eq, Bool.not_eq_true', beq_eq_false_iff_ne] at hc
    obtain ⟨⟨⟨⟨c1, c2⟩, c3⟩, c4⟩, c5⟩ := hc
    rw [List.cons_append, TX_cons, if_neg c5, if_neg (fun q => c4 q.1), if_neg (by omega), if_neg (by omega), if_neg (by omega), if_neg c3, if_neg c4, TX_plain s r _ (fun x hx => h0 x (by simp [hx])) (by simp; omega)]
    simp

theorem hxd_wh : ∀ n : Fin 16, wh (c8 (hxd n.1)) = false ∧ ¬ c8 (hxd n.1) = 62 := by decide +kernel

/-- two digits for each byte -/
def dgts (s : List UInt8) : List UInt8 := s.flatMap fun c => [hxd (c.toNat / 16), hxd (c.toNat % 16)]

theorem hx_print : ∀ (s r out : List UInt8), out.length + s.length ≤ 32767 → hx (dgts s ++ 62 :: r) (-1) out = .ok (out ++ s) r
  | [], r, out, _ => by
    show hx (62 :: r) (-1) out = _
    rw [hx, if_neg (by decide), if_pos (by decide), if_pos (by decide), List.append_nil]
  | c :: s, r, out, hl => by
    rw [List.length_cons] at hl
    have hc := c.toNat_lt
    have d1 := hxd_dig ⟨c.toNat / 16, by omega⟩
    have d2 := hxd_dig ⟨c.toNat % 16, by omega⟩
    obtain ⟨w1, g1⟩ := hxd_wh ⟨c.toNat / 16, by omega⟩
    obtain ⟨w2, g2⟩ := hxd_wh ⟨c.toNat % 16, by omega⟩
    simp only [] at d1 d2 w1 w2 g1 g2
    have e0 : dgts (c :: s) ++ 62 :: r = hxd (c.toNat / 16) :: hxd (c.toNat % 16) :: (dgts s ++ 62 :: r) := by
      unfold dgts; rw [List.flatMap_cons]; rfl
    have e : byteOf (16 * ((c.toNat / 16 : Nat) : Int) + ((c.toNat % 16 : Nat) : Int)) = c := by
      rw [show 16 * ((c.toNat / 16 : Nat) : Int) + ((c.toNat % 16 : Nat) : Int) = c8 c by unfold c8; omega, byteOf_c8]
    rw [e0, hx, if_neg (by rw [w1]; decide), if_neg g1, d1, if_neg (by omega), if_pos (by decide), hx, if_neg (by rw [w2]; decide), if_neg g2, d2, if_neg (by omega), if_neg (by omega), if_neg (by omega), e, hx_print s r _ (by simp; omega)]
    simp

/-- a string as it is printed -/
def ptx (s : List UInt8) : List UInt8 := if s.all plain1 = true then 40 :: (s ++ [41]) else 60 :: (dgts s ++ [62])

theorem dgts_hd (s : List UInt8) (r : List UInt8) (hr : ¬ hd r = 60) : ¬ hd (dgts s ++ r) = 60 := by
  cases s with
  | nil => exact hr
  | cons c s =>
    have hc := c.toNat_lt
    have : ∀ n : Fin 16, ¬ c8 (hxd n.1) = 60 := by decide +kernel
    exact this ⟨c.toNat / 16, by omega⟩

theorem tk_ptx (s r : List UInt8) (hs : s.length ≤ 32767) : tk (ptx s ++ r) = .tok 3 0 s r := by
  unfold ptx
  by_cases h : s.all plain1 = true
  · have h1 := TX_plain s r [] (fun c hc => List.all_eq_true.1 h c hc) (by simpa using hs)
    have e : ∀ t : List UInt8, tk (40 :: t) = wrp 3 (TX t 1 []) := fun t => by simp [tk, c8]
    rw [if_pos h, List.cons_append, e, List.append_assoc]
    show wrp 3 (TX (s ++ 41 :: r) 1 []) = _
    rw [h1]; rfl
  · have h1 := hx_print s r [] (by simpa using hs)
    have hh := dgts_hd s (62 :: r) (show ¬ c8 62 = 60 by decide)
    have e : ∀ t : List UInt8, ¬ hd t = 60 → tk (60 :: t) = wrp 3 (hx t (-1) []) := fun t q => by simp [tk, c8, q]
    rw [if_neg h, List.cons_append, List.append_assoc]
    show tk (60 :: (dgts s ++ 62 :: r)) = _
    rw [e _ hh, h1]; rfl

/-- a name as it is printed, a string behind it -/
theorem tk_pnm (b r : List UInt8) (h0 : ∀ c ∈ b, ¬ c = 0) (hl : b.length ≤ 127) (hr : rg (hd r) = false) : tk (47 :: (b.flatMap pn1 ++ r)) = .tok 4 0 b r := by
  have h1 := nm_print b r [] h0 (by simpa using hl) hr
  have e : ∀ t : List UInt8, tk (47 :: t) = wrp 4 (nm t []) := fun t => by simp [tk, c8]
  rw [e, h1]; rfl
end Go.Proofs.YtjkoiknjffldjaaGreatDoor

/-
  The document's lexer: it stands at place i, with the bytes s from there on, since a world w0; what it looks at. Condition: it stands in its bytes.
-/
namespace Go.Proofs.YtjkoiknjffldjaaGreatDoor
open Go.RowKit
set_option linter.unusedVariables false

/-- block cp is a lexer of the document, at place i of b, s stands from there on; since w0 all but cp is as it was; u is a row made since w0 -/
structure Cx (w0 w : World) (cp : Nat) (b : List UInt8) (i : Nat) (s : List UInt8) (u : Value) (out : List UInt8) : Prop where
  drp : b.drop i = s
  cur : ∃ ao cap, CurAt w cp ao cap b i ∧ LowS w0 cp cp ao cap b
  held : Held w0.heap.size cp cp w0 w
  row : OwnB w w0.heap.size 5 u out
  off : ∀ k, 2 ≤ k → w.cell? ⟨cp, k, none⟩ = w0.cell? ⟨cp, k, none⟩

theorem CurAt.low {w : World} {cp : Nat} {ao : Option Addr} {cap : Nat} {b : List UInt8} {i : Nat} (h : CurAt w cp ao cap b i) : Low w.heap.size cp cp ao b := by
  refine ⟨World.block_lt_of_cell? _ _ h.c0, World.block_lt_of_cell? _ _ h.c0, fun h0 a ha => ?_⟩
  obtain ⟨bb, off, h1, h2, _⟩ := h.rd.some h0
  rw [h1] at ha; injection ha with ha; subst ha; exact h2
theorem CurAt.under {w w' : World} {B cp : Nat} {ao : Option Addr} {cap : Nat} {b : List UInt8} {i : Nat} (h : CurAt w cp ao cap b i) (hb : Below B w w') (hl : Low B cp cp ao b) : CurAt w' cp ao cap b i := by
  have hc2 : ∀ k u, w.cell? ⟨cp, k, none⟩ = some u → w'.cell? ⟨cp, k, none⟩ = some u := fun k u q => by rw [hb.cell (p := ⟨cp, k, none⟩) hl.cp]; exact q
  have hr : Rd w' ao b := by
    rcases h.rd with q | ⟨g, off, h1, h2⟩
    · exact .inl q
    · rcases Nat.eq_zero_or_pos b.length with h0 | h0
      · exact .inl (List.length_eq_zero_iff.1 h0)
      · exact .inr ⟨g, off, h1, fun j hj => by rw [hb.cell (p := ⟨g, off + j, none⟩) (show g < B from hl.ao h0 _ h1)]; exact h2 j hj⟩
  exact ⟨hc2 _ _ h.c0, hc2 _ _ h.c1, by rw [hb.frozen (p := ⟨cp, 1, none⟩) hl.cp]; exact h.f1, hr, h.le, h.mx, h.ni, h.at_, h.sm, h.ne⟩

section
variable {w0 w w' : World} {cp : Nat} {b : List UInt8} {i : Nat} {s t : List UInt8} {u : Value} {out : List UInt8} {x : UInt8}

theorem Cx.start {ao : Option Addr} {cap : Nat} (h : CurAt w cp ao cap b i) : Cx w w cp b i (b.drop i) (.slice none 0 0) [] :=
  ⟨rfl, ⟨ao, cap, h, ⟨h.low, h.c0⟩⟩, Held.refl _ _ _ _, OwnB.nil _ _ _, fun _ _ => rfl⟩
theorem Cx.at_ (h : Cx w0 w cp b i s u out) : i + s.length = b.length := by
  obtain ⟨ao, cap, h1, h2⟩ := h.cur
  have := h1.at_
  rw [← h.drp, List.length_drop]; omega
theorem Cx.sm (h : Cx w0 w cp b i s u out) : b.length ≤ 4000000 := by
  obtain ⟨ao, cap, h1, h2⟩ := h.cur; exact h1.sm
theorem Cx.rem (h : Cx w0 w cp b i s u out) : remOf w cp = s.length := by
  obtain ⟨ao, cap, h1, h2⟩ := h.cur
  have := h1.at_
  unfold remOf; rw [h1.c0, h1.c1, ← h.drp, List.length_drop]; simp
theorem Cx.c1 (h : Cx w0 w cp b i s u out) : w.cell? ⟨cp, 1, none⟩ = some (.int .i64 i) := by
  obtain ⟨ao, cap, h1, h2⟩ := h.cur; exact h1.c1
theorem Cx.f1 (h : Cx w0 w cp b i s u out) : w.frozen? ⟨cp, 1, none⟩ = false := by
  obtain ⟨ao, cap, h1, h2⟩ := h.cur; exact h1.f1
theorem Cx.size (h : Cx w0 w cp b i s u out) : w0.heap.size ≤ w.heap.size := h.held.size

theorem Cx.keep (h : Cx w0 w cp b i s u out) (hh : Held w.heap.size cp cp w w') {v2 : Value} {l2 : List UInt8} (hr : OwnB w w0.heap.size 5 v2 l2) : OwnB w' w0.heap.size 5 v2 l2 := by
  obtain ⟨ao, cap, h1, h2⟩ := h.cur
  refine hr.held hh fun g hg => ?_
  have h3 := (World.ownsRow.lt hr g hg).1
  have := h2.cp
  exact ⟨by omega, by omega⟩
theorem Cx.next (h : Cx w0 w cp b i s u out) {ao : Option Addr} {cap j : Nat} {s' : List UInt8} (hl : CurAt w' cp ao cap b j) (hlow : LowS w0 cp cp ao cap b) (hs : b.drop j = s') (hh : Held w.heap.size cp cp w w') (ho : ∀ k, 2 ≤ k → w'.cell? ⟨cp, k, none⟩ = w.cell? ⟨cp, k, none⟩) : Cx w0 w' cp b j s' u out :=
  ⟨hs, ⟨ao, cap, hl, hlow⟩, h.held.then' hh, h.keep hh h.row, fun k hk => (ho k hk).trans (h.off k hk)⟩
theorem Cx.below (h : Cx w0 w cp b i s u out) (hb : Below w.heap.size w w') : Cx w0 w' cp b i s u out := by
  obtain ⟨ao, cap, h1, h2⟩ := h.cur
  exact h.next (h1.same hb) h2 h.drp (Held.of_below hb) (fun k _ => hb.cell (p := ⟨cp, k, none⟩) (by have := World.block_lt_of_cell? w _ h1.c0; exact this))
theorem Cx.drew (h : Cx w0 w cp b i s u out) (n : Nat) : Cx w0 (w.drewN n) cp b i s u out := h.below (below_drewN (Below.refl _ _) n)
theorem Cx.take (h : Cx w0 w cp b i s u out) {u2 : Value} {l2 : List UInt8} (hr : OwnB w w0.heap.size 5 u2 l2) : Cx w0 w cp b i s u2 l2 := ⟨h.drp, h.cur, h.held, hr, h.off⟩
theorem Cx.bare (h : Cx w0 w cp b i s u out) : Cx w0 w cp b i s (.slice none 0 0) [] := h.take (OwnB.nil _ _ _)
/-- from here on anew -/
theorem Cx.fresh (h : Cx w0 w cp b i s u out) : Cx w w cp b i s (.slice Option.none 0 0) [] := by
  obtain ⟨ao, cap, h1, h2⟩ := h.cur
  exact ⟨h.drp, ⟨ao, cap, h1, ⟨h2.toLow.mono h.held.size, h1.c0⟩⟩, Held.refl _ _ _ _, OwnB.nil _ _ _, fun _ _ => rfl⟩
theorem Cx.join (h : Cx w0 w cp b i s u out) {j : Nat} {s' : List UInt8} {u' : Value} {out' : List UInt8} (k : Cx w w' cp b j s' u' out') : Cx w0 w' cp b j s' u' out' := by
  obtain ⟨ao, cap, h1, h2⟩ := h.cur
  obtain ⟨ao', cap', k1, k2⟩ := k.cur
  have e := k2.c0
  rw [h1.c0] at e
  injection e with e
  injection e with e1 e2 e3
  subst e1; subst e3
  exact ⟨k.drp, ⟨_, _, k1, h2⟩, h.held.then' k.held, k.row.base h.held.size, fun k2 hk => (k.off k2 hk).trans (h.off k2 hk)⟩
/-- it goes to a place -/
theorem Cx.to (h : Cx w0 w cp b i s u out) (j : Nat) (n : Int) (hn : n = j) (hj : j ≤ b.length) : Cx w0 (w.setCell ⟨cp, 1, none⟩ (.int .i64 n)) cp b j (b.drop j) u out := by
  subst hn
  obtain ⟨ao, cap, h1, h2⟩ := h.cur
  exact h.next (h1.set hj) h2 rfl (Held.set _ _ _ (.inl rfl)) (fun k hk => cset_ne (fun q => by injection q with _ q2; omega))
theorem Cx.adv (h : Cx w0 w cp b i (x :: t) u out) (n : Int) (hn : n = (i : Int) + 1) : Cx w0 (w.setCell ⟨cp, 1, none⟩ (.int .i64 n)) cp b (i + 1) t u out := by
  have h1 := lt_of_drop h.drp
  have := h.to (i + 1) n (by omega) (by omega)
  rwa [drop_succ_of h.drp] at this
/-- the row grows -/
theorem Cx.grow (h : Cx w0 w cp b i s u out) {w1 : World} {u2 : Value} {l2 : List UInt8} (hb : Below w0.heap.size w w1) (hr : OwnB w1 w0.heap.size 5 u2 l2) : Cx w0 w1 cp b i s u2 l2 := by
  obtain ⟨ao, cap, h1, h2⟩ := h.cur
  exact ⟨h.drp, ⟨ao, cap, h1.under hb h2.toLow, h2⟩, h.held.trans (Held.of_below hb), hr, fun k hk => (hb.cell (p := ⟨cp, k, none⟩) h2.cp).trans (h.off k hk)⟩
theorem Cx.app (h : Cx w0 w cp b i s u out) {o : Obj} {w1 : World} {u1 : Value} {l1 : List UInt8} (q1 : OwnB w1 w0.heap.size 5 u1 l1) (q2 : (w.alloc o).grownBy w1 u.ownBlock) : Cx w0 w1 cp b i s u1 l1 :=
  h.grow (below_append ((Below.refl _ _).alloc h.held.size o) (h.row.alloc o) q2 (Nat.le_refl _) (by have := h.held.size; simp; omega)) q1
end

theorem Rd.byteN (w : World) (n : Int) (e : TypeId) (h : 0 ≤ n) (h' : n ≤ 255) : Rd (w.alloc (.cells #[.int .u8 n] e)) (Option.some ⟨w.heap.size, 0, none⟩) [byteOf n] := by
  have h2 := Rd.one w n e h h'
  have e1 : UInt8.ofNat n.toNat = byteOf n := by unfold byteOf; rw [show n % 256 = n by omega]
  rwa [e1] at h2

end Go.Proofs.YtjkoiknjffldjaaGreatDoor
