/-
  Operators that came in: names, operands, images, and how much they hold. Conditions: none but what is said.
-/
import Derived.Test.YtjkoiknjffldjaaGreatDoorKGz
/-
  Operators that came in: names, operands, images, and how much they hold. Conditions: none but what is said.
-/
namespace Go.Proofs.YtjkoiknjffldjaaGreatDoor
open Go.ChangeShapes Go.WideShapes Go.ChangeAt Go.RowKit
set_option linter.unusedVariables false

variable {H : Type} {enc : TypeId × Value → H}
/-- an operator that came in, of at most Z values and letters -/
structure WO where
  name : List UInt8
  args : List PO
  data : List UInt8
def WV (w : World) (Z : Nat) (c : List Value) (o : WO) : Prop := ∃ va vd at_, c = [.string (st o.name), va, vd, .int .i64 at_] ∧ GVs w va o.args ∧ Sl w vd o.data ∧ o.name.length ≤ Z ∧ o.data.length ≤ Z ∧ o.args.length ≤ Z ∧ ∀ a ∈ o.args, ∀ dp, szF dp a ≤ Z
theorem bulk_mem : ∀ {D : List (DataW H)} {d : DataW H}, d ∈ D → Rows.uptoBulk d ≤ Rows.uptoBulkAll D
  | e :: D, d, h => by
    rw [Rows.uptoBulkAll]
    rcases List.mem_cons.1 h with q | q
    · subst q; omega
    · have := bulk_mem q; omega
theorem bulk_pos (d : DataW H) : 1 ≤ Rows.uptoBulk d := by
  unfold Rows.uptoBulk
  split <;> omega
theorem bulk_len : ∀ D : List (DataW H), D.length ≤ Rows.uptoBulkAll D
  | [] => by simp
  | d :: D => by
    have := bulk_len D
    have := bulk_pos d
    rw [Rows.uptoBulkAll, List.length_cons]; omega
set_option maxHeartbeats 800000 in
set_option maxRecDepth 100000 in
theorem gvz_open {W : World} {fuel : Nat} {cs : List Value} {x : DataW H × List MemPlace} (h : DataW.trod enc Tryz.prog W 0 (fun _ => true) true fuel 25 cs = some x) (hw : ∀ m ∈ x.1.weights Tryz.prog 25, m ≤ reachBytes) : ∃ v l, cs = [v] ∧ GVs W v l ∧ l.length ≤ Rows.uptoBulk x.1 ∧ ∀ a ∈ l, ∀ dp, szF dp a ≤ Rows.uptoBulk x.1 := by
  obtain ⟨v2, C, n, D, Dr, e, hD, hS, hn, hl, he⟩ := slx_open (sz := 5) Tryz.underlying25 (by kernel_rfl) (by decide) h
  obtain ⟨hz, hw2⟩ := slx_weight (x := []) Tryz.underlying25 hD hw (by decide +kernel)
  have hbk := bulk_slice hD
  have hlen := bulk_len D
  have hL : ∀ i, ∃ o, ∀ h : i < C.length, GV W C[i] o ∧ ∀ dp, szF dp o ≤ Rows.uptoBulk x.1 := fun i => by
    by_cases hi : i < C.length
    · obtain ⟨p, hp⟩ := he i hi (by omega)
      obtain ⟨o, ho, hoz⟩ := gz_open n _ _ hp (hw2 _ (List.getElem_mem _))
      refine ⟨o, fun _ => ⟨ho, fun dp => ?_⟩⟩
      have h1 := hoz dp
      have h2 := bulk_mem (List.getElem_mem (show i < D.length by omega))
      simp only [] at h1
      omega
    · exact ⟨poNull, fun q => absurd q hi⟩
  obtain ⟨F, hF⟩ := Classical.axiomOfChoice hL
  refine ⟨v2, (List.range C.length).map F, e, ⟨C, hS, All2.of (by simp) fun i h1 h2 => ?_⟩, by simp; omega, fun a ha dp => ?_⟩
  · rw [List.getElem_map, List.getElem_range]; exact (hF i h1).1
  · obtain ⟨i, hi, rfl⟩ := List.mem_map.1 ha
    exact (hF i (List.mem_range.1 hi)).2 dp
set_option maxHeartbeats 800000 in
set_option maxRecDepth 100000 in
theorem wv_open {W : World} {v : Value} {d : DataW H} {p : List MemPlace} {base : Nat} (hk : Value.okWide Tryz.prog W .any base 22 v) (h : DataW.Trod enc Tryz.prog W 0 (fun _ => true) true 22 v d p) (hw : ∀ m ∈ d.weights Tryz.prog 22, m ≤ reachBytes) {Z : Nat} (hZ : Rows.uptoBulk d ≤ Z) :
    ∃ C l, SlX 4 W v C ∧ All2 (WV W Z) C l := by
  obtain ⟨a0, len, cap, rfl⟩ := okWide_slice Tryz.underlying22 hk
  obtain ⟨fuel, hf⟩ := h
  obtain ⟨v2, C, n, D, Dr, e, hD, hS, hn, hl, he⟩ := slx_open (sz := 4) Tryz.underlying22 (by kernel_rfl) (by decide) hf
  simp [Value.cells] at e
  subst e
  obtain ⟨hz, hw2⟩ := slx_weight (x := []) Tryz.underlying22 hD hw (by decide +kernel)
  have hbk : Rows.uptoBulkAll D + 1 ≤ Rows.uptoBulk d := bulk_slice hD
  have hL : ∀ i, ∃ o, ∀ h : i < C.length, WV W Z C[i] o := fun i => by
    by_cases hi : i < C.length
    · obtain ⟨p, hp⟩ := he i hi (by omega)
      have hwe := hw2 _ (List.getElem_mem (show i < D.length by omega))
      have hbe := bulk_mem (List.getElem_mem (show i < D.length by omega))
      suffices hs : ∃ o, WV W Z (C[i]'hi) o by
        obtain ⟨o, ho⟩ := hs
        exact ⟨o, fun _ => ho⟩
      generalize C[i] = cs at hp ⊢
      obtain ⟨zs, n3, rfl, hze, hcl, hxl, hf2⟩ := DataW.trod_struct Tryz.underlying27 hp
      rw [show Tryz.prog.cellsOf 27 = 4 from by kernel_rfl] at hcl
      match zs, hxl, cs, hcl with
      | [y0, y1, y2, y3], _, [a0, a1, a2, a3], _ =>
        have g0 : DataW.trod enc Tryz.prog W 0 (fun _ => true) true n3 9 [a0] = some y0 := fld (t := 0) hf2 (i := 0) rfl (k := 1) (by kernel_rfl)
        have g1 : DataW.trod enc Tryz.prog W 0 (fun _ => true) true n3 25 [a1] = some y1 := fld (t := 0) hf2 (i := 1) rfl (k := 1) (by kernel_rfl)
        have g2 : DataW.trod enc Tryz.prog W 0 (fun _ => true) true n3 24 [a2] = some y2 := fld (t := 0) hf2 (i := 2) rfl (k := 1) (by kernel_rfl)
        have g3 : DataW.trod enc Tryz.prog W 0 (fun _ => true) true n3 3 [a3] = some y3 := fld (t := 0) hf2 (i := 3) rfl (k := 1) (by kernel_rfl)
        injection hze with hze _
        rw [hze, DataW.weights, Tryz.underlying27] at hwe
        simp only [List.map_cons, List.map_nil, DataW.weightsEach, List.mem_append, List.append_nil] at hwe
        rw [hze, List.map_cons, List.map_cons, List.map_cons, List.map_cons, List.map_nil, Rows.uptoBulk, Rows.uptoBulkAll, Rows.uptoBulkAll, Rows.uptoBulkAll, Rows.uptoBulkAll, Rows.uptoBulkAll] at hbe
        obtain ⟨s, e0, ex, -⟩ := DataW.trod_string Tryz.underlying9 g0
        injection e0 with e0
        subst e0
        obtain ⟨va, l, e1, hl1, hl2, hl3⟩ := gvz_open g1 (fun m hm => hwe m (.inr (.inl hm)))
        injection e1 with e1
        subst e1
        obtain ⟨vd, b, e2, hb1, -, hb2⟩ := sl_cells2 g2 (fun m hm => hwe m (.inr (.inr (.inl hm))))
        injection e2 with e2
        subst e2
        obtain ⟨k, e3, -, -⟩ := DataW.trod_int Tryz.underlying3 g3
        injection e3 with e3
        subst e3
        have hs : s.data.toList.length + 1 ≤ Rows.uptoBulk y0.1 := by rw [ex, Rows.uptoBulk]; exact Nat.le_refl _
        exact ⟨⟨s.data.toList, l, b⟩, _, _, _, by rw [st_self], hl1, hb1, by show s.data.toList.length ≤ Z; omega, by show b.length ≤ Z; omega, by show l.length ≤ Z; omega, fun a ha dp => by have := hl3 a ha dp; omega⟩
    · exact ⟨⟨[], [], []⟩, fun q => absurd q hi⟩
  obtain ⟨F, hF⟩ := Classical.axiomOfChoice hL
  refine ⟨C, (List.range C.length).map F, hS, All2.of (by simp) fun i h1 h2 => ?_⟩
  rw [List.getElem_map, List.getElem_range]; exact hF i h1
theorem SlX.row {sz : Nat} {w : World} {v : Value} {C : List (List Value)} (h : SlX sz w v C) : RowA (fun _ => True) w sz v C.length (fun i => C.getD i []) := by
  obtain ⟨ao, cap, rfl, h1, h2, h3, h4, h5⟩ := h
  refine ⟨ao, cap, rfl, h1, h2, h3, fun i hi => ?_, ?_⟩
  · simp only [getD_at hi]; exact h4 _ (List.getElem_mem hi)
  · rcases h5 with rfl | ⟨g, off, rfl, h6⟩
    · exact .inl rfl
    · refine .inr ⟨g, off, rfl, trivial, fun i hi j u hu => ?_⟩
      simp only [getD_at hi] at hu
      have h7 := h6 i hi j u hu
      rw [show off + (sz * i + j) = off + i * sz + j by rw [Nat.mul_comm sz i]; omega]
      exact h7
/-- an object that is no greater than Z lies in memory as the walks have it -/
theorem GV.ov {w : World} {vs : List Value} {o : PO} (h : GV w vs o) (hz : ∀ dp, szF dp o ≤ 4000000) : OV (fun _ => True) w vs o := by
  induction h with
  | mk k n vb vl vd b l d Cl Cd hk hb hbz hl hle hlz hl' hd hde hdz hk' hd' ih1 ih2 =>
    have h1 := szF_parts (hz 1)
    have hA : ∀ g : Nat, (fun _ : Nat => True) g := fun _ => trivial
    refine .mk k n vb vl vd b l d (fun i => Cl.getD i []) (fun i => Cd.getD i []) ⟨hb, fun g _ => trivial⟩ ?_ (fun i hi => ?_) ?_ (fun i hi => ?_) (fun i hi => ?_) ⟨h1.1, h1.2.1, h1.2.2.1⟩
    · rw [← hle]; exact hl.row
    · rw [getD_at (by omega)]
      exact ih1 i (by omega) hi fun dp => (szF_parts (hz (dp + 1))).2.2.2.1 _ (List.getElem_mem hi)
    · rw [← hde]; exact hd.row
    · rw [getD_at (by omega)]; exact (hk' i (by omega) hi).1
    · rw [getD_at (by omega)]
      exact ih2 i (by omega) hi fun dp => ((szF_parts (hz (dp + 1))).2.2.2.2 _ (List.getElem_mem hi)).2
end Go.Proofs.YtjkoiknjffldjaaGreatDoor
