/-
  Objects that came in: what they hold is no more than what was read. Conditions: none but what is said.
-/
import Derived.Test.YtjkoiknjffldjaaGreatDoorKGv
import Derived.Test.YtjkoiknjffldjaaGreatDoorKSz
/-
  Objects that came in: what they hold is no more than what was read. Conditions: none but what is said.
-/
namespace Go.Proofs.YtjkoiknjffldjaaGreatDoor
open Go.ChangeShapes Go.WideShapes Go.ChangeAt Go.RowKit
set_option linter.unusedVariables false

variable {H : Type} {enc : TypeId × Value → H}
theorem bulk_lits {k : IntKind} : ∀ zs : List Int, Rows.uptoBulkAll (H := H) (lits k zs) = zs.length
  | [] => rfl
  | z :: zs => by
    have := bulk_lits (k := k) zs
    unfold lits at this ⊢
    rw [List.map_cons, Rows.uptoBulkAll, Rows.uptoBulk, this, List.length_cons]
    · omega
    · intro b q; cases q
theorem bulk_slice {D Dr : List (DataW H)} {d : DataW H} (h : d = .nil ∧ D = [] ∨ d = .slice D Dr) : Rows.uptoBulkAll D + 1 ≤ Rows.uptoBulk d := by
  rcases h with ⟨rfl, rfl⟩ | rfl
  · rw [Rows.uptoBulk, Rows.uptoBulkAll]; omega
  · rw [Rows.uptoBulk]; omega
theorem sum_bulk (f : Nat → Nat) : ∀ (D : List (DataW H)), (∀ i (h : i < D.length), f i ≤ Rows.uptoBulk D[i]) → ((List.range D.length).map f).sum ≤ Rows.uptoBulkAll D := by
  intro D
  induction D generalizing f with
  | nil => intro _; simp
  | cons d D ih =>
    intro h
    have h0 := h 0 (by simp)
    have h1 := ih (fun i => f (i + 1)) fun i hi => by have := h (i + 1) (by simpa using hi); simpa using this
    rw [List.length_cons, List.range_succ_eq_map, List.map_cons, List.sum_cons, List.map_map, Rows.uptoBulkAll]
    have h0 : f 0 ≤ Rows.uptoBulk d := h0
    have e : (f ∘ Nat.succ) = fun i => f (i + 1) := rfl
    rw [e]
    omega
theorem sl_cells2 {W : World} {fuel : Nat} {cs : List Value} {x : DataW H × List MemPlace} (h : DataW.trod enc Tryz.prog W 0 (fun _ => true) true fuel 24 cs = some x) {B : Nat} (hw : ∀ m ∈ x.1.weights Tryz.prog 24, m ≤ B) :
    ∃ v l, cs = [v] ∧ Sl W v l ∧ l.length ≤ B ∧ l.length + 1 ≤ Rows.uptoBulk x.1 := by
  rcases open_ints Tryz.underlying24 Tryz.underlying5 (by kernel_rfl) h with ⟨rfl, rfl⟩ | ⟨a, len, cap, zs, rfl, _, hl, hm, hz, hx, hcell, hwz⟩
  · exact ⟨_, [], rfl, Sl.nil W, Nat.zero_le _, by rw [Rows.uptoBulk]; simp⟩
  · simp only [if_true] at hz
    obtain ⟨l, h1, h2⟩ := sl_of_ints hl hm (by omega) hcell hwz
    refine ⟨_, l, rfl, h2, ?_, ?_⟩
    · rw [hx] at hw
      have h3 := (slx_weight (x := []) Tryz.underlying24 (.inr rfl) hw (by decide +kernel)).1
      unfold lits at h3
      rw [List.length_map, List.length_take] at h3
      omega
    · rw [hx, Rows.uptoBulk, bulk_lits, bulk_lits, List.length_take]
      omega

set_option maxHeartbeats 800000 in
set_option maxRecDepth 100000 in
/-- an object that came in -/
theorem gz_open {W : World} : ∀ (fuel : Nat) (cs : List Value) (x : DataW H × List MemPlace), DataW.trod enc Tryz.prog W 0 (fun _ => true) true fuel 34 cs = some x → (∀ m ∈ x.1.weights Tryz.prog 34, m ≤ reachBytes) → ∃ o, GV W cs o ∧ ∀ dp, szF dp o ≤ Rows.uptoBulk x.1 := by
  intro fuel
  induction fuel using Nat.strongRecOn with
  | _ fuel ih =>
    intro cs x h hw
    obtain ⟨xs, n, rfl, rfl, hcl, hxl, hf⟩ := DataW.trod_struct Tryz.underlying34 h
    rw [show Tryz.prog.cellsOf 34 = 5 from by kernel_rfl] at hcl
    match xs, hxl, cs, hcl with
    | [y0, y1, y2, y3, y4], _, [c0, c1, c2, c3, c4], _ =>
      have f0 : DataW.trod enc Tryz.prog W 0 (fun _ => true) true n 3 [c0] = some y0 := fld (t := 0) hf (i := 0) rfl (k := 1) (by kernel_rfl)
      have f1 : DataW.trod enc Tryz.prog W 0 (fun _ => true) true n 2 [c1] = some y1 := fld (t := 0) hf (i := 1) rfl (k := 1) (by kernel_rfl)
      have f2 : DataW.trod enc Tryz.prog W 0 (fun _ => true) true n 24 [c2] = some y2 := fld (t := 0) hf (i := 2) rfl (k := 1) (by kernel_rfl)
      have f3 : DataW.trod enc Tryz.prog W 0 (fun _ => true) true n 25 [c3] = some y3 := fld (t := 0) hf (i := 3) rfl (k := 1) (by kernel_rfl)
      have f4 : DataW.trod enc Tryz.prog W 0 (fun _ => true) true n 32 [c4] = some y4 := fld (t := 0) hf (i := 4) rfl (k := 1) (by kernel_rfl)
      rw [DataW.weights, Tryz.underlying34] at hw
      simp only [List.map_cons, List.map_nil, DataW.weightsEach, List.mem_append, List.append_nil] at hw
      have w2 : ∀ m ∈ y2.1.weights Tryz.prog 24, m ≤ reachBytes := fun m hm => hw m (.inr (.inr (.inl hm)))
      have w3 : ∀ m ∈ y3.1.weights Tryz.prog 25, m ≤ reachBytes := fun m hm => hw m (.inr (.inr (.inr (.inl hm))))
      have w4 : ∀ m ∈ y4.1.weights Tryz.prog 32, m ≤ reachBytes := fun m hm => hw m (.inr (.inr (.inr (.inr hm))))
      clear hw hf h
      obtain ⟨k, e0, -, k1⟩ := DataW.trod_int Tryz.underlying3 f0
      obtain ⟨nn, e1, -, n1⟩ := DataW.trod_int Tryz.underlying2 f1
      injection e0 with e0
      injection e1 with e1
      subst e0 e1
      obtain ⟨vb, b, e2, hb, hbz, hbk⟩ := sl_cells2 f2 w2
      injection e2 with e2
      subst e2
      obtain ⟨vl, Cl, m, D, Dr, e3, hD, hSl, hmn, hlD, hel⟩ := slx_open (sz := 5) Tryz.underlying25 (by kernel_rfl) (by decide) f3
      injection e3 with e3
      subst e3
      obtain ⟨hDz, hDw⟩ := slx_weight (x := []) Tryz.underlying25 hD w3 (by decide +kernel)
      have hL : ∀ i, ∃ o, ∀ h : i < Cl.length, GV W Cl[i] o ∧ ∀ h2 : i < D.length, ∀ dp, szF dp o ≤ Rows.uptoBulk D[i] := fun i => by
        by_cases hi : i < Cl.length
        · obtain ⟨p, hp⟩ := hel i hi (by omega)
          obtain ⟨o, ho, hoz⟩ := ih m (by omega) _ _ hp (hDw _ (List.getElem_mem _))
          exact ⟨o, fun _ => ⟨ho, fun _ => hoz⟩⟩
        · exact ⟨poNull, fun q => absurd q hi⟩
      obtain ⟨vd, Cd, m2, E, Er, e4, hE, hSd, hmn2, hlE, hee⟩ := slx_open (sz := 6) Tryz.underlying32 (by kernel_rfl) (by decide) f4
      injection e4 with e4
      subst e4
      obtain ⟨hEz, hEw⟩ := slx_weight (x := []) Tryz.underlying32 hE w4 (by decide +kernel)
      have hM : ∀ i, ∃ z : List UInt8 × PO, ∀ h : i < Cd.length, (((Cd[i]).head? = some (.string (st z.1)) ∧ z.1.length ≤ reachBytes) ∧ GV W (Cd[i]).tail z.2) ∧ ∀ h2 : i < E.length, ∀ dp, z.1.length + 1 + szF dp z.2 ≤ Rows.uptoBulk E[i] := fun i => by
        by_cases hi : i < Cd.length
        · obtain ⟨p, hp⟩ := hee i hi (by omega)
          have hwe := hEw _ (List.getElem_mem (show i < E.length by omega))
          suffices hs : ∃ z : List UInt8 × PO, (((Cd[i]'hi).head? = some (.string (st z.1)) ∧ z.1.length ≤ reachBytes) ∧ GV W (Cd[i]'hi).tail z.2) ∧ ∀ h2 : i < E.length, ∀ dp, z.1.length + 1 + szF dp z.2 ≤ Rows.uptoBulk E[i] by
            obtain ⟨z, hz⟩ := hs
            exact ⟨z, fun _ => hz⟩
          generalize Cd[i] = cs at hp ⊢
          obtain ⟨zs, n3, rfl, hze, hcl, hxl, hf⟩ := DataW.trod_struct Tryz.underlying41 hp
          rw [show Tryz.prog.cellsOf 41 = 6 from by kernel_rfl] at hcl
          match zs, hxl, cs, hcl with
          | [u0, u1], _, [a0, a1, a2, a3, a4, a5], _ =>
            have g0 : DataW.trod enc Tryz.prog W 0 (fun _ => true) true n3 9 [a0] = some u0 := fld (t := 0) hf (i := 0) rfl (k := 1) (by kernel_rfl)
            have g1 : DataW.trod enc Tryz.prog W 0 (fun _ => true) true n3 34 [a1, a2, a3, a4, a5] = some u1 := fld (t := 0) hf (i := 1) rfl (k := 5) (by kernel_rfl)
            injection hze with hze _
            rw [hze, DataW.weights, Tryz.underlying41] at hwe
            simp only [List.map_cons, List.map_nil, DataW.weightsEach, List.mem_append, List.append_nil] at hwe
            obtain ⟨s, e0, ex, -⟩ := DataW.trod_string Tryz.underlying9 g0
            injection e0 with e0
            subst e0
            obtain ⟨o, ho, hoz⟩ := ih n3 (by omega) _ _ g1 (fun m hm => hwe m (.inr hm))
            refine ⟨(s.data.toList, o), ⟨⟨by rw [st_self]; rfl, ?_⟩, ho⟩, fun _ dp => ?_⟩
            rotate_left
            · have h9 := hoz dp
              rw [hze, List.map_cons, List.map_cons, List.map_nil, Rows.uptoBulk, Rows.uptoBulkAll, Rows.uptoBulkAll, Rows.uptoBulkAll, ex, Rows.uptoBulk]
              show s.data.toList.length + 1 + szF dp o ≤ _
              omega
            refine hwe _ (.inl ?_)
            rw [ex, DataW.weights]
            exact List.mem_singleton.2 rfl
        · exact ⟨([], poNull), fun q => absurd q hi⟩
      obtain ⟨FL, hFL⟩ := Classical.axiomOfChoice hL
      obtain ⟨FD, hFD⟩ := Classical.axiomOfChoice hM
      refine ⟨.mk k nn b ((List.range Cl.length).map FL) ((List.range Cd.length).map FD), .mk k nn _ _ _ b _ _ Cl Cd ⟨i64_wf k1, i64_wf n1⟩ hb hbz hSl (by simp) (by simp; omega) (fun i h1 h2 => ?_) hSd (by simp) (by simp; omega) (fun i h1 h2 => ?_) (fun i h1 h2 => ?_), fun dp => ?_⟩
      · rw [List.getElem_map, List.getElem_range]; exact (hFL i h1).1
      · rw [List.getElem_map, List.getElem_range]; exact (hFD i h1).1.1
      · rw [List.getElem_map, List.getElem_range]; exact (hFD i h1).1.2
      · have q3 := bulk_slice hD
        have q4 := bulk_slice hE
        have s1 : ∀ f : PO → Nat, (∀ i (h1 : i < Cl.length) (h2 : i < D.length), f (FL i) ≤ Rows.uptoBulk D[i]) → (((List.range Cl.length).map FL).map f).sum ≤ Rows.uptoBulkAll D := fun f hf => by
          rw [List.map_map, hlD]
          exact sum_bulk _ D fun i hi => hf i (by omega) hi
        have s2 : ∀ f : PO → Nat, (∀ i (h1 : i < Cd.length) (h2 : i < E.length), (FD i).1.length + 1 + f (FD i).2 ≤ Rows.uptoBulk E[i]) → (((List.range Cd.length).map FD).map fun e => e.1.length + 1 + f e.2).sum ≤ Rows.uptoBulkAll E := fun f hf => by
          rw [List.map_map, hlE]
          exact sum_bulk _ E fun i hi => hf i (by omega) hi
        have hgo : ∀ f : PO → Nat, (∀ i (h1 : i < Cl.length) (h2 : i < D.length), f (FL i) ≤ Rows.uptoBulk D[i]) → (∀ i (h1 : i < Cd.length) (h2 : i < E.length), (FD i).1.length + 1 + f (FD i).2 ≤ Rows.uptoBulk E[i]) → szS f (.mk k nn b ((List.range Cl.length).map FL) ((List.range Cd.length).map FD)) ≤ Rows.uptoBulk (.agg (List.map (·.1) [y0, y1, y2, y3, y4])) := fun f h1 h2 => by
          have a1 := s1 f h1
          have a2 := s2 f h2
          rw [szS, List.map_cons, List.map_cons, List.map_cons, List.map_cons, List.map_cons, List.map_nil, Rows.uptoBulk, Rows.uptoBulkAll, Rows.uptoBulkAll, Rows.uptoBulkAll, Rows.uptoBulkAll, Rows.uptoBulkAll, Rows.uptoBulkAll]
          omega
        cases dp with
        | zero => exact hgo _ (fun i h1 h2 => by have := (hFL i h1).2 h2 0; have := szF_pos 0 (FL i); omega) (fun i h1 h2 => by have := (hFD i h1).2 h2 0; have := szF_pos 0 (FD i).2; omega)
        | succ dp => exact hgo _ (fun i h1 h2 => (hFL i h1).2 h2 dp) (fun i h1 h2 => (hFD i h1).2 h2 dp)

end Go.Proofs.YtjkoiknjffldjaaGreatDoor
