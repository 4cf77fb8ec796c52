/-
  Objects that came in, of whatever size: five values, rows of items and of entries behind them. Conditions: none but what is said.
-/
import Derived.Test.YtjkoiknjffldjaaGreatDoorKLift
import Derived.Test.YtjkoiknjffldjaaGreatDoorHa
/-
  Objects that came in, of whatever size: five values, rows of items and of entries behind them. Conditions: none but what is said.
-/
namespace Go.Proofs.YtjkoiknjffldjaaGreatDoor
open Go.ChangeShapes Go.WideShapes Go.ChangeAt Go.RowKit
set_option linter.unusedVariables false

/-- these five values are the object, of whatever size -/
inductive GV (w : World) : List Value → PO → Prop
  | mk (k n : Int) (vb vl vd : Value) (b : List UInt8) (l : List PO) (d : List (List UInt8 × PO)) (Cl Cd : List (List Value))
      (hk : (-9223372036854775808 ≤ k ∧ k ≤ 9223372036854775807) ∧ (-9223372036854775808 ≤ n ∧ n ≤ 9223372036854775807)) (hb : Sl w vb b) (hbz : b.length ≤ reachBytes)
      (hl : SlX 5 w vl Cl) (hle : Cl.length = l.length) (hlz : l.length ≤ reachBytes) (hl' : ∀ i (h : i < Cl.length) (h2 : i < l.length), GV w Cl[i] l[i])
      (hd : SlX 6 w vd Cd) (hde : Cd.length = d.length) (hdz : d.length ≤ reachBytes) (hk' : ∀ i (h : i < Cd.length) (h2 : i < d.length), (Cd[i]).head? = some (.string (st d[i].1)) ∧ d[i].1.length ≤ reachBytes)
      (hd' : ∀ i (h : i < Cd.length) (h2 : i < d.length), GV w (Cd[i]).tail d[i].2) :
      GV w [.int .i64 k, .int .i64 n, vb, vl, vd] (.mk k n b l d)
theorem GV.up {w w' : World} {vs : List Value} {o : PO} (h : GV w vs o) (hb : Below w.heap.size w w') : GV w' vs o := by
  induction h with
  | mk k n vb vl vd b l d Cl Cd hk hb1 hbz hl hle hlz hl' hd hde hdz hk' hd' ih1 ih2 => exact .mk k n vb vl vd b l d Cl Cd hk (hb1.up hb) hbz (hl.up hb) hle hlz ih1 (hd.up hb) hde hdz hk' ih2

variable {H : Type} {enc : TypeId × Value → H}

theorem st_self (s : ByteArray) : st s.data.toList = s := by cases s; simp [st]
theorem adde (g off i : Nat) : (⟨g, off, none⟩ : Addr).add i = ⟨g, off + i, none⟩ := by cases i <;> simp [Addr.add]

/-- a slice of elements of sz cells that came in: the elements' cells, each with what it reads as -/
theorem slx_open {W : World} {t e : TypeId} {sz fuel : Nat} {cs : List Value} {x : DataW H × List MemPlace} (ht : Tryz.prog.underlying t = some (.slice e)) (hsz : Tryz.prog.cellsOf e = sz) (hpos : 0 < sz) (h : DataW.trod enc Tryz.prog W 0 (fun _ => true) true fuel t cs = some x) :
    ∃ v C n, ∃ (D Dr : List (DataW H)), cs = [v] ∧ (x.1 = .nil ∧ D = [] ∨ x.1 = .slice D Dr) ∧ SlX sz W v C ∧ n < fuel ∧ C.length = D.length ∧ ∀ i (h1 : i < C.length) (h2 : i < D.length), ∃ p, DataW.trod enc Tryz.prog W 0 (fun _ => true) true n e C[i] = some (D[i], p) := by
  rcases DataW.trod_slice ht h with ⟨rfl, rfl⟩ | ⟨a, len, cap, elems, rest, n, rfl, rfl, rfl, -, hl, hm, hlen, hel, -, -⟩
  · refine ⟨_, [], 0, [], [], rfl, .inl ⟨rfl, rfl⟩, SlX.nil _ _, ?_, rfl, fun i h1 => absurd h1 (Nat.not_lt_zero _)⟩
    cases fuel with
    | zero => simp [DataW.trod] at h
    | succ m => omega
  · rw [hsz] at hel
    have hc : ∀ i, i < len → ∃ ci y, W.cells? 0 (a.add (i * sz)) sz = some ci ∧ DataW.trod enc Tryz.prog W 0 (fun _ => true) true n e ci = some y ∧ elems[i]? = some y := fun i hi => by
      have h1 := hel i hi
      have h2 : elems[i]? = some (elems[i]'(by omega)) := List.getElem?_eq_getElem (by omega)
      rw [h2] at h1
      obtain ⟨ci, h3, h4⟩ := Option.bind_eq_some_iff.1 h1
      exact ⟨ci, _, h3, h4, h2⟩
    let F : Nat → List Value := fun i => (W.cells? 0 (a.add (i * sz)) sz).getD []
    have hF : ∀ i, i < len → ∃ y, W.cells? 0 (a.add (i * sz)) sz = some (F i) ∧ DataW.trod enc Tryz.prog W 0 (fun _ => true) true n e (F i) = some y ∧ elems[i]? = some y := fun i hi => by
      obtain ⟨ci, y, h1, h2, h3⟩ := hc i hi
      have : F i = ci := by show (W.cells? 0 (a.add (i * sz)) sz).getD [] = ci; rw [h1]; rfl
      rw [this]
      exact ⟨y, h1, h2, h3⟩
    refine ⟨_, (List.range len).map F, n, elems.map (·.1), rest.map (·.1), rfl, .inr rfl, ?_, by omega, by simp [hlen], fun i h1 h2 => ?_⟩
    · refine ⟨some a, cap, by simp, by simpa using hl, hm, (fun q => by cases q), fun c hc => ?_, ?_⟩
      · obtain ⟨i, hi, rfl⟩ := List.mem_map.1 hc
        obtain ⟨y, h1, -, -⟩ := hF i (List.mem_range.1 hi)
        exact (World.cells?_some h1).2.1
      · rcases Nat.eq_zero_or_pos len with h0 | h0
        · left; rw [h0]; rfl
        right
        obtain ⟨g, off, spot⟩ := a
        have hspot : spot = none := by
          obtain ⟨y, h1, -, -⟩ := hF 0 h0
          obtain ⟨-, h2, h3⟩ := World.cells?_some h1
          have h4 := h3 0 hpos
          rw [List.getElem?_eq_getElem (by omega)] at h4
          simpa [Addr.add] using World.cell?_spot h4
        subst hspot
        refine ⟨g, off, rfl, fun i hi j u hu => ?_⟩
        rw [List.length_map, List.length_range] at hi
        rw [List.getElem_map, List.getElem_range] at hu
        obtain ⟨y, h1, -, -⟩ := hF i hi
        obtain ⟨-, h2, h3⟩ := World.cells?_some h1
        have hj : j < sz := by
          have := (List.getElem?_eq_some_iff.1 hu).1
          omega
        have h4 := h3 j hj
        rw [adde, adde] at h4
        rw [h4]; exact hu
    · have hi : i < len := by simpa using h1
      obtain ⟨y, -, h3, h4⟩ := hF i hi
      rw [List.getElem_map, List.getElem_range, List.getElem_map]
      have h5 : elems[i]? = some (elems[i]'(by omega)) := List.getElem?_eq_getElem (by omega)
      rw [h5] at h4
      injection h4 with h4
      exact ⟨y.2, by rw [h3, ← h4]⟩
theorem slx_weight {t e : TypeId} {x D : List (DataW H)} {d : DataW H} (ht : Tryz.prog.underlying t = some (.slice e)) {Dr : List (DataW H)} (hd : d = .nil ∧ D = [] ∨ d = .slice D Dr) {B : Nat} (h : ∀ m ∈ d.weights Tryz.prog t, m ≤ B) (hb : 0 < Tryz.prog.bytesOf e) :
    D.length ≤ B ∧ ∀ y ∈ D, ∀ m ∈ y.weights Tryz.prog e, m ≤ B := by
  rcases hd with ⟨-, rfl⟩ | rfl
  · exact ⟨Nat.zero_le _, fun y hy => by cases hy⟩
  · rw [DataW.weights, ht] at h
    simp only [List.mem_cons, List.mem_append] at h
    refine ⟨?_, fun y hy m hm => h m (.inr (.inl ?_))⟩
    · have h1 := h _ (.inl rfl)
      have h2 : D.length + Dr.length ≤ (D.length + Dr.length) * Tryz.prog.bytesOf e := Nat.le_mul_of_pos_right _ hb
      omega
    · clear h
      induction D with
      | nil => cases hy
      | cons z D ih =>
        rw [DataW.weightsAll, List.mem_append]
        rcases List.mem_cons.1 hy with rfl | hy
        · exact .inl hm
        · exact .inr (ih hy)
/-- a slice of bytes that came in, by its cells -/
theorem sl_cells {W : World} {fuel : Nat} {cs : List Value} {x : DataW H × List MemPlace} (h : DataW.trod enc Tryz.prog W 0 (fun _ => true) true fuel 24 cs = some x) {B : Nat} (hw : ∀ m ∈ x.1.weights Tryz.prog 24, m ≤ B) :
    ∃ v l, cs = [v] ∧ Sl W v l ∧ l.length ≤ B := by
  rcases open_ints Tryz.underlying24 Tryz.underlying5 (by kernel_rfl) h with ⟨rfl, _⟩ | ⟨a, len, cap, zs, rfl, _, hl, hm, hz, hx, hcell, hwz⟩
  · exact ⟨_, [], rfl, Sl.nil W, Nat.zero_le _⟩
  · simp only [if_true] at hz
    obtain ⟨l, h1, h2⟩ := sl_of_ints hl hm (by omega) hcell hwz
    refine ⟨_, l, rfl, h2, ?_⟩
    rw [hx] at hw
    have h3 := (slx_weight (x := []) Tryz.underlying24 (.inr rfl) hw (by decide +kernel)).1
    unfold lits at h3
    rw [List.length_map, List.length_take] at h3
    omega
theorem i64_wf {n : Int} (h : (Lit.int .i64 n).wf = true) : -9223372036854775808 ≤ n ∧ n ≤ 9223372036854775807 := by
  have := bounds_i64 h; omega

/-- a struct's fields, by their cells -/
theorem fld {W : World} {n : Nat} {t : TypeId} {fs : Array Field} {cs : List Value} {xs : List (DataW H × List MemPlace)} (hf : ∀ (i : Nat) (f : Field), fs[i]? = some f → DataW.trod enc Tryz.prog W 0 (fun _ => true) true n f.type ((cs.drop f.offset).take (Tryz.prog.cellsOf f.type)) = xs[i]?) {i : Nat} {f : Field} (h : fs[i]? = some f) {k : Nat} (hk : Tryz.prog.cellsOf f.type = k) : DataW.trod enc Tryz.prog W 0 (fun _ => true) true n f.type ((cs.drop f.offset).take k) = xs[i]? := by
  have := hf i f h
  rw [hk] at this; exact this

set_option maxHeartbeats 800000 in
set_option maxRecDepth 100000 in
/-- an object that came in -/
theorem gv_open {W : World} : ∀ (fuel : Nat) (cs : List Value) (x : DataW H × List MemPlace), DataW.trod enc Tryz.prog W 0 (fun _ => true) true fuel 34 cs = some x → (∀ m ∈ x.1.weights Tryz.prog 34, m ≤ reachBytes) → ∃ o, GV W cs o := by
  intro fuel
  induction fuel using Nat.strongRecOn with
  | _ fuel ih =>
    intro cs x h hw
    obtain ⟨xs, n, rfl, rfl, hcl, hxl, hf⟩ := DataW.trod_struct Tryz.underlying34 h
    rw [show Tryz.prog.cellsOf 34 = 5 from by kernel_rfl] at hcl
    match xs, hxl, cs, hcl with
    | [y0, y1, y2, y3, y4], _, [c0, c1, c2, c3, c4], _ =>
      have f0 : DataW.trod enc Tryz.prog W 0 (fun _ => true) true n 3 [c0] = some y0 := fld (t := 0) hf (i := 0) rfl (k := 1) (by kernel_rfl)
      have f1 : DataW.trod enc Tryz.prog W 0 (fun _ => true) true n 2 [c1] = some y1 := fld (t := 0) hf (i := 1) rfl (k := 1) (by kernel_rfl)
      have f2 : DataW.trod enc Tryz.prog W 0 (fun _ => true) true n 24 [c2] = some y2 := fld (t := 0) hf (i := 2) rfl (k := 1) (by kernel_rfl)
      have f3 : DataW.trod enc Tryz.prog W 0 (fun _ => true) true n 25 [c3] = some y3 := fld (t := 0) hf (i := 3) rfl (k := 1) (by kernel_rfl)
      have f4 : DataW.trod enc Tryz.prog W 0 (fun _ => true) true n 32 [c4] = some y4 := fld (t := 0) hf (i := 4) rfl (k := 1) (by kernel_rfl)
      rw [DataW.weights, Tryz.underlying34] at hw
      simp only [List.map_cons, List.map_nil, DataW.weightsEach, List.mem_append, List.append_nil] at hw
      have w2 : ∀ m ∈ y2.1.weights Tryz.prog 24, m ≤ reachBytes := fun m hm => hw m (.inr (.inr (.inl hm)))
      have w3 : ∀ m ∈ y3.1.weights Tryz.prog 25, m ≤ reachBytes := fun m hm => hw m (.inr (.inr (.inr (.inl hm))))
      have w4 : ∀ m ∈ y4.1.weights Tryz.prog 32, m ≤ reachBytes := fun m hm => hw m (.inr (.inr (.inr (.inr hm))))
      clear hw hf h
      obtain ⟨k, e0, -, k1⟩ := DataW.trod_int Tryz.underlying3 f0
      obtain ⟨nn, e1, -, n1⟩ := DataW.trod_int Tryz.underlying2 f1
      injection e0 with e0
      injection e1 with e1
      subst e0 e1
      obtain ⟨vb, b, e2, hb, hbz⟩ := sl_cells f2 w2
      injection e2 with e2
      subst e2
      obtain ⟨vl, Cl, m, D, Dr, e3, hD, hSl, hmn, hlD, hel⟩ := slx_open (sz := 5) Tryz.underlying25 (by kernel_rfl) (by decide) f3
      injection e3 with e3
      subst e3
      obtain ⟨hDz, hDw⟩ := slx_weight (x := []) Tryz.underlying25 hD w3 (by decide +kernel)
      have hL : ∀ i, ∃ o, ∀ h : i < Cl.length, GV W Cl[i] o := fun i => by
        by_cases hi : i < Cl.length
        · obtain ⟨p, hp⟩ := hel i hi (by omega)
          obtain ⟨o, ho⟩ := ih m (by omega) _ _ hp (hDw _ (List.getElem_mem _))
          exact ⟨o, fun _ => ho⟩
        · exact ⟨poNull, fun q => absurd q hi⟩
      obtain ⟨vd, Cd, m2, E, Er, e4, hE, hSd, hmn2, hlE, hee⟩ := slx_open (sz := 6) Tryz.underlying32 (by kernel_rfl) (by decide) f4
      injection e4 with e4
      subst e4
      obtain ⟨hEz, hEw⟩ := slx_weight (x := []) Tryz.underlying32 hE w4 (by decide +kernel)
      have hM : ∀ i, ∃ z : List UInt8 × PO, ∀ h : i < Cd.length, ((Cd[i]).head? = some (.string (st z.1)) ∧ z.1.length ≤ reachBytes) ∧ GV W (Cd[i]).tail z.2 := fun i => by
        by_cases hi : i < Cd.length
        · obtain ⟨p, hp⟩ := hee i hi (by omega)
          have hwe := hEw _ (List.getElem_mem (show i < E.length by omega))
          suffices hs : ∃ z : List UInt8 × PO, ((Cd[i]'hi).head? = some (.string (st z.1)) ∧ z.1.length ≤ reachBytes) ∧ GV W (Cd[i]'hi).tail z.2 by
            obtain ⟨z, hz⟩ := hs
            exact ⟨z, fun _ => hz⟩
          generalize Cd[i] = cs at hp ⊢
          obtain ⟨zs, n3, rfl, hze, hcl, hxl, hf⟩ := DataW.trod_struct Tryz.underlying41 hp
          rw [show Tryz.prog.cellsOf 41 = 6 from by kernel_rfl] at hcl
          match zs, hxl, cs, hcl with
          | [u0, u1], _, [a0, a1, a2, a3, a4, a5], _ =>
            have g0 : DataW.trod enc Tryz.prog W 0 (fun _ => true) true n3 9 [a0] = some u0 := fld (t := 0) hf (i := 0) rfl (k := 1) (by kernel_rfl)
            have g1 : DataW.trod enc Tryz.prog W 0 (fun _ => true) true n3 34 [a1, a2, a3, a4, a5] = some u1 := fld (t := 0) hf (i := 1) rfl (k := 5) (by kernel_rfl)
            injection hze with hze _
            rw [hze, DataW.weights, Tryz.underlying41] at hwe
            simp only [List.map_cons, List.map_nil, DataW.weightsEach, List.mem_append, List.append_nil] at hwe
            obtain ⟨s, e0, ex, -⟩ := DataW.trod_string Tryz.underlying9 g0
            injection e0 with e0
            subst e0
            obtain ⟨o, ho⟩ := ih n3 (by omega) _ _ g1 (fun m hm => hwe m (.inr hm))
            refine ⟨(s.data.toList, o), ⟨by rw [st_self]; rfl, ?_⟩, ho⟩
            refine hwe _ (.inl ?_)
            rw [ex, DataW.weights]
            exact List.mem_singleton.2 rfl
        · exact ⟨([], poNull), fun q => absurd q hi⟩
      obtain ⟨FL, hFL⟩ := Classical.axiomOfChoice hL
      obtain ⟨FD, hFD⟩ := Classical.axiomOfChoice hM
      refine ⟨.mk k nn b ((List.range Cl.length).map FL) ((List.range Cd.length).map FD), .mk k nn _ _ _ b _ _ Cl Cd ⟨i64_wf k1, i64_wf n1⟩ hb hbz hSl (by simp) (by simp; omega) (fun i h1 h2 => ?_) hSd (by simp) (by simp; omega) (fun i h1 h2 => ?_) (fun i h1 h2 => ?_)⟩
      · rw [List.getElem_map, List.getElem_range]; exact hFL i h1
      · rw [List.getElem_map, List.getElem_range]; exact (hFD i h1).1
      · rw [List.getElem_map, List.getElem_range]; exact (hFD i h1).2
/-- a row of objects that came in -/
def GVs (w : World) (v : Value) (l : List PO) : Prop := ∃ C, SlX 5 w v C ∧ All2 (GV w) C l
theorem GVs.up {w w' : World} {v : Value} {l : List PO} (h : GVs w v l) (hb : Below w.heap.size w w') : GVs w' v l := by
  obtain ⟨C, h1, h2⟩ := h
  exact ⟨C, h1.up hb, h2.mono fun _ _ q => q.up hb⟩
set_option maxRecDepth 100000 in
theorem gvs_open {W : World} {v : Value} {d : DataW H} {p : List MemPlace} {base : Nat} (hk : Value.okWide Tryz.prog W .any base 25 v) (h : DataW.Trod enc Tryz.prog W 0 (fun _ => true) true 25 v d p) (hw : ∀ m ∈ d.weights Tryz.prog 25, m ≤ reachBytes) : ∃ l, GVs W v l ∧ l.length ≤ reachBytes := by
  obtain ⟨a0, len, cap, rfl⟩ := okWide_slice Tryz.underlying25 hk
  obtain ⟨fuel, hf⟩ := h
  obtain ⟨v2, C, n, D, Dr, e, hD, hS, hn, hl, he⟩ := slx_open (sz := 5) Tryz.underlying25 (by kernel_rfl) (by decide) hf
  simp [Value.cells] at e
  subst e
  obtain ⟨hz, hw2⟩ := slx_weight (x := []) Tryz.underlying25 hD hw (by decide +kernel)
  have hL : ∀ i, ∃ o, ∀ h : i < C.length, GV W C[i] o := fun i => by
    by_cases hi : i < C.length
    · obtain ⟨p, hp⟩ := he i hi (by omega)
      obtain ⟨o, ho⟩ := gv_open n _ _ hp (hw2 _ (List.getElem_mem _))
      exact ⟨o, fun _ => ho⟩
    · exact ⟨poNull, fun q => absurd q hi⟩
  obtain ⟨F, hF⟩ := Classical.axiomOfChoice hL
  refine ⟨(List.range C.length).map F, ⟨C, hS, All2.of (by simp) fun i h1 h2 => ?_⟩, by simp; omega⟩
  rw [List.getElem_map, List.getElem_range]; exact hF i h1
theorem GV.v5 {w : World} {c : List Value} {o : PO} (h : GV w c o) : V5 c := by
  cases h with
  | mk k n vb vl vd b l d Cl Cd hk hb hbz hl hle hlz hl' hd hde hdz hk' hd' =>
    obtain ⟨a1, c1, rfl, -⟩ := hb
    obtain ⟨a2, c2, rfl, -⟩ := hl
    obtain ⟨a3, c3, rfl, -⟩ := hd
    exact ⟨_, _, _, _, _, _, _, _, _, _, _, rfl⟩
theorem GV.kind1 {w : World} {c : List Value} {o : PO} (h : GV w c o) : c.head? = some (.int .i64 o.kind) := by cases h; rfl
end Go.Proofs.YtjkoiknjffldjaaGreatDoor
