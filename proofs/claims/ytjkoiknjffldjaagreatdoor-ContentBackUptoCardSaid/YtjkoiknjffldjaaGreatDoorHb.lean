/-
  The program's sorted: an entry in the place of all that are as it is, or ahead of the first that is greater. Conditions: the entries are no more than 3600000.
-/
import Derived.Test.YtjkoiknjffldjaaGreatDoorHa
import Derived.Deep.LoopGhost
import Derived.Laws.Cells
import Derived.Lib.SliceRun
/-
  The program's order of entries: strings.Compare, byKey, the two closures of sorted; the first place where a closure holds. Conditions: the closures' boxes hold what they are made with.
-/
namespace Go.Proofs.YtjkoiknjffldjaaGreatDoor
open Go.RowKit
set_option linter.unusedVariables false

set_option maxHeartbeats 800000 in
set_option maxRecDepth 1000000 in
theorem cmpstr_any (a b : List UInt8) (w : World) :
    Calls Tryz.prog 133 #[.string (st a), .string (st b)] w fun e w' => e = .returned (.int .i64 (Lib.compareBytes a b)) ∧ w = w' := by
  go_enter Tryz.func133, Tryz.ntmps133
  go_wp2
  rw [run_callFunc_extern Tryz.func134 (by kernel_rfl) (by kernel_rfl) (by kernel_rfl) (e := Extern.BytealgCompare.compare) (by kernel_rfl), Lib.run_compareString]
  simp only [Result.andThen]
  rw [Oper.upon_value]
  go_wp2
  go_ret
  exact ⟨rfl, rfl⟩
theorem compare_any (a b : List UInt8) (w : World) :
    Calls Tryz.prog 132 #[.string (st a), .string (st b)] w fun e w' => e = .returned (.int .i64 (Lib.compareBytes a b)) ∧ w = w' := by
  go_enter Tryz.func132, Tryz.ntmps132
  go_wp2_with (go_at_call 133; refine (cmpstr_any _ _ _).mono ?_; rintro e w1 ⟨rfl, rfl⟩)
  go_ret
  exact ⟨rfl, rfl⟩

/-- an entry as a value -/
abbrev ent (k : List UInt8) (vs : List Value) : Value := .agg (.string (st k) :: vs).toArray

set_option maxRecDepth 100000 in
theorem byKey_any (a b : List UInt8) (va vb : List Value) (ha : V5 va) (hb : V5 vb) (w : World) :
    Calls Tryz.prog 125 #[ent a va, ent b vb] w fun e w' => e = .returned (.int .i64 (Lib.compareBytes a b)) ∧ Below w.heap.size w w' := by
  obtain ⟨_, _, _, _, _, _, _, _, _, _, _, rfl⟩ := ha
  obtain ⟨_, _, _, _, _, _, _, _, _, _, _, rfl⟩ := hb
  go_enter Tryz.func125, Tryz.ntmps125
  go_wp2_with (go_at_call 132; refine (compare_any _ _ _).mono ?_; rintro e w1 ⟨rfl, rfl⟩)
  go_ret
  exact ⟨rfl, below_then (alb _ _) (alb _ _)⟩

/-- the closures' boxes: the comparison, the entry -/
def Boxes (w : World) (bc bx : Nat) (k : List UInt8) (vs : List Value) : Prop := w.cell? ⟨bc, 0, none⟩ = some (.func (.func 125) #[] #[]) ∧ ∀ j u, (Value.string (st k) :: vs)[j]? = some u → w.cell? ⟨bx, j, none⟩ = some u
theorem Boxes.up {w w' : World} {bc bx : Nat} {k : List UInt8} {vs : List Value} (h : Boxes w bc bx k vs) (hb : Below w.heap.size w w') : Boxes w' bc bx k vs := ⟨cell_up' hb h.1, fun j u hu => cell_up' hb (h.2 j u hu)⟩

set_option maxHeartbeats 800000 in
set_option maxRecDepth 100000 in
theorem clo_ge (bc bx : Nat) (k y : List UInt8) (vs va : List Value) (hvs : V5 vs) (hva : V5 va) (w : World) (h : Boxes w bc bx k vs) :
    Calls Tryz.prog 128 #[ent y va, .pointer (some ⟨bc, 0, none⟩), .pointer (some ⟨bx, 0, none⟩)] w fun e w' => e = .returned (.bool (kle k y)) ∧ Below w.heap.size w w' := by
  have e0 := cmp_ge y k
  have hy := hva
  have hx := hvs
  obtain ⟨q1, q2⟩ := h
  obtain ⟨_, _, _, _, _, _, _, _, _, _, _, rfl⟩ := hvs
  obtain ⟨_, _, _, _, _, _, _, _, _, _, _, rfl⟩ := hva
  have c0 := q2 0 _ rfl
  have c1 := q2 1 _ rfl
  have c2 := q2 2 _ rfl
  have c3 := q2 3 _ rfl
  have c4 := q2 4 _ rfl
  have c5 := q2 5 _ rfl
  have z1 := World.block_lt_of_cell? _ _ q1
  have z2 := World.block_lt_of_cell? _ _ c0
  clear q2
  go_enter Tryz.func128, Tryz.ntmps128
  go_wp2_with (go_at_call 125; refine (byKey_any y k _ _ hy hx _).mono ?_; rintro e w1 ⟨rfl, hb⟩)
  go_ret
  exact ⟨rfl, below_then (alb _ _) hb⟩

set_option maxHeartbeats 800000 in
set_option maxRecDepth 100000 in
theorem clo_eq (bc bx : Nat) (k y : List UInt8) (vs va : List Value) (hvs : V5 vs) (hva : V5 va) (w : World) (h : Boxes w bc bx k vs) :
    Calls Tryz.prog 129 #[ent y va, .pointer (some ⟨bc, 0, none⟩), .pointer (some ⟨bx, 0, none⟩)] w fun e w' => e = .returned (.bool (y == k)) ∧ Below w.heap.size w w' := by
  have e0 := cmp_eq y k
  have hy := hva
  have hx := hvs
  obtain ⟨q1, q2⟩ := h
  obtain ⟨_, _, _, _, _, _, _, _, _, _, _, rfl⟩ := hvs
  obtain ⟨_, _, _, _, _, _, _, _, _, _, _, rfl⟩ := hva
  have c0 := q2 0 _ rfl
  have c1 := q2 1 _ rfl
  have c2 := q2 2 _ rfl
  have c3 := q2 3 _ rfl
  have c4 := q2 4 _ rfl
  have c5 := q2 5 _ rfl
  have z1 := World.block_lt_of_cell? _ _ q1
  have z2 := World.block_lt_of_cell? _ _ c0
  clear q2
  go_enter Tryz.func129, Tryz.ntmps129
  go_wp2_with (go_at_call 125; refine (byKey_any y k _ _ hy hx _).mono ?_; rintro e w1 ⟨rfl, hb⟩)
  go_ret
  exact ⟨rfl, below_then (alb _ _) hb⟩

/-- what a closure on entries says, in the worlds that G allows -/
def PredE (g : Nat) (caps : Array Value) (G : World → Prop) (p : List UInt8 → Bool) : Prop :=
  ∀ (w : World) (y : List UInt8) (va : List Value), G w → V5 va → Calls Tryz.prog g (#[ent y va] ++ caps) w fun e w' => e = .returned (.bool (p y)) ∧ Below w.heap.size w w'

/-- the first place where p holds, -1 where there is none -/
def ixI (p : List UInt8 → Bool) (D : List KV) : Int := if ix (fun e => p e.1) D < D.length then (ix (fun e => p e.1) D : Int) else -1
set_option maxHeartbeats 2000000 in
set_option maxRecDepth 100000 in
theorem indexE_any (g : Nat) (caps : Array Value) (eg : ∀ args w, (callFunc g args).run Tryz.prog w = .ok (.enter g args) w) (G : World → Prop) (hG : ∀ w w', G w → Below w.heap.size w w' → G w') (p : List UInt8 → Bool) (hp : PredE g caps G p)
    (v : Value) (D : List KV) (w : World) (hD : AllV D) (h : SlX 6 w v (D.map ecl)) (h0 : G w) (hl : D.length ≤ 4000000) :
    Calls Tryz.prog 127 #[v, .func (.func g) #[] caps] w fun e w' => e = .returned (.int .i64 (ixI p D)) ∧ Below w.heap.size w w' := by
  obtain ⟨ao, cap, rfl, h1, h2, h3, h4, h5⟩ := id h
  rw [List.length_map] at h1 ⊢
  have HH := hid h
  have HP := hid hp
  have HGG := hid hG
  clear h h5 hp hG
  rw [List.length_map] at HH
  go_enter Tryz.func127, Tryz.ntmps127
  go_wp2
  go_loopg [5, 8] D.length (fun gg _ s8 wr => ∃ kk : Nat, kk ≤ D.length ∧ D.length - kk ≤ gg ∧ s8 = .int .i64 kk ∧ Aside (Below w.heap.size w wr) ∧ Aside (∀ j (hj : j < D.length), j < kk → p (D[j]'hj).1 = false))
  case atStart => exact ⟨0, Nat.zero_le _, by omega, rfl, Below.refl _ w, fun j hj h => absurd h (Nat.not_lt_zero _)⟩
  case round =>
    obtain ⟨kk, hkk, hg, rfl, BW, A⟩ := hrel
    by_cases hlt : kk < D.length
    · have hltz : (kk : Int) < (D.length : Int) := by omega
      obtain ⟨b, off, rfl, hc⟩ := (HH.out.up BW.out).some (by omega)
      have l2 := hc kk (by simpa using hlt)
      rw [List.getElem_map] at l2
      have hy := hD _ (List.getElem_mem hlt)
      have hcall := HP.out wr (D[kk]).1 (D[kk]).2 (HGG.out _ _ h0 BW.out) hy
      have hix : p (D[kk]).1 = true → ix (fun e => p e.1) D = kk := fun q => ix_is _ D kk (by omega) (fun j hj hjk => A.out j hj hjk) (fun _ => q)
      have hA2 : p (D[kk]).1 = false → ∀ j (hj : j < D.length), j < kk + 1 → p (D[j]'hj).1 = false := fun q j hj hjk => by
        rcases Nat.lt_or_ge j kk with z | z
        · exact A.out j hj z
        · obtain rfl : j = kk := by omega
          exact q
      have HIX := hid hix
      have HA2 := hid hA2
      clear hc h4 hix hA2
      generalize D[kk] = e at l2 hy hcall HIX HA2
      obtain ⟨y, va⟩ := e
      obtain ⟨_, _, _, _, _, _, _, _, _, _, _, rfl⟩ := hy
      simp only [ecl] at l2
      have c0 := l2 0 _ rfl
      have c1 := l2 1 _ rfl
      have c2 := l2 2 _ rfl
      have c3 := l2 3 _ rfl
      have c4 := l2 4 _ rfl
      have c5 := l2 5 _ rfl
      rw [Nat.add_zero] at c0
      clear l2
      cases hq : p y with
      | true =>
        rw [hq] at hcall
        go_wp2_with (go_at_fn g; refine hcall.mono ?_; rintro e w' ⟨rfl, hb'⟩)
        go_ret
        unfold ixI
        rw [HIX.out hq, if_pos hlt]
        exact ⟨rfl, BW.out.trans (hb'.mono BW.out.size)⟩
      | false =>
        rw [hq] at hcall
        go_wp2_with (go_at_fn g; refine hcall.mono ?_; rintro e w' ⟨rfl, hb'⟩)
        go_roundg (D.length - (kk + 1))
        case measure => omega
        case rel => exact ⟨kk + 1, by omega, by omega, by go_num, BW.out.trans (hb'.mono BW.out.size), HA2.out hq⟩
    · have hltz : ¬ (kk : Int) < (D.length : Int) := by omega
      have hix : ix (fun e => p e.1) D = D.length := ix_is _ D D.length (Nat.le_refl _) (fun j hj hjk => A.out j hj (by omega)) (fun h => absurd h (Nat.lt_irrefl _))
      have HIX := hid hix
      clear hix h4
      go_wp2
      go_ret
      unfold ixI
      rw [HIX.out, if_neg (Nat.lt_irrefl _)]
      exact ⟨rfl, BW.out⟩
end Go.Proofs.YtjkoiknjffldjaaGreatDoor

/-
  The program's slices.Clone and slices.DeleteFunc of entries. Conditions: the entries are no more than a million; the row is the call's own, apart from the closure's boxes.
-/
namespace Go.Proofs.YtjkoiknjffldjaaGreatDoor
open Go.RowKit
set_option linter.unusedVariables false

theorem sliceE_to {t e : TypeId} {P : Program} {sz : Nat} (hT : P.underlying t = some (.slice (P.elem t))) (hz : ∀ w, (sizeOf (P.elem t)).run P w = .ok sz w) {w : World} {ao : Option Addr} {n cap : Nat} {C : List (List Value)} (h : SlX sz w (.slice ao n cap) C) (k : Nat) (hk : k ≤ C.length) :
    ∃ cap2, SlX sz w (.slice ao k cap2) (C.take k) ∧ ∀ w', (Instr.slice t (.slice ao n cap) none (some (.int .i64 k)) none).run P w' = .ok (.slice ao k cap2) w' := by
  obtain ⟨ao2, cap', e0, h1, h2, h3, h4, h5⟩ := h
  injection e0 with e1 e2 e3
  subst e1 e2 e3
  refine ⟨cap, ⟨ao, cap, ?_, ?_, h2, h3, fun c hc => h4 c (List.mem_of_mem_take hc), ?_⟩, fun w' => ?_⟩
  · rw [List.length_take, Nat.min_eq_left hk]
  · rw [List.length_take]; omega
  · rcases h5 with rfl | ⟨g, off, rfl, h6⟩
    · left; simp
    · refine .inr ⟨g, off, rfl, fun i hi j u hu => ?_⟩
      rw [List.length_take] at hi
      rw [List.getElem_take] at hu
      exact h6 i (by omega) j u hu
  · rw [run_slice_h w' t ao C.length cap hT .i64 k (by omega) (by omega), hz w']
    simp only [Result.andThen, sliced, Int.toNat_natCast]
    congr 2
    · by_cases hc : cap = 0
      · rw [if_pos hc]
      · rw [if_neg hc]; cases ao with
        | none => rfl
        | some a => simp [Addr.add]
theorem sliceE_from {t e : TypeId} {P : Program} {sz : Nat} (hT : P.underlying t = some (.slice (P.elem t))) (hz : ∀ w, (sizeOf (P.elem t)).run P w = .ok sz w) {w : World} {ao : Option Addr} {n cap : Nat} {C : List (List Value)} (h : SlX sz w (.slice ao n cap) C) (k : Nat) (hk : k ≤ C.length) :
    SlX sz w (.slice (if cap = k then ao else ao.map (·.add (k * sz))) (n - k) (cap - k)) (C.drop k) ∧ ∀ w', (Instr.slice t (.slice ao n cap) (some (.int .i64 k)) none none).run P w' = .ok (.slice (if cap = k then ao else ao.map (·.add (k * sz))) (n - k) (cap - k)) w' := by
  obtain ⟨ao2, cap', e0, h1, h2, h3, h4, h5⟩ := h
  injection e0 with e1 e2 e3
  subst e1 e2 e3
  refine ⟨⟨if cap = k then ao else ao.map (·.add (k * sz)), cap - k, ?_, ?_, ?_, ?_, fun c hc => h4 c (List.mem_of_mem_drop hc), ?_⟩, fun w' => ?_⟩
  · rw [List.length_drop]
  · rw [List.length_drop]; omega
  · omega
  · intro hc
    by_cases he : cap = k
    · omega
    · rw [if_neg he] at hc
      have : ao = none := by cases ao <;> simp_all
      have := h3 this; omega
  · rcases h5 with rfl | ⟨g, off, rfl, h6⟩
    · left; simp
    · by_cases he : k = C.length
      · left; rw [he]; simp
      · right
        have hne : ¬ cap = k := by omega
        rw [if_neg hne]
        refine ⟨g, off + k * sz, ?_, fun i hi j u hu => ?_⟩
        · simp only [Option.map_some]; rw [Addr.add_lit]
        · rw [List.length_drop] at hi
          rw [List.getElem_drop] at hu
          have := h6 (k + i) (by omega) j u hu
          rw [Nat.add_mul, ← Nat.add_assoc] at this; exact this
  · rw [run_slice_l w' t ao C.length cap hT .i64 k (by omega) (by omega), hz w']
    simp [Result.andThen, sliced]

theorem entTy : Tryz.prog.underlying 32 = some (.slice (Tryz.prog.elem 32)) := by kernel_rfl
theorem entSz (w : World) : (sizeOf (Tryz.prog.elem 32)).run Tryz.prog w = .ok 6 w := by kernel_rfl

theorem OwX.lit0 (sz : Nat) (T : TypeId) (w : World) (B : Nat) (hb : B ≤ w.heap.size) : OwX sz T (w.alloc (.cells #[] T)) B (.slice (Option.some ⟨w.heap.size, 0, none⟩) 0 0) [] := by
  have := World.ownsRow_lit (base := B) (e := T) (size := sz) w #[] 0 hb (by unfold maxLen; omega) (by simp)
  exact ⟨this, fun c h => by cases h⟩

set_option maxHeartbeats 1600000 in
set_option maxRecDepth 100000 in
theorem cloneE_any (v : Value) (D : List KV) (w : World) (hD : AllV D) (h : SlX 6 w v (D.map ecl)) (hl : D.length ≤ 4000000) :
    Calls Tryz.prog 131 #[v] w fun e w' => ∃ v', e = .returned v' ∧ OwX 6 41 w' w.heap.size v' (D.map ecl) ∧ Below w.heap.size w w' := by
  obtain ⟨ao, cap, rfl, h1, h2, h3, h4, h5⟩ := id h
  rw [List.length_map] at h1 ⊢
  have qT : ∀ (w : World) (a : Option Addr) (n c n' c' : Nat), (binOp .eql 32 (.slice a n c) (.slice none n' c')).run Tryz.prog w = .ok (.bool a.isNone) w := fun w a n c n' c' => Lib.run_eql_slice_nil w _ _ a n c n' c' entTy
  cases ao with
  | none =>
    have := h3 rfl
    have hn : D = [] := List.length_eq_zero_iff.1 (by omega)
    subst hn
    go_enter Tryz.func131, Tryz.ntmps131
    go_wp2
    go_ret
    exact ⟨_, rfl, OwX.nil _ _ _ _, Below.refl _ _⟩
  | some a =>
    have hnews : ∀ j u, (flatX (D.map ecl))[j]? = some u → w.cell? (a.add j) = some u := fun j u hj => by
      obtain ⟨i, k, hi, hk, rfl, hu⟩ := flatX_lt h4 hj
      rcases h5 with h5 | ⟨g, off, e1, h6⟩
      · rw [List.map_eq_nil_iff] at h5; subst h5; simp at hi
      · injection e1 with e1
        subst e1
        rw [Addr.add_lit, ← Nat.add_assoc]; exact h6 i hi k u hu
    have HN := hid hnews
    have hlen := flatX_len h4
    rw [List.length_map] at hlen
    have h1c : ∀ u ∈ flatX (D.map ecl), u.oneCell' = true := flatX_one (fun c hc => by
      obtain ⟨e, he, rfl⟩ := List.mem_map.1 hc
      exact ecl_one (hD e he))
    have HL := hid hlen
    have H1 := hid h1c
    clear hnews hlen h1c h5
    go_enter Tryz.func131, Tryz.ntmps131
    go_wp2_with (at_builtin; refine wpList_append_row rfl _ _ 32 rfl w.heap.size 41 (.agg #[.string ⟨#[]⟩, .int .i64 0, .int .i64 0, .slice none 0 0, .slice none 0 0, .slice none 0 0]) 6 104 (by kernel_rfl) (by kernel_rfl) rfl (by decide) (.slice (some ⟨w.heap.size, 0, none⟩) 0 0) 0 [] rfl (OwX.lit0 6 _ w _ (Nat.le_refl _)).1 a D.length cap (flatX (D.map ecl)) rfl HL.out ?q1 H1.out (by unfold maxLen; omega) (by omega) (by simp) ?_; rotate_left; (intro v1 w1 q1 q2 q3); rotate_left; (intro j u hj; exact cell_up' (alb _ _) (HN.out j u hj)))
    go_ret
    refine ⟨_, rfl, ⟨by simpa using q1, h4⟩, ((Below.alloc (Below.refl _ _) (Nat.le_refl _) _).grown q2 (by simp) (fun k hk => by have h8 : some w.heap.size = some k := hk; injection h8 with h8; omega))⟩

/-- cells, some of them written anew from place o on -/
def setL (xs : List Value) : Nat → List Value → List Value
  | _, [] => xs
  | o, v :: r => setL (xs.set o v) (o + 1) r
theorem setL_far : ∀ (vs xs : List Value) (o : Nat), xs.length ≤ o → setL xs o vs = xs
  | [], xs, o, _ => rfl
  | v :: r, xs, o, h => by rw [setL, List.set_eq_of_length_le h, setL_far r xs (o + 1) (by omega)]
theorem setL_mid : ∀ (vs c p r : List Value), vs.length = c.length → setL (p ++ c ++ r) p.length vs = p ++ vs ++ r
  | [], [], p, r, _ => rfl
  | [], _ :: _, _, _, h => by simp at h
  | _ :: _, [], _, _, h => by simp at h
  | v :: vs, x :: c, p, r, h => by
    have ih := setL_mid vs c (p ++ [v]) r (by simpa using h)
    rw [setL]
    have e : (p ++ x :: c ++ r).set p.length v = p ++ [v] ++ c ++ r := by
      rw [List.append_assoc, List.set_append_right _ _ (Nat.le_refl _), Nat.sub_self]; simp
    rw [e]
    rw [List.length_append, List.length_singleton] at ih
    rw [ih]; simp
theorem flatX_set {sz : Nat} {C : List (List Value)} (h : ∀ c ∈ C, c.length = sz) {i : Nat} (hi : i < C.length) {c : List Value} (hc : c.length = sz) : setL (flatX C) (i * sz) c = flatX (C.set i c) := by
  have e1 : C = C.take i ++ [C[i]] ++ C.drop (i + 1) := by rw [List.append_assoc, List.singleton_append, ← List.drop_eq_getElem_cons hi, List.take_append_drop]
  have e2 : C.set i c = C.take i ++ [c] ++ C.drop (i + 1) := by rw [List.set_eq_take_append_cons_drop, if_pos hi]; simp
  have e3 : (flatX (C.take i)).length = i * sz := by
    rw [flatX_len (fun c hc => h c (List.mem_of_mem_take hc)), List.length_take, Nat.min_eq_left (Nat.le_of_lt hi)]
  rw [e2, flatX_app, flatX_app]
  conv => lhs; rw [e1]
  rw [flatX_app, flatX_app, ← e3]
  have e4 : flatX [C[i]] = C[i] := by simp [flatX]
  have e5 : flatX [c] = c := by simp [flatX]
  rw [e4, e5]
  exact setL_mid _ _ _ _ (by rw [hc, h _ (List.getElem_mem hi)])
/-- cells of a row written anew -/
theorem row_setL {B g cap n sz : Nat} {T : TypeId} : ∀ (vs xs : List Value) (o : Nat) (w : World), w.ownsRow B T sz (.slice (some ⟨g, 0, none⟩) n cap) n xs → (w.setCells g o vs).ownsRow B T sz (.slice (some ⟨g, 0, none⟩) n cap) n (setL xs o vs) ∧ Held w.heap.size g g w (w.setCells g o vs)
  | [], xs, o, w, h => ⟨h, Held.refl _ _ _ _⟩
  | v :: r, xs, o, w, h => by
    have h1 := World.ownsRow.stored h o v
    have h2 := row_setL r (xs.set o v) (o + 1) (w.setCell ⟨g, o, none⟩ v) h1.1
    exact ⟨h2.1, (Held.set w ⟨g, o, none⟩ v (.inl rfl)).then' h2.2⟩
/-- a row's first elements -/
theorem row_cut {w : World} {B g cap n sz : Nat} {T : TypeId} {C : List (List Value)} (h : OwX sz T w B (.slice (some ⟨g, 0, none⟩) n cap) C) (hn : n = C.length) (k : Nat) (hk : k ≤ n) : OwX sz T w B (.slice (some ⟨g, 0, none⟩) k cap) (C.take k) := by
  subst hn
  obtain ⟨⟨h1, h2⟩, h3⟩ := h
  have h4 : ∀ c ∈ C.take k, c.length = sz := fun c hc => h3 c (List.mem_of_mem_take hc)
  have hl : (C.take k).length = k := by rw [List.length_take]; omega
  have e := flatX_len h4
  rw [hl] at e
  refine ⟨⟨by rw [e, hl], ?_⟩, h4⟩
  rcases h2 with ⟨h2, _⟩ | ⟨g2, cap2, cur, q1, q2, q3, q4, q5, q6, q7⟩
  · cases h2
  · injection q1 with q11 q12 q13
    subst q13
    right
    refine ⟨g2, cap, cur, by rw [q11, hl], q2, q3, by rw [hl]; omega, q5, q6, ?_⟩
    rw [hl]
    have h5 : cur.toList.take (k * sz) = (flatX C).take (k * sz) := by
      rw [← q7, List.take_take, Nat.min_eq_left (Nat.mul_le_mul_right _ hk)]
    rw [h5]
    conv => lhs; rw [← List.take_append_drop k C]
    rw [flatX_app, List.take_append_of_le_length (by rw [e]; exact Nat.le_refl _), List.take_of_length_le (by rw [e]; exact Nat.le_refl _)]

theorem zeroCells_len (z : Array Value) (n : Nat) : (Builtin.zeroCells z n).toList.length = n * z.size := by simp [Builtin.zeroCells]
theorem zeroCells_one (z : Array Value) (n : Nat) (h : ∀ u ∈ z.toList, u.oneCell' = true) : ∀ u ∈ (Builtin.zeroCells z n).toList, u.oneCell' = true := by
  intro u hu
  simp [Builtin.zeroCells] at hu
  obtain ⟨a, ha, rfl⟩ := hu
  have hz : 0 < z.size := by
    rcases Nat.eq_zero_or_pos z.size with q | q
    · rw [q] at ha; simp at ha
    · exact q
  have hlt := Nat.mod_lt a hz
  rw [getElem!_pos z _ hlt]
  exact h _ (by simp)
/-- clear of a row's last elements -/
theorem run_clear_row {P : Program} (w : World) (t e ty : TypeId) (z : Value) (sz : Nat) (ht : P.underlying t = some (.slice e)) (hv : ∀ w, (zeroValue e).run P w = .ok z w) (hz : z.cells.size = sz) (h1 : ∀ u ∈ z.cells.toList, u.oneCell' = true) (b o n c : Nat) (hn : 0 < n)
    (hc : ∀ j, j < n * sz → (w.cell? ⟨b, o + j, none⟩).isSome = true) (hf : ∀ j, j < n * sz → w.frozen? ⟨b, o + j, none⟩ = false) :
    ∃ vs, (Builtin.clear_ #[t] ty #[.slice (some ⟨b, o, none⟩) n c]).run P w = .ok (.tuple #[]) (w.setCells b o vs) := by
  have hst := run_storeCells_cells (P := P) b o (Builtin.zeroCells z.cells n).toList 0 w (by rw [zeroCells_len, hz]; simpa using hc) (by rw [zeroCells_len, hz]; simpa using hf) (zeroCells_one _ _ h1)
  simp only [Nat.add_zero] at hst
  obtain ⟨m, rfl⟩ : ∃ m, n = m + 1 := ⟨n - 1, by omega⟩
  exact ⟨(Builtin.zeroCells z.cells (m + 1)).toList, by simp [Builtin.clear_, run_underlying ht, hv, hst]⟩
end Go.Proofs.YtjkoiknjffldjaaGreatDoor

/-
  The program's slices.DeleteFunc of entries with the closure that sorted makes. Conditions: the row is the call's own, from block B on, the closure's boxes lie below B.
-/
namespace Go.Proofs.YtjkoiknjffldjaaGreatDoor
open Go.RowKit
set_option linter.unusedVariables false

theorem clo_enters (args : Array Value) (w : World) : (callFunc 129 args).run Tryz.prog w = .ok (.enter 129 args) w := enters_of Tryz.func129 (by kernel_rfl) rfl args w
theorem clo_enters1 (args : Array Value) (w : World) : (callFunc 128 args).run Tryz.prog w = .ok (.enter 128 args) w := enters_of Tryz.func128 (by kernel_rfl) rfl args w
theorem pred_eq (bc bx : Nat) (k : List UInt8) (vs : List Value) (hvs : V5 vs) : PredE 129 #[.pointer (some ⟨bc, 0, none⟩), .pointer (some ⟨bx, 0, none⟩)] (fun w => Boxes w bc bx k vs) (fun y => y == k) := fun w y va hb hva => clo_eq bc bx k y vs va hvs hva w hb
theorem pred_ge (bc bx : Nat) (k : List UInt8) (vs : List Value) (hvs : V5 vs) : PredE 128 #[.pointer (some ⟨bc, 0, none⟩), .pointer (some ⟨bx, 0, none⟩)] (fun w => Boxes w bc bx k vs) (fun y => kle k y) := fun w y va hb hva => clo_ge bc bx k y vs va hvs hva w hb

theorem filter_all {α : Type} {q : α → Bool} {D : List α} (h : ∀ j (hj : j < D.length), q D[j] = true) : D.filter q = D := List.filter_eq_self.2 fun a ha => by
  obtain ⟨i, hi, rfl⟩ := List.getElem_of_mem ha
  exact h i hi
theorem take_filter_succ {α : Type} {q : α → Bool} {D : List α} {j : Nat} (hj : j < D.length) : (D.take (j + 1)).filter q = (D.take j).filter q ++ (if q D[j] = true then [D[j]] else []) := by
  rw [List.take_succ_eq_append_getElem hj, List.filter_append]
  congr 1
  cases hq : q D[j] <;> simp [hq]

theorem Boxes.held {w w' : World} {bc bx p : Nat} {k : List UInt8} {vs : List Value} (h : Boxes w bc bx k vs) (hb : Held w.heap.size p p w w') (h1 : bc ≠ p) (h2 : bx ≠ p) : Boxes w' bc bx k vs := ⟨hb.cell' h.1 h1 h1, fun j u hu => hb.cell' (h.2 j u hu) h2 h2⟩

/-- DeleteFunc on its way: R is what the row holds, i of it are kept of the first j of D -/
structure DelI (w0 w : World) (B g cap bc bx : Nat) (k : List UInt8) (vs : List Value) (D R : List KV) (i j : Nat) : Prop where
  av : AllV R
  len : R.length = D.length
  row : OwX 6 41 w B (.slice (some ⟨g, 0, none⟩) D.length cap) (R.map ecl)
  tk : R.take i = (D.take j).filter (fun y => !(y.1 == k))
  dp : R.drop j = D.drop j
  bel : Below B w0 w
  box : Boxes w bc bx k vs
  gw : g < w.heap.size
theorem DelI.up {w0 w w1 : World} {B g cap bc bx i j : Nat} {k : List UInt8} {vs : List Value} {D R : List KV} (h : DelI w0 w B g cap bc bx k vs D R i j) (hb : Below w.heap.size w w1) (hB : B ≤ w.heap.size) : DelI w0 w1 B g cap bc bx k vs D R i j :=
  ⟨h.av, h.len, h.row.up hb, h.tk, h.dp, h.bel.trans (hb.mono hB), h.box.up hb, Nat.lt_of_lt_of_le h.gw hb.size⟩
theorem DelI.skip {w0 w : World} {B g cap bc bx i j : Nat} {k : List UInt8} {vs : List Value} {D R : List KV} (h : DelI w0 w B g cap bc bx k vs D R i j) (hj : j < D.length) (hq : ((D[j]).1 == k) = true) : DelI w0 w B g cap bc bx k vs D R i (j + 1) := by
  refine ⟨h.av, h.len, h.row, ?_, ?_, h.bel, h.box, h.gw⟩
  · rw [take_filter_succ hj, if_neg (by rw [hq]; decide), List.append_nil]; exact h.tk
  · rw [← List.drop_drop, ← List.drop_drop, h.dp]
theorem DelI.keep {w0 w : World} {B g cap bc bx i j : Nat} {k : List UInt8} {vs : List Value} {D R : List KV} (h : DelI w0 w B g cap bc bx k vs D R i j) (hj : j < D.length) (hij : i < j) (e : KV) (he : e = D[j]) (hv : V5 e.2) (hq : (e.1 == k) = false) (hbc : bc < B) (hbx : bx < B) :
    DelI w0 (w.setCells g (i * 6) (ecl e)) B g cap bc bx k vs D (R.set i e) (i + 1) (j + 1) := by
  have hg := (World.ownsRow.lt h.row.1 g rfl).1
  have hl6 : (R.map ecl).length = D.length := by rw [List.length_map, h.len]
  have hr := h.row.1
  rw [hl6] at hr
  have h1 := row_setL (ecl e) _ (i * 6) _ hr
  have hi : i < (R.map ecl).length := by rw [List.length_map, h.len]; omega
  rw [flatX_set h.row.2 hi (ecl_len hv), ← List.map_set] at h1
  have hl : (R.set i e).length = D.length := by rw [List.length_set, h.len]
  have hiR : i < R.length := by rw [h.len]; omega
  refine ⟨fun x hx => ?_, hl, ⟨?_, fun c hc => ?_⟩, ?_, ?_, h.bel.trans (h1.2.below (Nat.le_of_lt (Nat.lt_of_le_of_lt hg h.gw)) hg hg), h.box.held h1.2 (by omega) (by omega), Nat.lt_of_lt_of_le h.gw h1.2.size⟩
  · rcases List.mem_or_eq_of_mem_set hx with q | q
    · exact h.av x q
    · rw [q]; exact hv
  · have h2 := h1.1
    rw [List.length_map, List.length_set, h.len]
    exact h2
  · obtain ⟨x, hx, rfl⟩ := List.mem_map.1 hc
    rcases List.mem_or_eq_of_mem_set hx with q | q
    · exact ecl_len (h.av x q)
    · rw [q]; exact ecl_len hv
  · rw [take_filter_succ hj, ← he, if_pos (by rw [hq]; rfl), ← h.tk, List.take_succ_eq_append_getElem (by rw [List.length_set]; exact hiR), List.take_set_of_le (Nat.le_refl _), List.getElem_set_self]
  · rw [List.drop_set_of_lt (by omega), ← List.drop_drop, ← List.drop_drop, h.dp]
theorem DelI.out {w0 w : World} {B g cap bc bx i : Nat} {k : List UInt8} {vs : List Value} {D R : List KV} (h : DelI w0 w B g cap bc bx k vs D R i D.length) (hi : i < D.length) (zs : List Value) :
    OwX 6 41 (w.setCells g (i * 6) zs) B (.slice (some ⟨g, 0, none⟩) i cap) ((D.filter fun y => !(y.1 == k)).map ecl) ∧ Below B w0 (w.setCells g (i * 6) zs) := by
  have hg := (World.ownsRow.lt h.row.1 g rfl).1
  have h1 := row_cut h.row (by rw [List.length_map, h.len]) i (by omega)
  rw [← List.map_take, h.tk, List.take_length] at h1
  have hli : ((D.filter fun y => !(y.1 == k)).map ecl).length = i := by
    have := h.tk
    rw [List.take_length] at this
    rw [List.length_map, ← this, List.length_take, h.len]; omega
  have hr := h1.1
  rw [hli] at hr
  have h2 := row_setL zs _ (i * 6) _ hr
  have e : (flatX ((D.filter fun y => !(y.1 == k)).map ecl)).length = i * 6 := by rw [flatX_len h1.2, hli]
  rw [setL_far _ _ _ (by omega)] at h2
  exact ⟨⟨by rw [hli]; exact h2.1, h1.2⟩, h.bel.trans (h2.2.below (Nat.le_of_lt (Nat.lt_of_le_of_lt hg h.gw)) hg hg)⟩

set_option maxHeartbeats 4000000 in
set_option maxRecDepth 100000 in
theorem deleteE_any (bc bx : Nat) (k : List UInt8) (vs : List Value) (hvs : V5 vs) (v : Value) (D : List KV) (w : World) (B : Nat) (hD : AllV D) (h : OwX 6 41 w B v (D.map ecl)) (h0 : Boxes w bc bx k vs) (hbc : bc < B) (hbx : bx < B) (hl : D.length ≤ 4000000) (hB : B ≤ w.heap.size) :
    Calls Tryz.prog 130 #[v, .func (.func 129) #[] #[.pointer (some ⟨bc, 0, none⟩), .pointer (some ⟨bx, 0, none⟩)]] w fun e w' => ∃ v', e = .returned v' ∧ OwX 6 41 w' B v' ((D.filter fun y => !(y.1 == k)).map ecl) ∧ Below B w w' := by
  have hix := ix_le (fun e : KV => e.1 == k) D
  rcases Nat.lt_or_ge (ix (fun e : KV => e.1 == k) D) D.length with hlt | hge
  · -- something is struck
    have hhit := ix_hit (fun e : KV => e.1 == k) D hlt
    have hmiss := ix_miss (fun e : KV => e.1 == k) D
    have hI : ixI (fun y => y == k) D = (ix (fun e : KV => e.1 == k) D : Int) := by unfold ixI; rw [if_pos hlt]
    have hidx := fun W hW => indexE_any _ _ clo_enters (fun w => Boxes w bc bx k vs) (fun w w' => Boxes.up) _ (pred_eq bc bx k vs hvs) v D W hD (h.up hW).sl (h0.up hW) hl
    rw [hI] at hidx
    have hst0 : (D.take (ix (fun e : KV => e.1 == k) D)).filter (fun y => !(y.1 == k)) = D.take (ix (fun e : KV => e.1 == k) D) := filter_all fun j hj => by
      rw [List.length_take] at hj
      rw [List.getElem_take, hmiss j (by omega) (by omega)]; rfl
    have hst1 : (D.take (ix (fun e : KV => e.1 == k) D + 1)).filter (fun y => !(y.1 == k)) = D.take (ix (fun e : KV => e.1 == k) D) := by
      rw [take_filter_succ hlt, hst0, if_neg (by rw [hhit]; decide), List.append_nil]
    generalize ix (fun e : KV => e.1 == k) D = k0 at *
    clear hmiss hhit hI hst0
    rcases h.form with ⟨-, hn⟩ | ⟨g, cap, rfl, h1, h2, h3, h4, -, -⟩
    · rw [List.map_eq_nil_iff] at hn; subst hn; simp at hlt
    rw [List.length_map] at *
    have HH := hid h
    have H0 := hid h0
    have HST := hid hst1
    clear h h0 hst1
    have hk1 : (((k0 : Nat) : Int) == -1) = false := beq_eq_false_iff_ne.2 (by omega)
    go_enter Tryz.func130, Tryz.ntmps130
    go_wp2_with (go_at_call 127; refine (hidx _ (Below.refl _ _)).mono ?_; rintro e w1 ⟨rfl, hb1⟩)
    go_loopg [5, 6, 7] D.length (fun gg s5 s6 _ wr => ∃ (i j : Nat) (R : List KV), s5 = .int .i64 i ∧ s6 = .int .i64 j ∧ i < j ∧ j ≤ D.length ∧ D.length - j ≤ gg ∧ Aside (DelI w wr B g cap bc bx k vs D R i j))
    case atStart => exact ⟨k0, k0 + 1, D, rfl, by go_num, by omega, by omega, by omega, ⟨hD, rfl, HH.out.up hb1, HST.out.symm, rfl, hb1.mono hB, H0.out.up hb1, Nat.lt_of_lt_of_le h4 hb1.size⟩⟩
    case round =>
      obtain ⟨i, j, R, rfl, rfl, hij, hjd, hgg, AA⟩ := hrel
      obtain ⟨hRV, hRl, hRo, hRt, hRd, hRb, hRx, hgw⟩ := AA.out
      have hBw : B ≤ wr.heap.size := Nat.le_trans hB hRb.size
      by_cases hlt2 : j < D.length
      · have hjz : (j : Int) < (D.length : Int) := by omega
        have hiz : (i : Int) < (D.length : Int) := by omega
        have hRf := hRo.form
        rcases hRf with ⟨hn, -⟩ | ⟨g2, cap2, e1, -, -, -, -, hcell, hfro⟩
        · cases hn
        injection e1 with e11 e12 e13
        injection e11 with e11
        injection e11 with e14 _
        subst e13 e14
        have hj6 := hcell j (by simp; omega)
        have hi6 := hcell i (by simp; omega)
        rw [List.getElem_map] at hj6 hi6
        have hyj := hRV _ (List.getElem_mem (show j < R.length by omega))
        have hyi := hRV _ (List.getElem_mem (show i < R.length by omega))
        have hej : R[j]'(by omega) = D[j]'hlt2 := by
          have := congrArg (fun l => l[0]?) hRd
          simp only [List.getElem?_drop, Nat.add_zero] at this
          rw [List.getElem?_eq_getElem (by omega), List.getElem?_eq_getElem hlt2] at this
          injection this
        have HEJ := hid hej
        clear hcell hej
        have hf0 := hfro (i * 6)
        have hf1 := hfro (i * 6 + 1)
        have hf2 := hfro (i * 6 + 2)
        have hf3 := hfro (i * 6 + 3)
        have hf4 := hfro (i * 6 + 4)
        have hf5 := hfro (i * 6 + 5)
        clear hfro
        generalize hRj : R[j]'(by omega) = ej at hj6 hyj HEJ
        generalize hRi : R[i]'(by omega) = ei at hi6 hyi
        clear hRj hRi
        obtain ⟨yj, vj⟩ := ej
        obtain ⟨yi, vi⟩ := ei
        have hyj2 := hyj
        obtain ⟨_, _, _, _, _, _, _, _, _, _, _, rfl⟩ := hyj
        obtain ⟨_, _, _, _, _, _, _, _, _, _, _, rfl⟩ := hyi
        simp only [ecl] at hj6 hi6
        have c0 := hj6 0 _ rfl
        have c1 := hj6 1 _ rfl
        have c2 := hj6 2 _ rfl
        have c3 := hj6 3 _ rfl
        have c4 := hj6 4 _ rfl
        have c5 := hj6 5 _ rfl
        have d0 := hi6 0 _ rfl
        have d1 := hi6 1 _ rfl
        have d2 := hi6 2 _ rfl
        have d3 := hi6 3 _ rfl
        have d4 := hi6 4 _ rfl
        have d5 := hi6 5 _ rfl
        rw [Nat.add_zero] at c0 d0
        clear hj6 hi6
        have hcl := fun W hW => clo_eq bc bx k yj vs _ hvs hyj2 W (hRx.up hW)
        have AB := hid AA.out
        have HV := hid hyj2
        clear hRV hRo hRt hRd hRb hRx hyj2 hidx AA hix hlt e12
        have HRL := hid hRl
        clear hRl
        cases hq : (yj == k) with
        | true =>
          rw [hq] at hcl
          go_wp2_with (go_at_call 129; refine (hcl _ (alb _ _)).mono ?_; rintro e w1 ⟨rfl, hb1⟩)
          go_roundg (D.length - (j + 1))
          case measure => omega
          case rel => exact ⟨i, j + 1, R, rfl, by go_num, by omega, by omega, Nat.le_refl _, (AB.out.up (below_then (alb wr _) hb1) hBw).skip hlt2 (by rw [← HEJ.out]; exact hq)⟩
        | false =>
          rw [hq] at hcl
          go_wp2_with (go_at_call 129; refine (hcl _ (alb _ _)).mono ?_; rintro e w1 ⟨rfl, hb1⟩; have hbB := below_then (alb wr _) hb1; obtain ⟨rc, rf, rs⟩ := rc_below hb1; have d0 := cell_up' hbB d0; have hf0 : w1.frozen? ⟨g, i * 6, none⟩ = false := (by rw [hbB.frozen (p := ⟨g, i * 6, none⟩) hgw]; exact hf0); have d1 := cell_up' hbB d1; have hf1 : w1.frozen? ⟨g, i * 6 + 1, none⟩ = false := (by rw [hbB.frozen (p := ⟨g, i * 6 + 1, none⟩) hgw]; exact hf1); have d2 := cell_up' hbB d2; have hf2 : w1.frozen? ⟨g, i * 6 + 2, none⟩ = false := (by rw [hbB.frozen (p := ⟨g, i * 6 + 2, none⟩) hgw]; exact hf2); have d3 := cell_up' hbB d3; have hf3 : w1.frozen? ⟨g, i * 6 + 3, none⟩ = false := (by rw [hbB.frozen (p := ⟨g, i * 6 + 3, none⟩) hgw]; exact hf3); have d4 := cell_up' hbB d4; have hf4 : w1.frozen? ⟨g, i * 6 + 4, none⟩ = false := (by rw [hbB.frozen (p := ⟨g, i * 6 + 4, none⟩) hgw]; exact hf4); have d5 := cell_up' hbB d5; have hf5 : w1.frozen? ⟨g, i * 6 + 5, none⟩ = false := (by rw [hbB.frozen (p := ⟨g, i * 6 + 5, none⟩) hgw]; exact hf5))
          go_roundg (D.length - (j + 1))
          case measure => omega
          case rel => exact ⟨i + 1, j + 1, R.set i _, by go_num, by go_num, by omega, by omega, Nat.le_refl _, (AB.out.up hbB hBw).keep hlt2 hij _ HEJ.out HV.out hq hbc hbx⟩
      · obtain rfl : j = D.length := by omega
        have hjz : ¬ (D.length : Int) < (D.length : Int) := by omega
        have hne : ¬ cap = i := by omega
        have hiz : (0 : Int) ≤ (i : Int) := by omega
        have hi2 : (i : Int) ≤ (D.length : Int) := by omega
        have hi3 : (i : Int) ≤ (cap : Int) := by omega
        have AB := hid AA.out
        have hl6 : (R.map ecl).length = D.length := by rw [List.length_map, hRl]
        rcases hRo.form with ⟨hn, -⟩ | ⟨g2, cap2, e1, -, -, -, -, hcell, hfro⟩
        · cases hn
        injection e1 with e11 e12 e13
        injection e11 with e11
        injection e11 with e14 _
        subst e13 e14
        obtain ⟨zs, hcl⟩ := run_clear_row (P := Tryz.prog) wr 32 41 0 (.agg #[.string ⟨#[]⟩, .int .i64 0, .int .i64 0, .slice none 0 0, .slice none 0 0, .slice none 0 0]) 6 (by kernel_rfl) (fun w => by kernel_rfl) rfl (ecl_one (e := ([], [.int .i64 0, .int .i64 0, .slice none 0 0, .slice none 0 0, .slice none 0 0])) ⟨0, 0, none, none, none, 0, 0, 0, 0, 0, 0, rfl⟩) g (i * 6) (D.length - i) (cap - i) (by omega) (fun c hc => by
          have q1 : i + c / 6 < (R.map ecl).length := by rw [hl6]; omega
          have q2 : c % 6 < ((R.map ecl)[i + c / 6]).length := by rw [hRo.2 _ (List.getElem_mem q1)]; omega
          have q3 := hcell (i + c / 6) q1 (c % 6) _ (List.getElem?_eq_getElem q2)
          rw [show (i + c / 6) * 6 + c % 6 = i * 6 + c by omega] at q3
          rw [q3]; rfl) (fun c hc => hfro _)
        clear hRV hRo hRt hRd hRb hRx hidx AA hix hlt e12 hcell hfro hl6 hRl
        go_wp2
        go_ret
        exact ⟨_, rfl, AB.out.out (by omega) zs⟩
  · -- nothing is struck
    have hmiss := ix_miss (fun e : KV => e.1 == k) D
    have hI : ixI (fun y => y == k) D = -1 := by unfold ixI; exact if_neg (Nat.not_lt.2 hge)
    have hidx := indexE_any _ _ clo_enters (fun w => Boxes w bc bx k vs) (fun w w' => Boxes.up) _ (pred_eq bc bx k vs hvs) v D w hD h.sl h0 hl
    rw [hI] at hidx
    have hst0 : D.filter (fun y => !(y.1 == k)) = D := filter_all fun j hj => by rw [hmiss j (Nat.lt_of_lt_of_le hj hge) hj]; rfl
    rw [hst0]
    have HH := hid h
    clear hmiss hst0 hI h hge hix
    go_enter Tryz.func130, Tryz.ntmps130
    go_wp2_with (go_at_call 127; refine hidx.mono ?_; rintro e w1 ⟨rfl, hb1⟩)
    go_ret
    exact ⟨_, rfl, HH.out.up hb1, hb1.mono hB⟩
end Go.Proofs.YtjkoiknjffldjaaGreatDoor

/-
  The program's sorted: an entry in the place of all that are as it is, or ahead of the first that is greater. Conditions: the entries are no more than 3600000.
-/
namespace Go.Proofs.YtjkoiknjffldjaaGreatDoor
open Go.RowKit
set_option linter.unusedVariables false

/-- append of a slice of elements onto a row of the call's own, at the operation -/
theorem wp_append_slx {P : Program} {w : World} {o : Oper} {a : Act} {K : Act → World → Prop} {Q : Exit → Act → World → Prop} (s x : Operand) (t : TypeId)
    (ho : o.op = .call { callee := .builtin .append, args := #[s, x], argTypes := #[t, t] })
    (base : Nat) (e : TypeId) (z : Value) (sz bytes : Nat) (ht : P.underlying t = Option.some (.slice e))
    (hi : (P.info? e).map (fun i => (i.zero, i.size, i.bytes)) = Option.some (Option.some z, sz, bytes)) (hzs : z.cells.size = sz) (hsz : 0 < sz)
    (v : Value) (C : List (List Value)) (hs : a.eval s = v) (hown : OwX sz e w base v C)
    (vx : Value) (E : List (List Value)) (hx : a.eval x = vx) (hE : SlX sz w vx E) (h1 : ∀ c ∈ E, ∀ u ∈ c, u.oneCell' = true)
    (h63 : C.length + E.length ≤ 8000000) (hb : bytes ≤ 1000) (hbase : base ≤ w.heap.size)
    (h : ∀ v' w', OwX sz e w' base v' (C ++ E) → w.grownBy w' v.ownBlock → Moved w v v' → K (a.put o.dst v') w') : o.wp P a w K Q := by
  obtain ⟨ao, cap, rfl, q1, q2, q3, q4, q5⟩ := id hE
  have hm : (C.length + E.length) * bytes ≤ 8000000 * 1000 := Nat.mul_le_mul h63 hb
  obtain ⟨i, hi', hz, hsize, hby⟩ := info_parts hi
  cases ao with
  | none =>
    have hc0 := q3 rfl
    have hE0 : E = [] := List.length_eq_zero_iff.1 (by omega)
    subst hE0 hc0
    have hr := run_append_owned_none (P := P) (w := w) base t o.type e i sz ht hi' v C.length (flatX C) hown.1
    unfold Oper.wp execOp
    simp only [ho, resolve, invoke, builtin, Sem.run_bind, Sem.run_pure, Result.andThen_ok, List.map_toArray, List.map_cons, List.map_nil, hs, hx, List.length_nil, hr]
    exact h v w (by simpa using hown) ⟨rfl, rfl, rfl, Nat.le_refl _, fun _ _ _ => rfl⟩ (.inl rfl)
  | some ad =>
    have hnews : ∀ j u, (flatX E)[j]? = Option.some u → w.cell? (ad.add j) = Option.some u := fun j u hj => by
      obtain ⟨i, k, hi, hk, rfl, hu⟩ := flatX_lt q4 hj
      rcases q5 with q5 | ⟨g, off, e1, h6⟩
      · subst q5; simp at hi
      · injection e1 with e1
        subst e1
        rw [Addr.add_lit, ← Nat.add_assoc]; exact h6 i hi k u hu
    obtain ⟨v', w', hr, h2, h3, h4⟩ := run_append_own (P := P) w base t o.type e i z sz bytes ht hi' hz hsize hby hzs hsz v C.length (flatX C) hown.1 ad E.length cap (flatX E) (flatX_len q4) hnews (flatX_one h1) (by unfold maxLen; omega) (by omega) hbase
    have hmv := run_append_moved (P := P) w base t o.type e i z sz bytes ht hi' hz hsize hby hsz v C.length (flatX C) hown.1 ad E.length cap (flatX E) (flatX_len q4) hnews (flatX_one h1) (by unfold maxLen; omega) (by omega) v' w' hr
    unfold Oper.wp execOp
    simp only [ho, resolve, invoke, builtin, Sem.run_bind, Sem.run_pure, Result.andThen_ok, List.map_toArray, List.map_cons, List.map_nil, hs, hx, hr]
    exact h v' w' ⟨by rw [List.length_append, flatX_app]; exact h2, fun c hc => by
      rcases List.mem_append.1 hc with q | q
      · exact hown.2 c q
      · exact q4 c q⟩ h3 hmv
theorem wpList_append_slx {P : Program} {w : World} {ops : Array Oper} {rest : List Oper} {o : Oper} {a : Act} {Q : Exit → Act → World → Prop} (hgd : o.guard = none) (s x : Operand) (t : TypeId)
    (ho : o.op = .call { callee := .builtin .append, args := #[s, x], argTypes := #[t, t] })
    (base : Nat) (e : TypeId) (z : Value) (sz bytes : Nat) (ht : P.underlying t = Option.some (.slice e))
    (hi : (P.info? e).map (fun i => (i.zero, i.size, i.bytes)) = Option.some (Option.some z, sz, bytes)) (hzs : z.cells.size = sz) (hsz : 0 < sz)
    (v : Value) (C : List (List Value)) (hs : a.eval s = v) (hown : OwX sz e w base v C)
    (vx : Value) (E : List (List Value)) (hx : a.eval x = vx) (hE : SlX sz w vx E) (h1 : ∀ c ∈ E, ∀ u ∈ c, u.oneCell' = true)
    (h63 : C.length + E.length ≤ 8000000) (hb : bytes ≤ 1000) (hbase : base ≤ w.heap.size)
    (h : ∀ v' w', OwX sz e w' base v' (C ++ E) → w.grownBy w' v.ownBlock → Moved w v v' → wpList P ops Q rest (a.put o.dst v') w') : wpList P ops Q (o :: rest) a w :=
  wpList_plain hgd fun K hK => wp_append_slx s x t ho base e z sz bytes ht hi hzs hsz v C hs hown vx E hx hE h1 h63 hb hbase fun v' w' r1 r2 r3 => hK _ _ (h v' w' r1 r2 r3)

/-- an entry in a block made just now -/
theorem SlX.lit1 (w : World) (g : Nat) (hg : g = w.heap.size) (c : List Value) (T : TypeId) (sz : Nat) (hc : c.length = sz) : SlX sz (w.alloc (.cells c.toArray T)) (.slice (Option.some ⟨g, 0, none⟩) 1 1) [c] := by
  subst hg
  refine ⟨_, 1, rfl, by simp, by simp [maxLen], fun q => (by cases q), fun d hd => by simp at hd; rw [hd]; exact hc, .inr ⟨w.heap.size, 0, rfl, fun i hi j u hu => ?_⟩⟩
  obtain rfl : i = 0 := by simp at hi; omega
  simp at hu
  rw [World.cell?_alloc_at _ _ _ _ rfl]
  simpa using hu
theorem ecl_map_one {D : List KV} (h : AllV D) : ∀ c ∈ D.map ecl, ∀ u ∈ c, u.oneCell' = true := fun c hc => by
  obtain ⟨e, he, rfl⟩ := List.mem_map.1 hc
  exact ecl_one (h e he)

abbrev zEnt : Value := .agg #[.string ⟨#[]⟩, .int .i64 0, .int .i64 0, .slice none 0 0, .slice none 0 0, .slice none 0 0]
theorem entTy' : Tryz.prog.underlying 32 = some (.slice 41) := by kernel_rfl
theorem entIn : (Tryz.prog.info? 41).map (fun i => (i.zero, i.size, i.bytes)) = some (some zEnt, 6, 104) := by kernel_rfl

set_option maxHeartbeats 4000000 in
set_option maxRecDepth 100000 in
theorem sorted_any (v : Value) (D : List KV) (k : List UInt8) (vs : List Value) (keep : Bool) (w : World) (hD : AllV D) (hvs : V5 vs) (h : SlX 6 w v (D.map ecl)) (hl : D.length ≤ 3600000) :
    Calls Tryz.prog 123 #[v, ent k vs, .func (.func 125) #[] #[], .bool keep] w fun e w' => ∃ v', e = .returned v' ∧ OwX 6 41 w' w.heap.size v' ((srt k (if keep = true then [(k, vs)] else []) D).map ecl) ∧ Below w.heap.size w w' := by
  have hix := ix_le (fun e : KV => kle k e.1) D
  obtain ⟨ao, cap, rfl, h1, h2, h3, h4, -⟩ := id h
  rw [List.length_map] at *
  rw [← srt_eq]
  obtain ⟨cap2, hT, hrT⟩ := sliceE_to (e := 41) entTy entSz h (ix (fun e : KV => kle k e.1) D) (by rw [List.length_map]; exact hix)
  obtain ⟨vF, hF, hrF⟩ : ∃ vF, SlX 6 w vF ((D.map ecl).drop (ix (fun e : KV => kle k e.1) D)) ∧ ∀ w', (Instr.slice 32 (.slice ao D.length cap) (some (.int .i64 (ix (fun e : KV => kle k e.1) D))) none none).run Tryz.prog w' = .ok vF w' := ⟨_, sliceE_from (e := 41) entTy entSz h (ix (fun e : KV => kle k e.1) D) (by rw [List.length_map]; exact hix)⟩
  have hidx := fun W hW (hb : Boxes W (w.heap.size + 1) w.heap.size k vs) => indexE_any _ _ clo_enters1 (fun w' => Boxes w' (w.heap.size + 1) w.heap.size k vs) (fun w w' => Boxes.up) _ (pred_ge (w.heap.size + 1) w.heap.size k vs hvs) _ D W hD (h.up hW) hb (by omega)
  have hI : ixI (fun y => kle k y) D = (ix (fun e : KV => kle k e.1) D : Int) ∨ (ixI (fun y => kle k y) D = -1 ∧ ix (fun e : KV => kle k e.1) D = D.length) := by
    unfold ixI
    by_cases q : ix (fun e : KV => kle k e.1) D < D.length
    · exact .inl (if_pos q)
    · exact .inr ⟨if_neg q, by omega⟩
  rw [← List.map_take] at hT
  rw [← List.map_drop] at hF
  have hDt : AllV (D.take (ix (fun e : KV => kle k e.1) D)) := hD.sub fun e he => List.mem_of_mem_take he
  have hDd : AllV (D.drop (ix (fun e : KV => kle k e.1) D)) := hD.sub fun e he => List.mem_of_mem_drop he
  have hlt : (D.take (ix (fun e : KV => kle k e.1) D)).length ≤ 3600000 := by rw [List.length_take]; omega
  have hld : (D.drop (ix (fun e : KV => kle k e.1) D)).length ≤ 3600000 := by rw [List.length_drop]; omega
  generalize D.take (ix (fun e : KV => kle k e.1) D) = Dt at *
  generalize D.drop (ix (fun e : KV => kle k e.1) D) = Dd at *
  generalize ix (fun e : KV => kle k e.1) D = at_ at *
  generalize ixI (fun y => kle k y) D = ii at *
  have hneg : ¬ ((at_ : Int) < 0) := by omega
  have hneg2 : ¬ ((D.length : Int) < 0) := by omega
  have hlt2 : (Dt.filter fun y => !(y.1 == k)).length ≤ 3600000 := Nat.le_trans (List.length_filter_le _ _) hlt
  have hld2 : (Dd.filter fun y => !(y.1 == k)).length ≤ 3600000 := Nat.le_trans (List.length_filter_le _ _) hld
  have hDt2 : AllV (Dt.filter fun y => !(y.1 == k)) := hDt.sub fun e he => (List.mem_filter.1 he).1
  have hDd2 : AllV (Dd.filter fun y => !(y.1 == k)) := hDd.sub fun e he => (List.mem_filter.1 he).1
  have hvs2 := hvs
  obtain ⟨q1, q2, q3, q4, q5, q6, q7, q8, q9, q10, q11, rfl⟩ := hvs
  have hbx : ∀ W, Below ((w.alloc (.cells #[.string (st k), .int .i64 q1, .int .i64 q2, .slice q3 q6 q7, .slice q4 q8 q9, .slice q5 q10 q11] 41)).alloc (.cells #[.func (.func 125) #[] #[]] 177)).heap.size ((w.alloc (.cells #[.string (st k), .int .i64 q1, .int .i64 q2, .slice q3 q6 q7, .slice q4 q8 q9, .slice q5 q10 q11] 41)).alloc (.cells #[.func (.func 125) #[] #[]] 177)) W → Boxes W (w.heap.size + 1) w.heap.size k [.int .i64 q1, .int .i64 q2, .slice q3 q6 q7, .slice q4 q8 q9, .slice q5 q10 q11] := fun W hW => Boxes.up (by
    refine ⟨?_, fun j u hu => ?_⟩
    · rw [World.cell?_alloc_at _ _ _ _ (by simp)]; rfl
    · have := World.block_lt_of_cell? (w.alloc (.cells #[.string (st k), .int .i64 q1, .int .i64 q2, .slice q3 q6 q7, .slice q4 q8 q9, .slice q5 q10 q11] 41))
      refine cell_up' (alb _ _) ?_
      rw [World.cell?_alloc_at _ _ _ _ rfl]
      simpa using hu) hW
  have HH := hid h
  have HT := hid hT
  have HF := hid hF
  have HI := hid hI
  clear h hT hF hI hix
  have hone : ∀ c ∈ [ecl (k, [.int .i64 q1, .int .i64 q2, .slice q3 q6 q7, .slice q4 q8 q9, .slice q5 q10 q11])], ∀ u ∈ c, u.oneCell' = true := fun c hc => by
    rw [List.mem_singleton] at hc; subst hc; exact ecl_one hvs2
  go_enter Tryz.func123, Tryz.ntmps123
  rcases HI.out with rfl | ⟨rfl, rfl⟩ <;> cases keep
  · go_wp2_with (first | (at_builtin; refine wpList_append_slx rfl _ _ 32 rfl w1.heap.size 41 zEnt 6 104 entTy' entIn rfl (by decide) vA _ rfl (hoA.up hbC) v6 _ rfl ho6.sl (ecl_map_one hDd2) (by simp; omega) (by decide) (Nat.le_trans hbA.size hbC.size) ?_; intro v7 w7 ho7 hg7 _; have hb7 := (hbA.trans (hbC.mono hbA.size)).grown hg7 (Nat.le_trans hbA.size hbC.size) (fun g hg => (hoA.lt g hg).1)) | (go_at_call 130; refine (deleteE_any _ _ k _ hvs2 _ Dd _ wA.heap.size hDd ho5 hbx5 (Nat.lt_of_lt_of_le hz1 hbA.size) (Nat.lt_of_lt_of_le (by omega) hbA.size) (by omega) hb5.size).mono ?_; rintro e w6 ⟨v6, rfl, ho6, hb6⟩; have hbC := hb5.trans hb6) | (go_at_call 131; refine (cloneE_any _ Dd _ hDd ((HF.out.up hB1).up hbA) (by omega)).mono ?_; rintro e w5 ⟨v5, rfl, ho5, hb5⟩; have hbx5 := (hbx1.up hbA).up hb5) | (go_at_call 130; refine (deleteE_any _ _ k _ hvs2 _ Dt _ w1.heap.size hDt ho2 hbx2 hz1 (by omega) (by omega) hb2.size).mono ?_; rintro e wA ⟨vA, rfl, hoA, hb3⟩; have hbA := hb2.trans hb3; have hbxA := hbx1.up hbA; obtain ⟨-, hx⟩ := hbxA; have c0 := hx 0 _ rfl; have c1 := hx 1 _ rfl; have c2 := hx 2 _ rfl; have c3 := hx 3 _ rfl; have c4 := hx 4 _ rfl; have c5 := hx 5 _ rfl; clear hx) | (go_at_call 131; refine (cloneE_any _ Dt _ hDt (HT.out.up hB1) (by omega)).mono ?_; rintro e w2 ⟨v2, rfl, ho2, hb2⟩; have hbx2 := hbx1.up hb2) | (go_at_call 127; refine (hidx _ (below_then (alb _ _) (alb _ _)) (hbx _ (Below.refl _ _))).mono ?_; rintro e w1 ⟨rfl, hb1⟩; have hB1 := below_then (below_then (alb w _) (alb _ _)) hb1; have hbx1 := hbx _ hb1; have hz1 : w.heap.size + 1 < w1.heap.size := (by have := hb1.size; simp at this; omega)))
    have hfin := ho7.base (Nat.le_trans (Nat.le_add_right _ 1) (Nat.le_of_lt hz1))
    have hbe := below_then' hB1 hb7 hB1.size
    go_wp2
    go_ret
    refine ⟨_, rfl, ?_, hbe⟩
    simpa using hfin
  · go_wp2_with (first | (at_builtin; refine wpList_append_slx rfl _ _ 32 rfl w1.heap.size 41 zEnt 6 104 entTy' entIn rfl (by decide) vB _ rfl (hoB.up hbC) v6 _ rfl ho6.sl (ecl_map_one hDd2) (by simp; omega) (by decide) (Nat.le_trans hbB.size hbC.size) ?_; intro v7 w7 ho7 hg7 _; have hb7 := (hbB.trans (hbC.mono hbB.size)).grown hg7 (Nat.le_trans hbB.size hbC.size) (fun g hg => (hoB.lt g hg).1)) | (go_at_call 130; refine (deleteE_any _ _ k _ hvs2 _ Dd _ wB.heap.size hDd ho5 hbx5 (Nat.lt_of_lt_of_le hz1 hbB.size) (Nat.lt_of_lt_of_le (by omega) hbB.size) (by omega) hb5.size).mono ?_; rintro e w6 ⟨v6, rfl, ho6, hb6⟩; have hbC := hb5.trans hb6) | (go_at_call 131; refine (cloneE_any _ Dd _ hDd ((HF.out.up hB1).up hbB) (by omega)).mono ?_; rintro e w5 ⟨v5, rfl, ho5, hb5⟩; have hbx5 := (hbx1.up hbB).up hb5) | (at_builtin; refine wpList_append_slx rfl _ _ 32 rfl w1.heap.size 41 zEnt 6 104 entTy' entIn rfl (by decide) vA _ rfl (hoA.up (alb _ _)) _ [ecl (k, [.int .i64 q1, .int .i64 q2, .slice q3 q6 q7, .slice q4 q8 q9, .slice q5 q10 q11])] rfl (SlX.lit1 _ _ rfl (ecl (k, [.int .i64 q1, .int .i64 q2, .slice q3 q6 q7, .slice q4 q8 q9, .slice q5 q10 q11])) _ 6 rfl) hone (by simp; omega) (by decide) (Nat.le_trans hbA.size (alb _ _).size) ?_; intro vB wB hoB hgB _; have hbB := (below_then' hbA (alb wA (.cells #[.string (st k), .int .i64 q1, .int .i64 q2, .slice q3 q6 q7, .slice q4 q8 q9, .slice q5 q10 q11] 41)) hbA.size).grown hgB (Nat.le_trans hbA.size (alb _ _).size) (fun g hg => (hoA.lt g hg).1); clear hoA hgB hbA c0 c1 c2 c3 c4 c5) | (go_at_call 130; refine (deleteE_any _ _ k _ hvs2 _ Dt _ w1.heap.size hDt ho2 hbx2 hz1 (by omega) (by omega) hb2.size).mono ?_; rintro e wA ⟨vA, rfl, hoA, hb3⟩; have hbA := hb2.trans hb3; have hbxA := hbx1.up hbA; obtain ⟨-, hx⟩ := hbxA; have c0 := hx 0 _ rfl; have c1 := hx 1 _ rfl; have c2 := hx 2 _ rfl; have c3 := hx 3 _ rfl; have c4 := hx 4 _ rfl; have c5 := hx 5 _ rfl; clear hx) | (go_at_call 131; refine (cloneE_any _ Dt _ hDt (HT.out.up hB1) (by omega)).mono ?_; rintro e w2 ⟨v2, rfl, ho2, hb2⟩; have hbx2 := hbx1.up hb2) | (go_at_call 127; refine (hidx _ (below_then (alb _ _) (alb _ _)) (hbx _ (Below.refl _ _))).mono ?_; rintro e w1 ⟨rfl, hb1⟩; have hB1 := below_then (below_then (alb w _) (alb _ _)) hb1; have hbx1 := hbx _ hb1; have hz1 : w.heap.size + 1 < w1.heap.size := (by have := hb1.size; simp at this; omega)))
    have hfin := ho7.base (Nat.le_trans (Nat.le_add_right _ 1) (Nat.le_of_lt hz1))
    have hbe := below_then' hB1 hb7 hB1.size
    go_wp2
    go_ret
    refine ⟨_, rfl, ?_, hbe⟩
    simpa using hfin
  · go_wp2_with (first | (at_builtin; refine wpList_append_slx rfl _ _ 32 rfl w1.heap.size 41 zEnt 6 104 entTy' entIn rfl (by decide) vA _ rfl (hoA.up hbC) v6 _ rfl ho6.sl (ecl_map_one hDd2) (by simp; omega) (by decide) (Nat.le_trans hbA.size hbC.size) ?_; intro v7 w7 ho7 hg7 _; have hb7 := (hbA.trans (hbC.mono hbA.size)).grown hg7 (Nat.le_trans hbA.size hbC.size) (fun g hg => (hoA.lt g hg).1)) | (go_at_call 130; refine (deleteE_any _ _ k _ hvs2 _ Dd _ wA.heap.size hDd ho5 hbx5 (Nat.lt_of_lt_of_le hz1 hbA.size) (Nat.lt_of_lt_of_le (by omega) hbA.size) (by omega) hb5.size).mono ?_; rintro e w6 ⟨v6, rfl, ho6, hb6⟩; have hbC := hb5.trans hb6) | (go_at_call 131; refine (cloneE_any _ Dd _ hDd ((HF.out.up hB1).up hbA) (by omega)).mono ?_; rintro e w5 ⟨v5, rfl, ho5, hb5⟩; have hbx5 := (hbx1.up hbA).up hb5) | (go_at_call 130; refine (deleteE_any _ _ k _ hvs2 _ Dt _ w1.heap.size hDt ho2 hbx2 hz1 (by omega) (by omega) hb2.size).mono ?_; rintro e wA ⟨vA, rfl, hoA, hb3⟩; have hbA := hb2.trans hb3; have hbxA := hbx1.up hbA; obtain ⟨-, hx⟩ := hbxA; have c0 := hx 0 _ rfl; have c1 := hx 1 _ rfl; have c2 := hx 2 _ rfl; have c3 := hx 3 _ rfl; have c4 := hx 4 _ rfl; have c5 := hx 5 _ rfl; clear hx) | (go_at_call 131; refine (cloneE_any _ Dt _ hDt (HT.out.up hB1) (by omega)).mono ?_; rintro e w2 ⟨v2, rfl, ho2, hb2⟩; have hbx2 := hbx1.up hb2) | (go_at_call 127; refine (hidx _ (below_then (alb _ _) (alb _ _)) (hbx _ (Below.refl _ _))).mono ?_; rintro e w1 ⟨rfl, hb1⟩; have hB1 := below_then (below_then (alb w _) (alb _ _)) hb1; have hbx1 := hbx _ hb1; have hz1 : w.heap.size + 1 < w1.heap.size := (by have := hb1.size; simp at this; omega)))
    have hfin := ho7.base (Nat.le_trans (Nat.le_add_right _ 1) (Nat.le_of_lt hz1))
    have hbe := below_then' hB1 hb7 hB1.size
    go_wp2
    go_ret
    refine ⟨_, rfl, ?_, hbe⟩
    simpa using hfin
  · go_wp2_with (first | (at_builtin; refine wpList_append_slx rfl _ _ 32 rfl w1.heap.size 41 zEnt 6 104 entTy' entIn rfl (by decide) vB _ rfl (hoB.up hbC) v6 _ rfl ho6.sl (ecl_map_one hDd2) (by simp; omega) (by decide) (Nat.le_trans hbB.size hbC.size) ?_; intro v7 w7 ho7 hg7 _; have hb7 := (hbB.trans (hbC.mono hbB.size)).grown hg7 (Nat.le_trans hbB.size hbC.size) (fun g hg => (hoB.lt g hg).1)) | (go_at_call 130; refine (deleteE_any _ _ k _ hvs2 _ Dd _ wB.heap.size hDd ho5 hbx5 (Nat.lt_of_lt_of_le hz1 hbB.size) (Nat.lt_of_lt_of_le (by omega) hbB.size) (by omega) hb5.size).mono ?_; rintro e w6 ⟨v6, rfl, ho6, hb6⟩; have hbC := hb5.trans hb6) | (go_at_call 131; refine (cloneE_any _ Dd _ hDd ((HF.out.up hB1).up hbB) (by omega)).mono ?_; rintro e w5 ⟨v5, rfl, ho5, hb5⟩; have hbx5 := (hbx1.up hbB).up hb5) | (at_builtin; refine wpList_append_slx rfl _ _ 32 rfl w1.heap.size 41 zEnt 6 104 entTy' entIn rfl (by decide) vA _ rfl (hoA.up (alb _ _)) _ [ecl (k, [.int .i64 q1, .int .i64 q2, .slice q3 q6 q7, .slice q4 q8 q9, .slice q5 q10 q11])] rfl (SlX.lit1 _ _ rfl (ecl (k, [.int .i64 q1, .int .i64 q2, .slice q3 q6 q7, .slice q4 q8 q9, .slice q5 q10 q11])) _ 6 rfl) hone (by simp; omega) (by decide) (Nat.le_trans hbA.size (alb _ _).size) ?_; intro vB wB hoB hgB _; have hbB := (below_then' hbA (alb wA (.cells #[.string (st k), .int .i64 q1, .int .i64 q2, .slice q3 q6 q7, .slice q4 q8 q9, .slice q5 q10 q11] 41)) hbA.size).grown hgB (Nat.le_trans hbA.size (alb _ _).size) (fun g hg => (hoA.lt g hg).1); clear hoA hgB hbA c0 c1 c2 c3 c4 c5) | (go_at_call 130; refine (deleteE_any _ _ k _ hvs2 _ Dt _ w1.heap.size hDt ho2 hbx2 hz1 (by omega) (by omega) hb2.size).mono ?_; rintro e wA ⟨vA, rfl, hoA, hb3⟩; have hbA := hb2.trans hb3; have hbxA := hbx1.up hbA; obtain ⟨-, hx⟩ := hbxA; have c0 := hx 0 _ rfl; have c1 := hx 1 _ rfl; have c2 := hx 2 _ rfl; have c3 := hx 3 _ rfl; have c4 := hx 4 _ rfl; have c5 := hx 5 _ rfl; clear hx) | (go_at_call 131; refine (cloneE_any _ Dt _ hDt (HT.out.up hB1) (by omega)).mono ?_; rintro e w2 ⟨v2, rfl, ho2, hb2⟩; have hbx2 := hbx1.up hb2) | (go_at_call 127; refine (hidx _ (below_then (alb _ _) (alb _ _)) (hbx _ (Below.refl _ _))).mono ?_; rintro e w1 ⟨rfl, hb1⟩; have hB1 := below_then (below_then (alb w _) (alb _ _)) hb1; have hbx1 := hbx _ hb1; have hz1 : w.heap.size + 1 < w1.heap.size := (by have := hb1.size; simp at this; omega)))
    have hfin := ho7.base (Nat.le_trans (Nat.le_add_right _ 1) (Nat.le_of_lt hz1))
    have hbe := below_then' hB1 hb7 hB1.size
    go_wp2
    go_ret
    refine ⟨_, rfl, ?_, hbe⟩
    simpa using hfin
end Go.Proofs.YtjkoiknjffldjaaGreatDoor
