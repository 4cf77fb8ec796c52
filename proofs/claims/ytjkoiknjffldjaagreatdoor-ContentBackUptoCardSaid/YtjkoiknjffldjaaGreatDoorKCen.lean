/-
  The reader's ended: an operator, of which the word was read. Condition: the reader stands in its bytes, these are no more than 3600000.
-/
import Derived.Test.YtjkoiknjffldjaaGreatDoorKCdc
/-
  The reader's ended: an operator, of which the word was read. Condition: the reader stands in its bytes, these are no more than 3600000.
-/
namespace Go.Proofs.YtjkoiknjffldjaaGreatDoor
open Go.RowKit
set_option linter.unusedVariables false

/-- a row of objects as a slice -/
def AR (A : Nat → Prop) (w : World) (va : Value) (l : List PO) : Prop := ∃ C : List (List Value), RowA A w 5 va l.length (fun i => C.getD i []) ∧ OVs A w C l
theorem AR.keep {A B : Nat → Prop} {w w' : World} {va : Value} {l : List PO} (h : AR A w va l) (hA : ∀ g, A g → B g) (hk : ∀ g, A g → g < w.heap.size → w'.heap[g]? = w.heap[g]?) : AR B w' va l := by
  obtain ⟨C, h1, h2⟩ := h
  exact ⟨C, h1.keep hA hk, h2.keep hA hk⟩
theorem AR.nil (A : Nat → Prop) (w : World) : AR A w (.slice none 0 0) [] := ⟨[], RowA.nil _ _ _ _, .nil⟩
theorem AR.of {B : Nat} {w : World} {v : Value} {C : List (List Value)} {l : List PO} (h : RowG (fun c => c) OV 5 34 B w v C l) {A : Nat → Prop} (hA : ∀ g, B ≤ g → g < w.heap.size → A g) : AR A w v l := by
  have h1 := h.row.row hA
  rw [List.map_id'] at h1
  rw [All2.len h.rel] at h1
  exact ⟨C, h1, h.wide keepOV hA⟩
/-- these four values are the operator -/
def OpV (A : Nat → Prop) (w : World) (vs : List Value) (o : CO) : Prop := ∃ va vd, vs = [.string (st o.name), va, vd, .int .i64 o.at_] ∧ AR A w va o.args ∧ SlA A w vd o.data
theorem OpV.keep {A B : Nat → Prop} {w w' : World} {vs : List Value} {o : CO} (h : OpV A w vs o) (hA : ∀ g, A g → B g) (hk : ∀ g, A g → g < w.heap.size → w'.heap[g]? = w.heap[g]?) : OpV B w' vs o := by
  obtain ⟨va, vd, rfl, h1, h2⟩ := h
  exact ⟨va, vd, rfl, h1.keep hA hk, h2.keep hA hk⟩
/-- what Op gives -/
def OpQ (B : Nat) (w : World) (rp pp lp cp : Nat) (b : List UInt8) : ORes → Ending → World → Prop
  | .bad x, e, w' => e = .returned (.tuple #[.agg #[.string ⟨#[]⟩, .slice none 0 0, .slice none 0 0, .int .i64 0], .bool false, .int .i64 x]) ∧ ∃ j t, Rs w w' rp pp lp cp b j t
  | .fin, e, w' => e = .returned (.tuple #[.agg #[.string ⟨#[]⟩, .slice none 0 0, .slice none 0 0, .int .i64 0], .bool false, .int .i64 0]) ∧ ∃ j t, Rs w w' rp pp lp cp b j t
  | .op o r, e, w' => ∃ vs : List Value, e = .returned (.tuple #[.agg vs.toArray, .bool true, .int .i64 0]) ∧ OpV (fun g => B ≤ g ∧ g < w'.heap.size) w' vs o ∧ ∃ j, Rs w w' rp pp lp cp b j r
/-- four cells of a block, set -/
abbrev set4 (w : World) (g : Nat) (a b c d : Value) : World := (((w.setCell ⟨g, 0, none⟩ a).setCell ⟨g, 1, none⟩ b).setCell ⟨g, 2, none⟩ c).setCell ⟨g, 3, none⟩ d
theorem set4_held (w : World) (B g : Nat) (a b c d : Value) : Held B g g w (set4 w g a b c d) :=
  (((Held.set w ⟨g, 0, none⟩ a (.inl rfl)).trans (Held.set _ ⟨g, 1, none⟩ b (.inl rfl))).trans (Held.set _ ⟨g, 2, none⟩ c (.inl rfl))).trans (Held.set _ ⟨g, 3, none⟩ d (.inl rfl))
theorem C5.set4 {w : World} {g : Nat} {L : List Value} {a b c d : Value} (h : C5 w g L) (hl : L.length = 4) : C5 (set4 w g a b c d) g [a, b, c, d] := by
  obtain ⟨x0, x1, x2, x3, rfl⟩ : ∃ x0 x1 x2 x3, L = [x0, x1, x2, x3] := by
    match L, hl with
    | [x0, x1, x2, x3], _ => exact ⟨x0, x1, x2, x3, rfl⟩
  exact (((h.set (k := 0) (u := a) (by simp)).set (k := 1) (u := b) (by simp)).set (k := 2) (u := c) (by simp)).set (k := 3) (u := d) (by simp)
theorem C5.s4 {w : World} {g : Nat} {a b c d : Value} (h : C5 w g [a, b, c, d]) : w.cell? ⟨g, 0, none⟩ = some a ∧ w.cell? ⟨g, 1, none⟩ = some b ∧ w.cell? ⟨g, 2, none⟩ = some c ∧ w.cell? ⟨g, 3, none⟩ = some d := ⟨h.1 0, h.1 1, h.1 2, h.1 3⟩

set_option maxHeartbeats 1600000 in
set_option maxRecDepth 100000 in
theorem ended_word {B : Nat} {w : World} {rp pp lp cp : Nat} {b s out : List UInt8} {i : Nat} {args : List PO} {k p n : Int} {v va : Value} (h : Rs w w rp pp lp cp b i s) (hS : Sl w v out) (hA : AR (fun g => B ≤ g ∧ g < w.heap.size) w va args) (hb : ¬ out = bBI) :
    Calls Tryz.prog 41 #[.pointer (some ⟨rp, 0, none⟩), .agg #[.int .i64 k, .int .i64 p, .int .i64 n, v], va] w fun e w' => OpQ B w rp pp lp cp b (.op ⟨out, args, [], p⟩ s) e w' := by
  obtain ⟨ao, cap, rfl, c1, c2, c3, c4⟩ := id hS
  have hA0 := hA
  obtain ⟨C, ⟨aoa, capa, rfl, -⟩, -⟩ := hA
  have hA := hid hA0
  clear hA0
  have hq : (out == [66, 73]) = false := by simp only [beq_eq_false_iff_ne]; exact hb
  have hst := st_toList out
  have hcv : ∀ o : Obj, ∀ o2 : Obj, (convert 24 9 (.slice ao out.length cap)).run Tryz.prog ((w.alloc o).alloc o2) = .ok (.string (st out)) ((w.alloc o).alloc o2) := fun o o2 => sl_string (P := Tryz.prog) _ 24 9 5 Tryz.underlying24 (by kernel_rfl) (by kernel_rfl) _ _ (hS.up (below_then (alb _ _) (alb _ _)))
  go_enter Tryz.func41, Tryz.ntmps41
  go_wp2
  have hC := (C5.new (w.alloc (.cells #[.int .i64 k, .int .i64 p, .int .i64 n, .slice ao out.length cap] 85)) (w.heap.size + 1) (by simp) [.string (st out), .slice aoa args.length capa, .slice none 0 0, .int .i64 p] 51).up (alb _ (.cells #[.string (st out), .slice aoa args.length capa, .slice none 0 0, .int .i64 p] 51))
  obtain ⟨k0, k1, k2, k3⟩ := hC.s4
  have hbw := below_then (below_then (alb w (.cells #[.int .i64 k, .int .i64 p, .int .i64 n, .slice ao out.length cap] 85)) (alb _ (.cells #[.string (st out), .slice aoa args.length capa, .slice none 0 0, .int .i64 p] 51))) (alb _ (.cells #[.string (st out), .slice aoa args.length capa, .slice none 0 0, .int .i64 p] 51))
  exact bodyPost_ret (v := .tuple #[.agg #[.string (st out), .slice aoa args.length capa, .slice none 0 0, .int .i64 p], .bool true, .int .i64 0]) (by simp [results, Tryz.results41, go_sem, k0, k1, k2, k3]) rfl ⟨[.string (st out), .slice aoa args.length capa, .slice none 0 0, .int .i64 p], rfl, ⟨_, _, rfl, hA.out.keep (fun g hg => ⟨hg.1, Nat.lt_of_lt_of_le hg.2 hbw.size⟩) (fun g hg hlt => hbw.block g hlt), SlA.nil _ _⟩, _, h.below hbw⟩

theorem RowA.one {A : Nat → Prop} {w : World} {g : Nat} {L : List Value} (h : C5 w g L) (hl : L.length = 5) (hA : A g) : RowA A w 5 (.slice (some ⟨g, 0, none⟩) 1 1) 1 (fun i => [L].getD i []) := by
  refine ⟨some ⟨g, 0, none⟩, 1, rfl, Nat.le_refl _, by unfold maxLen; omega, (fun q => by cases q), fun i hi => ?_, .inr ⟨g, 0, rfl, hA, fun i hi j u hu => ?_⟩⟩
  · obtain rfl : i = 0 := by omega
    exact hl
  · obtain rfl : i = 0 := by omega
    have e : (⟨g, 0 + (5 * 0 + j), none⟩ : Addr) = ⟨g, j, none⟩ := by congr 1; omega
    rw [e, h.1 j]
    exact hu

theorem imgF_ne {s : List UInt8} {e : Int} (h : imgF s = .inl e) : (e == 0) = false := by
  unfold imgF at h
  split at h
  · injection h with h; subst h; rfl
  · split at h
    · split at h
      · cases h
      · injection h with h; subst h; rfl
    · injection h with h; subst h; rfl
theorem DI.ne {keys : List (List UInt8)} {ents : List (List UInt8 × PO)} {s : List UInt8} {r : PRes} (h : DI keys ents s r) : ∀ e t, r = .bad e t → (e == 0) = false := by
  induction h with
  | err hT => intro e t q; injection q with q _; subst q; exact TK_err hT
  | close hT => intro e t q; cases q
  | eof hT => intro e t q; injection q with q _; subst q; rfl
  | form hT _ _ _ => intro e t q; injection q with q _; subst q; rfl
  | twice hT _ => intro e t q; injection q with q _; subst q; rfl
  | stop hT _ hv => intro e t q; injection q with q _; subst q; exact hv.fit
  | step _ _ _ _ ih => exact ih

set_option maxHeartbeats 3200000 in
set_option maxRecDepth 100000 in
theorem ended_bi {B : Nat} {w : World} {rp pp lp cp : Nat} {b s out : List UInt8} {i : Nat} {args : List PO} {k p n : Int} {v va : Value} (h : Rs w w rp pp lp cp b i s) (hsb : b.length ≤ 3600000) (hS : Sl w v out) (hA : AR (fun g => B ≤ g ∧ g < w.heap.size) w va args) (hB : B ≤ w.heap.size) (hBl : lp < B ∧ cp < B) (hb : out = bBI) :
    Calls Tryz.prog 41 #[.pointer (some ⟨rp, 0, none⟩), .agg #[.int .i64 k, .int .i64 p, .int .i64 n, v], va] w fun e w' => ∃ res, DI [] [] s res ∧ OpQ B w rp pp lp cp b (bik args.length p res) e w' := by
  obtain ⟨ao, cap, rfl, c1, c2, c3, c4⟩ := id hS
  have hlo := h.lt
  have hA0 := hA
  obtain ⟨C, ⟨aoa, capa, rfl, -⟩, -⟩ := hA
  have hA := hA0
  clear hA0
  have hq : (out == [66, 73]) = true := by rw [hb]; rfl
  have hst := st_toList out
  have hcv : ∀ o : Obj, ∀ o2 : Obj, (convert 24 9 (.slice ao out.length cap)).run Tryz.prog ((w.alloc o).alloc o2) = .ok (.string (st out)) ((w.alloc o).alloc o2) := fun o o2 => sl_string (P := Tryz.prog) _ 24 9 5 Tryz.underlying24 (by kernel_rfl) (by kernel_rfl) _ _ (hS.up (below_then (alb _ _) (alb _ _)))
  have HB := hid hb
  clear hb
  have hb3 := below_then (below_then (alb w (.cells #[.int .i64 k, .int .i64 p, .int .i64 n, .slice ao out.length cap] 85)) (alb _ (.cells #[.string ⟨#[]⟩, .slice none 0 0, .slice none 0 0, .int .i64 0] 51))) (alb _ (.cells #[.string (st out), .slice aoa args.length capa, .slice none 0 0, .int .i64 p] 51))
  have hR := h.below hb3
  have hZ := (C5.new (w.alloc (.cells #[.int .i64 k, .int .i64 p, .int .i64 n, .slice ao out.length cap] 85)) (w.heap.size + 1) (by simp) [.string ⟨#[]⟩, .slice none 0 0, .slice none 0 0, .int .i64 0] 51).up (alb _ (.cells #[.string (st out), .slice aoa args.length capa, .slice none 0 0, .int .i64 p] 51))
  have hO := C5.new ((w.alloc (.cells #[.int .i64 k, .int .i64 p, .int .i64 n, .slice ao out.length cap] 85)).alloc (.cells #[.string ⟨#[]⟩, .slice none 0 0, .slice none 0 0, .int .i64 0] 51)) (w.heap.size + 2) (by simp) [.string (st out), .slice aoa args.length capa, .slice none 0 0, .int .i64 p] 51
  have hCD := hid (cdict_any hR.fresh hsb)
  have hz3 : (((w.alloc (.cells #[.int .i64 k, .int .i64 p, .int .i64 n, .slice ao out.length cap] 85)).alloc (.cells #[.string ⟨#[]⟩, .slice none 0 0, .slice none 0 0, .int .i64 0] 51)).alloc (.cells #[.string (st out), .slice aoa args.length capa, .slice none 0 0, .int .i64 p] 51)).heap.size = w.heap.size + 3 := by simp
  go_enter Tryz.func41, Tryz.ntmps41
  go_upto_region 5 with (go_at_call 63; refine hCD.out.mono ?_; rintro e w5 ⟨res, hdi, hdq⟩; rcases res with ⟨x9, t9⟩ | ⟨o9, t9⟩; rotate_left; (obtain ⟨vs, rfl, hov, j9, hR5⟩ := hdq; have hV5 := hov.v5; have hov2 := hid hov; clear hov; obtain ⟨y1, y2, y3, y4, y5, y6, y7, y8, y9, y10, y11, rfl⟩ := hV5); rotate_left; (obtain ⟨rfl, j9, t9, hR5⟩ := hdq))
  · have bx := hdi.ne _ _ rfl
    have hR := hR.joinR hR5
    have hZ := hZ.held hR5.ps.held (by omega) (by omega)
    have HDI := hid hdi
    clear hdi hO
    obtain ⟨zc, zf, zs⟩ := id hZ
    go_wp2
    obtain ⟨k0, k1, k2, k3⟩ := (hZ.set4 (a := .string ⟨#[]⟩) (b := .slice none 0 0) (c := .slice none 0 0) (d := .int .i64 0) rfl).s4
    have hh := set4_held w5 w5.heap.size (w.heap.size + 1) (.string ⟨#[]⟩) (.slice none 0 0) (.slice none 0 0) (.int .i64 0)
    have hR5 := hR.off hh (by omega)
    have k0 := cell_up' (alb _ (.cells #[.int .i64 0, .int .i64 0, .slice none 0 0, .slice none 0 0, .slice none 0 0] 34)) k0
    have k1 := cell_up' (alb _ (.cells #[.int .i64 0, .int .i64 0, .slice none 0 0, .slice none 0 0, .slice none 0 0] 34)) k1
    have k2 := cell_up' (alb _ (.cells #[.int .i64 0, .int .i64 0, .slice none 0 0, .slice none 0 0, .slice none 0 0] 34)) k2
    have k3 := cell_up' (alb _ (.cells #[.int .i64 0, .int .i64 0, .slice none 0 0, .slice none 0 0, .slice none 0 0] 34)) k3
    have hR5 := hR5.below (alb _ (.cells #[.int .i64 0, .int .i64 0, .slice none 0 0, .slice none 0 0, .slice none 0 0] 34))
    refine bodyPost_ret (v := .tuple #[.agg #[.string ⟨#[]⟩, .slice none 0 0, .slice none 0 0, .int .i64 0], .bool false, .int .i64 x9]) (by simp [results, Tryz.results41, go_sem, k0, k1, k2, k3]) rfl ⟨_, HDI.out, ?_⟩
    exact ⟨rfl, _, _, hR5⟩
  · have hzz := hR5.ps.size
    have hR := hR.joinR hR5
    have hZ := hZ.held hR5.ps.held (by omega) (by omega)
    have hO := hO.held hR5.ps.held (by omega) (by omega)
    have HDI := hid hdi
    have hD := C5.new w5 _ rfl [.int .i64 y1, .int .i64 y2, .slice y3 y6 y7, .slice y4 y8 y9, .slice y5 y10 y11] 34
    have hbd := alb w5 (.cells #[.int .i64 y1, .int .i64 y2, .slice y3 y6 y7, .slice y4 y8 y9, .slice y5 y10 y11] 34)
    have hR := hR.below hbd
    have hZ := hZ.up hbd
    have hO := hO.up hbd
    have HOV := hid (hov2.out.up hbd)
    have HA := hid (((hA.keep (B := fun g => B ≤ g ∧ g < w5.heap.size) (w' := w5) (fun g hg => ⟨hg.1, by have := hg.2; omega⟩) (fun g hg hlt => (hR5.ps.held.block g (by omega) (by have := hg.1; omega) (by have := hg.1; omega)).trans (hb3.block g hlt)))).keep (B := fun g => B ≤ g ∧ g < w5.heap.size) (w' := w5.alloc (.cells #[.int .i64 y1, .int .i64 y2, .slice y3 y6 y7, .slice y4 y8 y9, .slice y5 y10 y11] 34)) (fun g hg => hg) (fun g hg hlt => hbd.block g hlt))
    clear hA hov2 hdi hR5 hCD hcv h hS
    have hz5 : (w5.alloc (.cells #[.int .i64 y1, .int .i64 y2, .slice y3 y6 y7, .slice y4 y8 y9, .slice y5 y10 y11] 34)).heap.size = w5.heap.size + 1 := by simp
    generalize w5.alloc (.cells #[.int .i64 y1, .int .i64 y2, .slice y3 y6 y7, .slice y4 y8 y9, .slice y5 y10 y11] 34) = w6 at *
    generalize w5.heap.size = g5 at *
    have hCT := hid (cdata_any hR.fresh hsb)
    clear hb3
    rcases hF : imgF t9 with x8 | ⟨x8, r8⟩
    · have bx := imgF_ne hF
      have HF := hid hF
      rw [hF] at hCT
      clear hF
      go_wp2_with (go_at_call 64; refine hCT.out.mono ?_; rintro e w7 ⟨rfl, j7, t7, hR7⟩; have hR := hR.joinR hR7; have hZ := hZ.held hR7.ps.held (by omega) (by omega); have hO := hO.held hR7.ps.held (by omega) (by omega); obtain ⟨zc, zf, zs⟩ := id hZ; obtain ⟨oc, of_, os⟩ := id hO)
      have hs8 := fun B => Held.set (B := B) (p := w.heap.size + 2) (q := w.heap.size + 2) w7 ⟨w.heap.size + 2, 2, none⟩ (.slice none 0 0) (.inl rfl)
      have hR := hR.off (hs8 w7.heap.size) (by omega)
      have hZ := hZ.held (hs8 _) (by omega) (by omega)
      clear hs8
      generalize w7.setCell ⟨w.heap.size + 1 + 1, 2, none⟩ (.slice none 0 0) = w8 at *
      obtain ⟨k0, k1, k2, k3⟩ := (hZ.set4 (a := .string ⟨#[]⟩) (b := .slice none 0 0) (c := .slice none 0 0) (d := .int .i64 0) rfl).s4
      have hh := set4_held w8 w8.heap.size (w.heap.size + 1) (.string ⟨#[]⟩) (.slice none 0 0) (.slice none 0 0) (.int .i64 0)
      have hR5 := hR.off hh (by omega)
      refine bodyPost_ret (v := .tuple #[.agg #[.string ⟨#[]⟩, .slice none 0 0, .slice none 0 0, .int .i64 0], .bool false, .int .i64 x8]) (by simp [results, Tryz.results41, go_sem, k0, k1, k2, k3]) rfl ⟨_, HDI.out, ?_⟩
      have eb : bik args.length p (.ok o9 t9) = .bad x8 := by unfold bik; simp only []; rw [HF.out]
      rw [eb]
      exact ⟨rfl, _, _, hR5⟩
    · have HF := hid hF
      rw [hF] at hCT
      clear hF
      by_cases hm : args.length = 0
      · have tm : decide ((0 : Int) < (args.length : Int)) = false := decide_eq_false (by omega)
        go_upto_region 10 with (go_at_call 64; refine hCT.out.mono ?_; rintro e w7 ⟨u7, rfl, hS7, j7, hR7⟩; obtain ⟨ao7, cap7, rfl, -, -, -, -⟩ := id hS7.1; have hR := hR.joinR hR7; have hZ := hZ.held hR7.ps.held (by omega) (by omega); have hO := hO.held hR7.ps.held (by omega) (by omega); have hD := hD.held hR7.ps.held (by omega) (by omega); obtain ⟨zc, zf, zs⟩ := id hZ; obtain ⟨oc, of_, os⟩ := id hO; obtain ⟨dc, df, ds⟩ := id hD)
        have hO := hO.set (k := 2) (u := .slice ao7 x8.length cap7) (by simp)
        have hs8 := fun B => Held.set (B := B) (p := w.heap.size + 2) (q := w.heap.size + 2) w7 ⟨w.heap.size + 2, 2, none⟩ (.slice ao7 x8.length cap7) (.inl rfl)
        have hR := hR.off (hs8 w7.heap.size) (by omega)
        have hZ := hZ.held (hs8 _) (by omega) (by omega)
        have hD := hD.held (hs8 _) (by omega) (by omega)
        have hz7 := hR7.ps.size
        have hz8 := (hs8 0).size
        have HS8 := hid (hS7.keep (B := fun g => w6.heap.size ≤ g ∧ g < w7.heap.size) (w' := w7.setCell ⟨w.heap.size + 2, 2, none⟩ (.slice ao7 x8.length cap7)) (fun g hg => hg) (fun g hg hlt => (hs8 w7.heap.size).block g hlt (by have := hg.1; omega) (by have := hg.1; omega)))
        have HOV8 := hid (HOV.out.keep (B := fun g => w.heap.size + 3 ≤ g ∧ g < g5) (w' := w7.setCell ⟨w.heap.size + 2, 2, none⟩ (.slice ao7 x8.length cap7)) (fun g hg => ⟨by have := hg.1; omega, hg.2⟩) (fun g hg hlt => ((hs8 w7.heap.size).block g (by omega) (by have := hg.1; omega) (by have := hg.1; omega)).trans (hR7.ps.held.block g hlt (by have := hg.1; omega) (by have := hg.1; omega))))
        clear hs8 hS7 HOV
        generalize w7.setCell ⟨w.heap.size + 1 + 1, 2, none⟩ (.slice ao7 x8.length cap7) = w8 at *
        obtain ⟨zc, zf, zs⟩ := id hZ
        obtain ⟨oc, of_, os⟩ := id hO
        obtain ⟨dc, df, ds⟩ := id hD
        go_wp2
        have hsA := fun B => Held.set (B := B) (p := w.heap.size + 2) (q := w.heap.size + 2) w8 ⟨w.heap.size + 2, 1, none⟩ (.slice (some ⟨w8.heap.size, 0, none⟩) 1 1) (.inl rfl)
        have hZ9 := hZ.held (hsA _) (by omega) (by omega)
        obtain ⟨k0, k1, k2, k3⟩ := (hZ9.set4 (a := .string (st out)) (b := (.slice (some ⟨w8.heap.size, 0, none⟩) 1 1)) (c := .slice ao7 x8.length cap7) (d := .int .i64 p) rfl).s4
        have hh := fun B => set4_held (w8.setCell ⟨w.heap.size + 2, 1, none⟩ (.slice (some ⟨w8.heap.size, 0, none⟩) 1 1)) B (w.heap.size + 1) (.string (st out)) (.slice (some ⟨w8.heap.size, 0, none⟩) 1 1) (.slice ao7 x8.length cap7) (.int .i64 p)
        have k0 := cell_up' (alb _ (.cells #[.int .i64 y1, .int .i64 y2, .slice y3 y6 y7, .slice y4 y8 y9, .slice y5 y10 y11] 34)) k0
        have k1 := cell_up' (alb _ (.cells #[.int .i64 y1, .int .i64 y2, .slice y3 y6 y7, .slice y4 y8 y9, .slice y5 y10 y11] 34)) k1
        have k2 := cell_up' (alb _ (.cells #[.int .i64 y1, .int .i64 y2, .slice y3 y6 y7, .slice y4 y8 y9, .slice y5 y10 y11] 34)) k2
        have k3 := cell_up' (alb _ (.cells #[.int .i64 y1, .int .i64 y2, .slice y3 y6 y7, .slice y4 y8 y9, .slice y5 y10 y11] 34)) k3
        have hz9 : (w8.setCell ⟨w.heap.size + 2, 1, none⟩ (.slice (some ⟨w8.heap.size, 0, none⟩) 1 1)).heap.size = w8.heap.size := by simp
        have hz10 : (set4 (w8.setCell ⟨w.heap.size + 2, 1, none⟩ (.slice (some ⟨w8.heap.size, 0, none⟩) 1 1)) (w.heap.size + 1) (.string (st out)) (.slice (some ⟨w8.heap.size, 0, none⟩) 1 1) (.slice ao7 x8.length cap7) (.int .i64 p)).heap.size = w8.heap.size := by simp
        have hab := alb (set4 (w8.setCell ⟨w.heap.size + 2, 1, none⟩ (.slice (some ⟨w8.heap.size, 0, none⟩) 1 1)) (w.heap.size + 1) (.string (st out)) (.slice (some ⟨w8.heap.size, 0, none⟩) 1 1) (.slice ao7 x8.length cap7) (.int .i64 p)) (.cells #[.int .i64 y1, .int .i64 y2, .slice y3 y6 y7, .slice y4 y8 y9, .slice y5 y10 y11] 34)
        have hR5 := ((hR.off (hsA _) (by omega)).off (hh _) (by omega)).below hab
        have hC := C5.new (set4 (w8.setCell ⟨w.heap.size + 2, 1, none⟩ (.slice (some ⟨w8.heap.size, 0, none⟩) 1 1)) (w.heap.size + 1) (.string (st out)) (.slice (some ⟨w8.heap.size, 0, none⟩) 1 1) (.slice ao7 x8.length cap7) (.int .i64 p)) w8.heap.size hz10.symm [.int .i64 y1, .int .i64 y2, .slice y3 y6 y7, .slice y4 y8 y9, .slice y5 y10 y11] 34
        have hkk : ∀ g, g < w8.heap.size → g ≠ w.heap.size + 1 → g ≠ w.heap.size + 2 → ((set4 (w8.setCell ⟨w.heap.size + 2, 1, none⟩ (.slice (some ⟨w8.heap.size, 0, none⟩) 1 1)) (w.heap.size + 1) (.string (st out)) (.slice (some ⟨w8.heap.size, 0, none⟩) 1 1) (.slice ao7 x8.length cap7) (.int .i64 p)).alloc (.cells #[.int .i64 y1, .int .i64 y2, .slice y3 y6 y7, .slice y4 y8 y9, .slice y5 y10 y11] 34)).heap[g]? = w8.heap[g]? := fun g h1 h2 h3 => (hab.block g (by omega)).trans (((hh w8.heap.size).block g h1 h2 h2).trans ((hsA w8.heap.size).block g h1 h3 h3))
        have hzz2 := hab.size
        have hltw : w8.heap.size < ((set4 (w8.setCell ⟨w.heap.size + 2, 1, none⟩ (.slice (some ⟨w8.heap.size, 0, none⟩) 1 1)) (w.heap.size + 1) (.string (st out)) (.slice (some ⟨w8.heap.size, 0, none⟩) 1 1) (.slice ao7 x8.length cap7) (.int .i64 p)).alloc (.cells #[.int .i64 y1, .int .i64 y2, .slice y3 y6 y7, .slice y4 y8 y9, .slice y5 y10 y11] 34)).heap.size := hC.2.2
        have eb : bik args.length p (.ok o9 t9) = .op ⟨bBI, [o9], x8, p⟩ r8 := by unfold bik; simp only []; rw [HF.out]; simp only []; rw [if_pos hm]
        refine bodyPost_ret (v := .tuple #[.agg #[.string (st out), (.slice (some ⟨w8.heap.size, 0, none⟩) 1 1), .slice ao7 x8.length cap7, .int .i64 p], .bool true, .int .i64 0]) (by simp [results, Tryz.results41, go_sem, k0, k1, k2, k3]) rfl ⟨_, HDI.out, ?_⟩
        rw [eb]
        refine ⟨[.string (st out), (.slice (some ⟨w8.heap.size, 0, none⟩) 1 1), .slice ao7 x8.length cap7, .int .i64 p], rfl, ⟨_, _, by rw [HB.out], ⟨[[.int .i64 y1, .int .i64 y2, .slice y3 y6 y7, .slice y4 y8 y9, .slice y5 y10 y11]], RowA.one hC rfl ⟨by omega, hltw⟩, .one (HOV8.out.keep (fun g hg => ⟨by have := hg.1; omega, Nat.lt_trans (show g < w8.heap.size by have := hg.2; omega) hltw⟩) (fun g hg hlt => hkk g hlt (by have := hg.1; omega) (by have := hg.1; omega)))⟩, HS8.out.keep (fun g hg => ⟨by have := hg.1; omega, Nat.lt_trans (show g < w8.heap.size by have := hg.2; omega) hltw⟩) (fun g hg hlt => hkk g hlt (by have := hg.1; omega) (by have := hg.1; omega))⟩, _, hR5⟩
      · have tm : decide ((0 : Int) < (args.length : Int)) = true := decide_eq_true (by omega)
        go_wp2_with (go_at_call 64; refine hCT.out.mono ?_; rintro e w7 ⟨u7, rfl, hS7, j7, hR7⟩; obtain ⟨ao7, cap7, rfl, -, -, -, -⟩ := id hS7.1; have hR := hR.joinR hR7; have hZ := hZ.held hR7.ps.held (by omega) (by omega); have hO := hO.held hR7.ps.held (by omega) (by omega); have hD := hD.held hR7.ps.held (by omega) (by omega); obtain ⟨zc, zf, zs⟩ := id hZ; obtain ⟨oc, of_, os⟩ := id hO; obtain ⟨dc, df, ds⟩ := id hD)
        have hs8 := fun B => Held.set (B := B) (p := w.heap.size + 2) (q := w.heap.size + 2) w7 ⟨w.heap.size + 2, 2, none⟩ (.slice ao7 x8.length cap7) (.inl rfl)
        have hR := hR.off (hs8 w7.heap.size) (by omega)
        have hZ := hZ.held (hs8 _) (by omega) (by omega)
        clear hs8
        generalize w7.setCell ⟨w.heap.size + 1 + 1, 2, none⟩ (.slice ao7 x8.length cap7) = w8 at *
        obtain ⟨k0, k1, k2, k3⟩ := (hZ.set4 (a := .string ⟨#[]⟩) (b := .slice none 0 0) (c := .slice none 0 0) (d := .int .i64 0) rfl).s4
        have hh := set4_held w8 w8.heap.size (w.heap.size + 1) (.string ⟨#[]⟩) (.slice none 0 0) (.slice none 0 0) (.int .i64 0)
        have hR5 := hR.off hh (by omega)
        refine bodyPost_ret (v := .tuple #[.agg #[.string ⟨#[]⟩, .slice none 0 0, .slice none 0 0, .int .i64 0], .bool false, .int .i64 4]) (by simp [results, Tryz.results41, go_sem, k0, k1, k2, k3]) rfl ⟨_, HDI.out, ?_⟩
        have eb : bik args.length p (.ok o9 t9) = .bad 4 := by unfold bik; simp only []; rw [HF.out]; simp only []; rw [if_neg hm]
        rw [eb]
        exact ⟨rfl, _, _, hR5⟩
end Go.Proofs.YtjkoiknjffldjaaGreatDoor
