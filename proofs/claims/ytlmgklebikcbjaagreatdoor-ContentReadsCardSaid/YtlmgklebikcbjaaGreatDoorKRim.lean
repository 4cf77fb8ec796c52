/-
  The document's image: an image's entries and its bytes. Condition: the reader stands in its bytes, these are no more than 3200000.
-/
import Derived.Test.YtlmgklebikcbjaaGreatDoorKRset
import Derived.Test.YtlmgklebikcbjaaGreatDoorHg
import Derived.Deep.CutRange
/-
  The document's image: an image's entries and its bytes. Condition: the reader stands in its bytes, these are no more than 3200000.
-/
namespace Go.Proofs.YtlmgklebikcbjaaGreatDoor
open Go.RowKit
set_option linter.unusedVariables false

/-- image on its way: keys in the row vk, entries X in the object in block go -/
structure Im (B rp pp go : Nat) (b : List UInt8) (w wr : World) (vk : Value) (keys : List (List UInt8)) (X : List (List UInt8 × PO)) (vs : List Value) (p : Nat) (t : List UInt8) : Prop where
  r : Rr w wr rp pp b p t
  z : C5 wr w.heap.size [.string ⟨#[]⟩, .slice none 0 0, .slice none 0 0, .int .i64 0]
  o : C5 wr go vs
  ov : OV (fun g => B ≤ g ∧ g < wr.heap.size ∧ vk.ownBlock ≠ some g) wr vs (poDict X)
  k : OwX 1 9 wr B vk (keys.map kcl)
  hB : w.heap.size < go ∧ go < B ∧ B ≤ wr.heap.size
section
variable {B rp pp go p j : Nat} {b t t' : List UInt8} {w wr w' : World} {vk v' : Value} {keys : List (List UInt8)} {X : List (List UInt8 × PO)} {vs : List Value}
theorem Im.side (h : Im B rp pp go b w wr vk keys X vs p t) (hh : Held wr.heap.size pp pp wr w') (hr : Rr w w' rp pp b j t') : Im B rp pp go b w w' vk keys X vs j t' := by
  have h1 := h.r.lt.2
  have h2 := h.hB
  have hs := hh.size
  exact ⟨hr, h.z.held hh (by omega) (by omega), h.o.held hh (by omega) (by omega), h.ov.keep (fun g hg => ⟨hg.1, by have := hg.2.1; omega, hg.2.2⟩) (fun g hg hlt => hh.block g hlt (by have := hg.1; omega) (by have := hg.1; omega)), h.k.held hh (fun g hg => by have := (h.k.lt g hg).1; exact ⟨by omega, by omega⟩), by omega⟩
theorem Im.step (h : Im B rp pp go b w wr vk keys X vs p t) {u : Value} {out : List UInt8} (k : Cx wr w' pp b j t' u out) : Im B rp pp go b w w' vk keys X vs j t' := h.side k.held (h.r.step k)
theorem Im.join (h : Im B rp pp go b w wr vk keys X vs p t) (k : Pd true 28 wr w' pp b j t') : Im B rp pp go b w w' vk keys X vs j t' := h.side k.cx.held (h.r.join k)
theorem Im.below (h : Im B rp pp go b w wr vk keys X vs p t) (hb : Below wr.heap.size wr w') : Im B rp pp go b w w' vk keys X vs p t := by
  have h2 := h.hB
  have hs := hb.size
  exact ⟨h.r.below hb, h.z.up hb, h.o.up hb, h.ov.keep (fun g hg => ⟨hg.1, by have := hg.2.1; omega, hg.2.2⟩) (fun g hg hlt => hb.block g hlt), h.k.up hb, by omega⟩
theorem Im.push (h : Im B rp pp go b w wr vk keys X vs p t) {k : List UInt8} (hrow : OwX 1 9 w' B v' (keys.map kcl ++ [kcl k])) (hg : wr.grownBy w' vk.ownBlock) (hm : Moved wr vk v') : Im B rp pp go b w w' v' (keys ++ [k]) X vs p t := by
  have h2 := h.hB
  have hs := hg.size
  have hne' : ∀ g, v'.ownBlock = some g → vk.ownBlock = some g ∨ g = wr.heap.size := by
    intro g hq
    rcases hm with hm | hm
    · left; rw [← hm]; exact hq
    · right; rw [hm] at hq; injection hq with hq; exact hq.symm
  have hlow : ∀ g, g < B → vk.ownBlock ≠ some g := fun g hg q => by have := (h.k.lt g q).1; omega
  refine ⟨h.r.grow hg (fun g hg => by have := (h.k.lt g hg).1; omega), h.z.grown hg (hlow _ (by omega)), h.o.grown hg (hlow _ (by omega)), h.ov.keep (fun g hq => ⟨hq.1, by have := hq.2.1; omega, fun q => ?_⟩) (fun g hq hlt => hg.block g hlt (fun q => hq.2.2 q.symm)), by rw [List.map_append]; exact hrow, by omega⟩
  rcases hne' g q with q1 | q1
  · exact hq.2.2 q1
  · have := hq.2.1; omega
theorem Im.put (h : Im B rp pp go b w wr vk keys X vs p t) (hb : Below wr.heap.size wr w') {Y : List (List UInt8 × PO)} {a1 a2 a3 a4 a5 : Value} (hov : OV (fun g => wr.heap.size ≤ g ∧ g < w'.heap.size) w' [a1, a2, a3, a4, a5] (poDict Y)) (hl : vs.length = 5) : Im B rp pp go b w (set5 w' go a1 a2 a3 a4 a5) vk keys Y [a1, a2, a3, a4, a5] p t := by
  have h1 := h.r.lt.2
  have h2 := h.hB
  have hi := h.below hb
  have hh := fun C => set5_held w' C go a1 a2 a3 a4 a5
  have hs := (hh 0).size
  have hbs := hb.size
  refine ⟨hi.r.off (hh w.heap.size) (Nat.le_refl _) (by omega), hi.z.held (hh _) (by omega) (by omega), hi.o.set5 hl, hov.keep (fun g hg => ⟨by have := hg.1; omega, by have := hg.2; omega, fun q => by have := (h.k.lt g q).2; have := hg.1; omega⟩) (fun g hg hlt => (hh w'.heap.size).block g hlt (by have := hg.1; omega) (by have := hg.1; omega)), hi.k.held (hh _) (fun g hg => by have := (h.k.lt g hg).1; exact ⟨by omega, by omega⟩), by omega⟩
end

theorem rends_any {w0 w : World} {rp pp : Nat} {b s : List UInt8} {i : Nat} (h : Rr w0 w rp pp b i s) (n : Int) :
    Calls Tryz.prog 112 #[.pointer (some ⟨rp, 0, none⟩), .int .i64 n] w fun e w' => e = .returned (.bool (!rg (pk b n))) ∧ ∃ k, w' = w.drewN k := by
  obtain ⟨ao, cap, h1, h2⟩ := h.pd.cx.cur
  have r0 := h.r0
  have c0 := h1.c0
  have hs := h1.sm
  have hS := fun m => (Sl.of_cur h1).up (below_drewN (Below.refl _ w) m)
  clear h h1 h2
  go_enter Tryz.func112, Tryz.ntmps112
  go_wp2_with (first | (go_at_call 116; refine (rregular_any _ _).mono ?_; rintro e w2 ⟨rfl, m2, rfl⟩) | (go_at_call 111; refine (rpeek_any _ b _ _ (hS 0) hs).mono ?_; rintro e w1 ⟨rfl, m1, rfl⟩))
  go_ret
  exact ⟨rfl, _, rfl⟩
theorem c8_eq (y k : UInt8) : (c8 y == c8 k) = (y == k) := by
  by_cases h : y = k
  · subst h; simp
  · have h2 : ¬ c8 y = c8 k := fun q => h (UInt8.toNat_inj.1 (by have q : (y.toNat : Int) = (k.toNat : Int) := q; omega))
    rw [beq_eq_false_iff_ne.2 h2, beq_eq_false_iff_ne.2 h]
theorem endI_pfx (t : List UInt8) : endI t = (wh (hd t) && (pfx [69, 73] (t.drop 1) && !rg (hd (t.drop 3)))) := by
  unfold endI
  rcases t with _ | ⟨x, _ | ⟨y, _ | ⟨z, t⟩⟩⟩
  · simp [hd, pfx]
  · simp [hd, pfx]
  · simp [hd, pfx]
  · simp only [List.drop_succ_cons, List.drop_zero, hd_cons, pfx]
    have e1 : (c8 y == 69) = (y == 69) := c8_eq y 69
    have e2 : (c8 z == 73) = (z == 73) := c8_eq z 73
    rw [e1, e2]
    simp [Bool.and_assoc]
theorem stands2 (v : Value) (b : List UInt8) (n : Int) (i : Nat) (hn : n = i) (p : ByteArray) (w : World) (h : Sl w v b) (hi : i ≤ b.length) (hb : b.length ≤ 4000000) (hp : p.size ≤ 4000000) :
    Calls Tryz.prog 48 #[v, .int .i64 n, .string p] w fun e w' => e = .returned (.bool (pfx p.data.toList (b.drop i))) ∧ w = w' := by
  subst hn; exact stands v b i p w h hi hb hp

/-- what stands behind Copy: the dictionary's block, the bytes -/
def FinI (w wf : World) (rp pp : Nat) (b : List UInt8) (p : Nat) (t : List UInt8) (X : List (List UInt8 × PO)) (l : List UInt8) (v7 : Value) (gX : Nat) : Prop :=
  Rr w wf rp pp b p t ∧ C5 wf w.heap.size [.string ⟨#[]⟩, .slice none 0 0, .slice none 0 0, .int .i64 0] ∧ AR (fun g => w.heap.size < g ∧ g < wf.heap.size) wf (.slice (some ⟨gX, 0, none⟩) 1 1) [poDict X] ∧ SlA (fun g => w.heap.size < g ∧ g < wf.heap.size) wf v7 l
theorem FinI.a {B rp pp go p : Nat} {b t l : List UInt8} {w w6 wd w7 : World} {vk v7 : Value} {keys : List (List UInt8)} {X : List (List UInt8 × PO)} {vs : List Value} (h : Im B rp pp go b w w6 vk keys X vs p t) (hl : vs.length = 5) (hd : Below w6.heap.size w6 wd) {T e : TypeId}
    (h7 : Below (wd.alloc (.cells vs.toArray T)).heap.size (wd.alloc (.cells vs.toArray T)) w7) (ho : OwnB w7 (wd.alloc (.cells vs.toArray T)).heap.size e v7 l) : FinI w w7 rp pp b p t X l v7 wd.heap.size := by
  have hbd := below_then hd (alb wd (.cells vs.toArray T))
  have hb7 := below_then hbd h7
  have hsd := hd.size
  have hs7 := h7.size
  have hsa : (wd.alloc (.cells vs.toArray T)).heap.size = wd.heap.size + 1 := by simp
  have hgB := h.hB
  have hC := (C5.new wd wd.heap.size rfl vs T).up h7
  refine ⟨h.r.below hb7, h.z.up hb7, ⟨[vs], RowA.one hC hl ⟨by omega, by omega⟩, All2.one (h.ov.keep (fun g hg => ⟨by have := hg.1; omega, by have := hg.2.1; have := hb7.size; omega⟩) (fun g hg hlt => hb7.block g hlt))⟩, ⟨Sl.own ho, fun g hg => ?_⟩⟩
  have := World.ownsRow.lt ho g hg
  exact ⟨by omega, by omega⟩
theorem FinI.b {B rp pp go p : Nat} {b t l : List UInt8} {w w6 wd w7 : World} {vk v7 : Value} {keys : List (List UInt8)} {X : List (List UInt8 × PO)} {vs : List Value} (h : Im B rp pp go b w w6 vk keys X vs p t) (hl : vs.length = 5) (hd : Below w6.heap.size w6 wd) {T e : TypeId}
    (h7 : Below wd.heap.size wd w7) (ho : OwnB w7 wd.heap.size e v7 l) (a : Int) : Rr w ((set4 w7 w.heap.size (.string ⟨#[66, 73]⟩) (.slice (some ⟨w7.heap.size, 0, none⟩) 1 1) v7 (.int .i64 a)).alloc (.cells vs.toArray T)) rp pp b p t ∧ C5 ((set4 w7 w.heap.size (.string ⟨#[66, 73]⟩) (.slice (some ⟨w7.heap.size, 0, none⟩) 1 1) v7 (.int .i64 a)).alloc (.cells vs.toArray T)) w.heap.size [.string ⟨#[66, 73]⟩, .slice (some ⟨w7.heap.size, 0, none⟩) 1 1, v7, .int .i64 a] ∧
    OpV (fun g => w.heap.size ≤ g ∧ g < ((set4 w7 w.heap.size (.string ⟨#[66, 73]⟩) (.slice (some ⟨w7.heap.size, 0, none⟩) 1 1) v7 (.int .i64 a)).alloc (.cells vs.toArray T)).heap.size) ((set4 w7 w.heap.size (.string ⟨#[66, 73]⟩) (.slice (some ⟨w7.heap.size, 0, none⟩) 1 1) v7 (.int .i64 a)).alloc (.cells vs.toArray T)) [.string ⟨#[66, 73]⟩, .slice (some ⟨w7.heap.size, 0, none⟩) 1 1, v7, .int .i64 a] ⟨bBI, [poDict X], l, a⟩ := by
  have hb7 := below_then hd h7
  have hsd := hd.size
  have hs7 := h7.size
  have hgB := h.hB
  have hh := fun B => set4_held w7 B w.heap.size (.string ⟨#[66, 73]⟩) (.slice (some ⟨w7.heap.size, 0, none⟩) 1 1) v7 (.int .i64 a)
  have hZ := (h.z.up hb7).set4 (a := .string ⟨#[66, 73]⟩) (b := .slice (some ⟨w7.heap.size, 0, none⟩) 1 1) (c := v7) (d := .int .i64 a) rfl
  have hR := (h.r.below hb7).off (hh _) (Nat.le_refl _) (Nat.le_refl _)
  have hO : OV (fun g => w.heap.size < g ∧ g < w7.heap.size) w7 vs (poDict X) := h.ov.keep (fun g hg => ⟨by have := hg.1; omega, by have := hg.2.1; have := hb7.size; omega⟩) (fun g hg hlt => hb7.block g hlt)
  have hS : SlA (fun g => w.heap.size < g ∧ g < w7.heap.size) w7 v7 l := ⟨Sl.own ho, fun g hg => by have := World.ownsRow.lt ho g hg; exact ⟨by omega, by omega⟩⟩
  have hsz : (set4 w7 w.heap.size (.string ⟨#[66, 73]⟩) (.slice (some ⟨w7.heap.size, 0, none⟩) 1 1) v7 (.int .i64 a)).heap.size = w7.heap.size := by simp
  have hbk : ∀ g, (w.heap.size < g ∧ g < w7.heap.size) → g < w7.heap.size → (set4 w7 w.heap.size (.string ⟨#[66, 73]⟩) (.slice (some ⟨w7.heap.size, 0, none⟩) 1 1) v7 (.int .i64 a)).heap[g]? = w7.heap[g]? := fun g hg hlt => (hh w7.heap.size).block g hlt (Nat.ne_of_gt hg.1) (Nat.ne_of_gt hg.1)
  generalize set4 w7 w.heap.size (.string ⟨#[66, 73]⟩) (.slice (some ⟨w7.heap.size, 0, none⟩) 1 1) v7 (.int .i64 a) = w8 at *
  have hsa : (w8.alloc (.cells vs.toArray T)).heap.size = w7.heap.size + 1 := by simp [hsz]
  have hC := C5.new w8 w7.heap.size hsz.symm vs T
  have hab := alb w8 (.cells vs.toArray T)
  have hbl : ∀ g, g < w7.heap.size → g < w8.heap.size := fun g hg => by omega
  refine ⟨hR.below hab, hZ.up hab, _, _, rfl, ⟨[vs], RowA.one hC hl ⟨by omega, by omega⟩, All2.one (hO.keep (fun g hg => ⟨by omega, by omega⟩) (fun g hg hlt => (hab.block g (hbl g hlt)).trans (hbk g hg hlt)))⟩, hS.keep (fun g hg => ⟨by omega, by omega⟩) (fun g hg hlt => (hab.block g (hbl g hlt)).trans (hbk g hg hlt))⟩
/-- the operator in its four cells -/
theorem FinI.op {w wf : World} {rp pp : Nat} {b : List UInt8} {p : Nat} {t : List UInt8} {X : List (List UInt8 × PO)} {l : List UInt8} {v7 : Value} {gX : Nat} (h : FinI w wf rp pp b p t X l v7 gX) (a : Int) :
    Rr w (set4 wf w.heap.size (.string ⟨#[66, 73]⟩) (.slice (some ⟨gX, 0, none⟩) 1 1) v7 (.int .i64 a)) rp pp b p t ∧ C5 (set4 wf w.heap.size (.string ⟨#[66, 73]⟩) (.slice (some ⟨gX, 0, none⟩) 1 1) v7 (.int .i64 a)) w.heap.size [.string ⟨#[66, 73]⟩, .slice (some ⟨gX, 0, none⟩) 1 1, v7, .int .i64 a] ∧
    OpV (fun g => w.heap.size ≤ g ∧ g < (set4 wf w.heap.size (.string ⟨#[66, 73]⟩) (.slice (some ⟨gX, 0, none⟩) 1 1) v7 (.int .i64 a)).heap.size) (set4 wf w.heap.size (.string ⟨#[66, 73]⟩) (.slice (some ⟨gX, 0, none⟩) 1 1) v7 (.int .i64 a)) [.string ⟨#[66, 73]⟩, .slice (some ⟨gX, 0, none⟩) 1 1, v7, .int .i64 a] ⟨bBI, [poDict X], l, a⟩ := by
  obtain ⟨h1, h2, h3, h4⟩ := h
  have hh := fun B => set4_held wf B w.heap.size (.string ⟨#[66, 73]⟩) (.slice (some ⟨gX, 0, none⟩) 1 1) v7 (.int .i64 a)
  have hs := (hh 0).size
  refine ⟨h1.off (hh _) (Nat.le_refl _) (Nat.le_refl _), h2.set4 rfl, _, _, rfl, h3.keep (fun g hg => ⟨Nat.le_of_lt hg.1, Nat.lt_of_lt_of_le hg.2 hs⟩) (fun g hg hlt => (hh wf.heap.size).block g hlt (Nat.ne_of_gt hg.1) (Nat.ne_of_gt hg.1)), h4.keep (fun g hg => ⟨Nat.le_of_lt hg.1, Nat.lt_of_lt_of_le hg.2 hs⟩) (fun g hg hlt => (hh wf.heap.size).block g hlt (Nat.ne_of_gt hg.1) (Nat.ne_of_gt hg.1))⟩

set_option maxHeartbeats 6400000 in
set_option maxRecDepth 100000 in
theorem rimg_any {rp pp : Nat} {b : List UInt8} (hsb : b.length ≤ 3200000) : ImgC rp pp b := by
  intro w i s a h
  have hlo := h.lt
  have hv := rvalue_all (q := true) (dp := 28) (pp := pp) (b := b) (by omega) 28 (Nat.le_refl _)
  go_enter Tryz.func69, Tryz.ntmps69
  go_wp2_with (go_at_call 24; refine (rdict_nil _).mono ?_; rintro e w1 ⟨rfl, hb1⟩)
  have hbw1 := below_then (alb w (.cells #[.string ⟨#[]⟩, .slice none 0 0, .slice none 0 0, .int .i64 0] 49)) hb1
  have hz1 := hb1.size
  have hzz : (w.alloc (.cells #[.string ⟨#[]⟩, .slice none 0 0, .slice none 0 0, .int .i64 0] 49)).heap.size = w.heap.size + 1 := by simp
  have hab := alb w1 (.cells #[.int .i64 7, .int .i64 0, .slice none 0 0, .slice none 0 0, .slice none 0 0] 47)
  have hI0 : Im (w1.heap.size + 1) rp pp w1.heap.size b w (w1.alloc (.cells #[.int .i64 7, .int .i64 0, .slice none 0 0, .slice none 0 0, .slice none 0 0] 47)) (.slice none 0 0) [] [] [.int .i64 7, .int .i64 0, .slice none 0 0, .slice none 0 0, .slice none 0 0] i s :=
    ⟨(h.below hbw1).below hab, ((C5.new w w.heap.size rfl [.string ⟨#[]⟩, .slice none 0 0, .slice none 0 0, .int .i64 0] 49).up hb1).up hab, C5.new w1 _ rfl [.int .i64 7, .int .i64 0, .slice none 0 0, .slice none 0 0, .slice none 0 0] 47, OV.num 7 0, OwX.nil _ _ _ _, ⟨by omega, by omega, by simp⟩⟩
  clear hab hb1 hbw1 hzz hz1
  generalize w1.alloc (.cells #[.int .i64 7, .int .i64 0, .slice none 0 0, .slice none 0 0, .slice none 0 0] 47) = w2 at *
  generalize w1.heap.size = go at *
  go_loopw [7, 8, 9, 10, 11] (fun s7 _ _ _ _ wr => ∃ keys ents vs p t, Im (go + 1) rp pp go b w wr s7 keys (ents.foldl (fun d e => wi e d) []) vs p t ∧ ents.length + t.length ≤ s.length ∧ keys.length + t.length ≤ s.length ∧ ∀ res, DI keys ents t res → DI [] [] s res) (fun _ _ _ _ _ wr => remOf wr pp)
  case atStart => exact ⟨[], [], _, _, _, hI0, by simp, by simp, fun _ h => h⟩
  case round =>
    have hsl : s.length ≤ 3200000 := by have := h.pd.cx.at_; omega
    clear hI0 h
    obtain ⟨keys, ents, vs, p, t, hIm, hal, hak, hback⟩ := hrel
    have hat := hid hIm.r.pd.cx.at_
    have hbl := bl_le t false
    have hpl : p + bl t false ≤ b.length := by have := hat.out; omega
    have hfl : (ents.foldl (fun d e => wi e d) []).length ≤ ents.length := by have := fold_len ents []; simpa using this
    obtain ⟨aok, capk, hvk⟩ := hIm.k.lin
    rw [List.length_map] at hvk
    generalize hX : ents.foldl (fun d e => wi e d) [] = X at hIm hfl
    have HX := hid hX
    clear hX
    subst hvk
    obtain ⟨m1, m3, m4, m6, m7, m9, rfl⟩ := OV.shape (k := 7) (n := 0) (b := []) (l := []) (d := X) hIm.ov
    have hrm := hid hIm.r.pd.rem
    have hBK := hid hback
    clear hback
    have r0 := hIm.r.r0
    have c1 := hIm.r.c1
    have f1 := hIm.r.f1
    have zr := World.block_lt_of_cell? _ _ r0
    have zp := World.block_lt_of_cell? _ _ c1
    obtain ⟨rc, rf, rs⟩ := id hIm.z
    obtain ⟨oc, of_, os⟩ := id hIm.o
    have hgB := hIm.hB
    cases hT : TK t with
    | bad x =>
      have bx := TK_err hT
      have T1 := hid hT
      have hpv := hid (DI.err (keys := keys) (ents := ents) hT)
      clear hT
      generalize hpa : p + bl t false = pa at hpl
      have HPA := hid hpa
      clear hpa hbl
      go_wp2_with (first | (go_at_call 68; (with_reducible refine (rtoken_q (TK_good _) hIm.r.pd.cx.fresh).mono ?_); rw [T1.out, HPA.out]; rintro e w3 ⟨rfl, hC3⟩; have hIm := hIm.step hC3; have r0 := hIm.r.r0; have c1 := hIm.r.c1; have f1 := hIm.r.f1; have zr := World.block_lt_of_cell? _ _ r0; have zp := World.block_lt_of_cell? _ _ c1; obtain ⟨rc, rf, rs⟩ := id hIm.z; obtain ⟨oc, of_, os⟩ := id hIm.o; have hgB := hIm.hB))
      obtain ⟨k0, k1, k2, k3⟩ := (hIm.z.set4 (a := .string ⟨#[]⟩) (b := .slice none 0 0) (c := .slice none 0 0) (d := .int .i64 0) rfl).s4
      have hh := set4_held w3 w.heap.size w.heap.size (.string ⟨#[]⟩) (.slice none 0 0) (.slice none 0 0) (.int .i64 0)
      have hR5 := hIm.r.off hh (Nat.le_refl _) (Nat.le_refl _)
      have k0 := cell_up' (alb _ (.cells #[.int .i64 0, .int .i64 pa, .int .i64 0, .slice none 0 0] 130)) k0
      have k1 := cell_up' (alb _ (.cells #[.int .i64 0, .int .i64 pa, .int .i64 0, .slice none 0 0] 130)) k1
      have k2 := cell_up' (alb _ (.cells #[.int .i64 0, .int .i64 pa, .int .i64 0, .slice none 0 0] 130)) k2
      have k3 := cell_up' (alb _ (.cells #[.int .i64 0, .int .i64 pa, .int .i64 0, .slice none 0 0] 130)) k3
      have hR5 := hR5.below (alb _ (.cells #[.int .i64 0, .int .i64 pa, .int .i64 0, .slice none 0 0] 130))
      exact bodyPost_ret (v := .tuple #[.agg #[.string ⟨#[]⟩, .slice none 0 0, .slice none 0 0, .int .i64 0], .int .i64 x]) (by simp [results, Tryz.results69, go_sem, k0, k1, k2, k3]) rfl ⟨_, hBK.out _ hpv.out, rfl, _, _, hR5⟩
    | tok k n out r =>
      have hst := st_toList out
      by_cases hid9 : k = 9 ∧ out = bID
      · obtain ⟨rfl, ho⟩ := hid9
        have hq : (out == [73, 68]) = true := by rw [ho]; rfl
        have T1 := hid hT
        have hpv := hid (DI.close (keys := keys) (ents := ents) (by rw [ho] at hT; exact hT))
        clear hT ho
        generalize hpa : p + bl t false = pa at hpl
        have HPA := hid hpa
        clear hpa hbl
        go_upto_region 21 with (first | (go_at_call 68; (with_reducible refine (rtoken_q (TK_good _) hIm.r.pd.cx.fresh).mono ?_); rw [T1.out, HPA.out]; rintro e w3 ⟨u3, rfl, j3, hC3⟩; have hR3 := hC3.row; obtain ⟨ao3, cap3, rfl, -, -, -⟩ := Rd.own hR3; have hIm := hIm.step hC3; have r0 := hIm.r.r0; have c1 := hIm.r.c1; have f1 := hIm.r.f1; have zr := World.block_lt_of_cell? _ _ r0; have zp := World.block_lt_of_cell? _ _ c1; obtain ⟨rc, rf, rs⟩ := id hIm.z; obtain ⟨oc, of_, os⟩ := id hIm.o; have hgB := hIm.hB; have hS3 := Sl.own hR3; have hcv : ∀ o : Obj, (convert 27 9 (.slice ao3 out.length cap3)).run Tryz.prog (w3.alloc o) = .ok (.string (st out)) (w3.alloc o) := fun o => sl_string (P := Tryz.prog) (w3.alloc o) 27 9 5 Tryz.underlying27 (by kernel_rfl) (by kernel_rfl) _ _ (hS3.up (alb _ _))))
        have hIm4 := hIm.below (alb w3 (.cells #[.int .i64 9, .int .i64 pa, .int .i64 n, .slice ao3 out.length cap3] 130))
        clear hIm hC3 hR3 hS3 hcv oc of_ os rc rf rs r0 c1 f1 zr zp hst hq hat hrm hgB
        generalize w3.alloc (.cells #[.int .i64 9, .int .i64 pa, .int .i64 n, .slice ao3 out.length cap3] 130) = w4 at *
        have r0 := hIm4.r.r0
        have c1 := hIm4.r.c1
        have f1 := hIm4.r.f1
        have zr := World.block_lt_of_cell? _ _ r0
        have zp := World.block_lt_of_cell? _ _ c1
        obtain ⟨rc, rf, rs⟩ := id hIm4.z
        obtain ⟨ao, cap, hcur, hlow⟩ := hIm4.r.pd.cx.cur
        have c0 := hcur.c0
        have hsm := hcur.sm
        have hat3 := hIm4.r.pd.cx.at_
        have HDR := hid hIm4.r.pd.cx.drp
        have hS4 := fun m => (Sl.of_cur hcur).up (below_drewN (Below.refl _ w4) m)
        have HP := hid (show pk b (j3 : Int) = hd r from by have := pk_drop_add hIm4.r.pd.cx.drp 0; simpa using this)
        rcases r with _ | ⟨x, t2⟩
        · have hpx := hid (show bik 0 a (.ok (dictOf ents) []) = .bad 2 from rfl)
          have hP1 : pk b (j3 : Int) = -1 := HP.out
          have HP1 := hid hP1
          clear hP1
          go_quiet ((first | (go_at_call 111; exact Calls.quiet_of ((rpeek_any _ b _ _ (hS4 _) hsm).mono fun e w' ⟨h1, h2⟩ => ⟨by rw [h1, HP1.out], h2⟩))))
          go_wp2_with (fail)
          have hIm := hIm4.below (below_drewN (Below.refl _ w4) nq)
          obtain ⟨k0, k1, k2, k3⟩ := (hIm.z.set4 (a := .string ⟨#[]⟩) (b := .slice none 0 0) (c := .slice none 0 0) (d := .int .i64 0) rfl).s4
          have hh := set4_held (w4.drewN nq) w.heap.size w.heap.size (.string ⟨#[]⟩) (.slice none 0 0) (.slice none 0 0) (.int .i64 0)
          have hR5 := hIm.r.off hh (Nat.le_refl _) (Nat.le_refl _)
          refine bodyPost_ret (v := .tuple #[.agg #[.string ⟨#[]⟩, .slice none 0 0, .slice none 0 0, .int .i64 0], .int .i64 2]) (by simp [results, Tryz.results69, go_sem, k0, k1, k2, k3]) rfl ⟨_, hBK.out _ hpv.out, ?_⟩
          rw [hpx.out]
          exact ⟨rfl, _, _, hR5⟩
        have hx0 := c8_ge x
        have hx1 : decide (c8 x < 0) = false := decide_eq_false (by omega)
        have HP1 := hid (show pk b (j3 : Int) = c8 x from HP.out)
        by_cases hw : wh (c8 x) = true
        rotate_left
        · have hwf : wh (c8 x) = false := by simpa using hw
          have hpx := hid (show bik 0 a (.ok (dictOf ents) (x :: t2)) = .bad 4 from by unfold bik; simp only []; rw [imgF, if_neg hw])
          have HW := hid hwf
          clear hw hwf
          go_quiet ((first | (go_at_call 111; exact Calls.quiet_of ((rpeek_any _ b _ _ (hS4 _) hsm).mono fun e w' ⟨h1, h2⟩ => ⟨by rw [h1, HP1.out], h2⟩))))
          go_wp2_with (go_at_call 22; refine (rwhite_any _ _).mono ?_; rintro e w2 ⟨rfl, rfl⟩; rw [HW.out])
          have hIm := hIm4.below (below_drewN (Below.refl _ w4) nq)
          obtain ⟨k0, k1, k2, k3⟩ := (hIm.z.set4 (a := .string ⟨#[]⟩) (b := .slice none 0 0) (c := .slice none 0 0) (d := .int .i64 0) rfl).s4
          have hh := set4_held (w4.drewN nq) w.heap.size w.heap.size (.string ⟨#[]⟩) (.slice none 0 0) (.slice none 0 0) (.int .i64 0)
          have hR5 := hIm.r.off hh (Nat.le_refl _) (Nat.le_refl _)
          refine bodyPost_ret (v := .tuple #[.agg #[.string ⟨#[]⟩, .slice none 0 0, .slice none 0 0, .int .i64 0], .int .i64 4]) (by simp [results, Tryz.results69, go_sem, k0, k1, k2, k3]) rfl ⟨_, hBK.out _ hpv.out, ?_⟩
          rw [hpx.out]
          exact ⟨rfl, _, _, hR5⟩
        have HW := hid hw
        clear hw
        go_quiet ((first | (go_at_call 111; exact Calls.quiet_of ((rpeek_any _ b _ _ (hS4 _) hsm).mono fun e w' ⟨h1, h2⟩ => ⟨by rw [h1, HP1.out], h2⟩))))
        go_wp2_with (go_at_call 22; refine (rwhite_any _ _).mono ?_; rintro e w2 ⟨rfl, rfl⟩; rw [HW.out])
        have hIm5 := hIm4.below (below_drewN (Below.refl _ w4) nq)
        rw [List.length_cons] at hat3
        clear hIm4 hS4 hcur hlow r0 c1 f1 zr zp rc rf rs c0 HP1 hx0 hx1 HP
        generalize w4.drewN nq = w5 at *
        have HDI := hid (show b.drop (j3 + 1) = t2 from by rw [← List.drop_drop, HDR.out]; rfl)
        obtain ⟨f0, hf0⟩ : ∃ f0 : Nat, f0 = j3 + 1 := ⟨_, rfl⟩
        have hf1 : (j3 : Int) + 1 = (f0 : Int) := by omega
        rw [hf1]
        have HF0 := hid hf0
        clear hf0 hf1
        rw [← HF0.out] at HDI
        have hat4 : f0 + t2.length = b.length := by have := HF0.out; omega
        clear hat3
        go_loopw [14] (fun s14 wr => ∃ k n : Nat, s14 = .int .i64 (k : Int) ∧ k = f0 + n ∧ n ≤ t2.length ∧ (∀ m, m < n → endI (t2.drop m) = false) ∧ Below w5.heap.size w5 wr) (fun s14 _ => b.length - (intOf s14).toNat)
        case atStart => exact ⟨f0, 0, rfl, rfl, Nat.zero_le _, fun m hm => absurd hm (Nat.not_lt_zero _), Below.refl _ _⟩
        case round =>
          obtain ⟨k, n, rfl, hk, hn, hbef, hB⟩ := hrel
          have HB := hid hbef
          clear hbef
          have hIm := hIm5.below hB
          have r0 := hIm.r.r0
          have c1 := hIm.r.c1
          have f1 := hIm.r.f1
          have zr := World.block_lt_of_cell? _ _ r0
          have zp := World.block_lt_of_cell? _ _ c1
          obtain ⟨rc, rf, rs⟩ := id hIm.z
          obtain ⟨ao, cap, hcur, hlow⟩ := hIm.r.pd.cx.cur
          have c0 := hcur.c0
          by_cases hlt : n < t2.length
          · have hkb : k < b.length := by omega
            have hkl := hid hk
            have hkj : f0 ≤ k := by omega
            have hz : (k : Int) < (b.length : Int) := by omega
            have hSr := (Sl.of_cur hcur)
            have e0 : b8 b k = hd (t2.drop n) := by
              have h1 := pk_in (b := b) hkb
              have h2 := pk_drop_add HDI.out n
              rw [← h1, ← h2, hk]
              congr 1
            have e3 : pk b ((k : Int) + 3) = hd (t2.drop (n + 3)) := by
              rw [← pk_drop_add HDI.out (n + 3), hk]
              congr 1
            have e1 : b.drop (k + 1) = t2.drop (n + 1) := by rw [← HDI.out, List.drop_drop]; congr 1; omega
            obtain ⟨g0, hg0⟩ : ∃ g0, g0 = wh (b8 b k) := ⟨_, rfl⟩
            obtain ⟨g1, hg1⟩ : ∃ g1, g1 = pfx [69, 73] (b.drop (k + 1)) := ⟨_, rfl⟩
            obtain ⟨g3, hg3⟩ : ∃ g3, g3 = rg (pk b ((k : Int) + 3)) := ⟨_, rfl⟩
            have hE : endI (t2.drop n) = (g0 && (g1 && !g3)) := by
              rw [endI_pfx, hg0, hg1, hg3, e0, e3, e1, List.drop_drop, List.drop_drop]
            have HE := hid hE
            have G0 := hid hg0
            have G1 := hid hg1
            have G3 := hid hg3
            clear hE hg0 hg1 hg3 e0 e1 e3
            obtain ⟨bb, oo, hao, hs1, hc⟩ := hcur.rd.some (by omega)
            have hck := hc k hkb
            subst hao
            have x0 := b8_ge b k
            have x1 := b8_le b k
            have HSR := hid hSr
            clear hc hSr hk
            cases g0 with
            | false =>
              have HM := hid (show endI (t2.drop n) = false by rw [HE.out]; rfl)
              go_wp2_with ((go_at_call 22; refine (rwhite_any _ _).mono ?_; rintro e w2 ⟨rfl, rfl⟩; rw [← G0.out]))
              go_roundw
              case rel => exact ⟨k + 1, n + 1, by go_num, by have := hkl.out; omega, by omega, fun m hm => by
                rcases Nat.lt_or_ge m n with q | q
                · exact HB.out m q
                · obtain rfl : m = n := by omega
                  exact HM.out, hB⟩
              case measure => simp [intOf]; omega
            | true =>
              cases g1 with
              | false =>
                have HM := hid (show endI (t2.drop n) = false by rw [HE.out]; rfl)
                go_wp2_with (first | (go_at_call 22; refine (rwhite_any _ _).mono ?_; rintro e w2 ⟨rfl, rfl⟩; rw [← G0.out]) | (go_at_call 48; refine (stands2 _ b _ (k + 1) (by omega) _ _ HSR.out (by omega) hsm (by decide)).mono ?_; rw [show (⟨#[69, 73]⟩ : ByteArray).data.toList = [69, 73] from rfl, ← G1.out]; rintro e w2 ⟨rfl, rfl⟩))
                go_roundw
                case rel => exact ⟨k + 1, n + 1, by go_num, by have := hkl.out; omega, by omega, fun m hm => by
                  rcases Nat.lt_or_ge m n with q | q
                  · exact HB.out m q
                  · obtain rfl : m = n := by omega
                    exact HM.out, hB⟩
                case measure => simp [intOf]; omega
              | true =>
                cases g3 with
                | true =>
                  have HM := hid (show endI (t2.drop n) = false by rw [HE.out]; rfl)
                  go_wp2_with (first | (go_at_call 22; refine (rwhite_any _ _).mono ?_; rintro e w2 ⟨rfl, rfl⟩; rw [← G0.out]) | (go_at_call 48; refine (stands2 _ b _ (k + 1) (by omega) _ _ HSR.out (by omega) hsm (by decide)).mono ?_; rw [show (⟨#[69, 73]⟩ : ByteArray).data.toList = [69, 73] from rfl, ← G1.out]; rintro e w2 ⟨rfl, rfl⟩) | (go_at_call 112; refine (rends_any hIm.r _).mono ?_; rw [← G3.out]; rintro e w2 ⟨rfl, nk, rfl⟩))
                  go_roundw
                  case rel => exact ⟨k + 1, n + 1, by go_num, by have := hkl.out; omega, by omega, fun m hm => by
                    rcases Nat.lt_or_ge m n with q | q
                    · exact HB.out m q
                    · obtain rfl : m = n := by omega
                      exact HM.out, hB.trans ((below_drewN (Below.refl wr.heap.size wr) nk).mono hB.size)⟩
                  case measure => simp [intOf]; omega
                | false =>
                  have hhit : endI (t2.drop n) = true := by rw [HE.out]; rfl
                  have hlen := endI_len hhit
                  rw [List.length_drop] at hlen
                  have HN := hid (imgN_hit t2 n hlt hhit HB.out)
                  clear hhit
                  have HDX := hid (show dictOf ents = poDict X from by unfold dictOf; rw [HX.out])
                  have hdn : b.drop (k + 3) = t2.drop (n + 3) := by rw [← HDI.out, List.drop_drop]; congr 1; have := hkl.out; omega
                  have hpx := hid (show bik 0 a (.ok (dictOf ents) (x :: t2)) = .op ⟨bBI, [poDict X], t2.take n, a⟩ (b.drop (k + 3)) from by unfold bik; simp only []; rw [imgF, if_pos HW.out, HN.out, HDX.out, hdn]; rfl)
                  clear hdn
                  go_upto_region 32 with (first | (go_at_call 22; refine (rwhite_any _ _).mono ?_; rintro e w2 ⟨rfl, rfl⟩; rw [← G0.out]) | (go_at_call 48; refine (stands2 _ b _ (k + 1) (by omega) _ _ HSR.out (by omega) hsm (by decide)).mono ?_; rw [show (⟨#[69, 73]⟩ : ByteArray).data.toList = [69, 73] from rfl, ← G1.out]; rintro e w2 ⟨rfl, rfl⟩) | (go_at_call 112; refine (rends_any hIm.r _).mono ?_; rw [← G3.out]; rintro e w2 ⟨rfl, nk, rfl⟩))
                  have hImd := hIm.below (below_drewN (Below.refl wr.heap.size wr) nk)
                  have hIm6 := hImd.side (Held.set (B := (wr.drewN nk).heap.size) (p := pp) (q := pp) (wr.drewN nk) ⟨pp, 1, none⟩ (.int .i64 ((k : Int) + 3)) (.inl rfl)) (hImd.r.to (k + 3) _ (by simp) (by have := hkl.out; omega))
                  clear hIm hImd hIm5 hB r0 c1 f1 zr zp rc rf rs c0 hck hcur hlow HSR hs1
                  generalize (wr.drewN nk).setCell ⟨pp, 1, none⟩ (.int .i64 ((k : Int) + 3)) = w6 at *
                  obtain ⟨ao6, cap6, hcur6, -⟩ := hIm6.r.pd.cx.cur
                  have hle6 := hcur6.le
                  obtain ⟨bb6, oo6, hao6, hs6, hc6⟩ := hcur6.rd.some (by omega)
                  subst hao6
                  have HIM := hid hIm6
                  have hlw := hIm6.r.lt
                  have hgB := hIm6.hB
                  have r0 := hIm6.r.r0
                  have c0 := hcur6.c0
                  have ho6 := hIm6.o
                  obtain ⟨u, hu, hrun⟩ := sl_part bytesTy (t := 27) hcur6.rd hcur6.le hcur6.mx hcur6.ni f0 k (by omega) (by omega)
                  rw [HDI.out, show k - f0 = n from by have := hkl.out; omega] at hu
                  have HS := hid (show ∀ Y : World, (∀ g, g < w6.heap.size → ¬ g = w.heap.size → Y.heap[g]? = w6.heap[g]?) → (Y.cell? ⟨rp, 0, none⟩ = some (.pointer (some ⟨pp, 0, none⟩)) ∧ Y.cell? ⟨pp, 0, none⟩ = some (.slice (some ⟨bb6, oo6, none⟩) b.length cap6) ∧ Y.cell? ⟨go, 0, none⟩ = some (.int .i64 7) ∧ Y.cell? ⟨go, 1, none⟩ = some (.int .i64 0) ∧ Y.cell? ⟨go, 2, none⟩ = some (.slice m1 0 m3) ∧ Y.cell? ⟨go, 3, none⟩ = some (.slice m4 0 m6) ∧ Y.cell? ⟨go, 4, none⟩ = some (.slice m7 X.length m9)) from fun X hX => ⟨by rw [World.cell?_of_block (w := w6) (hX _ (by simp; omega) (by simp; omega))]; exact r0, by rw [World.cell?_of_block (w := w6) (hX _ (by simp; omega) (by simp; omega))]; exact c0, by rw [World.cell?_of_block (w := w6) (hX _ (by simp; omega) (by simp; omega))]; exact ho6.1 0, by rw [World.cell?_of_block (w := w6) (hX _ (by simp; omega) (by simp; omega))]; exact ho6.1 1, by rw [World.cell?_of_block (w := w6) (hX _ (by simp; omega) (by simp; omega))]; exact ho6.1 2, by rw [World.cell?_of_block (w := w6) (hX _ (by simp; omega) (by simp; omega))]; exact ho6.1 3, by rw [World.cell?_of_block (w := w6) (hX _ (by simp; omega) (by simp; omega))]; exact ho6.1 4⟩)
                  have hbd : Below w6.heap.size w6 w6.drew := below_drewN (Below.refl _ _) 1
                  have hba := below_then hbd (alb w6.drew (.cells #[.int .i64 7, .int .i64 0, .slice m1 0 m3, .slice m4 0 m6, .slice m7 X.length m9] 47))
                  have HSd := hid (HS.out w6.drew (fun _ _ _ => rfl))
                  have HS6 := hid (HS.out w6 (fun _ _ _ => rfl))
                  have HSa := hid (HS.out ((w6.alloc (.cells #[.int .i64 7, .int .i64 0, .slice m1 0 m3, .slice m4 0 m6, .slice m7 X.length m9] 47)).drew) (fun g h1 _ => hba.block g h1))
                  have HSA := hid (HS.out (w6.alloc (.cells #[.int .i64 7, .int .i64 0, .slice m1 0 m3, .slice m4 0 m6, .slice m7 X.length m9] 47)) (fun g h1 _ => (alb w6 (.cells #[.int .i64 7, .int .i64 0, .slice m1 0 m3, .slice m4 0 m6, .slice m7 X.length m9] 47)).block g h1))
                  have hnl : (t2.take n).length ≤ 140737488355328 := by rw [List.length_take]; omega
                  have hml : (t2.take n).length = n := by rw [List.length_take]; omega
                  have hCPa := hid (copy_sl u (t2.take n) ((w6.alloc (.cells #[.int .i64 7, .int .i64 0, .slice m1 0 m3, .slice m4 0 m6, .slice m7 X.length m9] 47)).drew) (hu.up hba) hnl)
                  have hCPb := hid (copy_sl u (t2.take n) w6.drew (hu.up hbd) hnl)
                  clear r0 c0 ho6 hc6 hIm6 hcur6 hs6 hle6 hu hnl
                  obtain ⟨r0, c0, o0, o1, o2, o3, o4⟩ := HS6.out
                  obtain ⟨rc, rf, rs⟩ := id HIM.out.z
                  go_region_held3 (fun w' => (w'.cell? ⟨rp, 0, none⟩ = some (.pointer (some ⟨pp, 0, none⟩)) ∧ w'.cell? ⟨pp, 0, none⟩ = some (.slice (some ⟨bb6, oo6, none⟩) b.length cap6) ∧ w'.cell? ⟨go, 0, none⟩ = some (.int .i64 7) ∧ w'.cell? ⟨go, 1, none⟩ = some (.int .i64 0) ∧ w'.cell? ⟨go, 2, none⟩ = some (.slice m1 0 m3) ∧ w'.cell? ⟨go, 3, none⟩ = some (.slice m4 0 m6) ∧ w'.cell? ⟨go, 4, none⟩ = some (.slice m7 X.length m9))) (first | with_reducible exact HSd.out | with_reducible exact HS6.out | with_reducible exact HSa.out | with_reducible exact HSA.out | with_reducible exact HS7.out | with_reducible exact HS8.out | with_reducible exact HSs.out | go_keep | skip) (first | (go_at_call 78; (with_reducible refine hCPa.out.mono ?_); rintro e w7 ⟨v7, rfl, hr7, hb7⟩; obtain ⟨ao7, cap7, rfl, -, -, -⟩ := Rd.own hr7; have hR7 := hr7; rw [hml] at hR7; rw [hml]; have hfi : FinI w w7 rp pp b (k + 3) (b.drop (k + 3)) X (t2.take n) (.slice ao7 n cap7) w6.heap.size := FinI.a (wd := w6.drew) HIM.out rfl hbd hb7 hR7; have HFF := hid (hfi.op a); clear hfi; have hb67 := below_then hba hb7; have HS7 := hid (HS.out w7 (fun g h1 _ => hb67.block g h1)); have hZ7 := HIM.out.z.up hb67; obtain ⟨rc, rf, rs⟩ := id hZ7; have HSs := hid (show ((set4 w7 w.heap.size (.string ⟨#[66, 73]⟩) (.slice (some ⟨w6.heap.size, 0, none⟩) 1 1) (.slice ao7 n cap7) (.int .i64 a)).cell? ⟨rp, 0, none⟩ = some (.pointer (some ⟨pp, 0, none⟩)) ∧ (set4 w7 w.heap.size (.string ⟨#[66, 73]⟩) (.slice (some ⟨w6.heap.size, 0, none⟩) 1 1) (.slice ao7 n cap7) (.int .i64 a)).cell? ⟨pp, 0, none⟩ = some (.slice (some ⟨bb6, oo6, none⟩) b.length cap6) ∧ (set4 w7 w.heap.size (.string ⟨#[66, 73]⟩) (.slice (some ⟨w6.heap.size, 0, none⟩) 1 1) (.slice ao7 n cap7) (.int .i64 a)).cell? ⟨go, 0, none⟩ = some (.int .i64 7) ∧ (set4 w7 w.heap.size (.string ⟨#[66, 73]⟩) (.slice (some ⟨w6.heap.size, 0, none⟩) 1 1) (.slice ao7 n cap7) (.int .i64 a)).cell? ⟨go, 1, none⟩ = some (.int .i64 0) ∧ (set4 w7 w.heap.size (.string ⟨#[66, 73]⟩) (.slice (some ⟨w6.heap.size, 0, none⟩) 1 1) (.slice ao7 n cap7) (.int .i64 a)).cell? ⟨go, 2, none⟩ = some (.slice m1 0 m3) ∧ (set4 w7 w.heap.size (.string ⟨#[66, 73]⟩) (.slice (some ⟨w6.heap.size, 0, none⟩) 1 1) (.slice ao7 n cap7) (.int .i64 a)).cell? ⟨go, 3, none⟩ = some (.slice m4 0 m6) ∧ (set4 w7 w.heap.size (.string ⟨#[66, 73]⟩) (.slice (some ⟨w6.heap.size, 0, none⟩) 1 1) (.slice ao7 n cap7) (.int .i64 a)).cell? ⟨go, 4, none⟩ = some (.slice m7 X.length m9)) from HS.out _ (fun g h1 h2 => ((set4_held w7 w7.heap.size w.heap.size _ _ _ _).block g (Nat.lt_of_lt_of_le h1 hb67.size) h2 h2).trans (hb67.block g h1)))) | (go_at_call 78; (with_reducible refine hCPb.out.mono ?_); rintro e w7 ⟨v7, rfl, hr7, hb7⟩; obtain ⟨ao7, cap7, rfl, -, -, -⟩ := Rd.own hr7; have hR7 := hr7; rw [hml] at hR7; rw [hml]; have hff := FinI.b HIM.out rfl hbd hb7 hR7 (T := 47) a; simp only [List.length_nil] at hff; have HFF := hid hff; clear hff; have hb67 := below_then hbd hb7; have HS7 := hid (HS.out w7 (fun g h1 _ => hb67.block g h1)); have hb68 := below_then hb67 (alb w7 (.cells #[.int .i64 7, .int .i64 0, .slice m1 0 m3, .slice m4 0 m6, .slice m7 X.length m9] 47)); have HS8 := hid (HS.out (w7.alloc (.cells #[.int .i64 7, .int .i64 0, .slice m1 0 m3, .slice m4 0 m6, .slice m7 X.length m9] 47)) (fun g h1 _ => hb68.block g h1)); have hZ7 := HIM.out.z.up hb67; obtain ⟨rc, rf, rs⟩ := id hZ7; have HSs := hid (show (((set4 w7 w.heap.size (.string ⟨#[66, 73]⟩) (.slice (some ⟨w7.heap.size, 0, none⟩) 1 1) (.slice ao7 n cap7) (.int .i64 a)).alloc (.cells #[.int .i64 7, .int .i64 0, .slice m1 0 m3, .slice m4 0 m6, .slice m7 X.length m9] 47)).cell? ⟨rp, 0, none⟩ = some (.pointer (some ⟨pp, 0, none⟩)) ∧ ((set4 w7 w.heap.size (.string ⟨#[66, 73]⟩) (.slice (some ⟨w7.heap.size, 0, none⟩) 1 1) (.slice ao7 n cap7) (.int .i64 a)).alloc (.cells #[.int .i64 7, .int .i64 0, .slice m1 0 m3, .slice m4 0 m6, .slice m7 X.length m9] 47)).cell? ⟨pp, 0, none⟩ = some (.slice (some ⟨bb6, oo6, none⟩) b.length cap6) ∧ ((set4 w7 w.heap.size (.string ⟨#[66, 73]⟩) (.slice (some ⟨w7.heap.size, 0, none⟩) 1 1) (.slice ao7 n cap7) (.int .i64 a)).alloc (.cells #[.int .i64 7, .int .i64 0, .slice m1 0 m3, .slice m4 0 m6, .slice m7 X.length m9] 47)).cell? ⟨go, 0, none⟩ = some (.int .i64 7) ∧ ((set4 w7 w.heap.size (.string ⟨#[66, 73]⟩) (.slice (some ⟨w7.heap.size, 0, none⟩) 1 1) (.slice ao7 n cap7) (.int .i64 a)).alloc (.cells #[.int .i64 7, .int .i64 0, .slice m1 0 m3, .slice m4 0 m6, .slice m7 X.length m9] 47)).cell? ⟨go, 1, none⟩ = some (.int .i64 0) ∧ ((set4 w7 w.heap.size (.string ⟨#[66, 73]⟩) (.slice (some ⟨w7.heap.size, 0, none⟩) 1 1) (.slice ao7 n cap7) (.int .i64 a)).alloc (.cells #[.int .i64 7, .int .i64 0, .slice m1 0 m3, .slice m4 0 m6, .slice m7 X.length m9] 47)).cell? ⟨go, 2, none⟩ = some (.slice m1 0 m3) ∧ ((set4 w7 w.heap.size (.string ⟨#[66, 73]⟩) (.slice (some ⟨w7.heap.size, 0, none⟩) 1 1) (.slice ao7 n cap7) (.int .i64 a)).alloc (.cells #[.int .i64 7, .int .i64 0, .slice m1 0 m3, .slice m4 0 m6, .slice m7 X.length m9] 47)).cell? ⟨go, 3, none⟩ = some (.slice m4 0 m6) ∧ ((set4 w7 w.heap.size (.string ⟨#[66, 73]⟩) (.slice (some ⟨w7.heap.size, 0, none⟩) 1 1) (.slice ao7 n cap7) (.int .i64 a)).alloc (.cells #[.int .i64 7, .int .i64 0, .slice m1 0 m3, .slice m4 0 m6, .slice m7 X.length m9] 47)).cell? ⟨go, 4, none⟩ = some (.slice m7 X.length m9)) from HS.out _ (fun g h1 h2 => ((alb _ _).block g (Nat.lt_of_lt_of_le h1 (Nat.le_trans hb67.size (set4_held w7 w7.heap.size w.heap.size _ _ _ _).size))).trans (((set4_held w7 w7.heap.size w.heap.size _ _ _ _).block g (Nat.lt_of_lt_of_le h1 hb67.size) h2 h2).trans (hb67.block g h1))))))
                  · go_wp2_with fail
                    obtain ⟨hRF, hCF, hOF⟩ := HFF.out
                    obtain ⟨k0, k1, k2, k3⟩ := hCF.s4
                    refine bodyPost_ret (v := .tuple #[.agg #[.string ⟨#[66, 73]⟩, .slice (some ⟨w6.heap.size, 0, none⟩) 1 1, .slice ao7 n cap7, .int .i64 a], .int .i64 0]) (by simp [results, Tryz.results69, go_sem, k0, k1, k2, k3]) rfl ⟨_, hBK.out _ hpv.out, ?_⟩
                    rw [hpx.out]
                    exact ⟨_, rfl, hOF, _, hRF⟩
                  · go_wp2_with fail
                    obtain ⟨hRF, hCF, hOF⟩ := HFF.out
                    obtain ⟨k0, k1, k2, k3⟩ := hCF.s4
                    refine bodyPost_ret (v := .tuple #[.agg #[.string ⟨#[66, 73]⟩, .slice (some ⟨w7.heap.size, 0, none⟩) 1 1, .slice ao7 n cap7, .int .i64 a], .int .i64 0]) (by simp [results, Tryz.results69, go_sem, k0, k1, k2, k3]) rfl ⟨_, hBK.out _ hpv.out, ?_⟩
                    rw [hpx.out]
                    exact ⟨_, rfl, hOF, _, hRF⟩
          · obtain rfl : n = t2.length := by omega
            have hz : ¬ (k : Int) < (b.length : Int) := by omega
            have HN := hid (imgN_none t2 HB.out)
            have hpx := hid (show bik 0 a (.ok (dictOf ents) (x :: t2)) = .bad 2 from by unfold bik; simp only []; rw [imgF, if_pos HW.out, HN.out])
            go_wp2
            obtain ⟨k0, k1, k2, k3⟩ := (hIm.z.set4 (a := .string ⟨#[]⟩) (b := .slice none 0 0) (c := .slice none 0 0) (d := .int .i64 0) rfl).s4
            have hh := set4_held wr w.heap.size w.heap.size (.string ⟨#[]⟩) (.slice none 0 0) (.slice none 0 0) (.int .i64 0)
            have hR5 := hIm.r.off hh (Nat.le_refl _) (Nat.le_refl _)
            refine bodyPost_ret (v := .tuple #[.agg #[.string ⟨#[]⟩, .slice none 0 0, .slice none 0 0, .int .i64 0], .int .i64 2]) (by simp [results, Tryz.results69, go_sem, k0, k1, k2, k3]) rfl ⟨_, hBK.out _ hpv.out, ?_⟩
            rw [hpx.out]
            exact ⟨rfl, _, _, hR5⟩
      by_cases h0 : k = 0
      · subst h0
        have T1 := hid hT
        have hpv := hid (DI.eof (keys := keys) (ents := ents) hT)
        clear hT hid9
        generalize hpa : p + bl t false = pa at hpl
        have HPA := hid hpa
        clear hpa hbl
        go_wp2_with (first | (go_at_call 68; (with_reducible refine (rtoken_q (TK_good _) hIm.r.pd.cx.fresh).mono ?_); rw [T1.out, HPA.out]; rintro e w3 ⟨u3, rfl, j3, hC3⟩; have hR3 := hC3.row; obtain ⟨ao3, cap3, rfl, -, -, -⟩ := Rd.own hR3; have hIm := hIm.step hC3; have r0 := hIm.r.r0; have c1 := hIm.r.c1; have f1 := hIm.r.f1; have zr := World.block_lt_of_cell? _ _ r0; have zp := World.block_lt_of_cell? _ _ c1; obtain ⟨rc, rf, rs⟩ := id hIm.z; obtain ⟨oc, of_, os⟩ := id hIm.o; have hgB := hIm.hB; have hS3 := Sl.own hR3; have hcv : ∀ o : Obj, (convert 27 9 (.slice ao3 out.length cap3)).run Tryz.prog (w3.alloc o) = .ok (.string (st out)) (w3.alloc o) := fun o => sl_string (P := Tryz.prog) (w3.alloc o) 27 9 5 Tryz.underlying27 (by kernel_rfl) (by kernel_rfl) _ _ (hS3.up (alb _ _))))
        obtain ⟨k0, k1, k2, k3⟩ := (hIm.z.set4 (a := .string ⟨#[]⟩) (b := .slice none 0 0) (c := .slice none 0 0) (d := .int .i64 0) rfl).s4
        have hh := set4_held w3 w.heap.size w.heap.size (.string ⟨#[]⟩) (.slice none 0 0) (.slice none 0 0) (.int .i64 0)
        have hR5 := hIm.r.off hh (Nat.le_refl _) (Nat.le_refl _)
        have k0 := cell_up' (alb _ (.cells #[.int .i64 0, .int .i64 pa, .int .i64 n, .slice ao3 out.length cap3] 130)) k0
        have k1 := cell_up' (alb _ (.cells #[.int .i64 0, .int .i64 pa, .int .i64 n, .slice ao3 out.length cap3] 130)) k1
        have k2 := cell_up' (alb _ (.cells #[.int .i64 0, .int .i64 pa, .int .i64 n, .slice ao3 out.length cap3] 130)) k2
        have k3 := cell_up' (alb _ (.cells #[.int .i64 0, .int .i64 pa, .int .i64 n, .slice ao3 out.length cap3] 130)) k3
        have hR5 := hR5.below (alb _ (.cells #[.int .i64 0, .int .i64 pa, .int .i64 n, .slice ao3 out.length cap3] 130))
        exact bodyPost_ret (v := .tuple #[.agg #[.string ⟨#[]⟩, .slice none 0 0, .slice none 0 0, .int .i64 0], .int .i64 2]) (by simp [results, Tryz.results69, go_sem, k0, k1, k2, k3]) rfl ⟨_, hBK.out _ hpv.out, rfl, _, _, hR5⟩
      by_cases h4 : ¬ k = 4
      · by_cases h9 : k = 9
        · subst h9
          have hq : (out == [73, 68]) = false := by simp only [beq_eq_false_iff_ne]; exact fun z => hid9 ⟨rfl, z⟩
          have T1 := hid hT
          have hpv := hid (DI.form (keys := keys) (ents := ents) hT hid9 h0 h4)
          clear hT hid9 h0 h4
          generalize hpa : p + bl t false = pa at hpl
          have HPA := hid hpa
          clear hpa hbl
          go_wp2_with (first | (go_at_call 68; (with_reducible refine (rtoken_q (TK_good _) hIm.r.pd.cx.fresh).mono ?_); rw [T1.out, HPA.out]; rintro e w3 ⟨u3, rfl, j3, hC3⟩; have hR3 := hC3.row; obtain ⟨ao3, cap3, rfl, -, -, -⟩ := Rd.own hR3; have hIm := hIm.step hC3; have r0 := hIm.r.r0; have c1 := hIm.r.c1; have f1 := hIm.r.f1; have zr := World.block_lt_of_cell? _ _ r0; have zp := World.block_lt_of_cell? _ _ c1; obtain ⟨rc, rf, rs⟩ := id hIm.z; obtain ⟨oc, of_, os⟩ := id hIm.o; have hgB := hIm.hB; have hS3 := Sl.own hR3; have hcv : ∀ o : Obj, (convert 27 9 (.slice ao3 out.length cap3)).run Tryz.prog (w3.alloc o) = .ok (.string (st out)) (w3.alloc o) := fun o => sl_string (P := Tryz.prog) (w3.alloc o) 27 9 5 Tryz.underlying27 (by kernel_rfl) (by kernel_rfl) _ _ (hS3.up (alb _ _))))
          obtain ⟨k0, k1, k2, k3⟩ := (hIm.z.set4 (a := .string ⟨#[]⟩) (b := .slice none 0 0) (c := .slice none 0 0) (d := .int .i64 0) rfl).s4
          have hh := set4_held w3 w.heap.size w.heap.size (.string ⟨#[]⟩) (.slice none 0 0) (.slice none 0 0) (.int .i64 0)
          have hR5 := hIm.r.off hh (Nat.le_refl _) (Nat.le_refl _)
          have k0 := cell_up' (alb _ (.cells #[.int .i64 9, .int .i64 pa, .int .i64 n, .slice ao3 out.length cap3] 130)) k0
          have k1 := cell_up' (alb _ (.cells #[.int .i64 9, .int .i64 pa, .int .i64 n, .slice ao3 out.length cap3] 130)) k1
          have k2 := cell_up' (alb _ (.cells #[.int .i64 9, .int .i64 pa, .int .i64 n, .slice ao3 out.length cap3] 130)) k2
          have k3 := cell_up' (alb _ (.cells #[.int .i64 9, .int .i64 pa, .int .i64 n, .slice ao3 out.length cap3] 130)) k3
          have hR5 := hR5.below (alb _ (.cells #[.int .i64 9, .int .i64 pa, .int .i64 n, .slice ao3 out.length cap3] 130))
          exact bodyPost_ret (v := .tuple #[.agg #[.string ⟨#[]⟩, .slice none 0 0, .slice none 0 0, .int .i64 0], .int .i64 4]) (by simp [results, Tryz.results69, go_sem, k0, k1, k2, k3]) rfl ⟨_, hBK.out _ hpv.out, rfl, _, _, hR5⟩
        · have b9 : (k == 9) = false := by simp [h9]
          have b0 : (k == 0) = false := by simp [h0]
          have b4 : (k != 4) = true := by simp [h4]
          have T1 := hid hT
          have hpv := hid (DI.form (keys := keys) (ents := ents) hT hid9 h0 h4)
          clear hT hid9 h0 h4 h9
          generalize hpa : p + bl t false = pa at hpl
          have HPA := hid hpa
          clear hpa hbl
          go_wp2_with (first | (go_at_call 68; (with_reducible refine (rtoken_q (TK_good _) hIm.r.pd.cx.fresh).mono ?_); rw [T1.out, HPA.out]; rintro e w3 ⟨u3, rfl, j3, hC3⟩; have hR3 := hC3.row; obtain ⟨ao3, cap3, rfl, -, -, -⟩ := Rd.own hR3; have hIm := hIm.step hC3; have r0 := hIm.r.r0; have c1 := hIm.r.c1; have f1 := hIm.r.f1; have zr := World.block_lt_of_cell? _ _ r0; have zp := World.block_lt_of_cell? _ _ c1; obtain ⟨rc, rf, rs⟩ := id hIm.z; obtain ⟨oc, of_, os⟩ := id hIm.o; have hgB := hIm.hB; have hS3 := Sl.own hR3; have hcv : ∀ o : Obj, (convert 27 9 (.slice ao3 out.length cap3)).run Tryz.prog (w3.alloc o) = .ok (.string (st out)) (w3.alloc o) := fun o => sl_string (P := Tryz.prog) (w3.alloc o) 27 9 5 Tryz.underlying27 (by kernel_rfl) (by kernel_rfl) _ _ (hS3.up (alb _ _))))
          obtain ⟨k0, k1, k2, k3⟩ := (hIm.z.set4 (a := .string ⟨#[]⟩) (b := .slice none 0 0) (c := .slice none 0 0) (d := .int .i64 0) rfl).s4
          have hh := set4_held w3 w.heap.size w.heap.size (.string ⟨#[]⟩) (.slice none 0 0) (.slice none 0 0) (.int .i64 0)
          have hR5 := hIm.r.off hh (Nat.le_refl _) (Nat.le_refl _)
          have k0 := cell_up' (alb _ (.cells #[.int .i64 k, .int .i64 pa, .int .i64 n, .slice ao3 out.length cap3] 130)) k0
          have k1 := cell_up' (alb _ (.cells #[.int .i64 k, .int .i64 pa, .int .i64 n, .slice ao3 out.length cap3] 130)) k1
          have k2 := cell_up' (alb _ (.cells #[.int .i64 k, .int .i64 pa, .int .i64 n, .slice ao3 out.length cap3] 130)) k2
          have k3 := cell_up' (alb _ (.cells #[.int .i64 k, .int .i64 pa, .int .i64 n, .slice ao3 out.length cap3] 130)) k3
          have hR5 := hR5.below (alb _ (.cells #[.int .i64 k, .int .i64 pa, .int .i64 n, .slice ao3 out.length cap3] 130))
          exact bodyPost_ret (v := .tuple #[.agg #[.string ⟨#[]⟩, .slice none 0 0, .slice none 0 0, .int .i64 0], .int .i64 4]) (by simp [results, Tryz.results69, go_sem, k0, k1, k2, k3]) rfl ⟨_, hBK.out _ hpv.out, rfl, _, _, hR5⟩
      obtain rfl : k = 4 := by omega
      have T1 := hid hT
      clear hT h4 h0 hid9
      generalize hpa : p + bl t false = pa at hpl
      have HPA := hid hpa
      clear hpa hbl
      have hsz := hid (show out.length ≤ 4000000 from Nat.le_trans (TK_ol T1.out) (by have := hat.out; omega))
      obtain ⟨wo, rfl⟩ : ∃ x : World, x = wr := ⟨_, rfl⟩
      have hIm0 := hid hIm
      go_wp2_with (first | (go_at_call 68; (with_reducible refine (rtoken_q (TK_good _) hIm.r.pd.cx.fresh).mono ?_); rw [T1.out, HPA.out]; rintro e w3 ⟨u3, rfl, j3, hC3⟩; have hR3 := hC3.row; obtain ⟨ao3, cap3, rfl, -, -, -⟩ := Rd.own hR3; have hIm := hIm.step hC3; have r0 := hIm.r.r0; have c1 := hIm.r.c1; have f1 := hIm.r.f1; have zr := World.block_lt_of_cell? _ _ r0; have zp := World.block_lt_of_cell? _ _ c1; obtain ⟨rc, rf, rs⟩ := id hIm.z; obtain ⟨oc, of_, os⟩ := id hIm.o; have hgB := hIm.hB; have hS3 := Sl.own hR3; have hcv : ∀ o : Obj, (convert 27 9 (.slice ao3 out.length cap3)).run Tryz.prog (w3.alloc o) = .ok (.string (st out)) (w3.alloc o) := fun o => sl_string (P := Tryz.prog) (w3.alloc o) 27 9 5 Tryz.underlying27 (by kernel_rfl) (by kernel_rfl) _ _ (hS3.up (alb _ _))))
      have hs3 := hC3.held.size
      have hT4 := C5.new w3 _ rfl [.int .i64 4, .int .i64 pa, .int .i64 n, .slice ao3 out.length cap3] 130
      have hIm4 := hIm.below (alb w3 (.cells #[.int .i64 4, .int .i64 pa, .int .i64 n, .slice ao3 out.length cap3] 130))
      have hS4 := hS3.up (alb w3 (.cells #[.int .i64 4, .int .i64 pa, .int .i64 n, .slice ao3 out.length cap3] 130))
      have hB3 := World.ownsRow.lt hR3
      have hs4 : (w3.alloc (.cells #[.int .i64 4, .int .i64 pa, .int .i64 n, .slice ao3 out.length cap3] 130)).heap.size = w3.heap.size + 1 := by simp
      have HSA : SlA (fun g => wo.heap.size ≤ g ∧ g < w3.heap.size) (w3.alloc (.cells #[.int .i64 4, .int .i64 pa, .int .i64 n, .slice ao3 out.length cap3] 130)) (.slice ao3 out.length cap3) out := ⟨hS4, fun g hg => hB3 g hg⟩
      have hkl : ∀ g, (Value.slice aok keys.length capk).ownBlock = some g → g < wo.heap.size := fun g hg => (hIm0.out.k.lt g hg).2
      have hm4 : remOf (w3.alloc (.cells #[.int .i64 4, .int .i64 pa, .int .i64 n, .slice ao3 out.length cap3] 130)) pp = r.length := hIm4.r.pd.rem
      have hwo : go + 1 ≤ wo.heap.size := hIm0.out.hB.2.2
      clear hIm hIm0 hS4 hS3 hB3 hC3 hR3 oc of_ os rc rf rs r0 c1 f1 zr zp hcv
      generalize w3.alloc (.cells #[.int .i64 4, .int .i64 pa, .int .i64 n, .slice ao3 out.length cap3] 130) = w4 at *
      generalize w3.heap.size = tb at *
      have r0 := hIm4.r.r0
      have c1 := hIm4.r.c1
      have f1 := hIm4.r.f1
      have zr := World.block_lt_of_cell? _ _ r0
      have zp := World.block_lt_of_cell? _ _ c1
      go_loopw [10] (fun s10 wr => ∃ j : Nat, s10 = .int .i64 j ∧ j ≤ keys.length ∧ Below w4.heap.size w4 wr ∧ ∀ k ∈ keys.take j, ¬ k = out) (fun s10 _ => keys.length - (intOf s10).toNat)
      case atStart => exact ⟨0, rfl, Nat.zero_le _, Below.refl _ _, by simp⟩
      case round =>
        obtain ⟨j, rfl, hj, hb, hno⟩ := hrel
        have HNO := hid hno
        clear hno r0 c1 f1 zr zp
        have hTr := hT4.up hb
        have hSr := HSA.keep (B := fun g => wo.heap.size ≤ g ∧ g < tb) (w' := wr) (fun _ h => h) (fun g hg hlt => hb.block g hlt)
        have hbs := hb.size
        obtain ⟨tc, tf, ts⟩ := id hTr
        by_cases hlt : j < keys.length
        · have hjz : (j : Int) < (keys.length : Int) := by omega
          obtain ⟨gk, offk, rfl, hck⟩ := (hIm4.k.sl.up hb).some (by omega)
          have kc := hck j (by rw [List.length_map]; exact hlt) 0 (.string (st keys[j])) (by rw [key_at hlt]; rfl)
          have HKJ := hid (fun h => take_no HNO.out hlt h)
          have HIN := hid (show keys[j] ∈ keys from List.getElem_mem hlt)
          generalize keys[j] = kj at kc HKJ HIN
          rw [Nat.mul_one, Nat.add_zero] at kc
          have hsj := st_toList kj
          have hso := st_toList out
          clear hck
          obtain ⟨bq, hbq⟩ : ∃ bq, bq = (kj == out) := ⟨_, rfl⟩
          have HBQ := hid hbq
          clear hbq
          have hcv : ∀ m, (convert 27 9 (.slice ao3 out.length cap3)).run Tryz.prog (wr.drewN m) = .ok (.string (st out)) (wr.drewN m) := fun m => sl_string (P := Tryz.prog) (wr.drewN m) 27 9 5 Tryz.underlying27 (by kernel_rfl) (by kernel_rfl) _ _ (hSr.1.up (below_drewN (Below.refl _ _) m))
          go_upto_region 14 with fail
          go_cut [60] from 49 to 60 (fun s60 wx => s60 = .bool bq ∧ Below wr.heap.size wr wx)
          case first =>
            go_quiet (fail)
            go_wp2_with fail
            go_meet
            exact ⟨by rw [HBQ.out], below_drewN (Below.refl _ _) _⟩
          case rest =>
            obtain ⟨rfl, hb6⟩ := hcut
            obtain ⟨w6, rfl⟩ : ∃ x : World, x = wc := ⟨_, rfl⟩
            have hbw : Below w4.heap.size w4 w6 := hb.trans (hb6.mono hb.size)
            clear hcv
            cases bq with
            | false =>
              have hne := hid (show ¬ kj = out by have := HBQ.out; simpa using this.symm)
              go_wp2
              go_roundw
              case rel => exact ⟨j + 1, by go_num, by omega, hbw, HKJ.out hne.out⟩
              case measure => simp [intOf]; omega
            | true =>
              have hin : out ∈ keys := (show kj = out by simpa using HBQ.out.symm) ▸ HIN.out
              have hpv := hid (DI.twice (ents := ents) T1.out hin)
              clear hin
              clear tc tf ts
              have hT6 := hTr.up hb6
              obtain ⟨tc, tf, ts⟩ := id hT6
              have hIm := hIm4.below hbw
              have r0 := hIm.r.r0
              have c1 := hIm.r.c1
              have f1 := hIm.r.f1
              have zr := World.block_lt_of_cell? _ _ r0
              have zp := World.block_lt_of_cell? _ _ c1
              obtain ⟨rc, rf, rs⟩ := id hIm.z
              obtain ⟨oc, of_, os⟩ := id hIm.o
              have hgB := hIm.hB
              go_wp2
              obtain ⟨k0, k1, k2, k3⟩ := (hIm.z.set4 (a := .string ⟨#[]⟩) (b := .slice none 0 0) (c := .slice none 0 0) (d := .int .i64 0) rfl).s4
              have hh := set4_held w6 w.heap.size w.heap.size (.string ⟨#[]⟩) (.slice none 0 0) (.slice none 0 0) (.int .i64 0)
              have hR5 := hIm.r.off hh (Nat.le_refl _) (Nat.le_refl _)
              exact bodyPost_ret (v := .tuple #[.agg #[.string ⟨#[]⟩, .slice none 0 0, .slice none 0 0, .int .i64 0], .int .i64 4]) (by simp [results, Tryz.results69, go_sem, k0, k1, k2, k3]) rfl ⟨_, hBK.out _ hpv.out, rfl, _, _, hR5⟩
        · obtain rfl : j = keys.length := by omega
          have hjz : ¬ (keys.length : Int) < (keys.length : Int) := by omega
          have hni := hid (show ¬ out ∈ keys from fun h => HNO.out out (by rw [List.take_length]; exact h) rfl)
          have hIm := hIm4.below hb
          have hkr := hIm.k
          have hcv : ∀ w9, Below wr.heap.size wr w9 → (convert 27 9 (.slice ao3 out.length cap3)).run Tryz.prog w9 = .ok (.string (st out)) w9 := fun w9 h9 => sl_string (P := Tryz.prog) w9 27 9 5 Tryz.underlying27 (by kernel_rfl) (by kernel_rfl) _ _ (hSr.1.up h9)
          have hcv1 := hcv _ (Below.refl _ _)
          clear hcv
          have hrz := hIm.z.2.2
          have hrw := hIm.o.2.2
          have hgB := hIm.hB
          have hm4r : remOf wr pp = r.length := hIm.r.pd.rem
          go_upto_region 18 with (first | (go_at_call 70; refine (rvalue_top hIm.r.fresh.pd hv).mono ?_; rintro e w5 ⟨res, hpv, hvq⟩; have hfit := hpv.fit; rcases res with ⟨x9, t9⟩ | ⟨o9, t9⟩; rotate_left; (obtain ⟨vs, rfl, hov, j9, hPs⟩ := hvq; have hIm := hIm.join hPs; have hT9 := hT8.held hPs.cx.held (by omega) (by omega); have hS9 := hS8.keep (B := fun g => wo.heap.size ≤ g ∧ g < tb) (w' := w5) (fun _ h => h) (fun g hg hlt => hPs.cx.held.block g hlt (by have := hg.1; omega) (by have := hg.1; omega)); have hs5 := hPs.cx.size; have hV9 := hov.v5; have hov2 := hid hov; clear hov; obtain ⟨y1, y2, y3, y4, y5, y6, y7, y8, y9, y10, y11, rfl⟩ := hV9); rotate_left; (obtain ⟨rfl, j9, hPs⟩ := hvq; have bx : (x9 == 0) = false := hfit; have hIm := hIm.join hPs; have r0 := hIm.r.r0; have c1 := hIm.r.c1; have f1 := hIm.r.f1; have zr := World.block_lt_of_cell? _ _ r0; have zp := World.block_lt_of_cell? _ _ c1; obtain ⟨rc, rf, rs⟩ := id hIm.z; obtain ⟨oc, of_, os⟩ := id hIm.o; have hgB := hIm.hB)) | (at_builtin; refine wpList_append_slx rfl _ _ 67 rfl (go + 1) 9 (.string ⟨#[]⟩) 1 16 strsTy strsIn rfl (by decide) (.slice aok keys.length capk) (keys.map kcl) rfl (hkr.up (alb _ _)) _ [kcl out] rfl (SlX.lit1 wr wr.heap.size rfl (kcl out) _ 1 rfl) (kcl_one out) (by simp; omega) (by decide) (by simp; omega) ?_; intro v8 w8 q1 q2 q3; obtain ⟨g8, cap8, rfl⟩ := q1.cons (by simp); have e8 : (keys.map kcl ++ [kcl out]).length = keys.length + 1 := (by simp); rw [e8] at q1 q3; have hBA := alb wr (.cells #[.string (st out)] 9); have hIm := (hIm.below hBA).push q1 q2 q3; have hT8 := (hTr.up hBA).grown q2 (fun hg => by have := hkl _ hg; omega); have hS8 := (hSr.keep (B := fun g => wo.heap.size ≤ g ∧ g < tb) (w' := wr.alloc (.cells #[.string (st out)] 9)) (fun _ h => h) (fun g hg hlt => hBA.block g hlt)).grown (B := fun g => wo.heap.size ≤ g ∧ g < tb) (fun _ h => h) q2 (fun g hg q => by have := hkl _ q; have := hg.1; omega); have hs8 := Nat.le_trans hBA.size q2.size; have r0 := hIm.r.r0; have c1 := hIm.r.c1; have f1 := hIm.r.f1; have zr := World.block_lt_of_cell? _ _ r0; have zp := World.block_lt_of_cell? _ _ c1; obtain ⟨rc, rf, rs⟩ := id hIm.z; obtain ⟨oc, of_, os⟩ := id hIm.o; have hgB := hIm.hB))
          · have r0 := hIm.r.r0
            have c1 := hIm.r.c1
            have f1 := hIm.r.f1
            have zr := World.block_lt_of_cell? _ _ r0
            have zp := World.block_lt_of_cell? _ _ c1
            obtain ⟨rc, rf, rs⟩ := id hIm.z
            obtain ⟨oc, of_, os⟩ := id hIm.o
            have hgB := hIm.hB
            go_wp2
            obtain ⟨k0, k1, k2, k3⟩ := (hIm.z.set4 (a := .string ⟨#[]⟩) (b := .slice none 0 0) (c := .slice none 0 0) (d := .int .i64 0) rfl).s4
            have hh := set4_held w5 w.heap.size w.heap.size (.string ⟨#[]⟩) (.slice none 0 0) (.slice none 0 0) (.int .i64 0)
            have hR5 := hIm.r.off hh (Nat.le_refl _) (Nat.le_refl _)
            have k0 := cell_up' (alb _ (.cells #[.int .i64 0, .int .i64 0, .slice none 0 0, .slice none 0 0, .slice none 0 0] 47)) k0
            have k1 := cell_up' (alb _ (.cells #[.int .i64 0, .int .i64 0, .slice none 0 0, .slice none 0 0, .slice none 0 0] 47)) k1
            have k2 := cell_up' (alb _ (.cells #[.int .i64 0, .int .i64 0, .slice none 0 0, .slice none 0 0, .slice none 0 0] 47)) k2
            have k3 := cell_up' (alb _ (.cells #[.int .i64 0, .int .i64 0, .slice none 0 0, .slice none 0 0, .slice none 0 0] 47)) k3
            have hR5 := hR5.below (alb _ (.cells #[.int .i64 0, .int .i64 0, .slice none 0 0, .slice none 0 0, .slice none 0 0] 47))
            exact bodyPost_ret (v := .tuple #[.agg #[.string ⟨#[]⟩, .slice none 0 0, .slice none 0 0, .int .i64 0], .int .i64 x9]) (by simp [results, Tryz.results69, go_sem, k0, k1, k2, k3]) rfl ⟨_, hBK.out _ (DI.stop T1.out hni.out hpv), rfl, _, _, hR5⟩
          · have hab := alb w5 (.cells #[.int .i64 y1, .int .i64 y2, .slice y3 y6 y7, .slice y4 y8 y9, .slice y5 y10 y11] 47)
            have hV6 := C5.new w5 _ rfl [.int .i64 y1, .int .i64 y2, .slice y3 y6 y7, .slice y4 y8 y9, .slice y5 y10 y11] 47
            have hT6 := hT9.up hab
            have hS6 := hS9.keep (B := fun g => wo.heap.size ≤ g ∧ g < tb) (w' := w5.alloc (.cells #[.int .i64 y1, .int .i64 y2, .slice y3 y6 y7, .slice y4 y8 y9, .slice y5 y10 y11] 47)) (fun _ h => h) (fun g hg hlt => hab.block g hlt)
            have hov6 := hid (hov2.out.up hab)
            have hIm6 := hIm.below hab
            have hsz6 : (w5.alloc (.cells #[.int .i64 y1, .int .i64 y2, .slice y3 y6 y7, .slice y4 y8 y9, .slice y5 y10 y11] 47)).heap.size = w5.heap.size + 1 := by simp
            have htb := hT9.2.2
            have hf : t9.length < r.length := hfit
            have hrt := TK_rest T1.out (by decide)
            clear hIm hT9 hS9 hov2 hT8 hS8 hcv1 hkr hIm4 hT4 HSA hTr hSr tc tf ts q1 q2 q3 hab hBA
            generalize w5.alloc (.cells #[.int .i64 y1, .int .i64 y2, .slice y3 y6 y7, .slice y4 y8 y9, .slice y5 y10 y11] 47) = w6 at *
            generalize w5.heap.size = vb at *
            have HS := hid (show ∀ X : World, (∀ g, go < g → g < w6.heap.size → X.heap[g]? = w6.heap[g]?) → (X.cell? ⟨tb, 3, none⟩ = some (.slice ao3 out.length cap3) ∧ X.cell? ⟨vb, 0, none⟩ = some (.int .i64 y1) ∧ X.cell? ⟨vb, 1, none⟩ = some (.int .i64 y2) ∧ X.cell? ⟨vb, 2, none⟩ = some (.slice y3 y6 y7) ∧ X.cell? ⟨vb, 3, none⟩ = some (.slice y4 y8 y9) ∧ X.cell? ⟨vb, 4, none⟩ = some (.slice y5 y10 y11) ∧ (convert 27 9 (.slice ao3 out.length cap3)).run Tryz.prog X = .ok (.string (st out)) X) from fun X hX => ⟨by rw [World.cell?_of_block (w := w6) (hX _ (by simp; omega) (by simp; omega))]; exact hT6.1 3, by rw [World.cell?_of_block (w := w6) (hX _ (by simp; omega) (by simp; omega))]; exact hV6.1 0, by rw [World.cell?_of_block (w := w6) (hX _ (by simp; omega) (by simp; omega))]; exact hV6.1 1, by rw [World.cell?_of_block (w := w6) (hX _ (by simp; omega) (by simp; omega))]; exact hV6.1 2, by rw [World.cell?_of_block (w := w6) (hX _ (by simp; omega) (by simp; omega))]; exact hV6.1 3, by rw [World.cell?_of_block (w := w6) (hX _ (by simp; omega) (by simp; omega))]; exact hV6.1 4, sl_string (P := Tryz.prog) X 27 9 5 Tryz.underlying27 (by kernel_rfl) (by kernel_rfl) _ _ (hS6.keep (B := fun _ => True) (w' := X) (fun _ _ => trivial) (fun g hg hlt => hX g (by have := hg.1; omega) hlt)).1⟩)
            have hbd : Below w6.heap.size w6 w6.drew := below_drewN (Below.refl _ _) 1
            have HPR := hid (rpair_any out (hov6.out.up hbd))
            have HSd := hid (HS.out w6.drew (fun _ _ _ => rfl))
            have HS6 := hid (HS.out w6 (fun _ _ _ => rfl))
            have hx0 := hIm6.ov.shape
            obtain ⟨oc, of_, os⟩ := id hIm6.o
            obtain ⟨k0, k1, k2, k3, k4⟩ := hIm6.o.s5
            have HIM := hid hIm6
            clear hIm6 hx0 hV6 hT6 hS6 hov6
            go_upto_region 20 with fail
            have hlv : opLd 47 (Operand.tmp 6) = Op.load 47 (Operand.tmp 6) := rfl
            rw [← hlv]
            go_region_held3 (fun w' => (w'.cell? ⟨tb, 3, none⟩ = some (.slice ao3 out.length cap3) ∧ w'.cell? ⟨vb, 0, none⟩ = some (.int .i64 y1) ∧ w'.cell? ⟨vb, 1, none⟩ = some (.int .i64 y2) ∧ w'.cell? ⟨vb, 2, none⟩ = some (.slice y3 y6 y7) ∧ w'.cell? ⟨vb, 3, none⟩ = some (.slice y4 y8 y9) ∧ w'.cell? ⟨vb, 4, none⟩ = some (.slice y5 y10 y11) ∧ (convert 27 9 (.slice ao3 out.length cap3)).run Tryz.prog w' = .ok (.string (st out)) w')) (first | with_reducible exact HSd.out | with_reducible exact HS6.out | with_reducible exact HS7.out | with_reducible exact HS8.out | with_reducible exact HS9.out | with_reducible exact HSs.out | go_keep | skip) (first | (go_at_call 110; go_loud (refine (rset_any (A0 := fun g => w6.heap.size ≤ g ∧ g < w7.heap.size) out (SlX.lit1 w7 _ rfl (ecl (out, [.int .i64 z1, .int .i64 z2, .slice z3 z6 z7, .slice z4 z8 z9, .slice z5 z10 z11])) 59 6 rfl) HUS.out (fun g hg => Nat.lt_of_lt_of_le hg.2 hba.size) (HIM.out.ov.up hb68) (by omega)).mono ?_); rintro e w9 ⟨vs9, rfl, hov9, hb9⟩; go_loud (have hb69 := below_then hb68 hb9; obtain ⟨n1, n3, n4, n6, n7, n9, rfl⟩ := hov9.shape; have hs67 := hb67.size; have hs89 := hb9.size; have HIM9 := hid (HIM.out.put hb69 (hov9.keep (fun g hg => hg.elim (fun hg => ⟨hg.1, Nat.lt_of_lt_of_le hg.2 (Nat.le_trans hba.size hs89)⟩) (fun hg => ⟨Nat.le_trans (Nat.le_trans hs67 hba.size) hg.1, hg.2⟩)) (fun _ _ _ => rfl)) rfl); have hO9 := HIM.out.o.up hb69; have HS9 := hid (HS.out w9 (fun g _ h2 => hb69.block g h2)); have HSs := hid (show ((((((w9.setCell ⟨go, 0, none⟩ (.int .i64 7)).setCell ⟨go, 1, none⟩ (.int .i64 0)).setCell ⟨go, 2, none⟩ (.slice n1 0 n3)).setCell ⟨go, 3, none⟩ (.slice n4 0 n6)).setCell ⟨go, 4, none⟩ (.slice n7 (wi (out, o9) X).length n9)).cell? ⟨tb, 3, none⟩ = some (.slice ao3 out.length cap3) ∧ (((((w9.setCell ⟨go, 0, none⟩ (.int .i64 7)).setCell ⟨go, 1, none⟩ (.int .i64 0)).setCell ⟨go, 2, none⟩ (.slice n1 0 n3)).setCell ⟨go, 3, none⟩ (.slice n4 0 n6)).setCell ⟨go, 4, none⟩ (.slice n7 (wi (out, o9) X).length n9)).cell? ⟨vb, 0, none⟩ = some (.int .i64 y1) ∧ (((((w9.setCell ⟨go, 0, none⟩ (.int .i64 7)).setCell ⟨go, 1, none⟩ (.int .i64 0)).setCell ⟨go, 2, none⟩ (.slice n1 0 n3)).setCell ⟨go, 3, none⟩ (.slice n4 0 n6)).setCell ⟨go, 4, none⟩ (.slice n7 (wi (out, o9) X).length n9)).cell? ⟨vb, 1, none⟩ = some (.int .i64 y2) ∧ (((((w9.setCell ⟨go, 0, none⟩ (.int .i64 7)).setCell ⟨go, 1, none⟩ (.int .i64 0)).setCell ⟨go, 2, none⟩ (.slice n1 0 n3)).setCell ⟨go, 3, none⟩ (.slice n4 0 n6)).setCell ⟨go, 4, none⟩ (.slice n7 (wi (out, o9) X).length n9)).cell? ⟨vb, 2, none⟩ = some (.slice y3 y6 y7) ∧ (((((w9.setCell ⟨go, 0, none⟩ (.int .i64 7)).setCell ⟨go, 1, none⟩ (.int .i64 0)).setCell ⟨go, 2, none⟩ (.slice n1 0 n3)).setCell ⟨go, 3, none⟩ (.slice n4 0 n6)).setCell ⟨go, 4, none⟩ (.slice n7 (wi (out, o9) X).length n9)).cell? ⟨vb, 3, none⟩ = some (.slice y4 y8 y9) ∧ (((((w9.setCell ⟨go, 0, none⟩ (.int .i64 7)).setCell ⟨go, 1, none⟩ (.int .i64 0)).setCell ⟨go, 2, none⟩ (.slice n1 0 n3)).setCell ⟨go, 3, none⟩ (.slice n4 0 n6)).setCell ⟨go, 4, none⟩ (.slice n7 (wi (out, o9) X).length n9)).cell? ⟨vb, 4, none⟩ = some (.slice y5 y10 y11) ∧ (convert 27 9 (.slice ao3 out.length cap3)).run Tryz.prog (((((w9.setCell ⟨go, 0, none⟩ (.int .i64 7)).setCell ⟨go, 1, none⟩ (.int .i64 0)).setCell ⟨go, 2, none⟩ (.slice n1 0 n3)).setCell ⟨go, 3, none⟩ (.slice n4 0 n6)).setCell ⟨go, 4, none⟩ (.slice n7 (wi (out, o9) X).length n9)) = .ok (.string (st out)) (((((w9.setCell ⟨go, 0, none⟩ (.int .i64 7)).setCell ⟨go, 1, none⟩ (.int .i64 0)).setCell ⟨go, 2, none⟩ (.slice n1 0 n3)).setCell ⟨go, 3, none⟩ (.slice n4 0 n6)).setCell ⟨go, 4, none⟩ (.slice n7 (wi (out, o9) X).length n9))) from HS.out _ (fun g h1 h2 => ((set5_held w9 w9.heap.size go _ _ _ _ _).block g (Nat.lt_of_lt_of_le h2 hb69.size) (by omega) (by omega)).trans (hb69.block g h2))); clear hov9; obtain ⟨oc, of_, os⟩ := id hO9)) | (go_at_call 25; (with_reducible refine HPR.out.mono ?_); rintro e w7 ⟨vs7, rfl, hov7, hb7⟩; have hb67 := hbd.trans (hb7.mono hbd.size); have hV7 := hov7.v5; have HOV7 := hid hov7; clear hov7; obtain ⟨z1, z2, z3, z4, z5, z6, z7, z8, z9, z10, z11, rfl⟩ := hV7; have hba := alb w7 (.cells #[.string (st out), .int .i64 z1, .int .i64 z2, .slice z3 z6 z7, .slice z4 z8 z9, .slice z5 z10 z11] 59); have hb68 := below_then hb67 hba; have HS7 := hid (HS.out w7 (fun g h1 h2 => hb67.block g h2)); have HS8 := hid (HS.out (w7.alloc (.cells #[.string (st out), .int .i64 z1, .int .i64 z2, .slice z3 z6 z7, .slice z4 z8 z9, .slice z5 z10 z11] 59)) (fun g _ h2 => hb68.block g h2)); have HUS := hid (show OV (fun g => w6.heap.size ≤ g ∧ g < w7.heap.size) (w7.alloc (.cells #[.string (st out), .int .i64 z1, .int .i64 z2, .slice z3 z6 z7, .slice z4 z8 z9, .slice z5 z10 z11] 59)) [.int .i64 z1, .int .i64 z2, .slice z3 z6 z7, .slice z4 z8 z9, .slice z5 z10 z11] o9 from HOV7.out.keep (fun g hg => hg) (fun g _ hlt => hba.block g hlt)); have hz78 : (w7.alloc (.cells #[.string (st out), .int .i64 z1, .int .i64 z2, .slice z3 z6 z7, .slice z4 z8 z9, .slice z5 z10 z11] 59)).heap.size = w7.heap.size + 1 := (by simp); have hO7 := HIM.out.o.up hb67; obtain ⟨oc, of_, os⟩ := id hO7; obtain ⟨k0, k1, k2, k3, k4⟩ := hO7.s5))
            all_goals
              go_wp2_with fail
              go_roundw
              case rel => exact ⟨keys ++ [out], ents ++ [(out, o9)], _, j9, t9, by rw [List.foldl_append, HX.out]; exact HIM9.out, by rw [List.length_append, List.length_singleton]; omega, by rw [List.length_append, List.length_singleton]; omega, fun res hr => hBK.out _ (DI.step T1.out hni.out hpv hr)⟩
              case measure => rw [hrm.out]; exact Nat.lt_of_le_of_lt (Nat.le_of_eq HIM9.out.r.pd.rem) (by omega)
end Go.Proofs.YtlmgklebikcbjaaGreatDoor
