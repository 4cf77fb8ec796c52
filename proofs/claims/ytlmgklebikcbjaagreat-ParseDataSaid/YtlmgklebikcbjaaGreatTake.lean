/-
  Take and bytes.Clone: the next bytes, in new memory; the makers. Conditions: the cursor stands in its bytes; sizes.
-/
import Derived.Test.YtlmgklebikcbjaaGreatStep
import Derived.Lib.SliceRun
namespace Go.Proofs.YtlmgklebikcbjaaGreat
open Go.RowKit
set_option linter.unusedVariables false

theorem Sl.isNone {w : World} {ao : Option Addr} {n c : Nat} {l : List UInt8} (h : Sl w (.slice ao n c) l) (ha : ao = none) : l = [] := by
  obtain ⟨_, _, q1, q2, _, q4, _⟩ := h
  injection q1 with e1 e2 e3
  have := q4 (by rw [← e1]; exact ha)
  exact List.length_eq_zero_iff.1 (by omega)

theorem OwnB.lit0 (w : World) (e : TypeId) (base : Nat) (hb : base ≤ w.heap.size) : OwnB (w.alloc (.cells #[] e)) base e (.slice (some ⟨w.heap.size, 0, none⟩) 0 0) [] := by
  have := World.ownsRow_lit (base := base) (e := e) (size := 1) w #[] 0 hb (by unfold maxLen; omega) (by simp)
  exact this

theorem clone_any (v : Value) (l : List UInt8) (w : World) (h : Sl w v l) (hl : l.length ≤ 1000000) :
    Calls Tryz.prog 70 #[v] w fun e w' => ∃ v', e = .returned v' ∧ OwnB w' w.heap.size 5 v' l ∧ Below w.heap.size w w' := by
  obtain ⟨ao, cap, rfl, c1, c2, c3, c4⟩ := id h
  have qT : ∀ (w : World) (a : Option Addr) (n c n' c' : Nat), (binOp .eql 22 (.slice a n c) (.slice none n' c')).run Tryz.prog w = .ok (.bool a.isNone) w := fun w a n c n' c' => Lib.run_eql_slice_nil w _ _ a n c n' c' Tryz.underlying22
  cases ao with
  | none =>
    have hn := h.isNone rfl
    subst hn
    go_enter Tryz.func70, Tryz.ntmps70
    go_wp2
    go_ret
    exact ⟨_, rfl, OwnB.nil _ _ _, Below.refl _ _⟩
  | some a =>
    go_enter Tryz.func70, Tryz.ntmps70
    go_wp2_with (at_builtin; refine wpList_append_bytes (t := 22) (e := 5) bytesTy rfl _ _ rfl w.heap.size _ [] l rfl (OwnB.lit0 w _ _ (Nat.le_refl _)) (some a) l.length cap rfl rfl c3 (c4.up (Below.alloc (Below.refl _ _) (Nat.le_refl _) _)) (by simp; omega) (by simp) ?_; intro v1 w1 q1 q2 q3)
    go_ret
    rw [List.nil_append] at q1
    exact ⟨_, rfl, q1, ((Below.alloc (Below.refl _ _) (Nat.le_refl _) _).grown q2 (by simp) (fun k hk => by have h8 : some w.heap.size = some k := hk; injection h8 with h8; omega))⟩

theorem take_any (cp : Nat) (ao : Option Addr) (cap : Nat) (b : List UInt8) (i n : Nat) (w : World) (h : CurAt w cp ao cap b i) (hn : i + n ≤ b.length) :
    Calls Tryz.prog 42 #[.pointer (some ⟨cp, 0, none⟩), .int .i64 n] w fun e w' => ∃ v, e = .returned (.tuple #[v, .bool true]) ∧ OwnB w' w.heap.size 5 v ((b.drop i).take n) ∧ CurAt w' cp ao cap b (i + n) ∧ Held w.heap.size cp cp w w' := by
  have h0 := h.c0
  have h1 := h.c1
  have h2 := h.f1
  have hs := h.sm
  have ha := h.at_
  have H := h
  obtain ⟨u, hu, hrun⟩ := sl_part bytesTy (t := 22) h.rd h.le h.mx h.ni i (i + n) (by omega) (by omega)
  rw [Nat.add_sub_cancel_left] at hu
  have hrun : ∀ w', (Instr.slice 22 (.slice ao b.length cap) (some (.int .i64 (i : Int))) (some (.int .i64 ((i : Int) + (n : Int)))) none).run Tryz.prog w' = .ok u w' := fun w' => by simpa only [Int.natCast_add] using hrun w'
  have t1 : decide ((b.length : Int) - (i : Int) < (n : Int)) = false := decide_eq_false (by omega)
  have t2 : decide ((n : Int) < 0) = false := decide_eq_false (by omega)
  have hl : ((b.drop i).take n).length ≤ 1000000 := by simp; omega
  have hle := hid (show i + n ≤ b.length from hn)
  have E1 : ∀ w', CurAt w' cp ao cap b i → CurAt (w'.setCell ⟨cp, 1, none⟩ (.int .i64 ((i : Int) + (n : Int)))) cp ao cap b (i + n) := fun w' h' => by
    have := h'.set hn
    rwa [Int.natCast_add] at this
  have hd1 : IntKind.i64.wrap ((i : Int) + (n : Int)) = (i : Int) + (n : Int) := IntWalk.i64_in _ (by omega)
  clear hn h
  go_enter Tryz.func42, Tryz.ntmps42
  go_wp2_with (first
    | (go_at_call 30; refine (left_any cp ao cap b i _ H).mono ?_; rintro e w' ⟨rfl, rfl⟩))
  go_region_held3 (fun w' => w'.cell? ⟨cp, 0, none⟩ = some (.slice ao b.length cap) ∧ w'.cell? ⟨cp, 1, none⟩ = some (.int .i64 i))
    (first | go_keep | skip)
    (first
      | (go_at_call 70; refine (clone_any u _ _ (hu.up (below_drewN (Below.refl _ _) _)) hl).mono ?_; rintro e w1 ⟨v, rfl, hv, hb⟩; have HC := (H.same (below_drewN (Below.refl _ _) _)).same hb; have k0 := HC.c0; have k1 := HC.c1; have k2 := HC.f1))
  go_wp2
  have hcp : cp < w.heap.size := World.block_lt_of_cell? _ _ H.c0
  have hv2 : OwnB w1 w.heap.size 5 v ((b.drop i).take n) := hv
  have hb2 : Below w.heap.size w w1 := below_then (below_drewN (Below.refl _ _) 1) hb
  have hne : ∀ g, v.ownBlock = some g → g ≠ cp ∧ g ≠ cp := fun g hg => by
    have := (World.ownsRow.lt hv2 g hg).1
    exact ⟨by omega, by omega⟩
  have hfin := E1 _ HC
  go_ret2
  exact ⟨v, rfl, hv2.held (p := cp) (q := cp) (Held.set _ _ _ (.inl rfl)) hne, hfin, (Held.of_below hb2).trans (Held.set _ _ _ (.inl rfl))⟩

theorem cursor_new (v : Value) (b : List UInt8) (w : World) (h : Sl w v b) (hl : b.length ≤ 1000000) :
    Calls Tryz.prog 31 #[v] w fun e w' => e = .returned (.pointer (some ⟨w.heap.size, 0, none⟩)) ∧ (∃ ao cap, CurAt w' w.heap.size ao cap b 0) ∧ Below w.heap.size w w' ∧ w'.heap.size = w.heap.size + 1 := by
  obtain ⟨ao, cap, rfl, c1, c2, c3, c4⟩ := id h
  go_enter Tryz.func31, Tryz.ntmps31
  go_wp2_with (refine wpList_slice_tight (t := 22) (e := 5) bytesTy rfl _ _ _ rfl _ b rfl h .i64 .i64 b.length rfl rfl (by omega) (by omega) ?_; rintro _ ⟨ao2, cap2, rfl, d2, d3, d1', d4⟩)
  have e0 : b.take ((b.length : Int)).toNat = b := by rw [Int.toNat_natCast]; exact List.take_length
  rw [e0] at d4
  have d2' : b.length ≤ cap2 := by rw [e0] at d2; exact d2
  have bl : Below w.heap.size w (w.alloc (Obj.cells #[Value.slice ao2 b.length cap2, Value.int IntKind.i64 0] 98)) := Below.alloc (Below.refl _ _) (Nat.le_refl _) _
  go_ret
  refine ⟨rfl, ⟨ao2, cap2, ⟨?_, ?_, ?_, d4.up bl, d2', d3, d1', Nat.zero_le _, hl, ?_⟩⟩, bl, by simp⟩
  · rw [World.cell?_alloc_at _ _ _ _ rfl]; rfl
  · rw [World.cell?_alloc_at _ _ _ _ rfl]; rfl
  · exact World.frozen?_alloc_at _ _ _ _ rfl
  · intro h0 a ha
    obtain ⟨bb, off, h1, h2, _⟩ := d4.some h0
    rw [h1] at ha; injection ha with ha; subst ha
    show bb ≠ w.heap.size
    omega

theorem lex_new (v : Value) (b : List UInt8) (w : World) (h : Sl w v b) (hl : b.length ≤ 1000000) :
    Calls Tryz.prog 15 #[v] w fun e w' => e = .returned (.pointer (some ⟨w.heap.size + 1, 0, none⟩)) ∧ (∃ ao cap, LexAt w' (w.heap.size + 1) w.heap.size ao cap b 0 (.int .i64 0) (.slice none 0 0)) ∧ Below w.heap.size w w' := by
  go_enter Tryz.func15, Tryz.ntmps15
  go_wp2_with (go_at_call 31; refine (cursor_new v b w h hl).mono ?_; rintro e w1 ⟨rfl, ⟨ao, cap, hc⟩, hb, hsz⟩)
  have al : Below w1.heap.size w1 (w1.alloc (Obj.cells #[Value.pointer (some ⟨w.heap.size, 0, none⟩), Value.int IntKind.i64 0, Value.slice none 0 0] 74)) := Below.alloc (Below.refl _ _) (Nat.le_refl _) _
  go_ret
  refine ⟨rfl, ⟨ao, cap, ⟨hc.same al, ?_, ?_, ?_, ?_, ?_, by omega, ?_⟩⟩, below_then hb al⟩
  · rw [World.cell?_alloc_at _ _ _ _ hsz.symm]; rfl
  · rw [World.cell?_alloc_at _ _ _ _ hsz.symm]; rfl
  · rw [World.cell?_alloc_at _ _ _ _ hsz.symm]; rfl
  · exact World.frozen?_alloc_at _ _ _ _ hsz.symm
  · exact World.frozen?_alloc_at _ _ _ _ hsz.symm
  · intro h0 a ha
    obtain ⟨bb, off, h1, h2, _⟩ := hc.rd.some h0
    rw [h1] at ha; injection ha with ha; subst ha
    show bb ≠ w.heap.size + 1
    omega

theorem made_any (lp cp : Nat) (w : World) (h : w.cell? ⟨lp, 0, none⟩ = some (.pointer (some ⟨cp, 0, none⟩))) :
    Calls Tryz.prog 36 #[.pointer (some ⟨lp, 0, none⟩)] w fun e w' => e = .returned (.bool true) ∧ w = w' := by
  go_enter Tryz.func36, Tryz.ntmps36
  go_wp2
  go_ret
  exact ⟨rfl, rfl⟩
end Go.Proofs.YtlmgklebikcbjaaGreat
