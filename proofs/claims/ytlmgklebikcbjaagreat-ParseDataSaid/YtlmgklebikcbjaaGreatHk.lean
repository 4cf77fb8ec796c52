/-
  Plain: an object that is read has no more entries than bytes were read. No program here.
-/
import Derived.Test.YtlmgklebikcbjaaGreatHa
import Derived.Test.YtlmgklebikcbjaaGreatTokL
import Derived.Test.YtlmgklebikcbjaaGreatHc
import Derived.Test.YtlmgklebikcbjaaGreatHe
import Derived.Test.YtlmgklebikcbjaaGreatHh
import Derived.BigQuiet
/-
  The plain model of an object with its number, of its stream. No program here.
-/
namespace Go.Proofs.YtlmgklebikcbjaaGreat
set_option linter.unusedVariables false

def PO.num : PO → Int
  | .mk _ n _ _ _ => n
/-- what a wanted token gives -/
inductive WRes where
  | bad (e : Int) (at_ : List UInt8)
  | ok (n : Int) (rest : List UInt8)
def want (p : Int → Int → List UInt8 → Bool) (s : List UInt8) : WRes :=
  match TK s with
  | .bad e => .bad e (s.drop (bl s false))
  | .tok k n out r => if k = 0 then .bad 2 (s.drop (bl s false)) else if p k n out = true then .ok n r else .bad 4 (s.drop (bl s false))
def isN (lo hi : Int) (k n : Int) (_ : List UInt8) : Bool := (k == 1) && (decide (lo ≤ n) && decide (n ≤ hi))
def isS (p : List UInt8) (k _ : Int) (out : List UInt8) : Bool := (k == 9) && (out == p)
def wantN (lo hi : Int) (s : List UInt8) : WRes := want (isN lo hi) s
def wantS (p s : List UInt8) : WRes := want (isS p) s

/-- the end of line that must stand ahead of a stream's data -/
def eolS (s : List UInt8) : Option (List UInt8) := if pfx [13, 10] s = true then some (s.drop 2) else if pfx [10] s = true then some (s.drop 1) else none
/-- an end of line behind it, if there is one -/
def eolA (s : List UInt8) : List UInt8 := if pfx [13, 10] s = true then s.drop 2 else if pfx [10] s = true then s.drop 1 else if pfx [13] s = true then s.drop 1 else s
def bLength : List UInt8 := [76, 101, 110, 103, 116, 104]
def bStream : List UInt8 := [115, 116, 114, 101, 97, 109]
def bEndstream : List UInt8 := [101, 110, 100, 115, 116, 114, 101, 97, 109]
def bObj : List UInt8 := [111, 98, 106]
def bEndobj : List UInt8 := [101, 110, 100, 111, 98, 106]
/-- a key's value among entries -/
def getE (key : List UInt8) : List (List UInt8 × PO) → PO
  | [] => poNull
  | e :: d => if e.1 = key then e.2 else getE key d
def PO.ents : PO → List (List UInt8 × PO)
  | .mk _ _ _ _ d => d
/-- a dictionary and its data as a stream -/
def streamO (data : List UInt8) : PO → PO
  | .mk _ n _ l d => .mk 8 n data l (wi (bLength, poNull) d)
/-- a stream's data and the word behind them -/
def strm (o : PO) (r : List UInt8) : PRes :=
  match eolS r with
  | none => .bad (if r = [] then 2 else 4) r
  | some r1 =>
    if ¬ ((getE bLength o.ents).kind = 2 ∧ 0 ≤ (getE bLength o.ents).num) then .bad 4 r1
    else if (r1.length : Int) < (getE bLength o.ents).num then .bad 2 r1
    else match wantS bEndstream (eolA (r1.drop (getE bLength o.ents).num.toNat)) with
      | .bad e t => .bad e t
      | .ok _ t => .ok (streamO (r1.take (getE bLength o.ents).num.toNat) o) t

inductive IRes where
  | bad (e : Int) (at_ : List UInt8)
  | ok (n : Int) (o : PO) (rest : List UInt8)
/-- behind the value: its stream -/
def aftS (o : PO) (r : List UInt8) : PRes := if o.kind = 7 ∧ KW bStream r = true then strm o ((r.drop (bl r false)).drop 6) else .ok o r
/-- behind the value: its stream, the word that ends it -/
def aft (n : Int) : PRes → IRes
  | .bad e t => .bad e t
  | .ok o r => match aftS o r with
    | .bad e t => .bad e t
    | .ok o2 r2 => match wantS bEndobj r2 with
      | .bad e t => .bad e t
      | .ok _ r3 => .ok n o2 r3
/-- s is read as the object r -/
def IT (q : Bool) (d : Nat) (s : List UInt8) (r : IRes) : Prop :=
  match wantN 1 8388607 s with
  | .bad e t => r = .bad e t
  | .ok n r0 => match wantN 0 0 r0 with
    | .bad e t => r = .bad e t
    | .ok _ r1 => match wantS bObj r1 with
      | .bad e t => r = .bad e t
      | .ok _ r2 => ∃ res, PV q (.v d) r2 res ∧ r = aft n res
theorem IT.one {q : Bool} {d : Nat} {s : List UInt8} {r1 r2 : IRes} (h1 : IT q d s r1) (h2 : IT q d s r2) : r1 = r2 := by
  unfold IT at h1 h2
  cases e1 : wantN 1 8388607 s with
  | bad e t => rw [e1] at h1 h2; exact h1.trans h2.symm
  | ok n r0 =>
    rw [e1] at h1 h2
    simp only [] at h1 h2
    cases e2 : wantN 0 0 r0 with
    | bad e t => rw [e2] at h1 h2; exact h1.trans h2.symm
    | ok n1 r1 =>
      rw [e2] at h1 h2
      simp only [] at h1 h2
      cases e3 : wantS bObj r1 with
      | bad e t => rw [e3] at h1 h2; exact h1.trans h2.symm
      | ok n2 r2 =>
        rw [e3] at h1 h2
        obtain ⟨a, a1, rfl⟩ := h1
        obtain ⟨c, c1, rfl⟩ := h2
        rw [PV.one a1 c1]

/-- blanks ahead change nothing -/
theorem bl_white {x : UInt8} {s : List UInt8} (h : wh (c8 x) = true) : bl (x :: s) false = 1 + bl s false := by rw [bl, if_pos h]
theorem bl_whites : ∀ {a s : List UInt8}, (∀ x ∈ a, wh (c8 x) = true) → bl (a ++ s) false = a.length + bl s false
  | [], s, _ => by simp
  | x :: a, s, h => by
    rw [List.cons_append, bl_white (h x List.mem_cons_self), bl_whites (fun y hy => h y (List.mem_cons_of_mem _ hy)), List.length_cons]; omega
theorem drop_whites {a s : List UInt8} (h : ∀ x ∈ a, wh (c8 x) = true) : (a ++ s).drop (bl (a ++ s) false) = s.drop (bl s false) := by
  rw [bl_whites h, ← List.drop_drop, List.drop_left]
theorem TK_whites {a s : List UInt8} (h : ∀ x ∈ a, wh (c8 x) = true) : TK (a ++ s) = TK s := by unfold TK; rw [drop_whites h]
theorem pF_whites {q : Bool} {a s : List UInt8} (h : ∀ x ∈ a, wh (c8 x) = true) (d : Nat) : ∀ f, pF q f (.v d) (a ++ s) = pF q f (.v d) s
  | 0 => by rw [pF, pF]
  | f + 1 => by rw [pF, pF, TK_whites h, drop_whites h]
theorem PV.whites {q : Bool} {a s : List UInt8} (h : ∀ x ∈ a, wh (c8 x) = true) {d : Nat} {r : PRes} (hv : PV q (.v d) (a ++ s) r) : PV q (.v d) s r := by
  obtain ⟨f, hf⟩ := hv
  exact ⟨f, by rw [← pF_whites h]; exact hf⟩
theorem want_whites {p : Int → Int → List UInt8 → Bool} {a s : List UInt8} (h : ∀ x ∈ a, wh (c8 x) = true) : want p (a ++ s) = want p s := by unfold want; rw [TK_whites h, drop_whites h]
theorem IT.whites {q : Bool} {a s : List UInt8} (h : ∀ x ∈ a, wh (c8 x) = true) {d : Nat} {r : IRes} (hv : IT q d (a ++ s) r) : IT q d s r := by
  unfold IT wantN at hv ⊢
  rw [want_whites h] at hv
  exact hv
end Go.Proofs.YtlmgklebikcbjaaGreat

/-
  The program's Get of a dictionary, Drop of one key. Conditions: rows no longer than a million.
-/
namespace Go.Proofs.YtlmgklebikcbjaaGreat
open Go.RowKit
set_option linter.unusedVariables false

set_option maxHeartbeats 1600000 in
set_option maxRecDepth 100000 in
theorem get_any {A : Nat → Prop} {w : World} {n : Int} {b : List UInt8} {l : List PO} {d : List (List UInt8 × PO)} {vs : List Value} (key : List UInt8) (h : OV A w vs (.mk 7 n b l d)) (hz : d.length ≤ 900000) :
    Calls Tryz.prog 41 #[.agg vs.toArray, .string (st key)] w fun e w' => ∃ vs' : List Value, e = .returned (.agg vs'.toArray) ∧ OV (fun g => w.heap.size ≤ g ∧ g < w'.heap.size) w' vs' (getE key d) ∧ Below w.heap.size w w' := by
  obtain ⟨o1, o3, o4, o6, o7, o9, rfl⟩ := h.shape
  obtain ⟨D, hD, hS⟩ := h.ents
  have hDl : D.length = d.length := All2.len hD
  have hO0 := (C5.new w _ rfl [.int .i64 7, .int .i64 n, .slice o1 b.length o3, .slice o4 l.length o6, .slice o7 d.length o9] 31).up (alb _ (.cells #[.int .i64 0, .int .i64 0, .slice none 0 0, .slice none 0 0, .slice none 0 0] 31))
  have hZ0 := C5.new (w.alloc (.cells #[.int .i64 7, .int .i64 n, .slice o1 b.length o3, .slice o4 l.length o6, .slice o7 d.length o9] 31)) (w.heap.size + 1) (by simp) [.int .i64 0, .int .i64 0, .slice none 0 0, .slice none 0 0, .slice none 0 0] 31
  have hWW := below_then (alb w (.cells #[.int .i64 7, .int .i64 n, .slice o1 b.length o3, .slice o4 l.length o6, .slice o7 d.length o9] 31)) (alb _ (.cells #[.int .i64 0, .int .i64 0, .slice none 0 0, .slice none 0 0, .slice none 0 0] 31))
  clear h
  go_enter Tryz.func41, Tryz.ntmps41
  go_wp2_with (first | (go_at_call 67; refine (entries_any _ _ _ _ _ _ _ _ _ _ _ _).mono ?_; rintro e w3 ⟨rfl, hb3⟩; have hO := hO0.up hb3; have hZ := hZ0.up hb3; have hW := below_then hWW hb3; obtain ⟨oc, of_, os⟩ := id hO; obtain ⟨rc, rf, rs⟩ := id hZ))
  have HS := hid ((hS.up hW))
  have HD := hid hD
  clear hS hD oc of_ os rc rf rs hO0 hZ0
  have hwz : w.heap.size + 1 < w3.heap.size := hZ.2.2
  go_loopw [6, 12] (fun _ s12 wr => ∃ i : Nat, s12 = .int .i64 i ∧ i ≤ d.length ∧ Below w3.heap.size w3 wr ∧ getE key d = getE key (d.drop i)) (fun _ s12 _ => d.length - (intOf s12).toNat)
  case atStart => exact ⟨0, rfl, Nat.zero_le _, Below.refl _ _, by rw [List.drop_zero]⟩
  case round =>
    obtain ⟨i, rfl, hi, hb, hge⟩ := hrel
    have hOr := hO.up hb
    have hZr := hZ.up hb
    have hWr := hW.trans (hb.mono hW.size)
    by_cases hlt : i < d.length
    · have hiz : (i : Int) < (d.length : Int) := by omega
      obtain ⟨g, off, rfl, hcell⟩ := (HS.out.up hb).some (by omega)
      have l2 := hcell i (by rw [List.length_map]; omega)
      rw [List.getElem_map] at l2
      obtain ⟨hkk, hov⟩ := HD.out.at i (by omega) hlt
      have hv5 := hov.v5
      have HDR := hid (show d.drop i = d[i] :: d.drop (i + 1) from (List.getElem_cons_drop hlt).symm)
      clear hcell
      generalize d[i] = e2 at hkk hov HDR
      generalize D[i]'(by omega) = di at l2 hkk hv5 hov
      obtain ⟨kk, vv⟩ := di
      obtain ⟨ke, oe⟩ := e2
      obtain rfl : kk = ke := hkk
      have hcp := fun W (hW : Below w.heap.size w W) => copyO_any (hov.up hW)
      have HCP := hid hcp
      obtain ⟨p1, p2, p3, p4, p5, p6, p7, p8, p9, p10, p11, rfl⟩ := hv5
      have q0 := l2 0 _ rfl
      have q1 := l2 1 _ rfl
      have q2 := l2 2 _ rfl
      have q3 := l2 3 _ rfl
      have q4 := l2 4 _ rfl
      have q5 := l2 5 _ rfl
      rw [Nat.add_zero] at q0
      have HGE := hid hge
      clear l2 hov hcp hge
      have hsk := st_toList kk
      have hsy := st_toList key
      by_cases hkq : kk = key
      · subst hkq
        have HG2 := hid (show getE kk d = oe by rw [HGE.out, HDR.out, getE, if_pos rfl])
        obtain ⟨rc, rf, rs⟩ := id hZr
        go_wp2_with (go_at_call 68; refine (HCP.out _ (below_then hWr (alb _ _))).mono ?_; rintro e w5 ⟨vs5, rfl, hov5, hb5⟩; have hZ5 := (hZr.up (alb _ _)).up hb5; obtain ⟨rc, rf, rs⟩ := id hZ5; have hV5 := hov5.v5; have hov5 := hid hov5; obtain ⟨y1, y2, y3, y4, y5, y6, y7, y8, y9, y10, y11, rfl⟩ := hV5)
        obtain ⟨k0, k1, k2, k3, k4⟩ := (hZ5.set5 (a := .int .i64 y1) (b := .int .i64 y2) (c := .slice y3 y6 y7) (d := .slice y4 y8 y9) (e := .slice y5 y10 y11) rfl).s5
        have hh := fun B => set5_held w5 B (w.heap.size + 1) (.int .i64 y1) (.int .i64 y2) (.slice y3 y6 y7) (.slice y4 y8 y9) (.slice y5 y10 y11)
        have hB5 := below_then (below_then hWr (alb wr (.cells #[.string (st kk), .int .i64 p1, .int .i64 p2, .slice p3 p6 p7, .slice p4 p8 p9, .slice p5 p10 p11] 71))) hb5
        have hzr := hb.size
        refine bodyPost_ret (v := .agg #[.int .i64 y1, .int .i64 y2, .slice y3 y6 y7, .slice y4 y8 y9, .slice y5 y10 y11]) (by simp [results, Tryz.results41, go_sem, k0, k1, k2, k3, k4]) rfl ⟨[.int .i64 y1, .int .i64 y2, .slice y3 y6 y7, .slice y4 y8 y9, .slice y5 y10 y11], rfl, ?_, hB5.trans ((hh w5.heap.size).below hB5.size (by omega) (by omega))⟩
        rw [HG2.out]
        exact hov5.out.keep (fun g hg => ⟨by have := hg.1; simp at this; omega, Nat.lt_of_lt_of_le hg.2 (hh 0).size⟩) (fun g hg h1 => (hh w5.heap.size).block g h1 (by have := hg.1; simp at this; omega) (by have := hg.1; simp at this; omega))
      · have hbq : (kk == key) = false := beq_eq_false_iff_ne.2 hkq
        have HG2 := hid (show getE key d = getE key (d.drop (i + 1)) by rw [HGE.out, HDR.out, getE, if_neg hkq])
        go_wp2
        go_roundw
        case rel => exact ⟨i + 1, by go_num, by omega, hb.trans ((alb _ _).mono hb.size), HG2.out⟩
        case measure => simp [intOf]; omega
    · obtain rfl : i = d.length := by omega
      have hiz : ¬ (d.length : Int) < (d.length : Int) := by omega
      have HG2 := hid (show getE key d = poNull by rw [hge, List.drop_length]; rfl)
      clear hge
      obtain ⟨rc, rf, rs⟩ := id hZr
      go_wp2_with (go_at_call 69; refine (none_any _).mono ?_; rintro e w5 ⟨rfl, hb5⟩; have hZ5 := hZr.up hb5; obtain ⟨rc, rf, rs⟩ := id hZ5)
      obtain ⟨k0, k1, k2, k3, k4⟩ := (hZ5.set5 (a := .int .i64 0) (b := .int .i64 0) (c := .slice none 0 0) (d := .slice none 0 0) (e := .slice none 0 0) rfl).s5
      have hh := fun B => set5_held w5 B (w.heap.size + 1) (.int .i64 0) (.int .i64 0) (.slice none 0 0) (.slice none 0 0) (.slice none 0 0)
      have hB5 := below_then hWr hb5
      refine bodyPost_ret (v := .agg #[.int .i64 0, .int .i64 0, .slice none 0 0, .slice none 0 0, .slice none 0 0]) (by simp [results, Tryz.results41, go_sem, k0, k1, k2, k3, k4]) rfl ⟨[.int .i64 0, .int .i64 0, .slice none 0 0, .slice none 0 0, .slice none 0 0], rfl, ?_, hB5.trans ((hh w5.heap.size).below hB5.size (by omega) (by omega))⟩
      rw [HG2.out]
      exact OV.num 0 0

set_option maxHeartbeats 1600000 in
set_option maxRecDepth 100000 in
theorem drop_any {A : Nat → Prop} {w : World} {n : Int} {b : List UInt8} {l : List PO} {d : List (List UInt8 × PO)} {vs : List Value} (key : List UInt8) {vk : Value} (hk : SlX 1 w vk [[.string (st key)]]) (h : OV A w vs (.mk 7 n b l d)) (hz : d.length ≤ 800000) :
    Calls Tryz.prog 43 #[.agg vs.toArray, vk] w fun e w' => ∃ vs' : List Value, e = .returned (.agg vs'.toArray) ∧ OV (fun g => w.heap.size ≤ g ∧ g < w'.heap.size) w' vs' (.mk 7 n b l (wi (key, poNull) d)) ∧ Below w.heap.size w w' := by
  obtain ⟨o1, o3, o4, o6, o7, o9, rfl⟩ := h.shape
  obtain ⟨ak, ck, rfl, s1, s2, s3, s4, s5⟩ := id hk
  have hO0 := (C5.new w _ rfl [.int .i64 7, .int .i64 n, .slice o1 b.length o3, .slice o4 l.length o6, .slice o7 d.length o9] 31).up (alb _ (.cells #[.int .i64 0, .int .i64 0, .slice none 0 0, .slice none 0 0, .slice none 0 0] 31))
  have hZ0 := C5.new (w.alloc (.cells #[.int .i64 7, .int .i64 n, .slice o1 b.length o3, .slice o4 l.length o6, .slice o7 d.length o9] 31)) (w.heap.size + 1) (by simp) [.int .i64 0, .int .i64 0, .slice none 0 0, .slice none 0 0, .slice none 0 0] 31
  have hWW := below_then (alb w (.cells #[.int .i64 7, .int .i64 n, .slice o1 b.length o3, .slice o4 l.length o6, .slice o7 d.length o9] 31)) (alb _ (.cells #[.int .i64 0, .int .i64 0, .slice none 0 0, .slice none 0 0, .slice none 0 0] 31))
  obtain ⟨gk, offk, rfl, hck⟩ := hk.some (by simp)
  have HCK := hid (hck 0 (by simp) 0 _ rfl)
  have hsz2 : ((w.alloc (.cells #[.int .i64 7, .int .i64 n, .slice o1 b.length o3, .slice o4 l.length o6, .slice o7 d.length o9] 31)).alloc (.cells #[.int .i64 0, .int .i64 0, .slice none 0 0, .slice none 0 0, .slice none 0 0] 31)).heap.size = w.heap.size + 2 := by simp
  have hone : ∀ c ∈ [ecl (key, [.int .i64 0, .int .i64 0, .slice none 0 0, .slice none 0 0, .slice none 0 0])], ∀ u ∈ c, u.oneCell' = true := fun c hc => by
    rw [List.mem_singleton] at hc; subst hc; exact ecl_one (e := (key, _)) ⟨_, _, _, _, _, _, _, _, _, _, _, rfl⟩
  clear hck s5
  go_enter Tryz.func43, Tryz.ntmps43
  go_wp2
  generalize hW2 : (w.alloc (.cells #[.int .i64 7, .int .i64 n, .slice o1 b.length o3, .slice o4 l.length o6, .slice o7 d.length o9] 31)).alloc (.cells #[.int .i64 0, .int .i64 0, .slice none 0 0, .slice none 0 0, .slice none 0 0] 31) = W2 at *
  go_loopw [5, 7, 10] (fun s5 _ s10 wr => Below W2.heap.size W2 wr ∧ ((s10 = .int .i64 0 ∧ s5 = .slice none 0 0) ∨ (s10 = .int .i64 1 ∧ ∃ g cap, s5 = .slice (some ⟨g, 0, none⟩) 1 cap ∧ OwX 6 71 wr (w.heap.size + 2) s5 [ecl (key, [.int .i64 0, .int .i64 0, .slice none 0 0, .slice none 0 0, .slice none 0 0])]))) (fun _ _ s10 _ => 1 - (intOf s10).toNat)
  case atStart => exact ⟨Below.refl _ _, .inl ⟨rfl, rfl⟩⟩
  case round =>
    obtain ⟨hb, ⟨rfl, rfl⟩ | ⟨rfl, g, cap, rfl, hrow⟩⟩ := hrel
    · have hWr := hWW.trans (hb.mono hWW.size)
      have hck := cell_up' hWr HCK.out
      have hzk := World.block_lt_of_cell? _ _ hck
      have hbs := hb.size
      rw [show offk + 0 * 1 + 0 = offk by omega] at hck
      go_wp2_with (at_builtin; refine wpList_append_slx rfl _ _ 29 rfl (w.heap.size + 2) 71 zEnt 6 104 entTy' entIn rfl (by decide) (.slice none 0 0) [] rfl (OwX.nil _ _ _ _) _ [ecl (key, [.int .i64 0, .int .i64 0, .slice none 0 0, .slice none 0 0, .slice none 0 0])] rfl (SlX.lit1 wr wr.heap.size rfl (ecl (key, [.int .i64 0, .int .i64 0, .slice none 0 0, .slice none 0 0, .slice none 0 0])) _ 6 rfl) hone (by simp) (by decide) (by simp; omega) ?_; intro v8 w8 q1 q2 q3; obtain ⟨g8, cap8, rfl⟩ := q1.cons (by simp))
      go_roundw
      case rel => exact ⟨below_then (below_then hb (alb wr (.cells (ecl (key, [.int .i64 0, .int .i64 0, .slice none 0 0, .slice none 0 0, .slice none 0 0])).toArray 71))) (below_grownBy q2), .inr ⟨by go_num, _, _, rfl, q1⟩⟩
      case measure => simp [intOf]
    · have hWr := hWW.trans (hb.mono hWW.size)
      have hOr := hO0.up hb
      have hZr := hZ0.up hb
      obtain ⟨oc, of_, os⟩ := id hOr
      obtain ⟨rc, rf, rs⟩ := id hZr
      have hbs := hb.size
      have HST := hid (fun A9 => set_any (A2 := A9) (h.up hWr) (D := [(key, [.int .i64 0, .int .i64 0, .slice none 0 0, .slice none 0 0, .slice none 0 0])]) (d2 := [(key, poNull)]) (.one ⟨rfl, OV.num 0 0⟩) hrow.sl (by simp; omega))
      go_wp2_with (go_at_call 71; refine (HST.out (fun _ => True)).mono ?_; rintro e w5 ⟨vs5, rfl, hov5, hb5⟩; have hZ5 := hZr.up hb5; obtain ⟨rc, rf, rs⟩ := id hZ5; have hV5 := hov5.v5; have hov5 := hid hov5; obtain ⟨y1, y2, y3, y4, y5, y6, y7, y8, y9, y10, y11, rfl⟩ := hV5)
      obtain ⟨k0, k1, k2, k3, k4⟩ := (hZ5.set5 (a := .int .i64 y1) (b := .int .i64 y2) (c := .slice y3 y6 y7) (d := .slice y4 y8 y9) (e := .slice y5 y10 y11) rfl).s5
      have hh := fun B => set5_held w5 B (w.heap.size + 1) (.int .i64 y1) (.int .i64 y2) (.slice y3 y6 y7) (.slice y4 y8 y9) (.slice y5 y10 y11)
      have hB5 := hWr.trans (hb5.mono hWr.size)
      refine bodyPost_ret (v := .agg #[.int .i64 y1, .int .i64 y2, .slice y3 y6 y7, .slice y4 y8 y9, .slice y5 y10 y11]) (by simp [results, Tryz.results43, go_sem, k0, k1, k2, k3, k4]) rfl ⟨[.int .i64 y1, .int .i64 y2, .slice y3 y6 y7, .slice y4 y8 y9, .slice y5 y10 y11], rfl, ?_, hB5.trans ((hh w5.heap.size).below hB5.size (by omega) (by omega))⟩
      exact hov5.out.keep (fun g hg => ⟨by have := hg.1; omega, Nat.lt_of_lt_of_le hg.2 (hh 0).size⟩) (fun g hg h1 => (hh w5.heap.size).block g h1 (by have := hg.1; omega) (by have := hg.1; omega))
end Go.Proofs.YtlmgklebikcbjaaGreat

/-
  The program's Want, Whole, Word: the next token, which must be right. Condition: the parser stands in its bytes.
-/
namespace Go.Proofs.YtlmgklebikcbjaaGreat
open Go.RowKit
set_option linter.unusedVariables false

set_option maxHeartbeats 800000 in
set_option maxRecDepth 100000 in
theorem clo_num (bf bt : Nat) (lo hi k a n : Int) (ao : Option Addr) (nl cap : Nat) (out : List UInt8) (w : World) (h1 : w.cell? ⟨bf, 0, none⟩ = some (.int .i64 lo)) (h2 : w.cell? ⟨bt, 0, none⟩ = some (.int .i64 hi)) :
    Calls Tryz.prog 33 #[.agg #[.int .i64 k, .int .i64 a, .int .i64 n, .slice ao nl cap], .pointer (some ⟨bf, 0, none⟩), .pointer (some ⟨bt, 0, none⟩)] w fun e w' => e = .returned (.bool (isN lo hi k n out)) ∧ Below w.heap.size w w' := by
  have z1 := World.block_lt_of_cell? _ _ h1
  have z2 := World.block_lt_of_cell? _ _ h2
  unfold isN
  by_cases hk : k = 1
  · subst hk
    cases c1 : decide (lo ≤ n) with
    | false =>
      go_enter Tryz.func33, Tryz.ntmps33
      go_wp2
      go_ret
      exact ⟨by simp, alb _ _⟩
    | true =>
      go_enter Tryz.func33, Tryz.ntmps33
      go_wp2
      go_ret
      exact ⟨by simp, alb _ _⟩
  · have b1 : (k == 1) = false := by simp [hk]
    rw [b1]
    go_enter Tryz.func33, Tryz.ntmps33
    go_wp2
    go_ret
    exact ⟨by simp, alb _ _⟩

set_option maxHeartbeats 800000 in
set_option maxRecDepth 100000 in
theorem clo_word (bs : Nat) (p : List UInt8) (k a n : Int) (v : Value) (out : List UInt8) (w : World) (hv : Sl w v out) (h1 : w.cell? ⟨bs, 0, none⟩ = some (.string (st p))) :
    Calls Tryz.prog 34 #[.agg #[.int .i64 k, .int .i64 a, .int .i64 n, v], .pointer (some ⟨bs, 0, none⟩)] w fun e w' => e = .returned (.bool (isS p k n out)) ∧ Below w.heap.size w w' := by
  obtain ⟨ao, cap, rfl, q1, q2, q3, q4⟩ := id hv
  have z1 := World.block_lt_of_cell? _ _ h1
  have hst := st_toList out
  have hsp := st_toList p
  have hcv : ∀ o : Obj, (convert 22 9 (.slice ao out.length cap)).run Tryz.prog (w.alloc o) = .ok (.string (st out)) (w.alloc o) := fun o => sl_string (P := Tryz.prog) (w.alloc o) 22 9 5 Tryz.underlying22 (by kernel_rfl) (by kernel_rfl) _ _ (hv.up (alb _ _))
  unfold isS
  by_cases hk : k = 9
  · subst hk
    go_enter Tryz.func34, Tryz.ntmps34
    go_wp2
    go_ret
    exact ⟨by simp, alb _ _⟩
  · have b1 : (k == 9) = false := by simp [hk]
    rw [b1]
    go_enter Tryz.func34, Tryz.ntmps34
    go_wp2
    go_ret
    exact ⟨by simp, alb _ _⟩
/-- four cells of a block, set -/
abbrev set4 (w : World) (g : Nat) (a b c d : Value) : World := (((w.setCell ⟨g, 0, none⟩ a).setCell ⟨g, 1, none⟩ b).setCell ⟨g, 2, none⟩ c).setCell ⟨g, 3, none⟩ d
theorem set4_held (w : World) (B g : Nat) (a b c d : Value) : Held B g g w (set4 w g a b c d) := (((Held.set w ⟨g, 0, none⟩ a (.inl rfl)).trans (Held.set _ ⟨g, 1, none⟩ b (.inl rfl))).trans (Held.set _ ⟨g, 2, none⟩ c (.inl rfl))).trans (Held.set _ ⟨g, 3, none⟩ d (.inl rfl))
theorem C5.set4 {w : World} {g : Nat} {L : List Value} {a b c d : Value} (h : C5 w g L) (hl : L.length = 4) : C5 (set4 w g a b c d) g [a, b, c, d] := by
  obtain ⟨x0, x1, x2, x3, rfl⟩ : ∃ x0 x1 x2 x3, L = [x0, x1, x2, x3] := by
    match L, hl with
    | [x0, x1, x2, x3], _ => exact ⟨x0, x1, x2, x3, rfl⟩
  exact (((h.set (k := 0) (u := a) (by simp)).set (k := 1) (u := b) (by simp)).set (k := 2) (u := c) (by simp)).set (k := 3) (u := d) (by simp)
theorem C5.s4 {w : World} {g : Nat} {a b c d : Value} (h : C5 w g [a, b, c, d]) : w.cell? ⟨g, 0, none⟩ = some a ∧ w.cell? ⟨g, 1, none⟩ = some b ∧ w.cell? ⟨g, 2, none⟩ = some c ∧ w.cell? ⟨g, 3, none⟩ = some d := ⟨h.1 0, h.1 1, h.1 2, h.1 3⟩

/-- what Want gives -/
def WQ (q : Bool) (w : World) (pp lp cp : Nat) (b : List UInt8) : WRes → Ending → World → Prop
  | .bad x t, e, w' => e = .returned (.tuple #[.agg #[.int .i64 0, .int .i64 0, .int .i64 0, .slice none 0 0], .int .i64 x]) ∧ ∃ j, Ps q w w' pp lp cp b j t
  | .ok n r, e, w' => ∃ (k a : Int) (ao : Option Addr) (nl cap : Nat), e = .returned (.tuple #[.agg #[.int .i64 k, .int .i64 a, .int .i64 n, .slice ao nl cap], .int .i64 0]) ∧ ∃ j, Ps q w w' pp lp cp b j r
/-- an error is no nought -/
theorem want_err {p : Int → Int → List UInt8 → Bool} {s t : List UInt8} {x : Int} (h : want p s = .bad x t) : (x == 0) = false := by
  unfold want at h
  cases hT : TK s with
  | bad e => rw [hT] at h; injection h with h1 _; subst h1; exact TK_err hT
  | tok k n out r =>
    rw [hT] at h
    simp only [] at h
    split at h
    · injection h with h1 _; subst h1; rfl
    · split at h
      · cases h
      · injection h with h1 _; subst h1; rfl

set_option maxHeartbeats 1600000 in
set_option maxRecDepth 100000 in
theorem want_num {q : Bool} {w : World} {pp lp cp : Nat} {b s : List UInt8} {i : Nat} (h : Ps q w w pp lp cp b i s) (lo hi : Int) (bf bt : Nat) (hf : w.cell? ⟨bf, 0, none⟩ = some (.int .i64 lo)) (ht : w.cell? ⟨bt, 0, none⟩ = some (.int .i64 hi)) (nf : bf ≠ lp ∧ bf ≠ cp) (nt : bt ≠ lp ∧ bt ≠ cp) :
    Calls Tryz.prog 32 #[.pointer (some ⟨pp, 0, none⟩), .func (Fn.func 33) #[] #[.pointer (some ⟨bf, 0, none⟩), .pointer (some ⟨bt, 0, none⟩)]] w fun e w' => WQ q w pp lp cp b (want (isN lo hi) s) e w' := by
  have hP := h.below (alb w (.cells #[.int .i64 0, .int .i64 0, .int .i64 0, .slice none 0 0] 79))
  have hC := C5.new w _ rfl [.int .i64 0, .int .i64 0, .int .i64 0, .slice none 0 0] 79
  have hlo : lp < w.heap.size ∧ cp < w.heap.size := by
    obtain ⟨m, v, hL⟩ := h.lx
    obtain ⟨ao, cap, h1, h2⟩ := hL.lex
    exact ⟨h2.lp, h2.cp⟩
  have hf := cell_up' (alb w (.cells #[.int .i64 0, .int .i64 0, .int .i64 0, .slice none 0 0] 79)) hf
  have ht := cell_up' (alb w (.cells #[.int .i64 0, .int .i64 0, .int .i64 0, .slice none 0 0] 79)) ht
  have p0 := hP.p0
  have l0 := hP.l0
  have hat := hid h.at_
  have hbl := bl_le s false
  have hpl : i + bl s false ≤ b.length := by have := hat.out; omega
  have hdp : b.drop (i + bl s false) = s.drop (bl s false) := by rw [← h.drp, List.drop_drop]
  clear h
  generalize hpa : i + bl s false = pa at hpl hdp
  have HPA := hid hpa
  have HD := hid hdp
  clear hpa hdp hbl
  cases hT : TK s with
  | bad x =>
    have bx := TK_err hT
    have e1 : want (isN lo hi) s = .bad x (s.drop (bl s false)) := by unfold want; rw [hT]
    rw [e1]
    have T1 := hid hT
    clear hT e1
    go_enter Tryz.func32, Tryz.ntmps32
    go_wp2_with (first | (go_at_call 16; refine (made_p hP.fresh).mono ?_; rintro e w1 ⟨rfl, rfl⟩) | (go_at_call 57; obtain ⟨m0, v0, hL⟩ := hP.lx; (with_reducible refine (token_q (TK_good _) hL.fresh).mono ?_); rw [T1.out, HPA.out]; rintro e w3 ⟨rfl, m3, v3, u3, o3, hL3⟩; have hP := hP.step hL3; have hC := hC.held hL3.held (by omega) (by omega); have p0 := hP.p0; have l0 := hP.l0; have zp := World.block_lt_of_cell? _ _ p0; have zl := World.block_lt_of_cell? _ _ l0; obtain ⟨rc, rf, rs⟩ := id hC))
    obtain ⟨k0, k1, k2, k3⟩ := (hC.set4 (a := .int .i64 0) (b := .int .i64 0) (c := .int .i64 0) (d := .slice none 0 0) rfl).s4
    have hh := set4_held w3 w3.heap.size w.heap.size (.int .i64 0) (.int .i64 0) (.int .i64 0) (.slice none 0 0)
    have hP5 := hP.off hh (Nat.le_refl _)
    have k0 := cell_up' (alb _ (.cells #[.int .i64 0, .int .i64 pa, .int .i64 0, .slice none 0 0] 79)) k0
    have k1 := cell_up' (alb _ (.cells #[.int .i64 0, .int .i64 pa, .int .i64 0, .slice none 0 0] 79)) k1
    have k2 := cell_up' (alb _ (.cells #[.int .i64 0, .int .i64 pa, .int .i64 0, .slice none 0 0] 79)) k2
    have k3 := cell_up' (alb _ (.cells #[.int .i64 0, .int .i64 pa, .int .i64 0, .slice none 0 0] 79)) k3
    have hP5 := hP5.below (alb _ (.cells #[.int .i64 0, .int .i64 pa, .int .i64 0, .slice none 0 0] 79))
    rw [HD.out] at hP5
    exact bodyPost_ret (v := .tuple #[.agg #[.int .i64 0, .int .i64 0, .int .i64 0, .slice none 0 0], .int .i64 x]) (by simp [results, Tryz.results32, go_sem, k0, k1, k2, k3]) rfl ⟨rfl, _, hP5⟩
  | tok k n out r =>
    by_cases h0 : k = 0
    · subst h0
      have e1 : want (isN lo hi) s = .bad 2 (s.drop (bl s false)) := by unfold want; rw [hT]; simp
      rw [e1]
      have T1 := hid hT
      clear hT e1
      go_enter Tryz.func32, Tryz.ntmps32
      go_wp2_with (first | (go_at_call 16; refine (made_p hP.fresh).mono ?_; rintro e w1 ⟨rfl, rfl⟩) | (go_at_call 57; obtain ⟨m0, v0, hL⟩ := hP.lx; (with_reducible refine (token_q (TK_good _) hL.fresh).mono ?_); rw [T1.out, HPA.out]; rintro e w3 ⟨u3, rfl, j3, m3, v3, hL3⟩; have hR3 := hL3.row; obtain ⟨ao3, cap3, rfl, -, -, -⟩ := Rd.own hR3; have hP := hP.step hL3; have hC := hC.held hL3.held (by omega) (by omega); have p0 := hP.p0; have l0 := hP.l0; have zp := World.block_lt_of_cell? _ _ p0; have zl := World.block_lt_of_cell? _ _ l0; obtain ⟨rc, rf, rs⟩ := id hC) | (go_at_call 58; refine (stop_any (hP.below (alb _ _)).fresh pa _ rfl hpl 2).mono ?_; rw [HD.out]; rintro e w9 ⟨rfl, hPs⟩; have hP := (hP.below (alb _ _)).join hPs; have hC := (hC.up (alb _ _)).held hPs.held (by omega) (by omega); obtain ⟨rc, rf, rs⟩ := id hC))
      obtain ⟨k0, k1, k2, k3⟩ := (hC.set4 (a := .int .i64 0) (b := .int .i64 0) (c := .int .i64 0) (d := .slice none 0 0) rfl).s4
      have hh := set4_held w9 w9.heap.size w.heap.size (.int .i64 0) (.int .i64 0) (.int .i64 0) (.slice none 0 0)
      have hP5 := hP.off hh (Nat.le_refl _)
      exact bodyPost_ret (v := .tuple #[.agg #[.int .i64 0, .int .i64 0, .int .i64 0, .slice none 0 0], .int .i64 2]) (by simp [results, Tryz.results32, go_sem, k0, k1, k2, k3]) rfl ⟨rfl, _, hP5⟩
    · have b0 : (k == 0) = false := by simp [h0]
      have e1 : want (isN lo hi) s = if isN lo hi k n out = true then .ok n r else .bad 4 (s.drop (bl s false)) := by unfold want; rw [hT]; simp [h0]
      rw [e1]
      have T1 := hid hT
      clear hT e1 h0
      generalize hR : isN lo hi k n out = R
      have HR := hid hR
      clear hR
      cases R with
      | false =>
        rw [if_neg (by decide)]
        go_enter Tryz.func32, Tryz.ntmps32
        go_wp2_with (first | (go_at_call 16; refine (made_p hP.fresh).mono ?_; rintro e w1 ⟨rfl, rfl⟩) | (go_at_call 33; refine (clo_num bf bt lo hi k pa n ao3 _ cap3 out _ hf3 ht3).mono ?_; rw [HR.out]; rintro e w4 ⟨rfl, hb4⟩; have hP := (hP.below (alb _ _)).below hb4; have hC := (hC.up (alb _ _)).up hb4; have t9 := cell_up' hb4 (show (w3.alloc (.cells #[.int .i64 k, .int .i64 pa, .int .i64 n, .slice ao3 out.length cap3] 79)).cell? ⟨w3.heap.size, 1, none⟩ = some (.int .i64 pa) by rw [World.cell?_alloc_at _ _ _ _ rfl]; rfl); have t7 := cell_up' hb4 (show (w3.alloc (.cells #[.int .i64 k, .int .i64 pa, .int .i64 n, .slice ao3 out.length cap3] 79)).cell? ⟨w3.heap.size, 0, none⟩ = some (.int .i64 k) by rw [World.cell?_alloc_at _ _ _ _ rfl]; rfl); have t8 := cell_up' hb4 (show (w3.alloc (.cells #[.int .i64 k, .int .i64 pa, .int .i64 n, .slice ao3 out.length cap3] 79)).cell? ⟨w3.heap.size, 2, none⟩ = some (.int .i64 n) by rw [World.cell?_alloc_at _ _ _ _ rfl]; rfl); have t6 := cell_up' hb4 (show (w3.alloc (.cells #[.int .i64 k, .int .i64 pa, .int .i64 n, .slice ao3 out.length cap3] 79)).cell? ⟨w3.heap.size, 3, none⟩ = some (.slice ao3 out.length cap3) by rw [World.cell?_alloc_at _ _ _ _ rfl]; rfl); have z9 := World.block_lt_of_cell? _ _ t9; have p0 := hP.p0; have l0 := hP.l0; have zp := World.block_lt_of_cell? _ _ p0; have zl := World.block_lt_of_cell? _ _ l0; obtain ⟨rc, rf, rs⟩ := id hC) | (go_at_call 57; obtain ⟨m0, v0, hL⟩ := hP.lx; (with_reducible refine (token_q (TK_good _) hL.fresh).mono ?_); rw [T1.out, HPA.out]; rintro e w3 ⟨u3, rfl, j3, m3, v3, hL3⟩; have hR3 := hL3.row; obtain ⟨ao3, cap3, rfl, -, -, -⟩ := Rd.own hR3; have hP := hP.step hL3; have hC := hC.held hL3.held (by omega) (by omega); have hf3 := cell_up' (alb w3 (.cells #[.int .i64 k, .int .i64 pa, .int .i64 n, .slice ao3 out.length cap3] 79)) (hL3.held.cell' hf nf.1 nf.2); have ht3 := cell_up' (alb w3 (.cells #[.int .i64 k, .int .i64 pa, .int .i64 n, .slice ao3 out.length cap3] 79)) (hL3.held.cell' ht nt.1 nt.2); have p0 := hP.p0; have l0 := hP.l0; have zp := World.block_lt_of_cell? _ _ p0; have zl := World.block_lt_of_cell? _ _ l0; obtain ⟨rc, rf, rs⟩ := id hC) | (go_at_call 58; refine (stop_any hP.fresh pa _ rfl hpl 4).mono ?_; rw [HD.out]; rintro e w9 ⟨rfl, hPs⟩; have hP := hP.join hPs; have hC := hC.held hPs.held (by omega) (by omega); obtain ⟨rc, rf, rs⟩ := id hC))
        obtain ⟨k0, k1, k2, k3⟩ := (hC.set4 (a := .int .i64 0) (b := .int .i64 0) (c := .int .i64 0) (d := .slice none 0 0) rfl).s4
        have hh := set4_held w9 w9.heap.size w.heap.size (.int .i64 0) (.int .i64 0) (.int .i64 0) (.slice none 0 0)
        have hP5 := hP.off hh (Nat.le_refl _)
        exact bodyPost_ret (v := .tuple #[.agg #[.int .i64 0, .int .i64 0, .int .i64 0, .slice none 0 0], .int .i64 4]) (by simp [results, Tryz.results32, go_sem, k0, k1, k2, k3]) rfl ⟨rfl, _, hP5⟩
      | true =>
        rw [if_pos rfl]
        go_enter Tryz.func32, Tryz.ntmps32
        go_wp2_with (first | (go_at_call 16; refine (made_p hP.fresh).mono ?_; rintro e w1 ⟨rfl, rfl⟩) | (go_at_call 33; refine (clo_num bf bt lo hi k pa n ao3 _ cap3 out _ hf3 ht3).mono ?_; rw [HR.out]; rintro e w4 ⟨rfl, hb4⟩; have hP := (hP.below (alb _ _)).below hb4; have hC := (hC.up (alb _ _)).up hb4; have t9 := cell_up' hb4 (show (w3.alloc (.cells #[.int .i64 k, .int .i64 pa, .int .i64 n, .slice ao3 out.length cap3] 79)).cell? ⟨w3.heap.size, 1, none⟩ = some (.int .i64 pa) by rw [World.cell?_alloc_at _ _ _ _ rfl]; rfl); have t7 := cell_up' hb4 (show (w3.alloc (.cells #[.int .i64 k, .int .i64 pa, .int .i64 n, .slice ao3 out.length cap3] 79)).cell? ⟨w3.heap.size, 0, none⟩ = some (.int .i64 k) by rw [World.cell?_alloc_at _ _ _ _ rfl]; rfl); have t8 := cell_up' hb4 (show (w3.alloc (.cells #[.int .i64 k, .int .i64 pa, .int .i64 n, .slice ao3 out.length cap3] 79)).cell? ⟨w3.heap.size, 2, none⟩ = some (.int .i64 n) by rw [World.cell?_alloc_at _ _ _ _ rfl]; rfl); have t6 := cell_up' hb4 (show (w3.alloc (.cells #[.int .i64 k, .int .i64 pa, .int .i64 n, .slice ao3 out.length cap3] 79)).cell? ⟨w3.heap.size, 3, none⟩ = some (.slice ao3 out.length cap3) by rw [World.cell?_alloc_at _ _ _ _ rfl]; rfl); have z9 := World.block_lt_of_cell? _ _ t9; have p0 := hP.p0; have l0 := hP.l0; have zp := World.block_lt_of_cell? _ _ p0; have zl := World.block_lt_of_cell? _ _ l0; obtain ⟨rc, rf, rs⟩ := id hC) | (go_at_call 57; obtain ⟨m0, v0, hL⟩ := hP.lx; (with_reducible refine (token_q (TK_good _) hL.fresh).mono ?_); rw [T1.out, HPA.out]; rintro e w3 ⟨u3, rfl, j3, m3, v3, hL3⟩; have hR3 := hL3.row; obtain ⟨ao3, cap3, rfl, -, -, -⟩ := Rd.own hR3; have hP := hP.step hL3; have hC := hC.held hL3.held (by omega) (by omega); have hf3 := cell_up' (alb w3 (.cells #[.int .i64 k, .int .i64 pa, .int .i64 n, .slice ao3 out.length cap3] 79)) (hL3.held.cell' hf nf.1 nf.2); have ht3 := cell_up' (alb w3 (.cells #[.int .i64 k, .int .i64 pa, .int .i64 n, .slice ao3 out.length cap3] 79)) (hL3.held.cell' ht nt.1 nt.2); have p0 := hP.p0; have l0 := hP.l0; have zp := World.block_lt_of_cell? _ _ p0; have zl := World.block_lt_of_cell? _ _ l0; obtain ⟨rc, rf, rs⟩ := id hC))
        obtain ⟨k0, k1, k2, k3⟩ := (hC.set4 (a := .int .i64 k) (b := .int .i64 pa) (c := .int .i64 n) (d := .slice ao3 out.length cap3) rfl).s4
        have hh := set4_held w4 w4.heap.size w.heap.size (.int .i64 k) (.int .i64 pa) (.int .i64 n) (.slice ao3 out.length cap3)
        have hP5 := hP.off hh (Nat.le_refl _)
        exact bodyPost_ret (v := .tuple #[.agg #[.int .i64 k, .int .i64 pa, .int .i64 n, .slice ao3 out.length cap3], .int .i64 0]) (by simp [results, Tryz.results32, go_sem, k0, k1, k2, k3]) rfl ⟨_, _, _, _, _, rfl, _, hP5⟩

set_option maxHeartbeats 1600000 in
set_option maxRecDepth 100000 in
theorem want_word {q : Bool} {w : World} {pp lp cp : Nat} {b s : List UInt8} {i : Nat} (h : Ps q w w pp lp cp b i s) (p : List UInt8) (bs : Nat) (hs : w.cell? ⟨bs, 0, none⟩ = some (.string (st p))) (ns : bs ≠ lp ∧ bs ≠ cp) :
    Calls Tryz.prog 32 #[.pointer (some ⟨pp, 0, none⟩), .func (Fn.func 34) #[] #[.pointer (some ⟨bs, 0, none⟩)]] w fun e w' => WQ q w pp lp cp b (want (isS p) s) e w' := by
  have hP := h.below (alb w (.cells #[.int .i64 0, .int .i64 0, .int .i64 0, .slice none 0 0] 79))
  have hC := C5.new w _ rfl [.int .i64 0, .int .i64 0, .int .i64 0, .slice none 0 0] 79
  have hlo : lp < w.heap.size ∧ cp < w.heap.size := by
    obtain ⟨m, v, hL⟩ := h.lx
    obtain ⟨ao, cap, h1, h2⟩ := hL.lex
    exact ⟨h2.lp, h2.cp⟩
  have hs := cell_up' (alb w (.cells #[.int .i64 0, .int .i64 0, .int .i64 0, .slice none 0 0] 79)) hs
  have p0 := hP.p0
  have l0 := hP.l0
  have hat := hid h.at_
  have hbl := bl_le s false
  have hpl : i + bl s false ≤ b.length := by have := hat.out; omega
  have hdp : b.drop (i + bl s false) = s.drop (bl s false) := by rw [← h.drp, List.drop_drop]
  clear h
  generalize hpa : i + bl s false = pa at hpl hdp
  have HPA := hid hpa
  have HD := hid hdp
  clear hpa hdp hbl
  cases hT : TK s with
  | bad x =>
    have bx := TK_err hT
    have e1 : want (isS p) s = .bad x (s.drop (bl s false)) := by unfold want; rw [hT]
    rw [e1]
    have T1 := hid hT
    clear hT e1
    go_enter Tryz.func32, Tryz.ntmps32
    go_wp2_with (first | (go_at_call 16; refine (made_p hP.fresh).mono ?_; rintro e w1 ⟨rfl, rfl⟩) | (go_at_call 57; obtain ⟨m0, v0, hL⟩ := hP.lx; (with_reducible refine (token_q (TK_good _) hL.fresh).mono ?_); rw [T1.out, HPA.out]; rintro e w3 ⟨rfl, m3, v3, u3, o3, hL3⟩; have hP := hP.step hL3; have hC := hC.held hL3.held (by omega) (by omega); have p0 := hP.p0; have l0 := hP.l0; have zp := World.block_lt_of_cell? _ _ p0; have zl := World.block_lt_of_cell? _ _ l0; obtain ⟨rc, rf, rs⟩ := id hC))
    obtain ⟨k0, k1, k2, k3⟩ := (hC.set4 (a := .int .i64 0) (b := .int .i64 0) (c := .int .i64 0) (d := .slice none 0 0) rfl).s4
    have hh := set4_held w3 w3.heap.size w.heap.size (.int .i64 0) (.int .i64 0) (.int .i64 0) (.slice none 0 0)
    have hP5 := hP.off hh (Nat.le_refl _)
    have k0 := cell_up' (alb _ (.cells #[.int .i64 0, .int .i64 pa, .int .i64 0, .slice none 0 0] 79)) k0
    have k1 := cell_up' (alb _ (.cells #[.int .i64 0, .int .i64 pa, .int .i64 0, .slice none 0 0] 79)) k1
    have k2 := cell_up' (alb _ (.cells #[.int .i64 0, .int .i64 pa, .int .i64 0, .slice none 0 0] 79)) k2
    have k3 := cell_up' (alb _ (.cells #[.int .i64 0, .int .i64 pa, .int .i64 0, .slice none 0 0] 79)) k3
    have hP5 := hP5.below (alb _ (.cells #[.int .i64 0, .int .i64 pa, .int .i64 0, .slice none 0 0] 79))
    rw [HD.out] at hP5
    exact bodyPost_ret (v := .tuple #[.agg #[.int .i64 0, .int .i64 0, .int .i64 0, .slice none 0 0], .int .i64 x]) (by simp [results, Tryz.results32, go_sem, k0, k1, k2, k3]) rfl ⟨rfl, _, hP5⟩
  | tok k n out r =>
    by_cases h0 : k = 0
    · subst h0
      have e1 : want (isS p) s = .bad 2 (s.drop (bl s false)) := by unfold want; rw [hT]; simp
      rw [e1]
      have T1 := hid hT
      clear hT e1
      go_enter Tryz.func32, Tryz.ntmps32
      go_wp2_with (first | (go_at_call 16; refine (made_p hP.fresh).mono ?_; rintro e w1 ⟨rfl, rfl⟩) | (go_at_call 57; obtain ⟨m0, v0, hL⟩ := hP.lx; (with_reducible refine (token_q (TK_good _) hL.fresh).mono ?_); rw [T1.out, HPA.out]; rintro e w3 ⟨u3, rfl, j3, m3, v3, hL3⟩; have hR3 := hL3.row; obtain ⟨ao3, cap3, rfl, -, -, -⟩ := Rd.own hR3; have hP := hP.step hL3; have hC := hC.held hL3.held (by omega) (by omega); have p0 := hP.p0; have l0 := hP.l0; have zp := World.block_lt_of_cell? _ _ p0; have zl := World.block_lt_of_cell? _ _ l0; obtain ⟨rc, rf, rs⟩ := id hC) | (go_at_call 58; refine (stop_any (hP.below (alb _ _)).fresh pa _ rfl hpl 2).mono ?_; rw [HD.out]; rintro e w9 ⟨rfl, hPs⟩; have hP := (hP.below (alb _ _)).join hPs; have hC := (hC.up (alb _ _)).held hPs.held (by omega) (by omega); obtain ⟨rc, rf, rs⟩ := id hC))
      obtain ⟨k0, k1, k2, k3⟩ := (hC.set4 (a := .int .i64 0) (b := .int .i64 0) (c := .int .i64 0) (d := .slice none 0 0) rfl).s4
      have hh := set4_held w9 w9.heap.size w.heap.size (.int .i64 0) (.int .i64 0) (.int .i64 0) (.slice none 0 0)
      have hP5 := hP.off hh (Nat.le_refl _)
      exact bodyPost_ret (v := .tuple #[.agg #[.int .i64 0, .int .i64 0, .int .i64 0, .slice none 0 0], .int .i64 2]) (by simp [results, Tryz.results32, go_sem, k0, k1, k2, k3]) rfl ⟨rfl, _, hP5⟩
    · have b0 : (k == 0) = false := by simp [h0]
      have e1 : want (isS p) s = if isS p k n out = true then .ok n r else .bad 4 (s.drop (bl s false)) := by unfold want; rw [hT]; simp [h0]
      rw [e1]
      have T1 := hid hT
      clear hT e1 h0
      generalize hR : isS p k n out = R
      have HR := hid hR
      clear hR
      cases R with
      | false =>
        rw [if_neg (by decide)]
        go_enter Tryz.func32, Tryz.ntmps32
        go_wp2_with (first | (go_at_call 16; refine (made_p hP.fresh).mono ?_; rintro e w1 ⟨rfl, rfl⟩) | (go_at_call 34; refine (clo_word bs p k pa n _ out _ hS3 hs3).mono ?_; rw [HR.out]; rintro e w4 ⟨rfl, hb4⟩; have hP := (hP.below (alb _ _)).below hb4; have hC := (hC.up (alb _ _)).up hb4; have t9 := cell_up' hb4 (show (w3.alloc (.cells #[.int .i64 k, .int .i64 pa, .int .i64 n, .slice ao3 out.length cap3] 79)).cell? ⟨w3.heap.size, 1, none⟩ = some (.int .i64 pa) by rw [World.cell?_alloc_at _ _ _ _ rfl]; rfl); have t7 := cell_up' hb4 (show (w3.alloc (.cells #[.int .i64 k, .int .i64 pa, .int .i64 n, .slice ao3 out.length cap3] 79)).cell? ⟨w3.heap.size, 0, none⟩ = some (.int .i64 k) by rw [World.cell?_alloc_at _ _ _ _ rfl]; rfl); have t8 := cell_up' hb4 (show (w3.alloc (.cells #[.int .i64 k, .int .i64 pa, .int .i64 n, .slice ao3 out.length cap3] 79)).cell? ⟨w3.heap.size, 2, none⟩ = some (.int .i64 n) by rw [World.cell?_alloc_at _ _ _ _ rfl]; rfl); have t6 := cell_up' hb4 (show (w3.alloc (.cells #[.int .i64 k, .int .i64 pa, .int .i64 n, .slice ao3 out.length cap3] 79)).cell? ⟨w3.heap.size, 3, none⟩ = some (.slice ao3 out.length cap3) by rw [World.cell?_alloc_at _ _ _ _ rfl]; rfl); have z9 := World.block_lt_of_cell? _ _ t9; have p0 := hP.p0; have l0 := hP.l0; have zp := World.block_lt_of_cell? _ _ p0; have zl := World.block_lt_of_cell? _ _ l0; obtain ⟨rc, rf, rs⟩ := id hC) | (go_at_call 57; obtain ⟨m0, v0, hL⟩ := hP.lx; (with_reducible refine (token_q (TK_good _) hL.fresh).mono ?_); rw [T1.out, HPA.out]; rintro e w3 ⟨u3, rfl, j3, m3, v3, hL3⟩; have hR3 := hL3.row; obtain ⟨ao3, cap3, rfl, -, -, -⟩ := Rd.own hR3; have hP := hP.step hL3; have hC := hC.held hL3.held (by omega) (by omega); have hs3 := cell_up' (alb w3 (.cells #[.int .i64 k, .int .i64 pa, .int .i64 n, .slice ao3 out.length cap3] 79)) (hL3.held.cell' hs ns.1 ns.2); have hS3 := (Sl.own hR3).up (alb w3 (.cells #[.int .i64 k, .int .i64 pa, .int .i64 n, .slice ao3 out.length cap3] 79)); have p0 := hP.p0; have l0 := hP.l0; have zp := World.block_lt_of_cell? _ _ p0; have zl := World.block_lt_of_cell? _ _ l0; obtain ⟨rc, rf, rs⟩ := id hC) | (go_at_call 58; refine (stop_any hP.fresh pa _ rfl hpl 4).mono ?_; rw [HD.out]; rintro e w9 ⟨rfl, hPs⟩; have hP := hP.join hPs; have hC := hC.held hPs.held (by omega) (by omega); obtain ⟨rc, rf, rs⟩ := id hC))
        obtain ⟨k0, k1, k2, k3⟩ := (hC.set4 (a := .int .i64 0) (b := .int .i64 0) (c := .int .i64 0) (d := .slice none 0 0) rfl).s4
        have hh := set4_held w9 w9.heap.size w.heap.size (.int .i64 0) (.int .i64 0) (.int .i64 0) (.slice none 0 0)
        have hP5 := hP.off hh (Nat.le_refl _)
        exact bodyPost_ret (v := .tuple #[.agg #[.int .i64 0, .int .i64 0, .int .i64 0, .slice none 0 0], .int .i64 4]) (by simp [results, Tryz.results32, go_sem, k0, k1, k2, k3]) rfl ⟨rfl, _, hP5⟩
      | true =>
        rw [if_pos rfl]
        go_enter Tryz.func32, Tryz.ntmps32
        go_wp2_with (first | (go_at_call 16; refine (made_p hP.fresh).mono ?_; rintro e w1 ⟨rfl, rfl⟩) | (go_at_call 34; refine (clo_word bs p k pa n _ out _ hS3 hs3).mono ?_; rw [HR.out]; rintro e w4 ⟨rfl, hb4⟩; have hP := (hP.below (alb _ _)).below hb4; have hC := (hC.up (alb _ _)).up hb4; have t9 := cell_up' hb4 (show (w3.alloc (.cells #[.int .i64 k, .int .i64 pa, .int .i64 n, .slice ao3 out.length cap3] 79)).cell? ⟨w3.heap.size, 1, none⟩ = some (.int .i64 pa) by rw [World.cell?_alloc_at _ _ _ _ rfl]; rfl); have t7 := cell_up' hb4 (show (w3.alloc (.cells #[.int .i64 k, .int .i64 pa, .int .i64 n, .slice ao3 out.length cap3] 79)).cell? ⟨w3.heap.size, 0, none⟩ = some (.int .i64 k) by rw [World.cell?_alloc_at _ _ _ _ rfl]; rfl); have t8 := cell_up' hb4 (show (w3.alloc (.cells #[.int .i64 k, .int .i64 pa, .int .i64 n, .slice ao3 out.length cap3] 79)).cell? ⟨w3.heap.size, 2, none⟩ = some (.int .i64 n) by rw [World.cell?_alloc_at _ _ _ _ rfl]; rfl); have t6 := cell_up' hb4 (show (w3.alloc (.cells #[.int .i64 k, .int .i64 pa, .int .i64 n, .slice ao3 out.length cap3] 79)).cell? ⟨w3.heap.size, 3, none⟩ = some (.slice ao3 out.length cap3) by rw [World.cell?_alloc_at _ _ _ _ rfl]; rfl); have z9 := World.block_lt_of_cell? _ _ t9; have p0 := hP.p0; have l0 := hP.l0; have zp := World.block_lt_of_cell? _ _ p0; have zl := World.block_lt_of_cell? _ _ l0; obtain ⟨rc, rf, rs⟩ := id hC) | (go_at_call 57; obtain ⟨m0, v0, hL⟩ := hP.lx; (with_reducible refine (token_q (TK_good _) hL.fresh).mono ?_); rw [T1.out, HPA.out]; rintro e w3 ⟨u3, rfl, j3, m3, v3, hL3⟩; have hR3 := hL3.row; obtain ⟨ao3, cap3, rfl, -, -, -⟩ := Rd.own hR3; have hP := hP.step hL3; have hC := hC.held hL3.held (by omega) (by omega); have hs3 := cell_up' (alb w3 (.cells #[.int .i64 k, .int .i64 pa, .int .i64 n, .slice ao3 out.length cap3] 79)) (hL3.held.cell' hs ns.1 ns.2); have hS3 := (Sl.own hR3).up (alb w3 (.cells #[.int .i64 k, .int .i64 pa, .int .i64 n, .slice ao3 out.length cap3] 79)); have p0 := hP.p0; have l0 := hP.l0; have zp := World.block_lt_of_cell? _ _ p0; have zl := World.block_lt_of_cell? _ _ l0; obtain ⟨rc, rf, rs⟩ := id hC))
        obtain ⟨k0, k1, k2, k3⟩ := (hC.set4 (a := .int .i64 k) (b := .int .i64 pa) (c := .int .i64 n) (d := .slice ao3 out.length cap3) rfl).s4
        have hh := set4_held w4 w4.heap.size w.heap.size (.int .i64 k) (.int .i64 pa) (.int .i64 n) (.slice ao3 out.length cap3)
        have hP5 := hP.off hh (Nat.le_refl _)
        exact bodyPost_ret (v := .tuple #[.agg #[.int .i64 k, .int .i64 pa, .int .i64 n, .slice ao3 out.length cap3], .int .i64 0]) (by simp [results, Tryz.results32, go_sem, k0, k1, k2, k3]) rfl ⟨_, _, _, _, _, rfl, _, hP5⟩
end Go.Proofs.YtlmgklebikcbjaaGreat

/-
  The program's Whole and Word: a wanted number, a wanted word. Condition: the parser stands in its bytes.
-/
namespace Go.Proofs.YtlmgklebikcbjaaGreat
open Go.RowKit
set_option linter.unusedVariables false

/-- what Whole gives -/
def NQ (q : Bool) (w : World) (pp lp cp : Nat) (b : List UInt8) : WRes → Ending → World → Prop
  | .bad x t, e, w' => e = .returned (.tuple #[.int .i64 0, .int .i64 x]) ∧ ∃ j, Ps q w w' pp lp cp b j t
  | .ok n r, e, w' => e = .returned (.tuple #[.int .i64 n, .int .i64 0]) ∧ ∃ j, Ps q w w' pp lp cp b j r
/-- what Word gives -/
def SQ (q : Bool) (w : World) (pp lp cp : Nat) (b : List UInt8) : WRes → Ending → World → Prop
  | .bad x t, e, w' => e = .returned (.int .i64 x) ∧ ∃ j, Ps q w w' pp lp cp b j t
  | .ok n r, e, w' => e = .returned (.int .i64 0) ∧ ∃ j, Ps q w w' pp lp cp b j r
theorem Ps.lo {q : Bool} {w0 w : World} {pp lp cp : Nat} {b s : List UInt8} {i : Nat} (h : Ps q w0 w pp lp cp b i s) : lp < w0.heap.size ∧ cp < w0.heap.size := by
  obtain ⟨m, v, hL⟩ := h.lx
  obtain ⟨ao, cap, h1, h2⟩ := hL.lex
  exact ⟨h2.lp, h2.cp⟩

set_option maxHeartbeats 1600000 in
set_option maxRecDepth 100000 in
theorem whole_w {q : Bool} {w : World} {pp lp cp : Nat} {b s : List UInt8} {i : Nat} (h : Ps q w w pp lp cp b i s) (lo hi : Int) :
    Calls Tryz.prog 17 #[.pointer (some ⟨pp, 0, none⟩), .int .i64 lo, .int .i64 hi] w fun e w' => NQ q w pp lp cp b (wantN lo hi s) e w' := by
  have hlo := h.lo
  have hP := (h.below (alb w (.cells #[.int .i64 lo] 3))).below (alb _ (.cells #[.int .i64 hi] 3))
  have hf : ((w.alloc (.cells #[.int .i64 lo] 3)).alloc (.cells #[.int .i64 hi] 3)).cell? ⟨w.heap.size, 0, none⟩ = some (.int .i64 lo) := cell_up' (alb _ _) (by rw [World.cell?_alloc_at _ _ _ _ rfl]; rfl)
  have ht : ((w.alloc (.cells #[.int .i64 lo] 3)).alloc (.cells #[.int .i64 hi] 3)).cell? ⟨w.heap.size + 1, 0, none⟩ = some (.int .i64 hi) := by rw [World.cell?_alloc_at _ _ _ _ (by simp)]; rfl
  have nf : w.heap.size ≠ lp ∧ w.heap.size ≠ cp := by omega
  have nt : w.heap.size + 1 ≠ lp ∧ w.heap.size + 1 ≠ cp := by omega
  clear h
  generalize hR : wantN lo hi s = R
  have HR := hid (show want (isN lo hi) s = R from hR)
  clear hR
  rcases R with ⟨x, t⟩ | ⟨n, r⟩
  · go_enter Tryz.func17, Tryz.ntmps17
    go_wp2_with (go_at_call 32; refine (want_num hP.fresh lo hi w.heap.size (w.heap.size + 1) hf ht nf nt).mono ?_; rw [HR.out]; rintro e w5 ⟨rfl, j, hPs⟩; have hP := hP.join hPs)
    exact bodyPost_ret (v := .tuple #[.int .i64 0, .int .i64 x]) (by simp [results, Tryz.results17, go_sem]) rfl ⟨rfl, _, hP.below (alb _ _)⟩
  · go_enter Tryz.func17, Tryz.ntmps17
    go_wp2_with (go_at_call 32; refine (want_num hP.fresh lo hi w.heap.size (w.heap.size + 1) hf ht nf nt).mono ?_; rw [HR.out]; rintro e w5 ⟨k, a, ao, nl, cap, rfl, j, hPs⟩; have hP := hP.join hPs)
    exact bodyPost_ret (v := .tuple #[.int .i64 n, .int .i64 0]) (by simp [results, Tryz.results17, go_sem]) rfl ⟨rfl, _, hP.below (alb _ _)⟩

set_option maxHeartbeats 1600000 in
set_option maxRecDepth 100000 in
theorem word_w {q : Bool} {w : World} {pp lp cp : Nat} {b s : List UInt8} {i : Nat} (h : Ps q w w pp lp cp b i s) (p : List UInt8) :
    Calls Tryz.prog 18 #[.pointer (some ⟨pp, 0, none⟩), .string (st p)] w fun e w' => SQ q w pp lp cp b (wantS p s) e w' := by
  have hlo := h.lo
  have hP := h.below (alb w (.cells #[.string (st p)] 9))
  have hf : (w.alloc (.cells #[.string (st p)] 9)).cell? ⟨w.heap.size, 0, none⟩ = some (.string (st p)) := by rw [World.cell?_alloc_at _ _ _ _ rfl]; rfl
  have nf : w.heap.size ≠ lp ∧ w.heap.size ≠ cp := by omega
  clear h
  generalize hR : wantS p s = R
  have HR := hid (show want (isS p) s = R from hR)
  clear hR
  rcases R with ⟨x, t⟩ | ⟨n, r⟩
  · go_enter Tryz.func18, Tryz.ntmps18
    go_wp2_with (go_at_call 32; refine (want_word hP.fresh p w.heap.size hf nf).mono ?_; rw [HR.out]; rintro e w5 ⟨rfl, j, hPs⟩; have hP := hP.join hPs)
    go_ret
    exact ⟨rfl, _, hP.below (alb _ _)⟩
  · go_enter Tryz.func18, Tryz.ntmps18
    go_wp2_with (go_at_call 32; refine (want_word hP.fresh p w.heap.size hf nf).mono ?_; rw [HR.out]; rintro e w5 ⟨k, a, ao, nl, cap, rfl, j, hPs⟩; have hP := hP.join hPs)
    go_ret
    exact ⟨rfl, _, hP.below (alb _ _)⟩
end Go.Proofs.YtlmgklebikcbjaaGreat

/-
  The cursor's and the lexer's methods as the parser calls them: Match, Left, Take, Keyword. Condition: the parser stands in its bytes.
-/
namespace Go.Proofs.YtlmgklebikcbjaaGreat
open Go.RowKit
set_option linter.unusedVariables false

section
variable {q : Bool} {w0 w w' : World} {pp lp cp : Nat} {b s : List UInt8} {i : Nat}
theorem pmatch_yes (h : Ps q w0 w pp lp cp b i s) (p : List UInt8) (hp : p.length ≤ 1000000) (hy : pfx p s = true) :
    Calls Tryz.prog 37 #[.pointer (some ⟨cp, 0, none⟩), .string (st p)] w fun e w' => e = .returned (.bool true) ∧ ∃ j, Ps q w0 w' pp lp cp b j (s.drop p.length) := by
  obtain ⟨m, v, hL⟩ := h.lx
  refine (match_yes (st p) hp hy hL.fresh).mono ?_
  rintro e w' ⟨rfl, hL2⟩
  exact ⟨rfl, _, h.step hL2⟩
theorem pmatch_no (h : Ps q w0 w pp lp cp b i s) (p : List UInt8) (hp : p.length ≤ 1000000) (hy : pfx p s = false) :
    Calls Tryz.prog 37 #[.pointer (some ⟨cp, 0, none⟩), .string (st p)] w fun e w' => e = .returned (.bool false) ∧ Ps q w0 w' pp lp cp b i s := by
  obtain ⟨m, v, hL⟩ := h.lx
  refine (match_no (st p) hp hy hL.fresh).mono ?_
  rintro e w' ⟨rfl, hL2⟩
  exact ⟨rfl, h.step hL2⟩
theorem pleft (h : Ps q w0 w pp lp cp b i s) :
    Calls Tryz.prog 30 #[.pointer (some ⟨cp, 0, none⟩)] w fun e w' => e = .returned (.int .i64 s.length) ∧ w = w' := by
  obtain ⟨m, v, hL⟩ := h.lx
  exact left_l hL
theorem ptake (h : Ps q w0 w pp lp cp b i s) (n : Nat) (hn : n ≤ s.length) :
    Calls Tryz.prog 42 #[.pointer (some ⟨cp, 0, none⟩), .int .i64 n] w fun e w' => ∃ u', e = .returned (.tuple #[u', .bool true]) ∧ OwnB w' w.heap.size 5 u' (s.take n) ∧ ∃ j, Ps q w0 w' pp lp cp b j (s.drop n) := by
  obtain ⟨m, v, hL⟩ := h.lx
  refine (take_l n hn hL.fresh).mono ?_
  rintro e w' ⟨u', rfl, hL2⟩
  exact ⟨u', rfl, hL2.row, _, h.step hL2⟩
theorem pkey_yes (h : Ps q w0 w pp lp cp b i s) (p : List UInt8) (hp : p.length ≤ 1000000) (hy : KW p s = true) :
    Calls Tryz.prog 20 #[.pointer (some ⟨lp, 0, none⟩), .string (st p)] w fun e w' => e = .returned (.bool true) ∧ ∃ j, Ps q w0 w' pp lp cp b j ((s.drop (bl s false)).drop p.length) := by
  obtain ⟨m, v, hL⟩ := h.lx
  refine (keyword_yes (st p) hp hy hL.fresh).mono ?_
  rintro e w' ⟨rfl, hL2⟩
  exact ⟨rfl, _, h.step hL2⟩
theorem pkey_no (h : Ps q w0 w pp lp cp b i s) (p : List UInt8) (hp : p.length ≤ 1000000) (hy : KW p s = false) :
    Calls Tryz.prog 20 #[.pointer (some ⟨lp, 0, none⟩), .string (st p)] w fun e w' => e = .returned (.bool false) ∧ Ps q w0 w' pp lp cp b i s := by
  obtain ⟨m, v, hL⟩ := h.lx
  refine (keyword_no (st p) hp hy hL.fresh).mono ?_
  rintro e w' ⟨rfl, hL2⟩
  exact ⟨rfl, h.step hL2⟩
end
end Go.Proofs.YtlmgklebikcbjaaGreat

/-
  The program's stream: a stream's data, behind its word. Condition: the parser stands in its bytes; the dictionary's entries are no more than 800000.
-/
namespace Go.Proofs.YtlmgklebikcbjaaGreat
open Go.RowKit
set_option linter.unusedVariables false

theorem st_of {v : ByteArray} {p : List UInt8} (e : v.data.toList = p) : v = st p := by
  obtain ⟨⟨l⟩⟩ := v
  have e : l = p := e
  subst e; rfl
section
variable {q : Bool} {w0 w w' : World} {pp lp cp : Nat} {b s : List UInt8} {i : Nat}
theorem pmatch_yes' (h : Ps q w0 w pp lp cp b i s) (v : ByteArray) (p : List UInt8) (e : v.data.toList = p) (hp : p.length ≤ 1000000) (hy : pfx p s = true) :
    Calls Tryz.prog 37 #[.pointer (some ⟨cp, 0, none⟩), .string v] w fun e w' => e = .returned (.bool true) ∧ ∃ j, Ps q w0 w' pp lp cp b j (s.drop p.length) := by rw [st_of e]; exact pmatch_yes h p hp hy
theorem pmatch_no' (h : Ps q w0 w pp lp cp b i s) (v : ByteArray) (p : List UInt8) (e : v.data.toList = p) (hp : p.length ≤ 1000000) (hy : pfx p s = false) :
    Calls Tryz.prog 37 #[.pointer (some ⟨cp, 0, none⟩), .string v] w fun e w' => e = .returned (.bool false) ∧ Ps q w0 w' pp lp cp b i s := by rw [st_of e]; exact pmatch_no h p hp hy
theorem word_w' {q : Bool} {w : World} {pp lp cp : Nat} {b s : List UInt8} {i : Nat} (h : Ps q w w pp lp cp b i s) (v : ByteArray) (p : List UInt8) (e : v.data.toList = p) :
    Calls Tryz.prog 18 #[.pointer (some ⟨pp, 0, none⟩), .string v] w fun e w' => SQ q w pp lp cp b (wantS p s) e w' := by rw [st_of e]; exact word_w h p
end

/-- what stream gives -/
def StQ (q : Bool) (w : World) (pp lp cp : Nat) (b : List UInt8) : PRes → Ending → World → Prop
  | .bad x t, e, w' => ∃ vs : List Value, V5 vs ∧ e = .returned (.tuple #[.agg vs.toArray, .int .i64 x]) ∧ ∃ j, Ps q w w' pp lp cp b j t
  | .ok o r, e, w' => ∃ vs : List Value, e = .returned (.tuple #[.agg vs.toArray, .int .i64 0]) ∧ OV (fun g => w.heap.size ≤ g ∧ g < w'.heap.size) w' vs o ∧ ∃ j, Ps q w w' pp lp cp b j r
theorem V5.zero : V5 [.int .i64 0, .int .i64 0, .slice none 0 0, .slice none 0 0, .slice none 0 0] := ⟨0, 0, none, none, none, 0, 0, 0, 0, 0, 0, rfl⟩
theorem OV.numv {A : Nat → Prop} {w : World} {k n : Int} {a b c : Value} {o : PO} (h : OV A w [.int .i64 k, .int .i64 n, a, b, c] o) : o.num = n := by cases h; rfl
theorem OV.data {A : Nat → Prop} {w : World} {k n k2 : Int} {vb vb2 vl vd : Value} {b b2 : List UInt8} {l : List PO} {d : List (List UInt8 × PO)} (h : OV A w [.int .i64 k, .int .i64 n, vb, vl, vd] (.mk k n b l d)) (hb2 : SlA A w vb2 b2) (hz2 : b2.length ≤ 1000000) : OV A w [.int .i64 k2, .int .i64 n, vb2, vl, vd] (.mk k2 n b2 l d) := by
  obtain ⟨k9, n9, vb9, vx, vd9, b9, l9, d9, cl, cd, hb, hl, hl9, hd9, hk9, hd9', hz9⟩ := h
  exact .mk _ _ _ _ _ _ _ _ cl cd hb2 hl hl9 hd9 hk9 hd9' ⟨hz2, hz9.2.1, hz9.2.2⟩
theorem OV.num_eq {A : Nat → Prop} {w : World} {k n : Int} {a b c : Value} {k2 n2 : Int} {bb : List UInt8} {l : List PO} {d : List (List UInt8 × PO)} (h : OV A w [.int .i64 k, .int .i64 n, a, b, c] (.mk k2 n2 bb l d)) : k = k2 ∧ n = n2 := by cases h; exact ⟨rfl, rfl⟩
theorem OV.data2 {A : Nat → Prop} {w : World} {k n k2 : Int} {vb vb2 vl vd : Value} {k1 n1 : Int} {b b2 : List UInt8} {l : List PO} {d : List (List UInt8 × PO)} (h : OV A w [.int .i64 k, .int .i64 n, vb, vl, vd] (.mk k1 n1 b l d)) (hb2 : SlA A w vb2 b2) (hz2 : b2.length ≤ 1000000) : OV A w [.int .i64 k2, .int .i64 n, vb2, vl, vd] (.mk k2 n1 b2 l d) := by
  obtain ⟨rfl, rfl⟩ := h.num_eq
  exact h.data hb2 hz2

/-- what a wanted word gives, in one form -/
def WRes.code : WRes → Int
  | .bad x _ => x
  | .ok _ _ => 0
def WRes.rest : WRes → List UInt8
  | .bad _ t => t
  | .ok _ r => r
theorem SQ.both {q : Bool} {w w' : World} {pp lp cp : Nat} {b : List UInt8} {R : WRes} {e : Ending} (h : SQ q w pp lp cp b R e w') : ∃ (c : Int) (t : List UInt8), Hid (c = R.code) ∧ Hid (t = R.rest) ∧ e = .returned (.int .i64 c) ∧ ∃ j, Ps q w w' pp lp cp b j t := by
  cases R with
  | bad x t => exact ⟨x, t, hid rfl, hid rfl, h⟩
  | ok n r => exact ⟨0, r, hid rfl, hid rfl, h⟩
/-- behind the end of line -/
def strm1 (o : PO) (r1 : List UInt8) : PRes :=
  if ¬ ((getE bLength o.ents).kind = 2 ∧ 0 ≤ (getE bLength o.ents).num) then .bad 4 r1
  else if (r1.length : Int) < (getE bLength o.ents).num then .bad 2 r1
  else match wantS bEndstream (eolA (r1.drop (getE bLength o.ents).num.toNat)) with
    | .bad e t => .bad e t
    | .ok _ t => .ok (streamO (r1.take (getE bLength o.ents).num.toNat) o) t
theorem strm_some {o : PO} {s r1 : List UInt8} (h : eolS s = some r1) : strm o s = strm1 o r1 := by unfold strm; rw [h]; rfl
theorem strm_none {o : PO} {s : List UInt8} (h : eolS s = none) : strm o s = .bad (if s = [] then 2 else 4) s := by unfold strm; rw [h]

set_option maxHeartbeats 1600000 in
set_option maxRecDepth 100000 in
theorem stream_no {q : Bool} {w : World} {pp lp cp : Nat} {b s : List UInt8} {i : Nat} (h : Ps q w w pp lp cp b i s) {vs : List Value} (hv : V5 vs) (h1 : pfx [13, 10] s = false) (h2 : pfx [10] s = false) :
    Calls Tryz.prog 21 #[.pointer (some ⟨pp, 0, none⟩), .agg vs.toArray] w fun e w' => StQ q w pp lp cp b (.bad (if s = [] then 2 else 4) s) e w' := by
  have hlo := h.lo
  obtain ⟨v1, v2, v3, v4, v5, v6, v7, v8, v9, v10, v11, rfl⟩ := hv
  have hP := (h.below (alb w (.cells #[.int .i64 v1, .int .i64 v2, .slice v3 v6 v7, .slice v4 v8 v9, .slice v5 v10 v11] 31))).below (alb _ (.cells #[.int .i64 0, .int .i64 0, .slice none 0 0, .slice none 0 0, .slice none 0 0] 31))
  have hC := (C5.new w _ rfl [.int .i64 v1, .int .i64 v2, .slice v3 v6 v7, .slice v4 v8 v9, .slice v5 v10 v11] 31).up (alb _ (.cells #[.int .i64 0, .int .i64 0, .slice none 0 0, .slice none 0 0, .slice none 0 0] 31))
  have hZ := C5.new (w.alloc (.cells #[.int .i64 v1, .int .i64 v2, .slice v3 v6 v7, .slice v4 v8 v9, .slice v5 v10 v11] 31)) (w.heap.size + 1) (by simp) [.int .i64 0, .int .i64 0, .slice none 0 0, .slice none 0 0, .slice none 0 0] 31
  have p0 := hP.p0
  have l1 := hP.l0
  have H1 := hid h1
  have H2 := hid h2
  clear h h1 h2
  by_cases hs : s = []
  · rw [if_pos hs]
    have bz : ((s.length : Int) == 0) = true := by rw [hs]; rfl
    clear hs
    go_enter Tryz.func21, Tryz.ntmps21
    go_wp2_with (first | (go_at_call 37; (with_reducible refine (pmatch_no' hP.fresh _ [10] (by decide) (by decide) H2.out).mono ?_); rintro e w3 ⟨rfl, hPs⟩; have hP := hP.join hPs; have hC := hC.held hPs.held (by omega) (by omega); have hZ := hZ.held hPs.held (by omega) (by omega); have p0 := hP.p0; have l1 := hP.l0; have zp := World.block_lt_of_cell? _ _ p0; have zl := World.block_lt_of_cell? _ _ l1; obtain ⟨rc, rf, rs⟩ := id hZ) | (go_at_call 37; (with_reducible refine (pmatch_no' hP.fresh _ [13, 10] (by decide) (by decide) H1.out).mono ?_); rintro e w3 ⟨rfl, hPs⟩; have hP := hP.join hPs; have hC := hC.held hPs.held (by omega) (by omega); have hZ := hZ.held hPs.held (by omega) (by omega); have p0 := hP.p0; have l1 := hP.l0; have zp := World.block_lt_of_cell? _ _ p0; have zl := World.block_lt_of_cell? _ _ l1; obtain ⟨rc, rf, rs⟩ := id hZ) | (go_at_call 30; refine (pleft hP).mono ?_; rintro e w5 ⟨rfl, rfl⟩))
    obtain ⟨k0, k1, k2, k3, k4⟩ := set5_cells (a := .int .i64 0) (b := .int .i64 0) (c := .slice none 0 0) (d := .slice none 0 0) (e := .slice none 0 0) (hZ.five rfl)
    have hh := fun B => set5_held w3 B (w.heap.size + 1) (.int .i64 0) (.int .i64 0) (.slice none 0 0) (.slice none 0 0) (.slice none 0 0)
    have hP5 := hP.off (hh w3.heap.size) (by omega)
    exact bodyPost_ret (v := .tuple #[.agg #[.int .i64 0, .int .i64 0, .slice none 0 0, .slice none 0 0, .slice none 0 0], .int .i64 2]) (by simp [results, Tryz.results21, go_sem, k0, k1, k2, k3, k4]) rfl ⟨[.int .i64 0, .int .i64 0, .slice none 0 0, .slice none 0 0, .slice none 0 0], V5.zero, rfl, _, hP5⟩
  · rw [if_neg hs]
    have bz : ((s.length : Int) == 0) = false := by
      cases s with
      | nil => exact absurd rfl hs
      | cons x t => simp; omega
    clear hs
    go_enter Tryz.func21, Tryz.ntmps21
    go_wp2_with (first | (go_at_call 37; (with_reducible refine (pmatch_no' hP.fresh _ [10] (by decide) (by decide) H2.out).mono ?_); rintro e w3 ⟨rfl, hPs⟩; have hP := hP.join hPs; have hC := hC.held hPs.held (by omega) (by omega); have hZ := hZ.held hPs.held (by omega) (by omega); have p0 := hP.p0; have l1 := hP.l0; have zp := World.block_lt_of_cell? _ _ p0; have zl := World.block_lt_of_cell? _ _ l1; obtain ⟨rc, rf, rs⟩ := id hZ) | (go_at_call 37; (with_reducible refine (pmatch_no' hP.fresh _ [13, 10] (by decide) (by decide) H1.out).mono ?_); rintro e w3 ⟨rfl, hPs⟩; have hP := hP.join hPs; have hC := hC.held hPs.held (by omega) (by omega); have hZ := hZ.held hPs.held (by omega) (by omega); have p0 := hP.p0; have l1 := hP.l0; have zp := World.block_lt_of_cell? _ _ p0; have zl := World.block_lt_of_cell? _ _ l1; obtain ⟨rc, rf, rs⟩ := id hZ) | (go_at_call 30; refine (pleft hP).mono ?_; rintro e w5 ⟨rfl, rfl⟩))
    obtain ⟨k0, k1, k2, k3, k4⟩ := set5_cells (a := .int .i64 0) (b := .int .i64 0) (c := .slice none 0 0) (d := .slice none 0 0) (e := .slice none 0 0) (hZ.five rfl)
    have hh := fun B => set5_held w3 B (w.heap.size + 1) (.int .i64 0) (.int .i64 0) (.slice none 0 0) (.slice none 0 0) (.slice none 0 0)
    have hP5 := hP.off (hh w3.heap.size) (by omega)
    exact bodyPost_ret (v := .tuple #[.agg #[.int .i64 0, .int .i64 0, .slice none 0 0, .slice none 0 0, .slice none 0 0], .int .i64 4]) (by simp [results, Tryz.results21, go_sem, k0, k1, k2, k3, k4]) rfl ⟨[.int .i64 0, .int .i64 0, .slice none 0 0, .slice none 0 0, .slice none 0 0], V5.zero, rfl, _, hP5⟩

end Go.Proofs.YtlmgklebikcbjaaGreat

/-
  The program's stream, behind an end of line. Condition: the parser stands in its bytes; the dictionary's entries are no more than 800000.
-/
namespace Go.Proofs.YtlmgklebikcbjaaGreat
open Go.RowKit
set_option linter.unusedVariables false

theorem eolA_cases (r : List UInt8) : (pfx [13, 10] r = true ∧ eolA r = r.drop 2) ∨ (pfx [13, 10] r = false ∧ pfx [10] r = true ∧ eolA r = r.drop 1) ∨ (pfx [13, 10] r = false ∧ pfx [10] r = false ∧ pfx [13] r = true ∧ eolA r = r.drop 1) ∨ (pfx [13, 10] r = false ∧ pfx [10] r = false ∧ pfx [13] r = false ∧ eolA r = r) := by
  unfold eolA
  cases h1 : pfx [13, 10] r with
  | true => left; exact ⟨rfl, by simp⟩
  | false =>
    cases h2 : pfx [10] r with
    | true => right; left; exact ⟨rfl, rfl, by simp⟩
    | false =>
      cases h3 : pfx [13] r with
      | true => right; right; left; exact ⟨rfl, rfl, rfl, by simp⟩
      | false => right; right; right; exact ⟨rfl, rfl, rfl, by simp⟩

set_option maxHeartbeats 6400000 in
set_option maxRecDepth 100000 in
theorem stream_yes {q : Bool} {A : Nat → Prop} {w : World} {pp lp cp : Nat} {b s r1 : List UInt8} {i : Nat} {n0 : Int} {b0 : List UInt8} {l0 : List PO} {d : List (List UInt8 × PO)} {vs : List Value} (h : Ps q w w pp lp cp b i s) (hov : OV A w vs (.mk 7 n0 b0 l0 d)) (hA : ∀ g, A g → g ≠ lp ∧ g ≠ cp) (hd : d.length ≤ 800000) (he : eolS s = some r1) :
    Calls Tryz.prog 21 #[.pointer (some ⟨pp, 0, none⟩), .agg vs.toArray] w fun e w' => StQ q w pp lp cp b (strm1 (.mk 7 n0 b0 l0 d) r1) e w' := by
  have hlo := h.lo
  have hsm := h.sm
  have hat := h.at_
  obtain ⟨o1, o3, o4, o6, o7, o9, rfl⟩ := hov.shape
  have hP := (h.below (alb w (.cells #[.int .i64 7, .int .i64 n0, .slice o1 b0.length o3, .slice o4 l0.length o6, .slice o7 d.length o9] 31))).below (alb _ (.cells #[.int .i64 0, .int .i64 0, .slice none 0 0, .slice none 0 0, .slice none 0 0] 31))
  have hC := (C5.new w _ rfl [.int .i64 7, .int .i64 n0, .slice o1 b0.length o3, .slice o4 l0.length o6, .slice o7 d.length o9] 31).up (alb _ (.cells #[.int .i64 0, .int .i64 0, .slice none 0 0, .slice none 0 0, .slice none 0 0] 31))
  have hZ := C5.new (w.alloc (.cells #[.int .i64 7, .int .i64 n0, .slice o1 b0.length o3, .slice o4 l0.length o6, .slice o7 d.length o9] 31)) (w.heap.size + 1) (by simp) [.int .i64 0, .int .i64 0, .slice none 0 0, .slice none 0 0, .slice none 0 0] 31
  have hr1 : r1.length ≤ 1000000 := by
    have : r1.length ≤ s.length := by
      unfold eolS at he
      split at he
      · injection he with he; subst he; rw [List.length_drop]; omega
      · split at he
        · injection he with he; subst he; rw [List.length_drop]; omega
        · cases he
    omega
  have p0 := hP.p0
  have l1 := hP.l0
  have HOV := hid hov
  have HE := hid he
  clear h hov he hat hsm
  go_enter Tryz.func21, Tryz.ntmps21
  go_upto_region 2 with fail
  go_cut [11] (fun s11 wx => s11 = .bool true ∧ ∃ j, Ps q w wx pp lp cp b j r1 ∧ C5 wx w.heap.size [.int .i64 7, .int .i64 n0, .slice o1 b0.length o3, .slice o4 l0.length o6, .slice o7 d.length o9] ∧ C5 wx (w.heap.size + 1) [.int .i64 0, .int .i64 0, .slice none 0 0, .slice none 0 0, .slice none 0 0])
  case first =>
    have he := HE.out
    unfold eolS at he
    by_cases h1 : pfx [13, 10] s = true
    · rw [if_pos h1] at he
      injection he with he
      subst he
      have H1 := hid h1
      clear h1
      go_wp2_with (first | (go_at_call 37; (with_reducible refine (pmatch_yes' hP.fresh _ [13, 10] (by decide) (by decide) H1.out).mono ?_); rintro e w3 ⟨rfl, j3, hPs⟩; have hP := hP.join hPs; have hC := hC.held hPs.held (by omega) (by omega); have hZ := hZ.held hPs.held (by omega) (by omega); have p0 := hP.p0; have l1 := hP.l0; have zp := World.block_lt_of_cell? _ _ p0; have zl := World.block_lt_of_cell? _ _ l1; obtain ⟨rc, rf, rs⟩ := id hZ))
      go_meet
      exact ⟨rfl, _, hP, hC, hZ⟩
    · rw [if_neg h1] at he
      by_cases h2 : pfx [10] s = true
      · rw [if_pos h2] at he
        injection he with he
        subst he
        have H1 := hid (show pfx [13, 10] s = false by simpa using h1)
        have H2 := hid h2
        clear h1 h2
        go_wp2_with (first | (go_at_call 37; (with_reducible refine (pmatch_yes' hP.fresh _ [10] (by decide) (by decide) H2.out).mono ?_); rintro e w3 ⟨rfl, j3, hPs⟩; have hP := hP.join hPs; have hC := hC.held hPs.held (by omega) (by omega); have hZ := hZ.held hPs.held (by omega) (by omega); have p0 := hP.p0; have l1 := hP.l0; have zp := World.block_lt_of_cell? _ _ p0; have zl := World.block_lt_of_cell? _ _ l1; obtain ⟨rc, rf, rs⟩ := id hZ) | (go_at_call 37; (with_reducible refine (pmatch_no' hP.fresh _ [13, 10] (by decide) (by decide) H1.out).mono ?_); rintro e w3 ⟨rfl, hPs⟩; have hP := hP.join hPs; have hC := hC.held hPs.held (by omega) (by omega); have hZ := hZ.held hPs.held (by omega) (by omega); have p0 := hP.p0; have l1 := hP.l0; have zp := World.block_lt_of_cell? _ _ p0; have zl := World.block_lt_of_cell? _ _ l1; obtain ⟨rc, rf, rs⟩ := id hZ))
        go_meet
        exact ⟨rfl, _, hP, hC, hZ⟩
      · rw [if_neg h2] at he; cases he
  case rest =>
    obtain ⟨rfl, j1, hP, hC, hZ⟩ := hcut
    obtain ⟨w2, rfl⟩ : ∃ x : World, x = wc := ⟨_, rfl⟩
    have hHw := hP.held
    have hov1 := HOV.out.keep (B := A) (w' := w2) (fun _ h => h) (fun g hg hlt => hHw.block g hlt (hA g hg).1 (hA g hg).2)
    have hG := hid (get_any bLength hov1 (by omega))
    have hz2 := hZ.2.2
    clear hov1 p0 l1
    obtain ⟨oc, of_, os⟩ := id hC
    go_upto_region 6 with (go_at_call 41; refine hG.out.mono ?_; rintro e w3 ⟨vs3, rfl, hg3, hb3⟩; have hP := hP.below hb3; have hC := hC.up hb3; have hZ := hZ.up hb3; have hs3 := hb3.size; have hV3 := hg3.v5; have hg3 := hid hg3; obtain ⟨y1, y2, y3, y4, y5, y6, y7, y8, y9, y10, y11, rfl⟩ := hV3)
    clear oc of_ os
    have hY := C5.new w3 _ rfl [.int .i64 y1, .int .i64 y2, .slice y3 y6 y7, .slice y4 y8 y9, .slice y5 y10 y11] 31
    have hP := hP.below (alb w3 (.cells #[.int .i64 y1, .int .i64 y2, .slice y3 y6 y7, .slice y4 y8 y9, .slice y5 y10 y11] 31))
    have hC := hC.up (alb w3 (.cells #[.int .i64 y1, .int .i64 y2, .slice y3 y6 y7, .slice y4 y8 y9, .slice y5 y10 y11] 31))
    have hZ := hZ.up (alb w3 (.cells #[.int .i64 y1, .int .i64 y2, .slice y3 y6 y7, .slice y4 y8 y9, .slice y5 y10 y11] 31))
    have hkd : (getE bLength d).kind = y1 := OV.kind hg3.out
    have hnm : (getE bLength d).num = y2 := OV.numv hg3.out
    have hS1 : strm1 (.mk 7 n0 b0 l0 d) r1 = if ¬ (y1 = 2 ∧ 0 ≤ y2) then .bad 4 r1 else if (r1.length : Int) < y2 then .bad 2 r1 else match wantS bEndstream (eolA (r1.drop y2.toNat)) with | .bad e t => .bad e t | .ok _ t => .ok (streamO (r1.take y2.toNat) (.mk 7 n0 b0 l0 d)) t := by
      unfold strm1
      rw [show PO.ents (.mk 7 n0 b0 l0 d) = d from rfl, hkd, hnm] <;> rfl
    have hb4 := alb w3 (.cells #[.int .i64 y1, .int .i64 y2, .slice y3 y6 y7, .slice y4 y8 y9, .slice y5 y10 y11] 31)
    have hs4 := hb4.size
    clear hkd hnm hG hg3
    generalize w3.alloc (.cells #[.int .i64 y1, .int .i64 y2, .slice y3 y6 y7, .slice y4 y8 y9, .slice y5 y10 y11] 31) = w4 at *
    generalize w3.heap.size = g4 at *
    obtain ⟨yc, yf, ys⟩ := id hY
    obtain ⟨rc, rf, rs⟩ := id hZ
    by_cases hk : y1 = 2 ∧ 0 ≤ y2
    · obtain ⟨rfl, hn0⟩ := hk
      obtain ⟨m, rfl⟩ : ∃ m : Nat, y2 = m := ⟨y2.toNat, by omega⟩
      have b2 : ¬ ((m : Int) < 0) := by omega
      have b2' : decide ((m : Int) < 0) = false := decide_eq_false b2
      rw [if_neg (by simp), Int.toNat_natCast] at hS1
      have HS1 := hid hS1
      clear hS1
      have p0 := hP.p0
      have l1 := hP.l0
      obtain ⟨bq, hbq⟩ : ∃ bq, bq = decide ((r1.length : Int) < (m : Int)) := ⟨_, rfl⟩
      have HBQ := hid hbq
      clear hbq
      go_upto_region 8 with fail
      go_cut [62] (fun s62 wx => s62 = .bool bq ∧ Below w4.heap.size w4 wx)
      case first =>
        go_quiet ((first | (go_at_call 30; exact Calls.quiet_of_same ((pleft (hP.below (below_drewN (Below.refl _ _) _))).mono fun e w' ⟨h1, h2⟩ => ⟨h1, h2.symm⟩))))
        go_wp2_with fail
        go_meet
        exact ⟨by rw [HBQ.out]; simp, below_drewN (Below.refl _ _) _⟩
      case rest =>
        obtain ⟨rfl, hb5⟩ := hcut
        obtain ⟨w5, rfl⟩ : ∃ x : World, x = wc := ⟨_, rfl⟩
        have hP := hP.below hb5
        have hC := hC.up hb5
        have hZ := hZ.up hb5
        have hY := hY.up hb5
        have hs5 := hb5.size
        clear yc yf ys rc rf rs p0 l1
        obtain ⟨yc, yf, ys⟩ := id hY
        obtain ⟨rc, rf, rs⟩ := id hZ
        have p0 := hP.p0
        have l1 := hP.l0
        cases bq with
        | true =>
          have hlt : (r1.length : Int) < (m : Int) := of_decide_eq_true HBQ.out.symm
          have hS2 := HS1.out
          rw [if_pos hlt] at hS2
          have HS2 := hid hS2
          clear hS2 hlt
          go_wp2
          obtain ⟨k0, k1, k2, k3, k4⟩ := set5_cells (a := .int .i64 0) (b := .int .i64 0) (c := .slice none 0 0) (d := .slice none 0 0) (e := .slice none 0 0) (hZ.five rfl)
          have hh := fun B => set5_held w5 B (w.heap.size + 1) (.int .i64 0) (.int .i64 0) (.slice none 0 0) (.slice none 0 0) (.slice none 0 0)
          have hP5 := hP.off (hh w5.heap.size) (by omega)
          refine bodyPost_ret (v := .tuple #[.agg #[.int .i64 0, .int .i64 0, .slice none 0 0, .slice none 0 0, .slice none 0 0], .int .i64 2]) (by simp [results, Tryz.results21, go_sem, k0, k1, k2, k3, k4]) rfl ?_
          show StQ q w pp lp cp b _ _ _
          rw [HS2.out]
          exact ⟨[.int .i64 0, .int .i64 0, .slice none 0 0, .slice none 0 0, .slice none 0 0], V5.zero, rfl, _, hP5⟩
        | false =>
          have hlt : ¬ (r1.length : Int) < (m : Int) := of_decide_eq_false HBQ.out.symm
          have hS2 := HS1.out
          rw [if_neg hlt] at hS2
          have HS2 := hid hS2
          have hml : m ≤ r1.length := by omega
          clear hS2 hlt HS1 HBQ
          go_upto_region 10 with fail
          go_cut [7] (fun s7 wx => ∃ ao cap j, s7 = .slice ao m cap ∧ OwnB wx w5.heap.size 5 (.slice ao m cap) (r1.take m) ∧ Ps q w wx pp lp cp b j (r1.drop m) ∧ C5 wx w.heap.size [.int .i64 7, .int .i64 n0, .slice o1 b0.length o3, .slice o4 l0.length o6, .slice o7 d.length o9] ∧ C5 wx (w.heap.size + 1) [.int .i64 0, .int .i64 0, .slice none 0 0, .slice none 0 0, .slice none 0 0] ∧ w5.heap.size ≤ wx.heap.size)
          case first =>
            have hml2 : (r1.take m).length = m := by rw [List.length_take]; omega
            go_region_held3 (fun w' => w'.cell? ⟨pp, 0, none⟩ = some (.pointer (some ⟨lp, 0, none⟩)) ∧ w'.cell? ⟨lp, 0, none⟩ = some (.pointer (some ⟨cp, 0, none⟩)) ∧ w'.cell? ⟨g4, 1, none⟩ = some (.int .i64 m)) (first | go_keep | exact ⟨hP.p0, hP.l0, hY.1 1⟩ | skip) (first | (go_at_call 42; refine (ptake (hP.below (below_drewN (Below.refl _ _) _)).fresh m hml).mono ?_; rintro e w6 ⟨u6, rfl, hr6, j6, hPs⟩; have hP := (hP.below (below_drewN (Below.refl _ _) _)).join hPs; have hC := (hC.up (below_drewN (Below.refl _ _) _)).held hPs.held (by omega) (by omega); have hZ := (hZ.up (below_drewN (Below.refl _ _) _)).held hPs.held (by omega) (by omega); have hY := (hY.up (below_drewN (Below.refl _ _) _)).held hPs.held (by omega) (by omega); have hs6 := hPs.held.size; obtain ⟨ao6, cap6, rfl, -, -, -⟩ := Rd.own hr6; rw [hml2]; rw [hml2] at hr6))
            all_goals
              go_wp2_with fail
              go_meet
              refine ⟨_, _, _, rfl, ?_, hP, hC, hZ, by simpa using hs6⟩
              simpa using hr6
          case rest =>
            obtain ⟨ao6, cap6, j6, rfl, hr6, hP, hC, hZ, hs6⟩ := hcut
            obtain ⟨w6, rfl⟩ : ∃ x : World, x = wc := ⟨_, rfl⟩
            clear yc yf ys rc rf rs p0 l1 hY
            obtain ⟨oc, of_, os⟩ := id hC
            obtain ⟨rc, rf, rs⟩ := id hZ
            have p0 := hP.p0
            have l1 := hP.l0
            have hml2 : (r1.take m).length ≤ 1000000 := by rw [List.length_take]; omega
            have hDT : SlA (fun g => w5.heap.size ≤ g ∧ g < w6.heap.size) w6 (.slice ao6 m cap6) (r1.take m) := ⟨Sl.own hr6, fun g hg => World.ownsRow.lt hr6 g hg⟩
            clear hr6
            have hsw : w.heap.size + 2 ≤ w5.heap.size := by omega
            have hHO := fun W7 (hp : Held w.heap.size lp cp w W7) => HOV.out.keep (B := A) (w' := W7) (fun _ h => h) (fun g hg hlt => hp.block g hlt (hA g hg).1 (hA g hg).2)
            have HHO := hid hHO
            clear hHO
            generalize hRR : r1.drop m = rr at hP
            have HRR := hid hRR
            clear hRR
            rcases eolA_cases rr with ⟨h1, hE⟩ | ⟨h1, h2, hE⟩ | ⟨h1, h2, h3, hE⟩ | ⟨h1, h2, h3, hE⟩
            · have H1 := hid h1
              clear h1
              have HEA := hid hE
              clear hE
              have hs36 := Nat.le_refl w6.heap.size
              go_upto_region 13 with (first | (go_at_call 37; (with_reducible refine (pmatch_yes' hP.fresh _ [13, 10] (by decide) (by decide) H1.out).mono ?_); rintro e w3 ⟨rfl, j3, hPs⟩; have hP := hP.join hPs; have hC := hC.held hPs.held (by omega) (by omega); have hZ := hZ.held hPs.held (by omega) (by omega); have p0 := hP.p0; have l1 := hP.l0; have zp := World.block_lt_of_cell? _ _ p0; have zl := World.block_lt_of_cell? _ _ l1; obtain ⟨rc, rf, rs⟩ := id hZ; have hDT := hDT.keep (fun _ h => h) (fun g hg hlt => hPs.held.block g hlt (by have := hg.1; omega) (by have := hg.1; omega)); have hs36 := Nat.le_trans hs36 hPs.held.size))
              have hP : Ps q w w3 pp lp cp b j3 (eolA rr) := by rw [HEA.out]; exact hP
              clear p0 l1 oc of_ os rc rf rs
              obtain ⟨oc, of_, os⟩ := id hC
              obtain ⟨rc, rf, rs⟩ := id hZ
              have hDR := hid (drop_any bLength (SlX.lit1 w3 w3.heap.size rfl [.string (st bLength)] 9 1 rfl) (HHO.out (w3.alloc (.cells #[.string (st bLength)] 9)) (hP.below (alb w3 (.cells #[.string (st bLength)] 9))).held) hd)
              go_upto_region 15 with (go_at_call 43; refine hDR.out.mono ?_; rintro e w8 ⟨vs8, rfl, hd8, hb8⟩; have hP := (hP.below (alb w3 (.cells #[.string (st bLength)] 9))).below hb8; have hC := (hC.up (alb w3 (.cells #[.string (st bLength)] 9))).up hb8; have hZ := (hZ.up (alb w3 (.cells #[.string (st bLength)] 9))).up hb8; have hs8 := hb8.size; have hV8 := hd8.v5; have hd8 := hid hd8; obtain ⟨z1, z2, z3, z4, z5, z6, z7, z8, z9, z10, z11, rfl⟩ := hV8)
              have hQ := C5.new w8 _ rfl [.int .i64 8, .int .i64 z2, .slice ao6 m cap6, .slice z4 z8 z9, .slice z5 z10 z11] 31
              have hP := hP.below (alb w8 (.cells #[.int .i64 8, .int .i64 z2, .slice ao6 m cap6, .slice z4 z8 z9, .slice z5 z10 z11] 31))
              have hZ := hZ.up (alb w8 (.cells #[.int .i64 8, .int .i64 z2, .slice ao6 m cap6, .slice z4 z8 z9, .slice z5 z10 z11] 31))
              have hzz : w3.heap.size + 1 ≤ w8.heap.size := by simpa using hs8
              have hOV8 := (OV.data2 (k2 := 8) (vb2 := .slice ao6 m cap6) (b2 := r1.take m) (hd8.out.keep (B := fun g => w.heap.size + 2 ≤ g ∧ g < (w8.alloc (.cells #[.int .i64 8, .int .i64 z2, .slice ao6 m cap6, .slice z4 z8 z9, .slice z5 z10 z11] 31)).heap.size) (w' := w8.alloc (.cells #[.int .i64 8, .int .i64 z2, .slice ao6 m cap6, .slice z4 z8 z9, .slice z5 z10 z11] 31)) (fun g hg => ⟨by have := hg.1; simp at this; omega, Nat.lt_of_lt_of_le hg.2 (alb w8 (.cells #[.int .i64 8, .int .i64 z2, .slice ao6 m cap6, .slice z4 z8 z9, .slice z5 z10 z11] 31)).size⟩) (fun g hg hlt => (alb w8 (.cells #[.int .i64 8, .int .i64 z2, .slice ao6 m cap6, .slice z4 z8 z9, .slice z5 z10 z11] 31)).block g hlt)) (hDT.keep (fun g hg => ⟨by have := hg.1; omega, by have := hg.2; simp; omega⟩) (fun g hg hlt => ((alb w8 (.cells #[.int .i64 8, .int .i64 z2, .slice ao6 m cap6, .slice z4 z8 z9, .slice z5 z10 z11] 31)).block g (by omega)).trans ((hb8.block g (by simp; omega)).trans ((alb w3 (.cells #[.string (st bLength)] 9)).block g hlt)))) hml2)
              have HOV8 := hid hOV8
              clear hOV8 hd8 oc of_ os rc rf rs hDT hDR
              generalize w8.alloc (.cells #[.int .i64 8, .int .i64 z2, .slice ao6 m cap6, .slice z4 z8 z9, .slice z5 z10 z11] 31) = w9 at *
              generalize w8.heap.size = g9 at *
              have hlt9 := hQ.2.2
              obtain ⟨q0, q1, q2, q3, q4⟩ := hQ.s5
              have hbd : Below w9.heap.size w9 w9.drew := below_drewN (Below.refl _ _) 1
              have hPd := hP.below hbd
              have HNE := hid (show (w.heap.size + 1 ≠ lp ∧ w.heap.size + 1 ≠ cp) ∧ (g9 ≠ lp ∧ g9 ≠ cp) from by omega)
              have HN2 := hid (show g9 ≠ w.heap.size + 1 from by omega)
              have HOVK := hid (show ∀ w10 : World, Held w9.drew.heap.size lp cp w9.drew w10 → OV (fun g => w.heap.size + 2 ≤ g ∧ g < w10.heap.size) w10 [.int .i64 8, .int .i64 z2, .slice ao6 m cap6, .slice z4 z8 z9, .slice z5 z10 z11] (.mk 8 n0 (r1.take m) l0 (wi (bLength, poNull) d)) from fun w10 hh => HOV8.out.keep (fun g hg => ⟨hg.1, Nat.lt_of_lt_of_le hg.2 (Nat.le_trans hbd.size hh.size)⟩) (fun g hg hlt => (hh.block g (Nat.lt_of_lt_of_le hlt hbd.size) (by have := hg.1; omega) (by have := hg.1; omega)).trans (hbd.block g hlt)))
              obtain ⟨rc, rf, rs⟩ := id hZ
              go_region_held3 (fun w' => w'.cell? ⟨g9, 0, none⟩ = some (.int .i64 8) ∧ w'.cell? ⟨g9, 1, none⟩ = some (.int .i64 z2) ∧ w'.cell? ⟨g9, 2, none⟩ = some (.slice ao6 m cap6) ∧ w'.cell? ⟨g9, 3, none⟩ = some (.slice z4 z8 z9) ∧ w'.cell? ⟨g9, 4, none⟩ = some (.slice z5 z10 z11)) (first | go_keep | with_reducible exact hQ.s5 | with_reducible exact C5.s5 (hQ.held (set5_held _ _ (w.heap.size + 1) _ _ _ _ _) HN2.out HN2.out) | skip) (first | (go_at_call 18; (with_reducible refine (word_w' hPd.fresh _ bEndstream (by decide)).mono ?_); rintro e w10 hq; obtain ⟨c10, t10, hc10, ht10, rfl, j10, hPs⟩ := hq.both; have hP := hPd.join hPs; have hZ := (hZ.up hbd).held hPs.held HNE.out.1.1 HNE.out.1.2; have hQ := (hQ.up hbd).held hPs.held HNE.out.2.1 HNE.out.2.2; have hov10 := hid (HOVK.out _ hPs.held); obtain ⟨rc, rf, rs⟩ := id hZ))
              all_goals
                go_wp2_with fail
                obtain ⟨k0, k1, k2, k3, k4⟩ := set5_cells (a := .int .i64 8) (b := .int .i64 z2) (c := .slice ao6 m cap6) (d := .slice z4 z8 z9) (e := .slice z5 z10 z11) (hZ.five rfl)
                have hh := fun B => set5_held w10 B (w.heap.size + 1) (.int .i64 8) (.int .i64 z2) (.slice ao6 m cap6) (.slice z4 z8 z9) (.slice z5 z10 z11)
                have hP5 := hP.off (hh w10.heap.size) (by omega)
                refine bodyPost_ret (v := .tuple #[.agg #[.int .i64 8, .int .i64 z2, .slice ao6 m cap6, .slice z4 z8 z9, .slice z5 z10 z11], .int .i64 c10]) (by simp [results, Tryz.results21, go_sem, k0, k1, k2, k3, k4]) rfl ?_
                show StQ q w pp lp cp b _ _ _
                rw [HS2.out, HRR.out]
                have e1 := hc10.out
                have e2 := ht10.out
                rcases hW : wantS bEndstream (eolA rr) with ⟨x, t⟩ | ⟨n9, r9⟩
                · rw [hW] at e1 e2
                  obtain rfl : c10 = x := e1
                  obtain rfl : t10 = t := e2
                  exact ⟨[.int .i64 8, .int .i64 z2, .slice ao6 m cap6, .slice z4 z8 z9, .slice z5 z10 z11], ⟨8, z2, ao6, z4, z5, m, cap6, z8, z9, z10, z11, rfl⟩, rfl, _, hP5⟩
                · rw [hW] at e1 e2
                  obtain rfl : c10 = 0 := e1
                  obtain rfl : t10 = r9 := e2
                  exact ⟨[.int .i64 8, .int .i64 z2, .slice ao6 m cap6, .slice z4 z8 z9, .slice z5 z10 z11], rfl, hov10.out.keep (fun g hg => ⟨by have := hg.1; omega, Nat.lt_of_lt_of_le hg.2 (hh 0).size⟩) (fun g hg hlt => (hh w10.heap.size).block g hlt (by have := hg.1; omega) (by have := hg.1; omega)), _, hP5⟩
            · have H1 := hid h1
              have H2 := hid h2
              clear h1 h2
              have HEA := hid hE
              clear hE
              have hs36 := Nat.le_refl w6.heap.size
              go_upto_region 13 with (first | (go_at_call 37; (with_reducible refine (pmatch_yes' hP.fresh _ [10] (by decide) (by decide) H2.out).mono ?_); rintro e w3 ⟨rfl, j3, hPs⟩; have hP := hP.join hPs; have hC := hC.held hPs.held (by omega) (by omega); have hZ := hZ.held hPs.held (by omega) (by omega); have p0 := hP.p0; have l1 := hP.l0; have zp := World.block_lt_of_cell? _ _ p0; have zl := World.block_lt_of_cell? _ _ l1; obtain ⟨rc, rf, rs⟩ := id hZ; have hDT := hDT.keep (fun _ h => h) (fun g hg hlt => hPs.held.block g hlt (by have := hg.1; omega) (by have := hg.1; omega)); have hs36 := Nat.le_trans hs36 hPs.held.size) | (go_at_call 37; (with_reducible refine (pmatch_no' hP.fresh _ [13, 10] (by decide) (by decide) H1.out).mono ?_); rintro e w3 ⟨rfl, hPs⟩; have hP := hP.join hPs; have hC := hC.held hPs.held (by omega) (by omega); have hZ := hZ.held hPs.held (by omega) (by omega); have p0 := hP.p0; have l1 := hP.l0; have zp := World.block_lt_of_cell? _ _ p0; have zl := World.block_lt_of_cell? _ _ l1; obtain ⟨rc, rf, rs⟩ := id hZ; have hDT := hDT.keep (fun _ h => h) (fun g hg hlt => hPs.held.block g hlt (by have := hg.1; omega) (by have := hg.1; omega)); have hs36 := Nat.le_trans hs36 hPs.held.size))
              have hP : Ps q w w3 pp lp cp b j3 (eolA rr) := by rw [HEA.out]; exact hP
              clear p0 l1 oc of_ os rc rf rs
              obtain ⟨oc, of_, os⟩ := id hC
              obtain ⟨rc, rf, rs⟩ := id hZ
              have hDR := hid (drop_any bLength (SlX.lit1 w3 w3.heap.size rfl [.string (st bLength)] 9 1 rfl) (HHO.out (w3.alloc (.cells #[.string (st bLength)] 9)) (hP.below (alb w3 (.cells #[.string (st bLength)] 9))).held) hd)
              go_upto_region 15 with (go_at_call 43; refine hDR.out.mono ?_; rintro e w8 ⟨vs8, rfl, hd8, hb8⟩; have hP := (hP.below (alb w3 (.cells #[.string (st bLength)] 9))).below hb8; have hC := (hC.up (alb w3 (.cells #[.string (st bLength)] 9))).up hb8; have hZ := (hZ.up (alb w3 (.cells #[.string (st bLength)] 9))).up hb8; have hs8 := hb8.size; have hV8 := hd8.v5; have hd8 := hid hd8; obtain ⟨z1, z2, z3, z4, z5, z6, z7, z8, z9, z10, z11, rfl⟩ := hV8)
              have hQ := C5.new w8 _ rfl [.int .i64 8, .int .i64 z2, .slice ao6 m cap6, .slice z4 z8 z9, .slice z5 z10 z11] 31
              have hP := hP.below (alb w8 (.cells #[.int .i64 8, .int .i64 z2, .slice ao6 m cap6, .slice z4 z8 z9, .slice z5 z10 z11] 31))
              have hZ := hZ.up (alb w8 (.cells #[.int .i64 8, .int .i64 z2, .slice ao6 m cap6, .slice z4 z8 z9, .slice z5 z10 z11] 31))
              have hzz : w3.heap.size + 1 ≤ w8.heap.size := by simpa using hs8
              have hOV8 := (OV.data2 (k2 := 8) (vb2 := .slice ao6 m cap6) (b2 := r1.take m) (hd8.out.keep (B := fun g => w.heap.size + 2 ≤ g ∧ g < (w8.alloc (.cells #[.int .i64 8, .int .i64 z2, .slice ao6 m cap6, .slice z4 z8 z9, .slice z5 z10 z11] 31)).heap.size) (w' := w8.alloc (.cells #[.int .i64 8, .int .i64 z2, .slice ao6 m cap6, .slice z4 z8 z9, .slice z5 z10 z11] 31)) (fun g hg => ⟨by have := hg.1; simp at this; omega, Nat.lt_of_lt_of_le hg.2 (alb w8 (.cells #[.int .i64 8, .int .i64 z2, .slice ao6 m cap6, .slice z4 z8 z9, .slice z5 z10 z11] 31)).size⟩) (fun g hg hlt => (alb w8 (.cells #[.int .i64 8, .int .i64 z2, .slice ao6 m cap6, .slice z4 z8 z9, .slice z5 z10 z11] 31)).block g hlt)) (hDT.keep (fun g hg => ⟨by have := hg.1; omega, by have := hg.2; simp; omega⟩) (fun g hg hlt => ((alb w8 (.cells #[.int .i64 8, .int .i64 z2, .slice ao6 m cap6, .slice z4 z8 z9, .slice z5 z10 z11] 31)).block g (by omega)).trans ((hb8.block g (by simp; omega)).trans ((alb w3 (.cells #[.string (st bLength)] 9)).block g hlt)))) hml2)
              have HOV8 := hid hOV8
              clear hOV8 hd8 oc of_ os rc rf rs hDT hDR
              generalize w8.alloc (.cells #[.int .i64 8, .int .i64 z2, .slice ao6 m cap6, .slice z4 z8 z9, .slice z5 z10 z11] 31) = w9 at *
              generalize w8.heap.size = g9 at *
              have hlt9 := hQ.2.2
              obtain ⟨q0, q1, q2, q3, q4⟩ := hQ.s5
              have hbd : Below w9.heap.size w9 w9.drew := below_drewN (Below.refl _ _) 1
              have hPd := hP.below hbd
              have HNE := hid (show (w.heap.size + 1 ≠ lp ∧ w.heap.size + 1 ≠ cp) ∧ (g9 ≠ lp ∧ g9 ≠ cp) from by omega)
              have HN2 := hid (show g9 ≠ w.heap.size + 1 from by omega)
              have HOVK := hid (show ∀ w10 : World, Held w9.drew.heap.size lp cp w9.drew w10 → OV (fun g => w.heap.size + 2 ≤ g ∧ g < w10.heap.size) w10 [.int .i64 8, .int .i64 z2, .slice ao6 m cap6, .slice z4 z8 z9, .slice z5 z10 z11] (.mk 8 n0 (r1.take m) l0 (wi (bLength, poNull) d)) from fun w10 hh => HOV8.out.keep (fun g hg => ⟨hg.1, Nat.lt_of_lt_of_le hg.2 (Nat.le_trans hbd.size hh.size)⟩) (fun g hg hlt => (hh.block g (Nat.lt_of_lt_of_le hlt hbd.size) (by have := hg.1; omega) (by have := hg.1; omega)).trans (hbd.block g hlt)))
              obtain ⟨rc, rf, rs⟩ := id hZ
              go_region_held3 (fun w' => w'.cell? ⟨g9, 0, none⟩ = some (.int .i64 8) ∧ w'.cell? ⟨g9, 1, none⟩ = some (.int .i64 z2) ∧ w'.cell? ⟨g9, 2, none⟩ = some (.slice ao6 m cap6) ∧ w'.cell? ⟨g9, 3, none⟩ = some (.slice z4 z8 z9) ∧ w'.cell? ⟨g9, 4, none⟩ = some (.slice z5 z10 z11)) (first | go_keep | with_reducible exact hQ.s5 | with_reducible exact C5.s5 (hQ.held (set5_held _ _ (w.heap.size + 1) _ _ _ _ _) HN2.out HN2.out) | skip) (first | (go_at_call 18; (with_reducible refine (word_w' hPd.fresh _ bEndstream (by decide)).mono ?_); rintro e w10 hq; obtain ⟨c10, t10, hc10, ht10, rfl, j10, hPs⟩ := hq.both; have hP := hPd.join hPs; have hZ := (hZ.up hbd).held hPs.held HNE.out.1.1 HNE.out.1.2; have hQ := (hQ.up hbd).held hPs.held HNE.out.2.1 HNE.out.2.2; have hov10 := hid (HOVK.out _ hPs.held); obtain ⟨rc, rf, rs⟩ := id hZ))
              all_goals
                go_wp2_with fail
                obtain ⟨k0, k1, k2, k3, k4⟩ := set5_cells (a := .int .i64 8) (b := .int .i64 z2) (c := .slice ao6 m cap6) (d := .slice z4 z8 z9) (e := .slice z5 z10 z11) (hZ.five rfl)
                have hh := fun B => set5_held w10 B (w.heap.size + 1) (.int .i64 8) (.int .i64 z2) (.slice ao6 m cap6) (.slice z4 z8 z9) (.slice z5 z10 z11)
                have hP5 := hP.off (hh w10.heap.size) (by omega)
                refine bodyPost_ret (v := .tuple #[.agg #[.int .i64 8, .int .i64 z2, .slice ao6 m cap6, .slice z4 z8 z9, .slice z5 z10 z11], .int .i64 c10]) (by simp [results, Tryz.results21, go_sem, k0, k1, k2, k3, k4]) rfl ?_
                show StQ q w pp lp cp b _ _ _
                rw [HS2.out, HRR.out]
                have e1 := hc10.out
                have e2 := ht10.out
                rcases hW : wantS bEndstream (eolA rr) with ⟨x, t⟩ | ⟨n9, r9⟩
                · rw [hW] at e1 e2
                  obtain rfl : c10 = x := e1
                  obtain rfl : t10 = t := e2
                  exact ⟨[.int .i64 8, .int .i64 z2, .slice ao6 m cap6, .slice z4 z8 z9, .slice z5 z10 z11], ⟨8, z2, ao6, z4, z5, m, cap6, z8, z9, z10, z11, rfl⟩, rfl, _, hP5⟩
                · rw [hW] at e1 e2
                  obtain rfl : c10 = 0 := e1
                  obtain rfl : t10 = r9 := e2
                  exact ⟨[.int .i64 8, .int .i64 z2, .slice ao6 m cap6, .slice z4 z8 z9, .slice z5 z10 z11], rfl, hov10.out.keep (fun g hg => ⟨by have := hg.1; omega, Nat.lt_of_lt_of_le hg.2 (hh 0).size⟩) (fun g hg hlt => (hh w10.heap.size).block g hlt (by have := hg.1; omega) (by have := hg.1; omega)), _, hP5⟩
            · have H1 := hid h1
              have H2 := hid h2
              have H3 := hid h3
              clear h1 h2 h3
              have HEA := hid hE
              clear hE
              have hs36 := Nat.le_refl w6.heap.size
              go_upto_region 13 with (first | (go_at_call 37; (with_reducible refine (pmatch_yes' hP.fresh _ [13] (by decide) (by decide) H3.out).mono ?_); rintro e w3 ⟨rfl, j3, hPs⟩; have hP := hP.join hPs; have hC := hC.held hPs.held (by omega) (by omega); have hZ := hZ.held hPs.held (by omega) (by omega); have p0 := hP.p0; have l1 := hP.l0; have zp := World.block_lt_of_cell? _ _ p0; have zl := World.block_lt_of_cell? _ _ l1; obtain ⟨rc, rf, rs⟩ := id hZ; have hDT := hDT.keep (fun _ h => h) (fun g hg hlt => hPs.held.block g hlt (by have := hg.1; omega) (by have := hg.1; omega)); have hs36 := Nat.le_trans hs36 hPs.held.size) | (go_at_call 37; (with_reducible refine (pmatch_no' hP.fresh _ [10] (by decide) (by decide) H2.out).mono ?_); rintro e w3 ⟨rfl, hPs⟩; have hP := hP.join hPs; have hC := hC.held hPs.held (by omega) (by omega); have hZ := hZ.held hPs.held (by omega) (by omega); have p0 := hP.p0; have l1 := hP.l0; have zp := World.block_lt_of_cell? _ _ p0; have zl := World.block_lt_of_cell? _ _ l1; obtain ⟨rc, rf, rs⟩ := id hZ; have hDT := hDT.keep (fun _ h => h) (fun g hg hlt => hPs.held.block g hlt (by have := hg.1; omega) (by have := hg.1; omega)); have hs36 := Nat.le_trans hs36 hPs.held.size) | (go_at_call 37; (with_reducible refine (pmatch_no' hP.fresh _ [13, 10] (by decide) (by decide) H1.out).mono ?_); rintro e w3 ⟨rfl, hPs⟩; have hP := hP.join hPs; have hC := hC.held hPs.held (by omega) (by omega); have hZ := hZ.held hPs.held (by omega) (by omega); have p0 := hP.p0; have l1 := hP.l0; have zp := World.block_lt_of_cell? _ _ p0; have zl := World.block_lt_of_cell? _ _ l1; obtain ⟨rc, rf, rs⟩ := id hZ; have hDT := hDT.keep (fun _ h => h) (fun g hg hlt => hPs.held.block g hlt (by have := hg.1; omega) (by have := hg.1; omega)); have hs36 := Nat.le_trans hs36 hPs.held.size))
              have hP : Ps q w w3 pp lp cp b j3 (eolA rr) := by rw [HEA.out]; exact hP
              clear p0 l1 oc of_ os rc rf rs
              obtain ⟨oc, of_, os⟩ := id hC
              obtain ⟨rc, rf, rs⟩ := id hZ
              have hDR := hid (drop_any bLength (SlX.lit1 w3 w3.heap.size rfl [.string (st bLength)] 9 1 rfl) (HHO.out (w3.alloc (.cells #[.string (st bLength)] 9)) (hP.below (alb w3 (.cells #[.string (st bLength)] 9))).held) hd)
              go_upto_region 15 with (go_at_call 43; refine hDR.out.mono ?_; rintro e w8 ⟨vs8, rfl, hd8, hb8⟩; have hP := (hP.below (alb w3 (.cells #[.string (st bLength)] 9))).below hb8; have hC := (hC.up (alb w3 (.cells #[.string (st bLength)] 9))).up hb8; have hZ := (hZ.up (alb w3 (.cells #[.string (st bLength)] 9))).up hb8; have hs8 := hb8.size; have hV8 := hd8.v5; have hd8 := hid hd8; obtain ⟨z1, z2, z3, z4, z5, z6, z7, z8, z9, z10, z11, rfl⟩ := hV8)
              have hQ := C5.new w8 _ rfl [.int .i64 8, .int .i64 z2, .slice ao6 m cap6, .slice z4 z8 z9, .slice z5 z10 z11] 31
              have hP := hP.below (alb w8 (.cells #[.int .i64 8, .int .i64 z2, .slice ao6 m cap6, .slice z4 z8 z9, .slice z5 z10 z11] 31))
              have hZ := hZ.up (alb w8 (.cells #[.int .i64 8, .int .i64 z2, .slice ao6 m cap6, .slice z4 z8 z9, .slice z5 z10 z11] 31))
              have hzz : w3.heap.size + 1 ≤ w8.heap.size := by simpa using hs8
              have hOV8 := (OV.data2 (k2 := 8) (vb2 := .slice ao6 m cap6) (b2 := r1.take m) (hd8.out.keep (B := fun g => w.heap.size + 2 ≤ g ∧ g < (w8.alloc (.cells #[.int .i64 8, .int .i64 z2, .slice ao6 m cap6, .slice z4 z8 z9, .slice z5 z10 z11] 31)).heap.size) (w' := w8.alloc (.cells #[.int .i64 8, .int .i64 z2, .slice ao6 m cap6, .slice z4 z8 z9, .slice z5 z10 z11] 31)) (fun g hg => ⟨by have := hg.1; simp at this; omega, Nat.lt_of_lt_of_le hg.2 (alb w8 (.cells #[.int .i64 8, .int .i64 z2, .slice ao6 m cap6, .slice z4 z8 z9, .slice z5 z10 z11] 31)).size⟩) (fun g hg hlt => (alb w8 (.cells #[.int .i64 8, .int .i64 z2, .slice ao6 m cap6, .slice z4 z8 z9, .slice z5 z10 z11] 31)).block g hlt)) (hDT.keep (fun g hg => ⟨by have := hg.1; omega, by have := hg.2; simp; omega⟩) (fun g hg hlt => ((alb w8 (.cells #[.int .i64 8, .int .i64 z2, .slice ao6 m cap6, .slice z4 z8 z9, .slice z5 z10 z11] 31)).block g (by omega)).trans ((hb8.block g (by simp; omega)).trans ((alb w3 (.cells #[.string (st bLength)] 9)).block g hlt)))) hml2)
              have HOV8 := hid hOV8
              clear hOV8 hd8 oc of_ os rc rf rs hDT hDR
              generalize w8.alloc (.cells #[.int .i64 8, .int .i64 z2, .slice ao6 m cap6, .slice z4 z8 z9, .slice z5 z10 z11] 31) = w9 at *
              generalize w8.heap.size = g9 at *
              have hlt9 := hQ.2.2
              obtain ⟨q0, q1, q2, q3, q4⟩ := hQ.s5
              have hbd : Below w9.heap.size w9 w9.drew := below_drewN (Below.refl _ _) 1
              have hPd := hP.below hbd
              have HNE := hid (show (w.heap.size + 1 ≠ lp ∧ w.heap.size + 1 ≠ cp) ∧ (g9 ≠ lp ∧ g9 ≠ cp) from by omega)
              have HN2 := hid (show g9 ≠ w.heap.size + 1 from by omega)
              have HOVK := hid (show ∀ w10 : World, Held w9.drew.heap.size lp cp w9.drew w10 → OV (fun g => w.heap.size + 2 ≤ g ∧ g < w10.heap.size) w10 [.int .i64 8, .int .i64 z2, .slice ao6 m cap6, .slice z4 z8 z9, .slice z5 z10 z11] (.mk 8 n0 (r1.take m) l0 (wi (bLength, poNull) d)) from fun w10 hh => HOV8.out.keep (fun g hg => ⟨hg.1, Nat.lt_of_lt_of_le hg.2 (Nat.le_trans hbd.size hh.size)⟩) (fun g hg hlt => (hh.block g (Nat.lt_of_lt_of_le hlt hbd.size) (by have := hg.1; omega) (by have := hg.1; omega)).trans (hbd.block g hlt)))
              obtain ⟨rc, rf, rs⟩ := id hZ
              go_region_held3 (fun w' => w'.cell? ⟨g9, 0, none⟩ = some (.int .i64 8) ∧ w'.cell? ⟨g9, 1, none⟩ = some (.int .i64 z2) ∧ w'.cell? ⟨g9, 2, none⟩ = some (.slice ao6 m cap6) ∧ w'.cell? ⟨g9, 3, none⟩ = some (.slice z4 z8 z9) ∧ w'.cell? ⟨g9, 4, none⟩ = some (.slice z5 z10 z11)) (first | go_keep | with_reducible exact hQ.s5 | with_reducible exact C5.s5 (hQ.held (set5_held _ _ (w.heap.size + 1) _ _ _ _ _) HN2.out HN2.out) | skip) (first | (go_at_call 18; (with_reducible refine (word_w' hPd.fresh _ bEndstream (by decide)).mono ?_); rintro e w10 hq; obtain ⟨c10, t10, hc10, ht10, rfl, j10, hPs⟩ := hq.both; have hP := hPd.join hPs; have hZ := (hZ.up hbd).held hPs.held HNE.out.1.1 HNE.out.1.2; have hQ := (hQ.up hbd).held hPs.held HNE.out.2.1 HNE.out.2.2; have hov10 := hid (HOVK.out _ hPs.held); obtain ⟨rc, rf, rs⟩ := id hZ))
              all_goals
                go_wp2_with fail
                obtain ⟨k0, k1, k2, k3, k4⟩ := set5_cells (a := .int .i64 8) (b := .int .i64 z2) (c := .slice ao6 m cap6) (d := .slice z4 z8 z9) (e := .slice z5 z10 z11) (hZ.five rfl)
                have hh := fun B => set5_held w10 B (w.heap.size + 1) (.int .i64 8) (.int .i64 z2) (.slice ao6 m cap6) (.slice z4 z8 z9) (.slice z5 z10 z11)
                have hP5 := hP.off (hh w10.heap.size) (by omega)
                refine bodyPost_ret (v := .tuple #[.agg #[.int .i64 8, .int .i64 z2, .slice ao6 m cap6, .slice z4 z8 z9, .slice z5 z10 z11], .int .i64 c10]) (by simp [results, Tryz.results21, go_sem, k0, k1, k2, k3, k4]) rfl ?_
                show StQ q w pp lp cp b _ _ _
                rw [HS2.out, HRR.out]
                have e1 := hc10.out
                have e2 := ht10.out
                rcases hW : wantS bEndstream (eolA rr) with ⟨x, t⟩ | ⟨n9, r9⟩
                · rw [hW] at e1 e2
                  obtain rfl : c10 = x := e1
                  obtain rfl : t10 = t := e2
                  exact ⟨[.int .i64 8, .int .i64 z2, .slice ao6 m cap6, .slice z4 z8 z9, .slice z5 z10 z11], ⟨8, z2, ao6, z4, z5, m, cap6, z8, z9, z10, z11, rfl⟩, rfl, _, hP5⟩
                · rw [hW] at e1 e2
                  obtain rfl : c10 = 0 := e1
                  obtain rfl : t10 = r9 := e2
                  exact ⟨[.int .i64 8, .int .i64 z2, .slice ao6 m cap6, .slice z4 z8 z9, .slice z5 z10 z11], rfl, hov10.out.keep (fun g hg => ⟨by have := hg.1; omega, Nat.lt_of_lt_of_le hg.2 (hh 0).size⟩) (fun g hg hlt => (hh w10.heap.size).block g hlt (by have := hg.1; omega) (by have := hg.1; omega)), _, hP5⟩
            · have H1 := hid h1
              have H2 := hid h2
              have H3 := hid h3
              clear h1 h2 h3
              have HEA := hid hE
              clear hE
              have hs36 := Nat.le_refl w6.heap.size
              go_upto_region 13 with (first | (go_at_call 37; (with_reducible refine (pmatch_no' hP.fresh _ [13] (by decide) (by decide) H3.out).mono ?_); rintro e w3 ⟨rfl, hPs⟩; have hP := hP.join hPs; have hC := hC.held hPs.held (by omega) (by omega); have hZ := hZ.held hPs.held (by omega) (by omega); have p0 := hP.p0; have l1 := hP.l0; have zp := World.block_lt_of_cell? _ _ p0; have zl := World.block_lt_of_cell? _ _ l1; obtain ⟨rc, rf, rs⟩ := id hZ; have hDT := hDT.keep (fun _ h => h) (fun g hg hlt => hPs.held.block g hlt (by have := hg.1; omega) (by have := hg.1; omega)); have hs36 := Nat.le_trans hs36 hPs.held.size) | (go_at_call 37; (with_reducible refine (pmatch_no' hP.fresh _ [10] (by decide) (by decide) H2.out).mono ?_); rintro e w3 ⟨rfl, hPs⟩; have hP := hP.join hPs; have hC := hC.held hPs.held (by omega) (by omega); have hZ := hZ.held hPs.held (by omega) (by omega); have p0 := hP.p0; have l1 := hP.l0; have zp := World.block_lt_of_cell? _ _ p0; have zl := World.block_lt_of_cell? _ _ l1; obtain ⟨rc, rf, rs⟩ := id hZ; have hDT := hDT.keep (fun _ h => h) (fun g hg hlt => hPs.held.block g hlt (by have := hg.1; omega) (by have := hg.1; omega)); have hs36 := Nat.le_trans hs36 hPs.held.size) | (go_at_call 37; (with_reducible refine (pmatch_no' hP.fresh _ [13, 10] (by decide) (by decide) H1.out).mono ?_); rintro e w3 ⟨rfl, hPs⟩; have hP := hP.join hPs; have hC := hC.held hPs.held (by omega) (by omega); have hZ := hZ.held hPs.held (by omega) (by omega); have p0 := hP.p0; have l1 := hP.l0; have zp := World.block_lt_of_cell? _ _ p0; have zl := World.block_lt_of_cell? _ _ l1; obtain ⟨rc, rf, rs⟩ := id hZ; have hDT := hDT.keep (fun _ h => h) (fun g hg hlt => hPs.held.block g hlt (by have := hg.1; omega) (by have := hg.1; omega)); have hs36 := Nat.le_trans hs36 hPs.held.size))
              have hP : Ps q w w3 pp lp cp b j6 (eolA rr) := by rw [HEA.out]; exact hP
              clear p0 l1 oc of_ os rc rf rs
              obtain ⟨oc, of_, os⟩ := id hC
              obtain ⟨rc, rf, rs⟩ := id hZ
              have hDR := hid (drop_any bLength (SlX.lit1 w3 w3.heap.size rfl [.string (st bLength)] 9 1 rfl) (HHO.out (w3.alloc (.cells #[.string (st bLength)] 9)) (hP.below (alb w3 (.cells #[.string (st bLength)] 9))).held) hd)
              go_upto_region 15 with (go_at_call 43; refine hDR.out.mono ?_; rintro e w8 ⟨vs8, rfl, hd8, hb8⟩; have hP := (hP.below (alb w3 (.cells #[.string (st bLength)] 9))).below hb8; have hC := (hC.up (alb w3 (.cells #[.string (st bLength)] 9))).up hb8; have hZ := (hZ.up (alb w3 (.cells #[.string (st bLength)] 9))).up hb8; have hs8 := hb8.size; have hV8 := hd8.v5; have hd8 := hid hd8; obtain ⟨z1, z2, z3, z4, z5, z6, z7, z8, z9, z10, z11, rfl⟩ := hV8)
              have hQ := C5.new w8 _ rfl [.int .i64 8, .int .i64 z2, .slice ao6 m cap6, .slice z4 z8 z9, .slice z5 z10 z11] 31
              have hP := hP.below (alb w8 (.cells #[.int .i64 8, .int .i64 z2, .slice ao6 m cap6, .slice z4 z8 z9, .slice z5 z10 z11] 31))
              have hZ := hZ.up (alb w8 (.cells #[.int .i64 8, .int .i64 z2, .slice ao6 m cap6, .slice z4 z8 z9, .slice z5 z10 z11] 31))
              have hzz : w3.heap.size + 1 ≤ w8.heap.size := by simpa using hs8
              have hOV8 := (OV.data2 (k2 := 8) (vb2 := .slice ao6 m cap6) (b2 := r1.take m) (hd8.out.keep (B := fun g => w.heap.size + 2 ≤ g ∧ g < (w8.alloc (.cells #[.int .i64 8, .int .i64 z2, .slice ao6 m cap6, .slice z4 z8 z9, .slice z5 z10 z11] 31)).heap.size) (w' := w8.alloc (.cells #[.int .i64 8, .int .i64 z2, .slice ao6 m cap6, .slice z4 z8 z9, .slice z5 z10 z11] 31)) (fun g hg => ⟨by have := hg.1; simp at this; omega, Nat.lt_of_lt_of_le hg.2 (alb w8 (.cells #[.int .i64 8, .int .i64 z2, .slice ao6 m cap6, .slice z4 z8 z9, .slice z5 z10 z11] 31)).size⟩) (fun g hg hlt => (alb w8 (.cells #[.int .i64 8, .int .i64 z2, .slice ao6 m cap6, .slice z4 z8 z9, .slice z5 z10 z11] 31)).block g hlt)) (hDT.keep (fun g hg => ⟨by have := hg.1; omega, by have := hg.2; simp; omega⟩) (fun g hg hlt => ((alb w8 (.cells #[.int .i64 8, .int .i64 z2, .slice ao6 m cap6, .slice z4 z8 z9, .slice z5 z10 z11] 31)).block g (by omega)).trans ((hb8.block g (by simp; omega)).trans ((alb w3 (.cells #[.string (st bLength)] 9)).block g hlt)))) hml2)
              have HOV8 := hid hOV8
              clear hOV8 hd8 oc of_ os rc rf rs hDT hDR
              generalize w8.alloc (.cells #[.int .i64 8, .int .i64 z2, .slice ao6 m cap6, .slice z4 z8 z9, .slice z5 z10 z11] 31) = w9 at *
              generalize w8.heap.size = g9 at *
              have hlt9 := hQ.2.2
              obtain ⟨q0, q1, q2, q3, q4⟩ := hQ.s5
              have hbd : Below w9.heap.size w9 w9.drew := below_drewN (Below.refl _ _) 1
              have hPd := hP.below hbd
              have HNE := hid (show (w.heap.size + 1 ≠ lp ∧ w.heap.size + 1 ≠ cp) ∧ (g9 ≠ lp ∧ g9 ≠ cp) from by omega)
              have HN2 := hid (show g9 ≠ w.heap.size + 1 from by omega)
              have HOVK := hid (show ∀ w10 : World, Held w9.drew.heap.size lp cp w9.drew w10 → OV (fun g => w.heap.size + 2 ≤ g ∧ g < w10.heap.size) w10 [.int .i64 8, .int .i64 z2, .slice ao6 m cap6, .slice z4 z8 z9, .slice z5 z10 z11] (.mk 8 n0 (r1.take m) l0 (wi (bLength, poNull) d)) from fun w10 hh => HOV8.out.keep (fun g hg => ⟨hg.1, Nat.lt_of_lt_of_le hg.2 (Nat.le_trans hbd.size hh.size)⟩) (fun g hg hlt => (hh.block g (Nat.lt_of_lt_of_le hlt hbd.size) (by have := hg.1; omega) (by have := hg.1; omega)).trans (hbd.block g hlt)))
              obtain ⟨rc, rf, rs⟩ := id hZ
              go_region_held3 (fun w' => w'.cell? ⟨g9, 0, none⟩ = some (.int .i64 8) ∧ w'.cell? ⟨g9, 1, none⟩ = some (.int .i64 z2) ∧ w'.cell? ⟨g9, 2, none⟩ = some (.slice ao6 m cap6) ∧ w'.cell? ⟨g9, 3, none⟩ = some (.slice z4 z8 z9) ∧ w'.cell? ⟨g9, 4, none⟩ = some (.slice z5 z10 z11)) (first | go_keep | with_reducible exact hQ.s5 | with_reducible exact C5.s5 (hQ.held (set5_held _ _ (w.heap.size + 1) _ _ _ _ _) HN2.out HN2.out) | skip) (first | (go_at_call 18; (with_reducible refine (word_w' hPd.fresh _ bEndstream (by decide)).mono ?_); rintro e w10 hq; obtain ⟨c10, t10, hc10, ht10, rfl, j10, hPs⟩ := hq.both; have hP := hPd.join hPs; have hZ := (hZ.up hbd).held hPs.held HNE.out.1.1 HNE.out.1.2; have hQ := (hQ.up hbd).held hPs.held HNE.out.2.1 HNE.out.2.2; have hov10 := hid (HOVK.out _ hPs.held); obtain ⟨rc, rf, rs⟩ := id hZ))
              all_goals
                go_wp2_with fail
                obtain ⟨k0, k1, k2, k3, k4⟩ := set5_cells (a := .int .i64 8) (b := .int .i64 z2) (c := .slice ao6 m cap6) (d := .slice z4 z8 z9) (e := .slice z5 z10 z11) (hZ.five rfl)
                have hh := fun B => set5_held w10 B (w.heap.size + 1) (.int .i64 8) (.int .i64 z2) (.slice ao6 m cap6) (.slice z4 z8 z9) (.slice z5 z10 z11)
                have hP5 := hP.off (hh w10.heap.size) (by omega)
                refine bodyPost_ret (v := .tuple #[.agg #[.int .i64 8, .int .i64 z2, .slice ao6 m cap6, .slice z4 z8 z9, .slice z5 z10 z11], .int .i64 c10]) (by simp [results, Tryz.results21, go_sem, k0, k1, k2, k3, k4]) rfl ?_
                show StQ q w pp lp cp b _ _ _
                rw [HS2.out, HRR.out]
                have e1 := hc10.out
                have e2 := ht10.out
                rcases hW : wantS bEndstream (eolA rr) with ⟨x, t⟩ | ⟨n9, r9⟩
                · rw [hW] at e1 e2
                  obtain rfl : c10 = x := e1
                  obtain rfl : t10 = t := e2
                  exact ⟨[.int .i64 8, .int .i64 z2, .slice ao6 m cap6, .slice z4 z8 z9, .slice z5 z10 z11], ⟨8, z2, ao6, z4, z5, m, cap6, z8, z9, z10, z11, rfl⟩, rfl, _, hP5⟩
                · rw [hW] at e1 e2
                  obtain rfl : c10 = 0 := e1
                  obtain rfl : t10 = r9 := e2
                  exact ⟨[.int .i64 8, .int .i64 z2, .slice ao6 m cap6, .slice z4 z8 z9, .slice z5 z10 z11], rfl, hov10.out.keep (fun g hg => ⟨by have := hg.1; omega, Nat.lt_of_lt_of_le hg.2 (hh 0).size⟩) (fun g hg hlt => (hh w10.heap.size).block g hlt (by have := hg.1; omega) (by have := hg.1; omega)), _, hP5⟩
    · have hS2 := hS1
      rw [if_pos hk] at hS2
      have HS2 := hid hS2
      have hk2 : (y1 != 2) = true ∨ (y1 = 2 ∧ decide (y2 < 0) = true) := by
        by_cases z : y1 = 2
        · exact .inr ⟨z, decide_eq_true (by omega)⟩
        · exact .inl (by simp [z])
      clear hS1 hS2 hk
      rcases hk2 with bk | ⟨rfl, bk⟩
      · go_wp2
        obtain ⟨k0, k1, k2, k3, k4⟩ := set5_cells (a := .int .i64 0) (b := .int .i64 0) (c := .slice none 0 0) (d := .slice none 0 0) (e := .slice none 0 0) (hZ.five rfl)
        have hh := fun B => set5_held w4 B (w.heap.size + 1) (.int .i64 0) (.int .i64 0) (.slice none 0 0) (.slice none 0 0) (.slice none 0 0)
        have hP5 := hP.off (hh w4.heap.size) (by omega)
        refine bodyPost_ret (v := .tuple #[.agg #[.int .i64 0, .int .i64 0, .slice none 0 0, .slice none 0 0, .slice none 0 0], .int .i64 4]) (by simp [results, Tryz.results21, go_sem, k0, k1, k2, k3, k4]) rfl ?_
        show StQ q w pp lp cp b _ _ _
        rw [HS2.out]
        exact ⟨[.int .i64 0, .int .i64 0, .slice none 0 0, .slice none 0 0, .slice none 0 0], V5.zero, rfl, _, hP5⟩
      · go_wp2
        obtain ⟨k0, k1, k2, k3, k4⟩ := set5_cells (a := .int .i64 0) (b := .int .i64 0) (c := .slice none 0 0) (d := .slice none 0 0) (e := .slice none 0 0) (hZ.five rfl)
        have hh := fun B => set5_held w4 B (w.heap.size + 1) (.int .i64 0) (.int .i64 0) (.slice none 0 0) (.slice none 0 0) (.slice none 0 0)
        have hP5 := hP.off (hh w4.heap.size) (by omega)
        refine bodyPost_ret (v := .tuple #[.agg #[.int .i64 0, .int .i64 0, .slice none 0 0, .slice none 0 0, .slice none 0 0], .int .i64 4]) (by simp [results, Tryz.results21, go_sem, k0, k1, k2, k3, k4]) rfl ?_
        show StQ q w pp lp cp b _ _ _
        rw [HS2.out]
        exact ⟨[.int .i64 0, .int .i64 0, .slice none 0 0, .slice none 0 0, .slice none 0 0], V5.zero, rfl, _, hP5⟩
end Go.Proofs.YtlmgklebikcbjaaGreat

/-
  Plain: an object that is read has no more entries than bytes were read. No program here.
-/
namespace Go.Proofs.YtlmgklebikcbjaaGreat
set_option linter.unusedVariables false

/-- entries so far -/
def Md.acc : Md → Nat
  | .m _ _ acc => acc.length
  | _ => 0
def PRes.few (n : Nat) : PRes → Prop
  | .bad e t => True
  | .ok o t => o.ents.length ≤ n
theorem whole_few (q : Bool) (k : Int) (r : List UInt8) (n : Nat) : (whole q k r).few n := by
  unfold whole
  split
  · split
    · split
      · split
        · exact Nat.zero_le _
        · exact Nat.zero_le _
      · exact Nat.zero_le _
    · exact Nat.zero_le _
  · exact Nat.zero_le _
theorem wordO_few {out : List UInt8} {o : PO} (h : wordO out = some o) (n : Nat) : o.ents.length ≤ n := by
  unfold wordO at h
  split at h
  · injection h with h; subst h; exact Nat.zero_le _
  · split at h
    · injection h with h; subst h; exact Nat.zero_le _
    · split at h
      · injection h with h; subst h; exact Nat.zero_le _
      · cases h
theorem PRes.few_up {r : PRes} {n m : Nat} (h : r.few n) (hm : n ≤ m) : r.few m := by
  cases r with
  | bad e t => trivial
  | ok o t => exact Nat.le_trans h hm
theorem pF_few (q : Bool) : ∀ (f : Nat) (m : Md) (s : List UInt8) (r : PRes), pF q f m s = some r → r.few (m.acc + s.length)
  | 0, m, s, r, h => by simp [pF] at h
  | f + 1, .v d, s, r, h => by
    rw [pF] at h
    cases hT : TK s with
    | bad e => rw [hT] at h; injection h with h; subst h; trivial
    | tok k n out t =>
      rw [hT] at h
      simp only [] at h
      by_cases h0 : k = 0
      · rw [if_pos h0] at h; injection h with h; subst h; trivial
      have ht := TK_rest hT h0
      rw [if_neg h0] at h
      by_cases h1 : k = 1
      · rw [if_pos h1] at h; injection h with h; subst h; exact whole_few q n t _
      rw [if_neg h1] at h
      by_cases h2 : k = 2
      · rw [if_pos h2] at h; injection h with h; subst h; exact Nat.zero_le _
      rw [if_neg h2] at h
      by_cases h3 : k = 3
      · rw [if_pos h3] at h; injection h with h; subst h; exact Nat.zero_le _
      rw [if_neg h3] at h
      by_cases h4 : k = 4
      · rw [if_pos h4] at h; injection h with h; subst h; exact Nat.zero_le _
      rw [if_neg h4] at h
      by_cases h9 : k = 9
      · rw [if_pos h9] at h; injection h with h; subst h
        cases hO : wordO out with
        | none => trivial
        | some o => exact wordO_few hO _
      rw [if_neg h9] at h
      by_cases h5 : k = 5 ∨ k = 7
      · rw [if_pos h5] at h
        cases d with
        | zero => injection h with h; subst h; trivial
        | succ d =>
          simp only [] at h
          split at h
          · exact PRes.few_up (pF_few q f _ _ _ h) (by show 0 + t.length ≤ 0 + s.length; omega)
          · exact PRes.few_up (pF_few q f _ _ _ h) (by show 0 + t.length ≤ 0 + s.length; omega)
      · rw [if_neg h5] at h; injection h with h; subst h; trivial
  | f + 1, .a d acc, s, r, h => by
    rw [pF] at h
    cases hT : TK s with
    | bad e => rw [hT] at h; injection h with h; subst h; trivial
    | tok k n out t =>
      rw [hT] at h
      simp only [] at h
      split at h <;> rename_i hk
      · injection h with h; subst h; exact Nat.zero_le _
      · cases hv : pF q f (.v d) s with
        | none => rw [hv] at h; simp at h
        | some x =>
          rw [hv] at h
          have hx := pF_fit q f _ _ _ hv
          cases x with
          | bad e t => injection h with h; subst h; trivial
          | ok x t => exact PRes.few_up (pF_few q f _ _ _ h) (by have hx : t.length < s.length := hx; show 0 + t.length ≤ 0 + s.length; omega)
  | f + 1, .m d keys acc, s, r, h => by
    rw [pF] at h
    cases hT : TK s with
    | bad e => rw [hT] at h; injection h with h; subst h; trivial
    | tok k n out t =>
      rw [hT] at h
      simp only [] at h
      by_cases h8 : k = 8
      · rw [if_pos h8] at h; injection h with h; subst h
        have h1 := fold_len acc []
        show (acc.foldl (fun d e => wi e d) []).length ≤ acc.length + s.length
        simp at h1; omega
      rw [if_neg h8] at h
      by_cases h0 : k = 0
      · rw [if_pos h0] at h; injection h with h; subst h; trivial
      rw [if_neg h0] at h
      by_cases h4 : ¬ k = 4
      · rw [if_pos h4] at h; injection h with h; subst h; trivial
      rw [if_neg h4] at h
      by_cases hm : out ∈ keys
      · rw [if_pos hm] at h; injection h with h; subst h; trivial
      rw [if_neg hm] at h
      have ht := TK_rest hT h0
      cases hv : pF q f (.v d) t with
      | none => rw [hv] at h; simp at h
      | some x =>
        rw [hv] at h
        have hx := pF_fit q f _ _ _ hv
        cases x with
        | bad e t => injection h with h; subst h; trivial
        | ok x t2 =>
          have hx' : t2.length < t.length := hx
          exact PRes.few_up (pF_few q f _ _ _ h) (by show (acc ++ [(out, x)]).length + t2.length ≤ acc.length + s.length; simp; omega)
theorem PV.few {q : Bool} {d : Nat} {s : List UInt8} {o : PO} {r : List UInt8} (h : PV q (.v d) s (.ok o r)) : o.ents.length ≤ s.length := by
  obtain ⟨f, h⟩ := h
  have h1 := pF_few q f _ _ _ h
  have h2 : o.ents.length ≤ 0 + s.length := h1
  omega
end Go.Proofs.YtlmgklebikcbjaaGreat
