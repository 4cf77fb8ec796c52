/-
  ParseValues: any bytes, however deep one may go: the value that stands there, or what is wrong first, and where the reader stands; the walk. Condition: none but what its arguments read as.
-/
import Derived.Test.YtlmgklebikcbjaaRtokL
import Derived.Test.YtlmgklebikcbjaaTokens
import Derived.Test.YtlmgklebikcbjaaHg
import Derived.Test.YtlmgklebikcbjaaHh
import Derived.Test.YtlmgklebikcbjaaHs
/-
  Stands; the document's Keyword; the walks. Condition: the lexer stands in its bytes.
-/
namespace Go.Proofs.Ytlmgklebikcbjaa
open Go.RowKit
set_option linter.unusedVariables false

set_option maxHeartbeats 1600000 in
set_option maxRecDepth 100000 in
theorem stands (v : Value) (b : List UInt8) (i : Nat) (p : ByteArray) (w : World) (h : Sl w v b) (hi : i ≤ b.length) (hb : b.length ≤ 1000000) (hp : p.size ≤ 1000000) :
    Calls Try.prog 26 #[v, .int .i64 i, .string p] w fun e w' => e = .returned (.bool (pfx p.data.toList (b.drop i))) ∧ w = w' := by
  obtain ⟨ao, cap, rfl, c1, c2, c3, c4⟩ := h
  have hz : p.data.toList.length = p.size := by show p.data.toList.length = p.data.size; simp
  by_cases hlt : b.length < i + p.size
  · have hpf : pfx p.data.toList (b.drop i) = false := pfx_long (by rw [hz]; simp; omega)
    rw [hpf]
    clear hpf hz c4
    by_cases h2 : b.length < p.size
    · have t1 : decide (b.length < p.size) = true := decide_eq_true h2
      go_enter Try.func26, Try.ntmps26
      go_wp2
      go_ret
      exact ⟨rfl, rfl⟩
    · have t1 : decide (b.length < p.size) = false := decide_eq_false h2
      have t2 : decide ((b.length : Int) - (p.size : Int) < (i : Int)) = true := decide_eq_true (by omega)
      go_enter Try.func26, Try.ntmps26
      go_wp2
      go_ret
      exact ⟨rfl, rfl⟩
  · obtain ⟨u, hu, hrun⟩ := sl_part bytesTy (t := 25) c4 c1 c2 c3 i (i + p.size) (by omega) (by omega)
    have hrun : ∀ w', (Instr.slice 25 (.slice ao b.length cap) (some (.int .i64 (i : Int))) (some (.int .i64 ((i : Int) + (p.size : Int)))) none).run Try.prog w' = .ok u w' := fun w' => by simpa only [Int.natCast_add] using hrun w'
    have hconv : (convert 25 9 u).run Try.prog w = .ok (.string ⟨((b.drop i).take (i + p.size - i)).toArray⟩) w :=
      sl_string w 25 9 5 Try.underlying25 (by kernel_rfl) (by kernel_rfl) u _ hu
    have t1 : decide (b.length < p.size) = false := decide_eq_false (by omega)
    have t2 : decide ((b.length : Int) - (p.size : Int) < (i : Int)) = false := decide_eq_false (by omega)
    have q : ((⟨((b.drop i).take (i + p.size - i)).toArray⟩ : ByteArray).toList == p.toList) = pfx p.data.toList (b.drop i) := by
      rw [str_eq, Nat.add_sub_cancel_left]; unfold pfx; rw [hz]
    generalize hS : (⟨((b.drop i).take (i + p.size - i)).toArray⟩ : ByteArray) = S at hconv q
    clear hS c4 hz
    cases hpf : pfx p.data.toList (b.drop i) with
    | false =>
      rw [hpf] at q
      clear hpf
      go_enter Try.func26, Try.ntmps26
      go_wp2
      go_ret
      exact ⟨rfl, rfl⟩
    | true =>
      rw [hpf] at q
      clear hpf
      go_enter Try.func26, Try.ntmps26
      go_wp2
      go_ret
      exact ⟨rfl, rfl⟩

section
variable {w0 w w' : World} {cp tp : Nat} {b : List UInt8} {i j : Nat} {s t : List UInt8} {k a n : Int} {vb u : Value} {out : List UInt8} {x : UInt8}

set_option maxHeartbeats 3200000 in
theorem rkey_no (p : ByteArray) (hp : p.size ≤ 1000000) (hk : KW p.data.toList s = false) (h : Cx w0 w cp b i s u out) :
    Calls Try.prog 31 #[.pointer (some ⟨cp, 0, none⟩), .string p] w fun e w' => e = .returned (.bool false) ∧ Cx w0 w' cp b i s u out := by
  have hC := h
  have c1 := hC.c1
  have hat := hC.at_
  have hsm := hC.sm
  have hle : i ≤ b.length := by omega
  have hdr := hid h.drp
  have hz : p.data.toList.length = p.size := by show p.data.toList.length = p.data.size; simp
  have hbl := bl_le s false
  unfold KW at hk
  rw [hz] at hk
  generalize hzz : i + bl s false = z
  have HZ := hid hzz
  have hzb : z ≤ b.length := by omega
  generalize hs1 : s.drop (bl s false) = s1 at hk
  have HS := hid hs1
  clear h hat hz hs1 hbl hzz
  cases hc : pfx p.data.toList s1 with
  | true =>
    have HR : Hid (rg (hd (s1.drop p.size)) = true) := hid (by simpa [hc] using hk)
    have HC := hid hc
    clear hk hc
    go_enter Try.func31, Try.ntmps31
    go_wp2_with (first | (go_at_call 33; refine (rblank hC).mono ?_; rw [HZ.out, HS.out]; rintro e w1 ⟨rfl, hC⟩))
    obtain ⟨ao, cap, k1, k2⟩ := hC.cur
    have c0 := k1.c0
    have c1 := k1.c1
    have hS := fun m => (Sl.of_cur k1).up (below_drewN (Below.refl _ w1) m)
    have HD := hid hC.drp
    go_quiet ((first | (go_at_call 26; exact Calls.quiet_of_same (((stands _ b z p _ (hS _) hzb hsm hp).mono fun e w' ⟨h1, h2⟩ => ⟨by rw [h1, HD.out, HC.out], h2.symm⟩))) | (go_at_call 58; exact Calls.quiet_of ((rpeekn p.size hp (hC.drew _)).mono fun e w' ⟨h1, _, h2⟩ => ⟨h1, h2⟩)) | (go_at_call 35; exact Calls.quiet_of ((rregular_any _ _).mono fun e w' ⟨h1, h2⟩ => ⟨by rw [h1, HR.out], h2⟩))))
    have hC := hC.drew nq
    have c1 := hC.c1
    have f1 := hC.f1
    go_wp2_with (fail)
    go_ret
    have hC := hC.to i _ rfl hle
    rw [hdr.out] at hC
    exact ⟨rfl, hC⟩
  | false =>
    have HC := hid hc
    clear hk hc
    go_enter Try.func31, Try.ntmps31
    go_wp2_with (first | (go_at_call 33; refine (rblank hC).mono ?_; rw [HZ.out, HS.out]; rintro e w1 ⟨rfl, hC⟩))
    obtain ⟨ao, cap, k1, k2⟩ := hC.cur
    have c0 := k1.c0
    have c1 := k1.c1
    have hS := fun m => (Sl.of_cur k1).up (below_drewN (Below.refl _ w1) m)
    have HD := hid hC.drp
    go_quiet ((first | (go_at_call 26; exact Calls.quiet_of_same (((stands _ b z p _ (hS _) hzb hsm hp).mono fun e w' ⟨h1, h2⟩ => ⟨by rw [h1, HD.out, HC.out], h2.symm⟩)))))
    have hC := hC.drew nq
    have c1 := hC.c1
    have f1 := hC.f1
    go_wp2_with (fail)
    go_ret
    have hC := hC.to i _ rfl hle
    rw [hdr.out] at hC
    exact ⟨rfl, hC⟩

set_option maxHeartbeats 3200000 in
theorem rkey_yes (p : ByteArray) (hp : p.size ≤ 1000000) (hk : KW p.data.toList s = true) (h : Cx w0 w cp b i s u out) :
    Calls Try.prog 31 #[.pointer (some ⟨cp, 0, none⟩), .string p] w fun e w' => e = .returned (.bool true) ∧ Cx w0 w' cp b (i + bl s false + p.size) ((s.drop (bl s false)).drop p.size) u out := by
  have hC := h
  have c1 := hC.c1
  have hat := hC.at_
  have hsm := hC.sm
  have hz : p.data.toList.length = p.size := by show p.data.toList.length = p.data.size; simp
  have hbl := bl_le s false
  unfold KW at hk
  rw [hz] at hk
  generalize hzz : i + bl s false = z
  have HZ := hid hzz
  have hzb : z ≤ b.length := by omega
  generalize hs1 : s.drop (bl s false) = s1 at hk ⊢
  have HS := hid hs1
  rw [Bool.and_eq_true, Bool.not_eq_true'] at hk
  have HC := hid hk.1
  have HR := hid hk.2
  have hpl : p.size ≤ s1.length := by
    rcases Nat.lt_or_ge s1.length p.size with g | g
    · have := pfx_long (s := p.data.toList) (l := s1) (by rw [hz]; exact g)
      rw [hk.1] at this; cases this
    · exact g
  have hs1l : s1.length = b.length - z := by rw [← hs1, List.length_drop]; omega
  have hend : z + p.size ≤ b.length := by omega
  clear h hat hz hs1 hbl hzz hk hs1l
  go_enter Try.func31, Try.ntmps31
  go_wp2_with (first | (go_at_call 33; refine (rblank hC).mono ?_; rw [HZ.out, HS.out]; rintro e w1 ⟨rfl, hC⟩))
  obtain ⟨ao, cap, k1, k2⟩ := hC.cur
  have c0 := k1.c0
  have c1 := k1.c1
  have hS := fun m => (Sl.of_cur k1).up (below_drewN (Below.refl _ w1) m)
  have HD := hid hC.drp
  go_quiet ((first | (go_at_call 26; exact Calls.quiet_of_same (((stands _ b z p _ (hS _) hzb hsm hp).mono fun e w' ⟨h1, h2⟩ => ⟨by rw [h1, HD.out, HC.out], h2.symm⟩))) | (go_at_call 58; exact Calls.quiet_of ((rpeekn p.size hp (hC.drew _)).mono fun e w' ⟨h1, _, h2⟩ => ⟨h1, h2⟩)) | (go_at_call 35; exact Calls.quiet_of ((rregular_any _ _).mono fun e w' ⟨h1, h2⟩ => ⟨by rw [h1, HR.out], h2⟩))))
  have hC := hC.drew nq
  have c1 := hC.c1
  have f1 := hC.f1
  go_wp2_with (fail)
  go_ret
  have hC := hC.to (z + p.size) ((z : Int) + (p.size : Int)) (by omega) hend
  rw [← List.drop_drop, HD.out] at hC
  exact ⟨rfl, hC⟩
end
end Go.Proofs.Ytlmgklebikcbjaa

/-
  Two lexers over the same bytes, the program's and the document's, in one world. Condition: both stand in their bytes.
-/
namespace Go.Proofs.Ytlmgklebikcbjaa
open Go.RowKit
set_option linter.unusedVariables false

/-- lp, cp a lexer of the program's at place i, mp one of the document's at place j, both over b; since w0 nothing of w0 was touched -/
structure Pr (w0 w : World) (lp cp mp : Nat) (b : List UInt8) (i j : Nat) : Prop where
  lex : ∃ ao cap m v, LexAt w lp cp ao cap b i m v ∧ (0 < b.length → ∀ a, ao = some a → a.block < mp)
  cur : ∃ ao cap, CurAt w mp ao cap b j ∧ (0 < b.length → ∀ a, ao = some a → a.block < w0.heap.size)
  bel : Below w0.heap.size w0 w
  lm : lp < mp
  cm : cp < mp
  wl : w0.heap.size ≤ lp
  wc : w0.heap.size ≤ cp

section
variable {w0 w w' : World} {lp cp mp : Nat} {b s : List UInt8} {i j k : Nat} {m v u : Value} {out : List UInt8}

theorem Pr.wm (h : Pr w0 w lp cp mp b i j) : w0.heap.size ≤ mp := Nat.le_trans h.wl (Nat.le_of_lt h.lm)
theorem Pr.hi (h : Pr w0 w lp cp mp b i j) : mp < w.heap.size := by
  obtain ⟨ao, cap, h1, _⟩ := h.cur; exact World.block_lt_of_cell? _ _ h1.c0
theorem Pr.lx (h : Pr w0 w lp cp mp b i j) : ∃ m v, Lx w w lp cp b i (b.drop i) m v (.slice none 0 0) [] := by
  obtain ⟨ao, cap, m, v, h1, _⟩ := h.lex; exact ⟨m, v, Lx.start h1⟩
theorem Pr.cx (h : Pr w0 w lp cp mp b i j) : Cx w w mp b j (b.drop j) (.slice none 0 0) [] := by
  obtain ⟨ao, cap, h1, _⟩ := h.cur; exact Cx.start h1
theorem Pr.p0 (h : Pr w0 w lp cp mp b i j) : w.cell? ⟨lp, 0, none⟩ = some (.pointer (some ⟨cp, 0, none⟩)) := by
  obtain ⟨ao, cap, m, v, h1, _⟩ := h.lex; exact h1.p0
theorem Pr.c1 (h : Pr w0 w lp cp mp b i j) : w.cell? ⟨mp, 1, none⟩ = some (.int .i64 j) := by
  obtain ⟨ao, cap, h1, _⟩ := h.cur; exact h1.c1
theorem Pr.f1 (h : Pr w0 w lp cp mp b i j) : w.frozen? ⟨mp, 1, none⟩ = false := by
  obtain ⟨ao, cap, h1, _⟩ := h.cur; exact h1.f1
theorem Pr.ile (h : Pr w0 w lp cp mp b i j) : i ≤ b.length := by
  obtain ⟨ao, cap, m, v, h1, _⟩ := h.lex; exact h1.cur.at_
theorem Pr.jle (h : Pr w0 w lp cp mp b i j) : j ≤ b.length := by
  obtain ⟨ao, cap, h1, _⟩ := h.cur; exact h1.at_

/-- the program's lexer went on -/
theorem Pr.stepL (h : Pr w0 w lp cp mp b i j) (hL : Lx w w' lp cp b k s m v u out) : Pr w0 w' lp cp mp b k j := by
  have hlm := h.lm
  have hcm := h.cm
  have hwl := h.wl
  have hwc := h.wc
  obtain ⟨ao, cap, m0, v0, h1, h2⟩ := h.lex
  obtain ⟨ao2, cap2, g1, g2⟩ := h.cur
  exact ⟨⟨ao, cap, _, _, Lx.fix h1 hL, h2⟩, ⟨ao2, cap2, g1.held hL.held (by omega) (by omega) (fun h0 a ha => by have := g2 h0 a ha; exact ⟨by omega, by omega⟩), g2⟩, h.bel.trans (hL.held.below h.bel.size hwl hwc), hlm, hcm, hwl, hwc⟩
/-- the document's went on -/
theorem Pr.stepC (h : Pr w0 w lp cp mp b i j) (hC : Cx w w' mp b k s u out) : Pr w0 w' lp cp mp b i k := by
  have hlm := h.lm
  have hcm := h.cm
  obtain ⟨ao, cap, m0, v0, h1, h2⟩ := h.lex
  obtain ⟨ao2, cap2, g1, g2⟩ := h.cur
  exact ⟨⟨ao, cap, _, _, h1.held hC.held ⟨by omega, by omega⟩ ⟨by omega, by omega⟩ (fun h0 a ha => by have := h2 h0 a ha; exact ⟨by omega, by omega⟩), h2⟩, ⟨ao2, cap2, Cx.fix g1 hC, g2⟩, h.bel.trans (hC.held.below h.bel.size h.wm h.wm), hlm, hcm, h.wl, h.wc⟩
theorem Pr.below (h : Pr w0 w lp cp mp b i j) (hb : Below w.heap.size w w') : Pr w0 w' lp cp mp b i j := by
  obtain ⟨ao, cap, m0, v0, h1, h2⟩ := h.lex
  obtain ⟨ao2, cap2, g1, g2⟩ := h.cur
  exact ⟨⟨ao, cap, _, _, h1.same hb, h2⟩, ⟨ao2, cap2, g1.same hb, g2⟩, h.bel.trans (hb.mono h.bel.size), h.lm, h.cm, h.wl, h.wc⟩
theorem Pr.alloc (h : Pr w0 w lp cp mp b i j) (o : Obj) : Pr w0 (w.alloc o) lp cp mp b i j := h.below (alb w o)
theorem Pr.drew (h : Pr w0 w lp cp mp b i j) (n : Nat) : Pr w0 (w.drewN n) lp cp mp b i j := h.below (below_drewN (Below.refl _ _) n)
theorem Pr.setM (h : Pr w0 w lp cp mp b i j) (n : Int) (hn : n = k) (hk : k ≤ b.length) : Pr w0 (w.setCell ⟨mp, 1, none⟩ (.int .i64 n)) lp cp mp b i k := h.stepC (h.cx.to k n hn hk)

/-- the document's lexer beside the program's, new, at a place -/
theorem Pr.new {w1 w2 : World} {ao : Option Addr} {cap : Nat} (h : Sl w0 (.slice ao b.length cap) b) (hl : b.length ≤ 1000000) (h1 : Below w0.heap.size w0 w1) (hL : Lx w2 w2 lp cp b 0 b m v u out) (h2 : Below w1.heap.size w1 w2) (hlp : w1.heap.size ≤ lp) (hcp : w1.heap.size ≤ cp) (n : Int) (hn : n = k) (hk : k ≤ b.length) (e : TypeId) :
    Pr w0 (w2.alloc (.cells #[.slice ao b.length cap, .int .i64 n] e)) lp cp w2.heap.size b 0 k := by
  subst hn
  have h3 := below_then h1 h2
  obtain ⟨ao1, cap1, hl0, hlow⟩ := hL.lex
  have hS := h.up h3
  have ha2 : 0 < b.length → ∀ a, ao = some a → a.block < w0.heap.size := fun h0 a ha => by
    obtain ⟨ao', cap', q1, _, _, _, q4⟩ := h
    injection q1 with e1 e2 e3
    subst e1
    obtain ⟨bb, off, q1, q2, _⟩ := q4.some h0
    rw [q1] at ha; injection ha with ha; subst ha; exact q2
  obtain ⟨ao', cap', q1, c1, c2, c3, c4⟩ := hS
  injection q1 with e1 e2 e3
  subst e1; subst e3
  refine ⟨⟨ao1, cap1, _, _, hl0.same (alb _ _), hlow.ao⟩, ⟨ao, cap, ⟨?_, ?_, ?_, c4.up (alb _ _), c1, c2, c3, hk, hl, ?_⟩, ha2⟩, below_then h3 (alb _ _), hlow.lp, hlow.cp, Nat.le_trans h1.size hlp, Nat.le_trans h1.size hcp⟩
  · rw [World.cell?_alloc_at _ _ _ _ rfl]; rfl
  · rw [World.cell?_alloc_at _ _ _ _ rfl]; rfl
  · exact World.frozen?_alloc_at _ _ _ _ rfl
  · intro h0 a ha
    have := ha2 h0 a ha
    have := h3.size
    omega
end
end Go.Proofs.Ytlmgklebikcbjaa

/-
  The document's value at every depth; NewParser, Value, All. Condition: its bytes are no more than 900000.
-/
namespace Go.Proofs.Ytlmgklebikcbjaa
open Go.RowKit
set_option linter.unusedVariables false

theorem rvalue_all {q : Bool} {dp pp : Nat} {b : List UInt8} (hb : b.length ≤ 900000) : ∀ d, d ≤ 28 → RValueC q dp pp b d
  | 0, h => rvalue_of h (fun d' e => by omega) (fun d' e => by omega)
  | d + 1, h => by
    have ih := rvalue_all (q := q) (dp := dp) (pp := pp) hb d (by omega)
    exact rvalue_of h (fun d' e => by obtain rfl : d = d' := by omega
                                      exact rarray_of (by omega) ih) (fun d' e => by
                                      obtain rfl : d = d' := by omega
                                      exact rdict_of (by omega) ih hb)

/-- the parser that NewParser made -/
theorem Pd.new {w : World} {v : Value} {b : List UInt8} (h : Sl w v b) (hl : b.length ≤ 900000) (n : Int) (T : TypeId) : Pd false (dep n) (w.alloc (.cells #[v, .int .i64 0, .int .i64 (min (max n 0) 28), .bool false] T)) (w.alloc (.cells #[v, .int .i64 0, .int .i64 (min (max n 0) 28), .bool false] T)) w.heap.size b 0 b := by
  obtain ⟨ao, cap, rfl, c1, c2, c3, c4⟩ := id h
  refine ⟨?_, ?_, ?_⟩
  · have hc : CurAt (w.alloc (.cells #[.slice ao b.length cap, .int .i64 0, .int .i64 (min (max n 0) 28), .bool false] T)) w.heap.size ao cap b 0 := by
      refine ⟨by rw [World.cell?_alloc_at _ _ _ _ rfl]; rfl, by rw [World.cell?_alloc_at _ _ _ _ rfl]; rfl, by simp, c4.up (alb _ _), c1, c2, c3, Nat.zero_le _, by omega, fun h0 a ha => ?_⟩
      subst ha
      rcases c4 with c4 | ⟨g, off, e, c5⟩
      · first | omega | (rw [c4] at h0; exact absurd h0 (by simp))
      · injection e with e
        subst e
        have := World.block_lt_of_cell? _ _ (c5 0 h0)
        exact Nat.ne_of_lt this
    have h2 := Cx.start hc
    rw [List.drop_zero] at h2
    exact h2
  · rw [World.cell?_alloc_at _ _ _ _ rfl, dep_cast]; rfl
  · rw [World.cell?_alloc_at _ _ _ _ rfl]; rfl

set_option maxHeartbeats 1600000 in
set_option maxRecDepth 100000 in
theorem rvalue_top {q : Bool} {dp : Nat} {w : World} {pp : Nat} {b s : List UInt8} {i : Nat} (h : Pd q dp w w pp b i s) (hv : RValueC q dp pp b dp) :
    Calls Try.prog 45 #[.pointer (some ⟨pp, 0, none⟩)] w fun e w' => ∃ res, PV q (.v dp) s res ∧ RVQ q dp w pp b res e w' := by
  have hP := h.below (alb w (.cells #[.int .i64 0, .int .i64 0, .slice none 0 0, .slice none 0 0, .slice none 0 0] 61))
  have hZ : Z5 (w.alloc (.cells #[.int .i64 0, .int .i64 0, .slice none 0 0, .slice none 0 0, .slice none 0 0] 61)) w.heap.size := Z5.new w _
  have hd2 := hP.d2
  have hlow := h.low.1
  obtain ⟨rc, rf, rs⟩ := id hZ
  clear h
  go_enter Try.func45, Try.ntmps45
  go_wp2_with (go_at_call 67; refine (hv _ _ s hP.fresh).mono ?_; rintro e w5 ⟨res, hpv, hvq⟩; rcases res with ⟨x9, t9⟩ | ⟨o9, t9⟩; rotate_left; (obtain ⟨vs, rfl, hov, j9, hPs⟩ := hvq; have hP := hP.join hPs; have hZ := hZ.held hPs.cx.held (by omega) (by omega); obtain ⟨rc, rf, rs⟩ := id hZ; have hV5 := hov.v5; have hov2 := hid hov; clear hov; obtain ⟨y1, y2, y3, y4, y5, y6, y7, y8, y9, y10, y11, rfl⟩ := hV5); rotate_left; (obtain ⟨rfl, j9, hPs⟩ := hvq; have hP := hP.join hPs; have hZ := hZ.held hPs.cx.held (by omega) (by omega); obtain ⟨rc, rf, rs⟩ := id hZ))
  · obtain ⟨k0, k1, k2, k3, k4⟩ := set5_cells (a := .int .i64 0) (b := .int .i64 0) (c := .slice none 0 0) (d := .slice none 0 0) (e := .slice none 0 0) hZ.five
    have hh := fun B => set5_held w5 B w.heap.size (.int .i64 0) (.int .i64 0) (.slice none 0 0) (.slice none 0 0) (.slice none 0 0)
    have hP5 := hP.off (hh w.heap.size) (Nat.le_refl _) (Nat.le_refl _)
    exact bodyPost_ret (v := .tuple #[.agg #[.int .i64 0, .int .i64 0, .slice none 0 0, .slice none 0 0, .slice none 0 0], .int .i64 x9]) (by simp [results, Try.results45, go_sem, k0, k1, k2, k3, k4]) rfl ⟨.bad x9 t9, hpv, rfl, _, hP5⟩
  · obtain ⟨k0, k1, k2, k3, k4⟩ := set5_cells (a := .int .i64 y1) (b := .int .i64 y2) (c := .slice y3 y6 y7) (d := .slice y4 y8 y9) (e := .slice y5 y10 y11) hZ.five
    have hh := fun B => set5_held w5 B w.heap.size (.int .i64 y1) (.int .i64 y2) (.slice y3 y6 y7) (.slice y4 y8 y9) (.slice y5 y10 y11)
    have hP5 := hP.off (hh w.heap.size) (Nat.le_refl _) (Nat.le_refl _)
    have hov := hov2.out.keep (B := fun g => w.heap.size ≤ g ∧ g < (set5 w5 w.heap.size (.int .i64 y1) (.int .i64 y2) (.slice y3 y6 y7) (.slice y4 y8 y9) (.slice y5 y10 y11)).heap.size) (w' := set5 w5 w.heap.size (.int .i64 y1) (.int .i64 y2) (.slice y3 y6 y7) (.slice y4 y8 y9) (.slice y5 y10 y11)) (fun g hg => ⟨by have := hg.1; simp at this; omega, Nat.lt_of_lt_of_le hg.2 (hh 0).size⟩) (fun g hg hlt => (hh w5.heap.size).block g hlt (by have := hg.1; simp at this; omega) (by have := hg.1; simp at this; omega))
    exact bodyPost_ret (v := .tuple #[.agg #[.int .i64 y1, .int .i64 y2, .slice y3 y6 y7, .slice y4 y8 y9, .slice y5 y10 y11], .int .i64 0]) (by simp [results, Try.results45, go_sem, k0, k1, k2, k3, k4]) rfl ⟨.ok _ t9, hpv, [.int .i64 y1, .int .i64 y2, .slice y3 y6 y7, .slice y4 y8 y9, .slice y5 y10 y11], rfl, hov, _, hP5⟩

set_option maxHeartbeats 1600000 in
set_option maxRecDepth 100000 in
theorem rpall_any (v : Value) (b : List UInt8) (n : Int) (w : World) (h : Sl w v b) (hl : b.length ≤ 900000) :
    Calls Try.prog 47 #[v, .int .i64 n] w fun e w' => ∃ res, PV false (.v (dep n)) b res ∧ AQ w res e w' := by
  obtain ⟨ao, cap, rfl, -, -, -, -⟩ := id h
  have hnew := rnew_any _ b n _ (h.up (alb w (.cells #[.int .i64 0, .int .i64 0, .slice none 0 0, .slice none 0 0, .slice none 0 0] 61))) hl
  have hP := Pd.new (h.up (alb w (.cells #[.int .i64 0, .int .i64 0, .slice none 0 0, .slice none 0 0, .slice none 0 0] 61))) hl n 77
  have hZ := (Z5.new w 61).up (alb _ (.cells #[.slice ao b.length cap, .int .i64 0, .int .i64 (min (max n 0) 28), .bool false] 77))
  have hb2 := alb (w.alloc (.cells #[.int .i64 0, .int .i64 0, .slice none 0 0, .slice none 0 0, .slice none 0 0] 61)) (.cells #[.slice ao b.length cap, .int .i64 0, .int .i64 (min (max n 0) 28), .bool false] 77)
  have hpp : (w.alloc (.cells #[.int .i64 0, .int .i64 0, .slice none 0 0, .slice none 0 0, .slice none 0 0] 61)).heap.size = w.heap.size + 1 := by simp
  generalize hw2 : (w.alloc (.cells #[.int .i64 0, .int .i64 0, .slice none 0 0, .slice none 0 0, .slice none 0 0] 61)).alloc (.cells #[.slice ao b.length cap, .int .i64 0, .int .i64 (min (max n 0) 28), .bool false] 77) = w2 at *
  have HW2 := hid hw2
  clear hw2 h HW2
  rw [hpp] at hnew hP
  have hpl2 := hP.low.2
  go_enter Try.func47, Try.ntmps47
  go_wp2_with (first | (go_at_call 45; refine (rvalue_top hP (rvalue_all hl _ (dep_le n))).mono ?_; rintro e w5 ⟨res, hpv, hvq⟩; have hfit := hpv.fit; rcases res with ⟨x9, t9⟩ | ⟨o9, t9⟩; rotate_left; (obtain ⟨vs, rfl, hov, j9, hPs⟩ := hvq; have hb5 := hb2.trans (hPs.bel hb2.size (by omega)); have hZ := hZ.held hPs.cx.held (by omega) (by omega); obtain ⟨rc, rf, rs⟩ := id hZ; have hP := hPs.fresh; have hc1 := hP.cx.c1; have hf1 := hP.cx.f1; have hV5 := hov.v5; have hov2 := hid hov; clear hov; obtain ⟨y1, y2, y3, y4, y5, y6, y7, y8, y9, y10, y11, rfl⟩ := hV5); rotate_left; (obtain ⟨rfl, j9, hPs⟩ := hvq; have bx : (x9 == 0) = false := hfit; have hb5 := hb2.trans (hPs.bel hb2.size (by omega)); have hZ := hZ.held hPs.cx.held (by omega) (by omega); obtain ⟨rc, rf, rs⟩ := id hZ)) | (go_at_call 43; refine hnew.mono ?_; rintro e w9 ⟨rfl, rfl⟩) | (go_at_call 33; refine (rblank (hP.below (alb _ _)).cx.fresh).mono ?_; rintro e w6 ⟨rfl, hC6⟩; have hlo5 := hP.low; have hX6 := (C5.new w5 _ rfl [.int .i64 y1, .int .i64 y2, .slice y3 y6 y7, .slice y4 y8 y9, .slice y5 y10 y11] 61).held hC6.held (by omega) (by omega); have hZ := (hZ.up (alb w5 (.cells #[.int .i64 y1, .int .i64 y2, .slice y3 y6 y7, .slice y4 y8 y9, .slice y5 y10 y11] 61))).held hC6.held (by omega) (by omega); obtain ⟨k6, hk6⟩ : ∃ k, k = j9 + bl t9 false := ⟨_, rfl⟩; rw [← hk6] at hC6; have hP6 := (hP.below (alb _ _)).step hC6; have HC6 := hid hC6; have hat6 := hP6.cx.at_; rw [List.length_drop] at hat6; have hc1 := hP6.cx.c1; have hf1 := hP6.cx.f1; obtain ⟨rc, rf, rs⟩ := id hZ; obtain ⟨xc, xf, xs⟩ := id hX6; by_cases hz : t9.length - bl t9 false = 0; rotate_left; (have tz : decide ((k6 : Int) < (b.length : Int)) = true := decide_eq_true (by omega)); rotate_left; (have tz : decide ((k6 : Int) < (b.length : Int)) = false := decide_eq_false (by omega))))
  · obtain ⟨k0, k1, k2, k3, k4⟩ := set5_cells (a := .int .i64 0) (b := .int .i64 0) (c := .slice none 0 0) (d := .slice none 0 0) (e := .slice none 0 0) hZ.five
    have hh := fun B => set5_held w5 B w.heap.size (.int .i64 0) (.int .i64 0) (.slice none 0 0) (.slice none 0 0) (.slice none 0 0)
    have k0 := cell_up' (alb _ (.cells #[.int .i64 0, .int .i64 0, .slice none 0 0, .slice none 0 0, .slice none 0 0] 61)) k0
    have k1 := cell_up' (alb _ (.cells #[.int .i64 0, .int .i64 0, .slice none 0 0, .slice none 0 0, .slice none 0 0] 61)) k1
    have k2 := cell_up' (alb _ (.cells #[.int .i64 0, .int .i64 0, .slice none 0 0, .slice none 0 0, .slice none 0 0] 61)) k2
    have k3 := cell_up' (alb _ (.cells #[.int .i64 0, .int .i64 0, .slice none 0 0, .slice none 0 0, .slice none 0 0] 61)) k3
    have k4 := cell_up' (alb _ (.cells #[.int .i64 0, .int .i64 0, .slice none 0 0, .slice none 0 0, .slice none 0 0] 61)) k4
    have hB5 := below_then (alb w (.cells #[.int .i64 0, .int .i64 0, .slice none 0 0, .slice none 0 0, .slice none 0 0] 61)) hb5
    have hBf := hB5.trans ((hh w5.heap.size).below hB5.size (Nat.le_refl _) (Nat.le_refl _))
    exact bodyPost_ret (v := .tuple #[.agg #[.int .i64 0, .int .i64 0, .slice none 0 0, .slice none 0 0, .slice none 0 0], .int .i64 x9]) (by simp [results, Try.results47, go_sem, k0, k1, k2, k3, k4]) rfl ⟨.bad x9 t9, hpv, rfl, hBf.trans ((alb _ _).mono hBf.size)⟩
  · obtain ⟨k0, k1, k2, k3, k4⟩ := set5_cells (a := .int .i64 y1) (b := .int .i64 y2) (c := .slice y3 y6 y7) (d := .slice y4 y8 y9) (e := .slice y5 y10 y11) hZ.five
    have hh := fun B => set5_held w6 B w.heap.size (.int .i64 y1) (.int .i64 y2) (.slice y3 y6 y7) (.slice y4 y8 y9) (.slice y5 y10 y11)
    have hB5 := below_then (alb w (.cells #[.int .i64 0, .int .i64 0, .slice none 0 0, .slice none 0 0, .slice none 0 0] 61)) hb5
    have hB6 := (hB5.trans ((alb w5 (.cells #[.int .i64 y1, .int .i64 y2, .slice y3 y6 y7, .slice y4 y8 y9, .slice y5 y10 y11] 61)).mono hB5.size)).trans (HC6.out.held.below (Nat.le_trans hB5.size (alb _ _).size) (by omega) (by omega))
    have hBf := hB6.trans ((hh w6.heap.size).below hB6.size (Nat.le_refl _) (Nat.le_refl _))
    have hs6 := HC6.out.held.size
    have hsf := (hh w6.heap.size).size
    have hz2 : t9.drop (bl t9 false) = [] := List.eq_nil_of_length_eq_zero (by rw [List.length_drop]; exact hz)
    have hw2 := hb2.size
    simp at hw2
    have hov := hov2.out.keep (B := fun g => w.heap.size ≤ g ∧ g < (set5 w6 w.heap.size (.int .i64 y1) (.int .i64 y2) (.slice y3 y6 y7) (.slice y4 y8 y9) (.slice y5 y10 y11)).heap.size) (w' := set5 w6 w.heap.size (.int .i64 y1) (.int .i64 y2) (.slice y3 y6 y7) (.slice y4 y8 y9) (.slice y5 y10 y11)) (fun g hg => ⟨by have := hg.1; omega, Nat.lt_of_lt_of_le (Nat.lt_of_lt_of_le hg.2 (Nat.le_trans (alb w5 (.cells #[.int .i64 y1, .int .i64 y2, .slice y3 y6 y7, .slice y4 y8 y9, .slice y5 y10 y11] 61)).size hs6)) hsf⟩) (fun g hg hlt => ((hh w6.heap.size).block g (Nat.lt_of_lt_of_le hlt (Nat.le_trans (alb w5 (.cells #[.int .i64 y1, .int .i64 y2, .slice y3 y6 y7, .slice y4 y8 y9, .slice y5 y10 y11] 61)).size hs6)) (by have := hg.1; omega) (by have := hg.1; omega)).trans ((HC6.out.held.block g (Nat.lt_of_lt_of_le hlt (alb _ _).size) (by have := hg.1; omega) (by have := hg.1; omega)).trans ((alb w5 (.cells #[.int .i64 y1, .int .i64 y2, .slice y3 y6 y7, .slice y4 y8 y9, .slice y5 y10 y11] 61)).block g hlt)))
    exact bodyPost_ret (v := .tuple #[.agg #[.int .i64 y1, .int .i64 y2, .slice y3 y6 y7, .slice y4 y8 y9, .slice y5 y10 y11], .int .i64 0]) (by simp [results, Try.results47, go_sem, k0, k1, k2, k3, k4]) rfl ⟨.ok o9 t9, hpv, by unfold AQ; simp only []; rw [if_pos hz2]; exact ⟨_, rfl, hov, hBf⟩⟩
  · obtain ⟨k0, k1, k2, k3, k4⟩ := set5_cells (a := .int .i64 0) (b := .int .i64 0) (c := .slice none 0 0) (d := .slice none 0 0) (e := .slice none 0 0) hZ.five
    have hh := fun B => set5_held w6 B w.heap.size (.int .i64 0) (.int .i64 0) (.slice none 0 0) (.slice none 0 0) (.slice none 0 0)
    have hB5 := below_then (alb w (.cells #[.int .i64 0, .int .i64 0, .slice none 0 0, .slice none 0 0, .slice none 0 0] 61)) hb5
    have hB6 := (hB5.trans ((alb w5 (.cells #[.int .i64 y1, .int .i64 y2, .slice y3 y6 y7, .slice y4 y8 y9, .slice y5 y10 y11] 61)).mono hB5.size)).trans (HC6.out.held.below (Nat.le_trans hB5.size (alb _ _).size) (by omega) (by omega))
    have hBf := hB6.trans ((hh w6.heap.size).below hB6.size (Nat.le_refl _) (Nat.le_refl _))
    have hz2 : ¬ t9.drop (bl t9 false) = [] := fun q => hz (by rw [← List.length_drop, q]; rfl)
    exact bodyPost_ret (v := .tuple #[.agg #[.int .i64 0, .int .i64 0, .slice none 0 0, .slice none 0 0, .slice none 0 0], .int .i64 3]) (by simp [results, Try.results47, go_sem, k0, k1, k2, k3, k4]) rfl ⟨.ok o9 t9, hpv, by unfold AQ; simp only []; rw [if_neg hz2]; exact ⟨trivial, hBf⟩⟩
end Go.Proofs.Ytlmgklebikcbjaa

/-
  The program's parser beside the document's, over the same bytes, in one world; what each gives, in one form. Conditions: none but what is said.
-/
namespace Go.Proofs.Ytlmgklebikcbjaa
open Go.RowKit
set_option linter.unusedVariables false

def PRes.code : PRes → Int
  | .bad x _ => x
  | .ok _ _ => 0
def PRes.obj : PRes → PO
  | .bad _ _ => poNull
  | .ok o _ => o
def PRes.rest : PRes → List UInt8
  | .bad _ t => t
  | .ok _ r => r
def PRes.ac : PRes → Int
  | .bad x _ => x
  | .ok _ r => if r.drop (bl r false) = [] then 0 else 3
def PRes.ao : PRes → PO
  | .bad _ _ => poNull
  | .ok o r => if r.drop (bl r false) = [] then o else poNull

theorem VQ.both {q : Bool} {w w' : World} {pp lp cp : Nat} {b : List UInt8} {res : PRes} {e : Ending} (h : VQ q w pp lp cp b res e w') : ∃ vs : List Value, e = .returned (.tuple #[.agg vs.toArray, .int .i64 res.code]) ∧ OV (fun g => w.heap.size ≤ g ∧ g < w'.heap.size) w' vs res.obj ∧ ∃ j, Ps q w w' pp lp cp b j res.rest := by
  cases res with
  | bad x t => obtain ⟨h1, h2⟩ := h; exact ⟨[.int .i64 0, .int .i64 0, .slice none 0 0, .slice none 0 0, .slice none 0 0], h1, OV.num 0 0, h2⟩
  | ok o r => obtain ⟨vs, h1, h2, h3⟩ := h; exact ⟨vs, h1, h2, h3⟩
theorem RVQ.both {q : Bool} {dp : Nat} {w w' : World} {pp : Nat} {b : List UInt8} {res : PRes} {e : Ending} (h : RVQ q dp w pp b res e w') : ∃ vs : List Value, e = .returned (.tuple #[.agg vs.toArray, .int .i64 res.code]) ∧ OV (fun g => w.heap.size ≤ g ∧ g < w'.heap.size) w' vs res.obj ∧ ∃ j, Pd q dp w w' pp b j res.rest := by
  cases res with
  | bad x t => obtain ⟨h1, h2⟩ := h; exact ⟨[.int .i64 0, .int .i64 0, .slice none 0 0, .slice none 0 0, .slice none 0 0], h1, OV.num 0 0, h2⟩
  | ok o r => obtain ⟨vs, h1, h2, h3⟩ := h; exact ⟨vs, h1, h2, h3⟩
theorem AQ.both {w w' : World} {res : PRes} {e : Ending} (h : AQ w res e w') : ∃ vs : List Value, e = .returned (.tuple #[.agg vs.toArray, .int .i64 res.ac]) ∧ OV (fun g => w.heap.size ≤ g ∧ g < w'.heap.size) w' vs res.ao ∧ Below w.heap.size w w' := by
  cases res with
  | bad x t => obtain ⟨h1, h2⟩ := h; exact ⟨[.int .i64 0, .int .i64 0, .slice none 0 0, .slice none 0 0, .slice none 0 0], h1, OV.num 0 0, h2⟩
  | ok o r =>
    unfold AQ at h
    simp only [] at h
    unfold PRes.ac PRes.ao
    simp only []
    by_cases hr : r.drop (bl r false) = []
    · rw [if_pos hr] at h ⊢
      rw [if_pos hr]
      obtain ⟨vs, h1, h2, h3⟩ := h; exact ⟨vs, h1, h2, h3⟩
    · rw [if_neg hr] at h ⊢
      rw [if_neg hr]
      obtain ⟨h1, h2⟩ := h; exact ⟨[.int .i64 0, .int .i64 0, .slice none 0 0, .slice none 0 0, .slice none 0 0], h1, OV.num 0 0, h2⟩

/-- both parsers at a place -/
structure Pq (q : Bool) (d : Nat) (w0 w : World) (pp lp cp mp : Nat) (b : List UInt8) (i j : Nat) : Prop where
  pr : Pr w0 w lp cp mp b i j
  p0 : w.cell? ⟨pp, 0, none⟩ = some (.pointer (some ⟨lp, 0, none⟩))
  p1 : w.cell? ⟨pp, 1, none⟩ = some (.int .i64 (d : Int))
  p2 : w.cell? ⟨pp, 2, none⟩ = some (.bool q)
  d2 : w.cell? ⟨mp, 2, none⟩ = some (.int .i64 d)
  d3 : w.cell? ⟨mp, 3, none⟩ = some (.bool q)
  nl : pp ≠ lp
  nc : pp ≠ cp
  pm : pp < mp
  wp : w0.heap.size ≤ pp
section
variable {q : Bool} {d : Nat} {w0 w w' : World} {pp lp cp mp : Nat} {b t : List UInt8} {i j k : Nat}
theorem Pq.ps (h : Pq q d w0 w pp lp cp mp b i j) : Ps q w w pp lp cp b i (b.drop i) := by
  obtain ⟨m, v, hL⟩ := h.pr.lx
  exact ⟨⟨m, v, hL⟩, h.p0, h.p2, h.nl, h.nc⟩
theorem Pq.pd (h : Pq q d w0 w pp lp cp mp b i j) : Pd q d w w mp b j (b.drop j) := ⟨h.pr.cx, h.d2, h.d3⟩
theorem Pq.below (h : Pq q d w0 w pp lp cp mp b i j) (hb : Below w.heap.size w w') : Pq q d w0 w' pp lp cp mp b i j :=
  ⟨h.pr.below hb, cell_up' hb h.p0, cell_up' hb h.p1, cell_up' hb h.p2, cell_up' hb h.d2, cell_up' hb h.d3, h.nl, h.nc, h.pm, h.wp⟩
theorem Pq.stepP (h : Pq q d w0 w pp lp cp mp b i j) (hp : Ps q w w' pp lp cp b k t) : Pq q d w0 w' pp lp cp mp b k j := by
  obtain ⟨m, v, hL⟩ := hp.lx
  have h1 := Nat.ne_of_gt h.pr.lm
  have h2 := Nat.ne_of_gt h.pr.cm
  exact ⟨h.pr.stepL hL, hp.p0, hL.held.cell' h.p1 h.nl h.nc, hp.p2, hL.held.cell' h.d2 h1 h2, hL.held.cell' h.d3 h1 h2, h.nl, h.nc, h.pm, h.wp⟩
theorem Pq.stepD (h : Pq q d w0 w pp lp cp mp b i j) (hp : Pd q d w w' mp b k t) : Pq q d w0 w' pp lp cp mp b i k := by
  have hm := Nat.ne_of_lt h.pm
  exact ⟨h.pr.stepC hp.cx, hp.cx.held.cell' h.p0 hm hm, hp.cx.held.cell' h.p1 hm hm, hp.cx.held.cell' h.p2 hm hm, hp.d2, hp.d3, h.nl, h.nc, h.pm, h.wp⟩
theorem Pq.new {w1 w2 : World} {ao : Option Addr} {cap : Nat} (h : Sl w0 (.slice ao b.length cap) b) (hl : b.length ≤ 900000) (n : Int) (h1 : Below w0.heap.size w0 w1) (hP : Ps false w2 w2 pp lp cp b 0 b) (hd : w2.cell? ⟨pp, 1, none⟩ = some (.int .i64 (min (max n 0) 28))) (h2 : Below w1.heap.size w1 w2) (hpp : w1.heap.size ≤ pp) (hlp : w1.heap.size ≤ lp) (hcp : w1.heap.size ≤ cp) (T : TypeId) :
    Pq false (dep n) w0 (w2.alloc (.cells #[.slice ao b.length cap, .int .i64 0, .int .i64 (min (max n 0) 28), .bool false] T)) pp lp cp w2.heap.size b 0 0 := by
  obtain ⟨m, v, hL⟩ := hP.lx
  have h3 := below_then h1 h2
  have ha2 : 0 < b.length → ∀ a, ao = some a → a.block < w0.heap.size := fun h0 a ha => by
    obtain ⟨ao', cap', q1, _, _, _, q4⟩ := h
    injection q1 with e1 e2 e3
    subst e1
    obtain ⟨bb, off, q1, q2, _⟩ := q4.some h0
    rw [q1] at ha; injection ha with ha; subst ha; exact q2
  have hD := Pd.new (h.up h3) hl n T
  obtain ⟨ao1, cap1, hl0, hlow⟩ := hL.lex
  obtain ⟨ao2, cap2, g1, g2⟩ := hD.cx.cur
  have hzp := World.block_lt_of_cell? _ _ hP.p0
  have e0 := g1.c0
  rw [World.cell?_alloc_at _ _ _ _ rfl] at e0
  have e1 : ao2 = ao := by
    injection e0 with e0; injection e0 with e0; exact e0.symm
  subst e1
  rw [← dep_cast] at hd
  exact ⟨⟨⟨ao1, cap1, _, _, hl0.same (alb _ _), hlow.ao⟩, ⟨ao2, cap2, g1, ha2⟩, below_then h3 (alb _ _), hlow.lp, hlow.cp, Nat.le_trans h1.size hlp, Nat.le_trans h1.size hcp⟩, cell_up' (alb _ _) hP.p0, cell_up' (alb _ _) hd, cell_up' (alb _ _) hP.p2, hD.d2, hD.d3, hP.nl, hP.nc, hzp, Nat.le_trans h1.size hpp⟩
theorem Pq.at_ (h : Pq q d w0 w pp lp cp mp b i j) (ht : b.drop i = b.drop j) : i = j := by
  have h1 := h.pr.ile
  have h2 := h.pr.jle
  have h3 := congrArg List.length ht
  rw [List.length_drop, List.length_drop] at h3
  omega
end
end Go.Proofs.Ytlmgklebikcbjaa

/-
  ParseValues: any bytes, however deep one may go: the value that stands there, or what is wrong first, and where the reader stands; the walk. Condition: none but what its arguments read as.
-/
namespace Go.Proofs.Ytlmgklebikcbjaa
open Go.RowKit
set_option linter.unusedVariables false

set_option maxHeartbeats 3200000 in
set_option maxRecDepth 100000 in
theorem values_any (v : Value) (b : List UInt8) (n : Int) (w : World) (h : Sl w v b) (hn : (Lit.int .i64 n).wf = true) :
    Calls Try.prog 11 #[v, .int .i64 n] w fun e w' => e = .returned (.bool true) ∧ Below w.heap.size w w' := by
  obtain ⟨ao, cap, rfl, -, -, -, -⟩ := id h
  by_cases hl : (b.length : Int) > 800
  · go_enter Try.func11, Try.ntmps11
    go_wp2_with (go_at_call 36; refine (awake12_any _).mono ?_; rintro e w1 ⟨rfl, hb1⟩)
    go_ret
    exact ⟨rfl, hb1⟩
  · have hl2 : b.length ≤ 800 := by omega
    go_enter Try.func11, Try.ntmps11
    go_wp2_with (first | (go_at_call 36; refine (awake12_any _).mono ?_; rintro e w1 ⟨rfl, hb1⟩) | (go_at_call 42; refine (parse_new _ b n _ (h.up hb1) (by omega)).mono ?_; rintro e w2 ⟨pp, lp, cp, rfl, hpp, hlp, hcp, hP, hdc, hb2⟩) | (go_at_call 43; refine (rnew_any _ b n _ ((h.up hb1).up hb2) (by omega)).mono ?_; rintro e w3 ⟨rfl, rfl⟩; have hQ := Pq.new h (by omega) n hb1 hP hdc hb2 hpp hlp hcp 77))
    clear hP hdc hb2 hpp hlp hcp hb1
    generalize w2.heap.size = mp at *
    generalize w2.alloc (.cells #[.slice ao b.length cap, .int .i64 0, .int .i64 (min (max n 0) 28), .bool false] 77) = w4 at *
    have hQ0 := hid hQ
    clear hQ
    go_loopw [7, 8, 9, 10, 11] (fun s7 _ _ _ _ wr => ∃ (k i : Nat), s7 = .int .i64 k ∧ k ≤ 3 ∧ Pq false (dep n) w wr pp lp cp mp b i i) (fun s7 _ _ _ _ _ => 3 - (intOf s7).toNat)
    case atStart => exact ⟨0, 0, rfl, by omega, hQ0.out⟩
    case round =>
      obtain ⟨k, i, rfl, hk, hQ⟩ := hrel
      by_cases hlt : k < 3
      · have hz : (k : Int) < 3 := by omega
        go_upto_region 12 with (first | (go_at_call 45; refine (rvalue_top (hQ.below (alb _ _)).pd (rvalue_all (by omega) _ (dep_le n))).mono ?_; rintro e w6 ⟨res2, hpv2, hvq2⟩; obtain rfl := PV.one hpv2 hpv; obtain ⟨vs2, rfl, hov2, j2, hPd⟩ := hvq2.both; have hQ := (hQ.below (alb _ _)).stepD hPd; have hD := hPd.cx.drp; have hV2 := hov2.v5; have hm5 : ∀ g, w5.heap.size ≤ g → g ≠ mp := (fun g hg => by have := hQ5.out.pr.hi; omega); have hov1 := hid ((HOV1.out.up (alb _ _)).keep (B := fun g => wr.heap.size ≤ g ∧ g < w5.heap.size) (w' := w6) (fun _ h => h) (fun g hg hlt => hPd.cx.held.block g hlt (by have := hQr.out.pr.hi; have := hg.1; omega) (by have := hQr.out.pr.hi; have := hg.1; omega))); have hX5 := (C5.new w5 _ rfl [.int .i64 y1, .int .i64 y2, .slice y3 y6 y7, .slice y4 y8 y9, .slice y5 y10 y11] 61).held hPd.cx.held (hm5 _ (Nat.le_refl _)) (hm5 _ (Nat.le_refl _)); have hov2 := hid hov2; obtain ⟨z1, z2, z3, z4, z5, z6, z7, z8, z9, z10, z11, rfl⟩ := hV2) | (go_at_call 44; have hQr := hid hQ; refine (value_top hQ.ps hQ.p1 (value_all (by omega) _ (dep_le n))).mono ?_; rintro e w5 ⟨res, hpv, hvq⟩; obtain ⟨vs1, rfl, hov1, j1, hPs⟩ := hvq.both; have hQ := hQ.stepP hPs; have hQ5 := hid hQ; have hD1 := hPs.drp; have hV1 := hov1.v5; have HOV1 := hid hov1; clear hov1; obtain ⟨y1, y2, y3, y4, y5, y6, y7, y8, y9, y10, y11, rfl⟩ := hV1))
        have hQ7 := hQ.below (alb w6 (.cells #[.int .i64 z1, .int .i64 z2, .slice z3 z6 z7, .slice z4 z8 z9, .slice z5 z10 z11] 61))
        obtain rfl := hQ7.at_ (hD1.trans hD.symm)
        have hX7 := hX5.up (alb w6 (.cells #[.int .i64 z1, .int .i64 z2, .slice z3 z6 z7, .slice z4 z8 z9, .slice z5 z10 z11] 61))
        have hY7 := C5.new w6 _ rfl [.int .i64 z1, .int .i64 z2, .slice z3 z6 z7, .slice z4 z8 z9, .slice z5 z10 z11] 61
        have hS1 := hid ((hov1.out.up (alb w6 (.cells #[.int .i64 z1, .int .i64 z2, .slice z3 z6 z7, .slice z4 z8 z9, .slice z5 z10 z11] 61))))
        have hS2 := hid ((hov2.out.up (alb w6 (.cells #[.int .i64 z1, .int .i64 z2, .slice z3 z6 z7, .slice z4 z8 z9, .slice z5 z10 z11] 61))))
        have hc0 : (res2.code != res2.code) = false := by simp
        have hc1 : ((j1 : Int) != (j1 : Int)) = false := by simp
        generalize res2.code = c0 at *
        have HQ7 := hid hQ7
        clear hQ hQ7 hD1 hD hX5 hov1 hov2
        generalize w6.alloc (.cells #[.int .i64 z1, .int .i64 z2, .slice z3 z6 z7, .slice z4 z8 z9, .slice z5 z10 z11] 61) = w7 at *
        generalize w5.heap.size = g8 at *
        generalize w6.heap.size = g10 at *
        have HS := hid (show ∀ X, Below w7.heap.size w7 X → (X.cell? ⟨g8, 0, none⟩ = some (.int .i64 y1) ∧ X.cell? ⟨g8, 1, none⟩ = some (.int .i64 y2) ∧ X.cell? ⟨g8, 2, none⟩ = some (.slice y3 y6 y7) ∧ X.cell? ⟨g8, 3, none⟩ = some (.slice y4 y8 y9) ∧ X.cell? ⟨g8, 4, none⟩ = some (.slice y5 y10 y11) ∧ X.cell? ⟨g10, 0, none⟩ = some (.int .i64 z1) ∧ X.cell? ⟨g10, 1, none⟩ = some (.int .i64 z2) ∧ X.cell? ⟨g10, 2, none⟩ = some (.slice z3 z6 z7) ∧ X.cell? ⟨g10, 3, none⟩ = some (.slice z4 z8 z9) ∧ X.cell? ⟨g10, 4, none⟩ = some (.slice z5 z10 z11) ∧ X.cell? ⟨mp, 1, none⟩ = some (.int .i64 (j1 : Int)) ∧ X.cell? ⟨pp, 0, none⟩ = some (.pointer (some ⟨lp, 0, none⟩)) ∧ X.cell? ⟨lp, 0, none⟩ = some (.pointer (some ⟨cp, 0, none⟩))) from fun X hX => ⟨cell_up' hX (hX7.1 0), cell_up' hX (hX7.1 1), cell_up' hX (hX7.1 2), cell_up' hX (hX7.1 3), cell_up' hX (hX7.1 4), cell_up' hX (hY7.1 0), cell_up' hX (hY7.1 1), cell_up' hX (hY7.1 2), cell_up' hX (hY7.1 3), cell_up' hX (hY7.1 4), cell_up' hX HQ7.out.pr.c1, cell_up' hX HQ7.out.p0, cell_up' hX HQ7.out.pr.p0⟩)
        have HSA := hid (same_of hS1.out _ _ hS2.out)
        clear hX7 hY7 hS1 hS2
        obtain ⟨s0, s1, s2, s3, s4, s5, s6, s7, s8, s9, s10, s11, s12⟩ := HS.out w7 (Below.refl _ _)
        go_region_held3 (fun X => (X.cell? ⟨g8, 0, none⟩ = some (.int .i64 y1) ∧ X.cell? ⟨g8, 1, none⟩ = some (.int .i64 y2) ∧ X.cell? ⟨g8, 2, none⟩ = some (.slice y3 y6 y7) ∧ X.cell? ⟨g8, 3, none⟩ = some (.slice y4 y8 y9) ∧ X.cell? ⟨g8, 4, none⟩ = some (.slice y5 y10 y11) ∧ X.cell? ⟨g10, 0, none⟩ = some (.int .i64 z1) ∧ X.cell? ⟨g10, 1, none⟩ = some (.int .i64 z2) ∧ X.cell? ⟨g10, 2, none⟩ = some (.slice z3 z6 z7) ∧ X.cell? ⟨g10, 3, none⟩ = some (.slice z4 z8 z9) ∧ X.cell? ⟨g10, 4, none⟩ = some (.slice z5 z10 z11) ∧ X.cell? ⟨mp, 1, none⟩ = some (.int .i64 (j1 : Int)) ∧ X.cell? ⟨pp, 0, none⟩ = some (.pointer (some ⟨lp, 0, none⟩)) ∧ X.cell? ⟨lp, 0, none⟩ = some (.pointer (some ⟨cp, 0, none⟩)))) (first | go_keep | exact HS.out _ (below_drewN (Below.refl _ _) 1) | exact HS.out _ (by assumption) | skip) (first | (go_at_call 41; refine (HSA.out _ (below_drewN (Below.refl _ _) _)).mono ?_; rintro e w9 ⟨rfl, hb9⟩; have hb9 : Below w7.heap.size w7 w9 := ((below_drewN (Below.refl _ _) _).trans hb9)) | (go_at_call 46; refine (at_p (HQ7.out.below hb9).ps).mono ?_; rintro e w10 ⟨rfl, rfl⟩) | (go_at_call 21; obtain ⟨m9, v9, hLx⟩ := (HQ7.out.below hb9).pr.lx; refine (pos_l hLx).mono ?_; rintro e w10 ⟨rfl, rfl⟩))
        all_goals
          go_wp2_with fail
          go_roundw
          case rel => exact ⟨k + 1, j1, by go_num, by omega, HQ7.out.below hb9⟩
          case measure => simp [intOf]; omega
      · obtain rfl : k = 3 := by omega
        have hb := hQ.pr.bel
        clear hQ
        go_wp2_with (first | (go_at_call 41; refine (HSA.out _ (Below.refl _ _)).mono ?_; rintro e w9 ⟨rfl, hb9⟩) | (go_at_call 47; refine (rpall_any _ b n _ (h.up (below_then (below_then hb hbx) (alb _ _))) (by omega)).mono ?_; rintro e w6 ⟨res2, hpv2, hvq2⟩; obtain rfl := PV.one hpv2 hpv; obtain ⟨vs2, rfl, hov2, hby⟩ := hvq2.both; have hV2 := hov2.v5; have hX5 := (C5.new w5 _ rfl [.int .i64 y1, .int .i64 y2, .slice y3 y6 y7, .slice y4 y8 y9, .slice y5 y10 y11] 61).up hby; obtain ⟨xc, xf, xs⟩ := id hX5; have HSA := hid (same_of (((hov1.up (alb w5 (.cells #[.int .i64 y1, .int .i64 y2, .slice y3 y6 y7, .slice y4 y8 y9, .slice y5 y10 y11] 61))).up hby).up (alb w6 (.cells vs2.toArray 61))) _ _ (hov2.up (alb w6 (.cells vs2.toArray 61)))); obtain ⟨z1, z2, z3, z4, z5, z6, z7, z8, z9, z10, z11, rfl⟩ := hV2) | (go_at_call 40; refine (pall_any _ b n _ (h.up hb) (by omega)).mono ?_; rintro e w5 ⟨res, hpv, hvq⟩; obtain ⟨vs1, rfl, hov1, hbx⟩ := hvq.both; have hV1 := hov1.v5; obtain ⟨y1, y2, y3, y4, y5, y6, y7, y8, y9, y10, y11, rfl⟩ := hV1))
        go_ret
        exact ⟨rfl, below_then (below_then (below_then (below_then (below_then hb hbx) (alb _ _)) hby) (alb _ _)) hb9⟩
end Go.Proofs.Ytlmgklebikcbjaa
