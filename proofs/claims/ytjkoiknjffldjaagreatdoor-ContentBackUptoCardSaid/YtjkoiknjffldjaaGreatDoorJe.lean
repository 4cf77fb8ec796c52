/-
  LexNames: any bytes but noughts, written as a name or a string, are read as they were; the statement's walk. Condition: its arguments read as bytes.
-/
import Derived.Test.YtjkoiknjffldjaaGreatDoorJd
import Derived.Test.YtjkoiknjffldjaaGreatDoorJc
import Derived.Lib.SlBytesConst
import Derived.Lib.SmallJoins
import Derived.Test.YtjkoiknjffldjaaGreatDoorJb
/-
  The document's token: what stands there, as the model reads it; the walk. Condition: the lexer stands in its bytes.
-/
namespace Go.Proofs.YtjkoiknjffldjaaGreatDoor
open Go.RowKit
set_option linter.unusedVariables false

section
variable {w0 w w' : World} {cp tp : Nat} {b : List UInt8} {i j : Nat} {s t : List UInt8} {k a n : Int} {vb u : Value} {out : List UInt8} {x : UInt8}

end
end Go.Proofs.YtjkoiknjffldjaaGreatDoor

/-
  The document's Token and Keyword; Stands; the walks. Condition: the lexer stands in its bytes.
-/
namespace Go.Proofs.YtjkoiknjffldjaaGreatDoor
open Go.RowKit
set_option linter.unusedVariables false

theorem Cx.rcell {w0 w w1 : World} {o : Obj} {cp : Nat} {b s s' : List UInt8} {i j : Nat} {u u' : Value} {out out' : List UInt8} (h0 : Cx w0 w cp b i s u out) (h : Cx (w.alloc o) w1 cp b j s' u' out') :
    (∀ k, w1.cell? ⟨w.heap.size, k, none⟩ = (w.alloc o).cell? ⟨w.heap.size, k, none⟩) ∧ (∀ k, w1.frozen? ⟨w.heap.size, k, none⟩ = (w.alloc o).frozen? ⟨w.heap.size, k, none⟩) ∧ w.heap.size < w1.heap.size ∧ cp < w.heap.size := by
  obtain ⟨ao, cap, h1, h2⟩ := h0.cur
  have q2 := World.block_lt_of_cell? _ _ h1.c0
  have q3 : w.heap.size < (w.alloc o).heap.size := by simp
  refine ⟨fun k => h.held.cell (a := ⟨w.heap.size, k, none⟩) q3 ?_ ?_, fun k => h.held.frozen (a := ⟨w.heap.size, k, none⟩) q3 ?_ ?_, Nat.lt_of_lt_of_le q3 h.held.size, q2⟩
  all_goals
    simp at q2 ⊢
    omega

section
variable {w0 w w' : World} {cp tp : Nat} {b : List UInt8} {i j : Nat} {s t : List UInt8} {k a n : Int} {vb u : Value} {out : List UInt8} {x : UInt8}

theorem Held.rcell {w1 w3 : World} {r : Nat} (h : Held w1.heap.size cp cp w1 w3) (hr : r < w1.heap.size) (hc : cp < r) :
    (∀ k, w3.cell? ⟨r, k, none⟩ = w1.cell? ⟨r, k, none⟩) ∧ (∀ k, w3.frozen? ⟨r, k, none⟩ = w1.frozen? ⟨r, k, none⟩) :=
  ⟨fun k => h.cell (a := ⟨r, k, none⟩) hr (by simp; omega) (by simp; omega), fun k => h.frozen (a := ⟨r, k, none⟩) hr (by simp; omega) (by simp; omega)⟩

/-- the stores to the result's own block -/
theorem Cx.close {w1 w3 : World} {u1 : Value} {o1 : List UInt8} {o : Obj} (h0 : Cx w0 w cp b i s u out) (h1 : Cx (w.alloc o) w1 cp b j t vb o1) {s3 : List UInt8} {i3 : Nat} {out3 : List UInt8} (h3 : Cx w1 w3 cp b i3 s3 u1 out3) (x0 x1 x2 x3 : Value) :
    Cx w0 ((((w3.setCell ⟨w.heap.size, 0, none⟩ x0).setCell ⟨w.heap.size, 1, none⟩ x1).setCell ⟨w.heap.size, 2, none⟩ x2).setCell ⟨w.heap.size, 3, none⟩ x3) cp b i3 s3 u1 out3 := by
  have hJ := ((h0.below (Below.alloc (Below.refl _ _) (Nat.le_refl _) o)).join h1).join h3
  have hz := h0.held.size
  have hu : u1.ownBlock ≠ some w.heap.size := fun q => by
    have g1 := (World.ownsRow.lt h3.row _ q).1
    have g2 := h1.held.size
    simp at g2
    omega
  exact (((hJ.store hz hu 0 x0).store hz hu 1 x1).store hz hu 2 x2).store hz hu 3 x3

/-- what the document's Token leaves -/
def TokS (T : TRes) (w0 : World) (cp : Nat) (b : List UInt8) (a : Nat) (e : Ending) (w' : World) : Prop :=
  match T with
  | .bad x => e = .returned (.tuple #[.agg #[.int .i64 0, .int .i64 a, .int .i64 0, .slice none 0 0], .int .i64 x]) ∧ Cx w0 w' cp b a (b.drop a) (.slice none 0 0) []
  | .tok k n out rest => ∃ u, e = .returned (.tuple #[.agg #[.int .i64 k, .int .i64 a, .int .i64 n, u], .int .i64 0]) ∧ ∃ i, Cx w0 w' cp b i rest u out

end
end Go.Proofs.YtjkoiknjffldjaaGreatDoor

/-
  Same, SameToken, a token as the document has it; the statements of chapter 11 are awake; the walks. Conditions: sizes.
-/
namespace Go.Proofs.YtjkoiknjffldjaaGreatDoor
open Go.RowKit
set_option linter.unusedVariables false

set_option maxHeartbeats 800000 in
theorem same_any (aa ab : Option Addr) (ca cb : Nat) (la lb : List UInt8) (w : World) (ha : Rd w aa la) (hb : Rd w ab lb) (hla : la.length ≤ maxLen) (hlb : lb.length ≤ maxLen) :
    Calls Tryz.prog 25 #[.slice aa la.length ca, .slice ab lb.length cb] w fun e w' => e = .returned (.bool (decide (la = lb))) ∧ ∃ n, w' = w.drewN n := by
  unfold maxLen at hla hlb
  by_cases hl : la.length = lb.length
  · rw [← hl] at hlb ⊢
    have HL := hid hl
    clear hl
    go_enter Tryz.func25, Tryz.ntmps25
    go_wp2
    go_loopw [5] (fun i wr => (∃ n, wr = w.drewN n) ∧ ∃ k : Nat, k ≤ la.length ∧ i = .int .i64 k ∧ ∀ j, j < k → b8 la j = b8 lb j) (fun i _ => la.length - (intOf i).toNat)
    case atStart => exact ⟨⟨0, rfl⟩, 0, Nat.zero_le _, rfl, fun _ h => by omega⟩
    case round =>
      obtain ⟨⟨n, rfl⟩, k, hk, rfl, hall⟩ := hrel
      by_cases hlt : k < la.length
      · obtain ⟨b1, o1, rfl, hs1, hc1⟩ := ha.some (by omega)
        obtain ⟨b2, o2, rfl, hs2, hc2⟩ := hb.some (by have := HL.out; omega)
        have hc1 := hc1 k hlt
        have hc2 := hc2 k (by have := HL.out; omega)
        by_cases heq : b8 la k = b8 lb k
        · have hz : (b8 la k != b8 lb k) = false := by simp [heq]
          have HE := hid heq
          have HA := hid hall
          clear heq hall ha hb
          go_wp2
          go_quiet (fail)
          go_wp2
          go_roundw
          case rel => exact ⟨by first | exact ⟨_, rfl⟩ | exact ⟨_, World.drewN_drewN _ _ _⟩, k + 1, by omega, by go_num, fun j hj => by
            by_cases hjk : j = k
            · subst hjk; exact HE.out
            · exact HA.out j (by omega)⟩
          case measure => simp [intOf]; omega
        · have hz : (b8 la k != b8 lb k) = true := by simp [heq]
          have HE := hid heq
          clear heq hall ha hb
          go_wp2
          go_quiet (fail)
          go_wp2
          go_ret
          exact ⟨ret_bool (decide_eq_false (ne_of_b8 HE.out)).symm, by first | exact ⟨_, rfl⟩ | exact ⟨_, World.drewN_drewN _ _ _⟩⟩
      · have HA := hid hall
        clear hall ha hb
        go_wp2
        go_ret
        have : la = lb := eq_of_b8 HL.out (fun j hj => HA.out j (by omega))
        exact ⟨ret_bool (decide_eq_true this).symm, _, rfl⟩
  · have hz : ((la.length : Int) != (lb.length : Int)) = true := by simp; omega
    have HL := hid hl
    clear hl
    go_enter Tryz.func25, Tryz.ntmps25
    go_wp2
    go_ret
    exact ⟨ret_bool (decide_eq_false (fun h => HL.out (by rw [h]))).symm, 0, rfl⟩
theorem same_sl (u v : Value) (la lb : List UInt8) (w : World) (hu : Sl w u la) (hv : Sl w v lb) :
    Calls Tryz.prog 25 #[u, v] w fun e w' => e = .returned (.bool (decide (la = lb))) ∧ ∃ n, w' = w.drewN n := by
  obtain ⟨aa, ca, rfl, h1, h2, h3, h4⟩ := hu
  obtain ⟨ab, cb, rfl, g1, g2, g3, g4⟩ := hv
  exact same_any aa ab ca cb la lb w h4 g4 (by omega) (by omega)

theorem alb (w : World) (o : Obj) : Below w.heap.size w (w.alloc o) := Below.alloc (Below.refl _ _) (Nat.le_refl _) _

theorem Sl.litM (w : World) (vs : Array Value) (l : List UInt8) (n : Nat) (e : TypeId) (fr : Nat × Nat) (h : vs = (l.map bv).toArray) (hn : n = l.length) (hl : l.length ≤ 4000000) : Sl (w.alloc (.cells vs e fr)) (.slice (Option.some ⟨w.heap.size, 0, none⟩) n n) l := by
  subst h; subst hn
  refine ⟨_, _, rfl, Nat.le_refl _, by unfold maxLen; omega, (fun q => by cases q), .inr ⟨w.heap.size, 0, rfl, fun j hj => ?_⟩⟩
  rw [Nat.zero_add, World.cell?_alloc_mark]
  simp [List.getD, hj, bv, b8]

theorem lex_made (v : Value) (b : List UInt8) (w : World) (h : Sl w v b) (hl : b.length ≤ 4000000) :
    Calls Tryz.prog 59 #[v] w fun e w' => ∃ lp cp, e = .returned (.pointer (some ⟨lp, 0, none⟩)) ∧ w.heap.size ≤ lp ∧ w.heap.size ≤ cp ∧ Lx w' w' lp cp b 0 b (.int .i64 0) (.slice none 0 0) (.slice none 0 0) [] ∧ Below w.heap.size w w' := by
  refine (lex_new v b w h hl).mono ?_
  rintro e w' ⟨rfl, ⟨ao, cap, hq⟩, hb⟩
  exact ⟨_, _, rfl, by omega, Nat.le_refl _, Lx.start hq, hb⟩

theorem tk_awake1 : TK [47, 65, 35, 52, 50, 32] = .tok 4 0 [65, 66] [32] := by decide +kernel
theorem tk_awake2 : TK [32] = .tok 0 0 [] [] := by decide +kernel

/-- what a lexer's calls leave of the rest -/
theorem Lx.out0 {w0 w1 w : World} {lp cp : Nat} {b s : List UInt8} {i : Nat} {m v u : Value} {out : List UInt8} (h : Lx w1 w lp cp b i s m v u out) (hb : Below w0.heap.size w0 w1) (h1 : w0.heap.size ≤ lp) (h2 : w0.heap.size ≤ cp) : Below w0.heap.size w0 w :=
  hb.trans (h.held.below hb.size h1 h2)

end Go.Proofs.YtjkoiknjffldjaaGreatDoor

/-
  LexTokens: any bytes: token by token, to the end or the first that is none; the statement's walk. Condition: none but what its argument reads as.
-/
namespace Go.Proofs.YtjkoiknjffldjaaGreatDoor
open Go.RowKit
set_option linter.unusedVariables false

theorem Lx.fix {w0 w : World} {lp cp : Nat} {ao : Option Addr} {cap : Nat} {b s : List UInt8} {i j : Nat} {m0 v0 m v u : Value} {out : List UInt8} (h : LexAt w0 lp cp ao cap b i m0 v0) (k : Lx w0 w lp cp b j s m v u out) : LexAt w lp cp ao cap b j m v := by
  obtain ⟨ao', cap', k1, k2⟩ := k.lex
  have e := k2.c0
  rw [h.cur.c0] at e
  injection e with e
  injection e with e1 e2 e3
  subst e1; subst e3
  exact k1
theorem Cx.fix {w0 w : World} {cp : Nat} {ao : Option Addr} {cap : Nat} {b s : List UInt8} {i j : Nat} {u : Value} {out : List UInt8} (h : CurAt w0 cp ao cap b i) (k : Cx w0 w cp b j s u out) : CurAt w cp ao cap b j := by
  obtain ⟨ao', cap', k1, k2⟩ := k.cur
  have e := k2.c0
  rw [h.c0] at e
  injection e with e
  injection e with e1 e2 e3
  subst e1; subst e3
  exact k1

/-- a lexer of the document's, new -/
theorem cur_box {w : World} {ao : Option Addr} {cap : Nat} {b : List UInt8} (h : Sl w (.slice ao b.length cap) b) (hl : b.length ≤ 4000000) (e : TypeId) :
    CurAt (w.alloc (.cells #[.slice ao b.length cap, .int .i64 0] e)) w.heap.size ao cap b 0 := by
  obtain ⟨ao', cap', h1, c1, c2, c3, c4⟩ := h
  injection h1 with e1 e2 e3
  subst e1; subst e3
  refine ⟨?_, ?_, ?_, c4.up (alb _ _), c1, c2, c3, Nat.zero_le _, hl, ?_⟩
  · rw [World.cell?_alloc_at _ _ _ _ rfl]; rfl
  · rw [World.cell?_alloc_at _ _ _ _ rfl]; rfl
  · exact World.frozen?_alloc_at _ _ _ _ rfl
  · intro h0 a ha
    obtain ⟨bb, off, h1, h2, _⟩ := c4.some h0
    rw [h1] at ha; injection ha with ha; subst ha
    show bb ≠ w.heap.size
    omega

end Go.Proofs.YtjkoiknjffldjaaGreatDoor

/-
  LexNames: any bytes but noughts, written as a name or a string, are read as they were; the statement's walk. Condition: its arguments read as bytes.
-/
namespace Go.Proofs.YtjkoiknjffldjaaGreatDoor
open Go.RowKit
set_option linter.unusedVariables false

theorem TK_at (x : UInt8) (t : List UInt8) (h : wh (c8 x) = false) (h' : ¬ c8 x = 37) : bl (x :: t) false = 0 ∧ TK (x :: t) = tk (x :: t) := by
  have hb : bl (x :: t) false = 0 := by rw [bl, if_neg (by rw [h]; decide), if_neg h']
  exact ⟨hb, by unfold TK; rw [hb]; rfl⟩
theorem ptx_hd (s : List UInt8) : ∃ x t, ptx s = x :: t ∧ (x = 40 ∨ x = 60) := by
  unfold ptx; split
  · exact ⟨_, _, rfl, .inl rfl⟩
  · exact ⟨_, _, rfl, .inr rfl⟩
theorem ptx_len (s : List UInt8) : (ptx s).length ≤ 2 * s.length + 2 := by
  unfold ptx; split
  · simp; omega
  · simp [dgts_len]
theorem TK_ptx (s : List UInt8) (hs : s.length ≤ 32767) : bl (ptx s) false = 0 ∧ TK (ptx s) = .tok 3 0 s [] := by
  have h := tk_ptx s [] hs
  rw [List.append_nil] at h
  obtain ⟨x, t, e, hx⟩ := ptx_hd s
  rw [e] at h ⊢
  rw [← h]
  rcases hx with rfl | rfl <;> exact TK_at _ _ (by decide) (by decide)
theorem TK_pnm (b s : List UInt8) (h0 : ∀ c ∈ b, ¬ c = 0) (hl : b.length ≤ 127) : bl (47 :: b.flatMap pn1 ++ ptx s) false = 0 ∧ TK (47 :: b.flatMap pn1 ++ ptx s) = .tok 4 0 b (ptx s) := by
  have hr : rg (hd (ptx s)) = false := by
    obtain ⟨x, t, e, hx⟩ := ptx_hd s
    rw [e, hd_cons]
    rcases hx with rfl | rfl <;> decide
  have h := tk_pnm b (ptx s) h0 hl hr
  have h2 := TK_at 47 (b.flatMap pn1 ++ ptx s) (by decide) (by decide)
  rw [List.cons_append]
  exact ⟨h2.1, h2.2.trans h⟩
theorem TK_nil : TK [] = .tok 0 0 [] [] := rfl

/-- a cell that is not the lexer's stays, whatever the lexer reads -/
theorem Lx.ckeep {w0 w w' : World} {o : Obj} {lp cp : Nat} {b s s' : List UInt8} {i j : Nat} {m v u m' v' u' : Value} {out out' : List UInt8} (h : Lx w0 w lp cp b i s m v u out) (h' : Lx (w.alloc o) w' lp cp b j s' m' v' u' out') (hz : w0.heap.size ≤ w.heap.size := by exact Nat.le_refl _) {a : Addr} {x : Value} (ha : w0.heap.size ≤ a.block) (hc : (w.alloc o).cell? a = Option.some x) : w'.cell? a = Option.some x := by
  obtain ⟨ao, cap, h1, h2⟩ := h.lex
  have q1 := h2.lp
  have q2 := h2.cp
  rw [h'.held.cell (World.block_lt_of_cell? _ _ hc) (by omega) (by omega)]
  exact hc

end Go.Proofs.YtjkoiknjffldjaaGreatDoor
