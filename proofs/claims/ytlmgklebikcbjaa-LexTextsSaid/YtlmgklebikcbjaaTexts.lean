/-
  LexTexts: a string with whatever escapes, pairs of brackets, ends of line: its bytes; without its end it is none; the statement's walk. Condition: its arguments read as bytes.
-/
import Derived.Test.YtlmgklebikcbjaaNames
import Derived.Test.YtlmgklebikcbjaaPiece
namespace Go.Proofs.Ytlmgklebikcbjaa
open Go.RowKit
set_option linter.unusedVariables false

/-- v[:n] of a slice that reads as l -/
theorem sl_to {P : Program} {t e : TypeId} (T : BytesTy P t e) {w : World} {ao : Option Addr} {cap : Nat} {l : List UInt8} (h : Sl w (.slice ao l.length cap) l) (n : Nat) (hn : n ≤ l.length) :
    ∃ v, Sl w v (l.take n) ∧ ∀ w', (Instr.slice t (.slice ao l.length cap) none (some (.int .i64 n)) none).run P w' = .ok v w' := by
  obtain ⟨ao', cap', e1, h1, h2, h3, h4⟩ := h
  injection e1 with q1 q2 q3
  subst q1; subst q3
  have hT : P.underlying t = some (.slice (P.elem t)) := by rw [T.elemOf]; exact T.under
  have hlen : (l.take n).length = n := by simp; omega
  refine ⟨sliced ao 0 n cap 1, ⟨if cap = 0 then ao else ao.map (·.add (0 * 1)), cap - 0, ?_, ?_, ?_, ?_, ?_⟩, fun w' => ?_⟩
  · simp only [sliced]; rw [hlen, Nat.sub_zero]
  · rw [hlen]; omega
  · omega
  · intro hc
    by_cases he : cap = 0
    · omega
    · rw [if_neg he] at hc
      have : ao = none := by cases ao <;> simp_all
      have := h3 this; omega
  · by_cases he : cap = 0
    · have : n = 0 := by omega
      exact .inl (by rw [this]; simp)
    · rw [if_neg he, Nat.zero_mul]
      have := (h4.drop 0).take n
      rwa [List.drop_zero] at this
  · rw [run_slice_h w' t ao l.length cap hT .i64 n (by omega) (by omega), T.sizeRun w']
    simp [Result.andThen]

/-- parts in a row, and what they stand for -/
def pf (ps : List UInt8) : List UInt8 := ps.flatMap fun p => (pcs (p.toNat % 14)).1
def pg (ps : List UInt8) : List UInt8 := ps.flatMap fun p => (pcs (p.toNat % 14)).2
theorem pf_snoc (l : List UInt8) (k : Nat) (h : k < l.length) : pf (l.take (k + 1)) = pf (l.take k) ++ (pcs ((l.getD k 0).toNat % 14)).1 := by
  unfold pf; rw [List.take_succ_eq_append_getElem h, List.flatMap_append]; simp [List.getD, h]
theorem pg_snoc (l : List UInt8) (k : Nat) (h : k < l.length) : pg (l.take (k + 1)) = pg (l.take k) ++ (pcs ((l.getD k 0).toNat % 14)).2 := by
  unfold pg; rw [List.take_succ_eq_append_getElem h, List.flatMap_append]; simp [List.getD, h]
theorem pcs_len (k : Nat) : (pcs k).1.length ≤ 8 ∧ (pcs k).2.length ≤ 6 := by
  rcases k with _ | _ | _ | _ | _ | _ | _ | _ | _ | _ | _ | _ | _ | k <;> simp [pcs]
theorem pf_len (l : List UInt8) : (pf l).length ≤ 8 * l.length := by
  induction l with
  | nil => simp [pf]
  | cons c l ih => have := (pcs_len (c.toNat % 14)).1; unfold pf at *; rw [List.flatMap_cons, List.length_append, List.length_cons]; omega
theorem pg_len (l : List UInt8) : (pg l).length ≤ 6 * l.length := by
  induction l with
  | nil => simp [pg]
  | cons c l ih => have := (pcs_len (c.toNat % 14)).2; unfold pg at *; rw [List.flatMap_cons, List.length_append, List.length_cons]; omega
theorem TK_pf (ps raw : List UInt8) (h : ps.length ≤ 60) : bl ([40] ++ pf ps ++ [41] ++ raw) false = 0 ∧ TK ([40] ++ pf ps ++ [41] ++ raw) = .tok 3 0 (pg ps) raw := by
  have h1 := tk_parts (ps.map fun p => p.toNat % 14) raw (by simpa using h)
  rw [List.flatMap_map, List.flatMap_map] at h1
  have e : [40] ++ pf ps ++ [41] ++ raw = 40 :: (pf ps ++ 41 :: raw) := by simp
  rw [e]
  have h2 := TK_at 40 (pf ps ++ 41 :: raw) (by decide) (by decide)
  exact ⟨h2.1, h2.2.trans h1⟩
theorem TK_pf_short (ps : List UInt8) (h : ps.length ≤ 60) : TK (([40] ++ pf ps ++ [41]).take (([40] ++ pf ps ++ [41]).length - 1)) = .bad 2 := by
  have h1 := tk_short (ps.map fun p => p.toNat % 14) (by simpa using h)
  rw [List.flatMap_map] at h1
  have e : ([40] ++ pf ps ++ [41]).take (([40] ++ pf ps ++ [41]).length - 1) = 40 :: pf ps := by
    have : ([40] ++ pf ps ++ [41] : List UInt8).length - 1 = ([40] ++ pf ps).length := by simp
    rw [this, List.take_left]; rfl
  rw [e]
  exact (TK_at 40 (pf ps) (by decide) (by decide)).2.trans h1

set_option maxHeartbeats 6400000 in
set_option maxRecDepth 100000 in
theorem texts_any (v1 : Value) (ps : List UInt8) (v2 : Value) (raw : List UInt8) (w : World) (h1 : Sl w v1 ps) (h2 : Sl w v2 raw) :
    Calls Try.prog 6 #[v1, v2] w fun e w' => e = .returned (.bool true) ∧ Below w.heap.size w w' := by
  obtain ⟨ao1, cap1, rfl, a1, a2, a3, a4⟩ := id h1
  obtain ⟨ao2, cap2, rfl, c1, c2, c3, c4⟩ := id h2
  go_enter Try.func6, Try.ntmps6
  by_cases hs : 60 < ps.length
  · have t1 : decide ((60 : Int) < (ps.length : Int)) = true := decide_eq_true (by omega)
    go_wp2_with (go_at_call 15; refine (awake_any _).mono ?_; rintro e w1 ⟨rfl, hb1⟩)
    go_ret
    exact ⟨rfl, hb1⟩
  by_cases hb : 60 < raw.length
  · have t1 : decide ((60 : Int) < (ps.length : Int)) = false := decide_eq_false (by omega)
    have t2 : decide ((60 : Int) < (raw.length : Int)) = true := decide_eq_true (by omega)
    go_wp2_with (go_at_call 15; refine (awake_any _).mono ?_; rintro e w1 ⟨rfl, hb1⟩)
    go_ret
    exact ⟨rfl, hb1⟩
  have t1 : decide ((60 : Int) < (ps.length : Int)) = false := decide_eq_false (by omega)
  have t2 : decide ((60 : Int) < (raw.length : Int)) = false := decide_eq_false (by omega)
  go_wp2_with (go_at_call 15; refine (awake_any _).mono ?_; rintro e w1 ⟨rfl, hb1⟩)
  go_loopw [5, 6, 7, 8, 9] (fun vb vw i _ _ wr => ∃ k : Nat, k ≤ ps.length ∧ i = .int .i64 k ∧ OwnB wr w.heap.size 5 vb (pf (ps.take k)) ∧ OwnB wr w.heap.size 5 vw (pg (ps.take k)) ∧ Apart wr vb vw ∧ Below w.heap.size w wr) (fun _ _ i _ _ _ => ps.length - (intOf i).toNat)
  case atStart => exact ⟨0, Nat.zero_le _, rfl, OwnB.nil _ _ _, OwnB.nil _ _ _, (fun g hg => by cases hg), hb1⟩
  case round =>
    clear hb1
    obtain ⟨k, hk, rfl, hob, how, hap, hbel⟩ := hrel
    have hsz := hbel.size
    by_cases hlt : k < ps.length
    · obtain ⟨g1, o1, rfl, hs1, hc1⟩ := (a4.up hbel).some (by omega)
      specialize hc1 k hlt
      have hb8 : b8 ps k = c8 (ps.getD k 0) := rfl
      rw [hb8] at hc1
      clear hb8
      have hsn := pf_snoc ps k hlt
      have hgn := pg_snoc ps k hlt
      have hl1 := pf_len (ps.take k)
      have hl2 := pg_len (ps.take k)
      rw [List.length_take] at hl1 hl2
      have hl1 : (pf (ps.take k)).length ≤ 1000 := by omega
      have hl2 : (pg (ps.take k)).length ≤ 1000 := by omega
      generalize ps.getD k 0 = x at hc1 hsn hgn
      have hpl := pcs_len (x.toNat % 14)
      have hpa := fun w => piece_any x w
      generalize pf (ps.take k) = B at hob hsn hl1
      generalize pg (ps.take k) = C at how hgn hl2
      generalize (pcs (x.toNat % 14)).1 = S at hsn hpl hpa
      generalize (pcs (x.toNat % 14)).2 = R at hgn hpl hpa
      have hpl1 := hpl.1
      have hpl2 := hpl.2
      clear hpl
      go_wp2_with (first | (go_at_call 25; refine (hpa _).mono ?_; rintro e w1 ⟨rfl, rfl⟩) | (at_builtin; refine wpList_append_st bytesTy rfl _ _ 9 (by kernel_rfl) rfl w.heap.size _ C R rfl (how.grow q2 hap.ne) rfl (by omega) (by have := q2.size; omega) ?_; intro v2 w3 p1 p2 p3) | (at_builtin; refine wpList_append_st bytesTy rfl _ _ 9 (by kernel_rfl) rfl w.heap.size _ B S rfl hob rfl (by omega) (by omega) ?_; intro v1 w2 q1 q2 q3))
      have how2 := how.grow q2 hap.ne
      have hap2 := hap.moved q3 q2.size
      have hap3 := (hap2.symm q1).moved p3 p2.size
      have hob3 := q1.grow p2 (hap2.symm q1).ne
      have hB2 : Below w.heap.size w w2 := below_append hbel hob q2 (Nat.le_refl _) hsz
      have hB3 : Below w.heap.size w w3 := below_append hB2 how2 p2 (Nat.le_refl _) hB2.size
      have hap4 := hap3.symm p1
      rw [← hsn] at hob3
      rw [← hgn] at p1
      clear q2 q3 p2 p3 hap hap2 hap3 how how2 hob hbel hB2
      go_roundw
      case rel => exact ⟨k + 1, by omega, by go_num, hob3, p1, hap4, hB3⟩
      case measure => simp [intOf]; omega
    · rw [List.take_of_length_le (by omega)] at hob how
      have T1 := hid (TK_pf ps raw (by omega))
      have T2 := hid (TK_pf_short ps (by omega))
      have hl1 := pf_len ps
      have hl2 := pg_len ps
      obtain ⟨Z, hZ⟩ : ∃ Z, [40] ++ pf ps ++ [41] = Z := ⟨_, rfl⟩
      have hzl : Z.length ≤ 1000 := by rw [← hZ, List.length_append, List.length_append]; simp; omega
      have hz1 : 1 ≤ Z.length := by rw [← hZ, List.length_append, List.length_append]; simp
      have hlz : ((Z.length : Int) - 1) = ((Z.length - 1 : Nat) : Int) := by omega
      rw [hZ] at T1 T2
      generalize pf ps = B at hob hl1 hZ
      generalize pg ps = C at how hl2 T1
      have HZ := hid hZ
      have hSw := Sl.own how
      obtain ⟨aob, capb, rfl, b1, b2, b4, b3⟩ := Sl.own hob
      obtain ⟨aow, capw, rfl, -, -, -⟩ := Rd.own how
      have hnk : ¬ ((k : Int) < (ps.length : Int)) := by omega
      clear hZ hlt hk
      go_wp2_with (first | (at_builtin; refine wpList_append_keep bytesTy rfl _ _ rfl wr.heap.size _ Z raw rfl s1 ao2 _ cap2 rfl rfl c3 (c4.up hB5) (by omega) hR5.size ?_; intro v6 w6 k1 k2 k3 k4; have hR6 : Below wr.heap.size wr w6 := below_append hR5 s1 k3 (Nat.le_refl _) hR5.size; clear k3 k4) | (at_builtin; refine wpList_append_bytes bytesTy rfl _ _ rfl wr.heap.size _ ([40] ++ B) [byteOf 41] rfl (r1.alloc _) _ 1 1 rfl rfl (fun q => by cases q) (Rd.byteM _ _ _ _ (by simp) (by omega) (by omega)) (by simp; omega) (by have := hR4.size; simp; omega) ?_; intro v5 w5 s1 s2 s3; have e41 : byteOf 41 = 41 := (by decide); rw [e41, HZ.out] at s1; have hR5 : Below wr.heap.size wr w5 := below_append (hR4.alloc hR4.size _) (r1.alloc _) s2 (Nat.le_refl _) (by have := hR4.size; simp; omega); clear s2 s3; have hB5 : Below w.heap.size w w5 := below_then' hbel hR5; obtain ⟨ao5, cap5, rfl, -, -, -⟩ := Rd.own s1) | (at_builtin; refine wpList_append_bytes bytesTy rfl _ _ rfl wr.heap.size _ [40] B rfl (OwnB.litg _ 40 _ _ _ _ rfl (by simp) (by simp)) aob _ capb rfl rfl b4 (b3.up (alb _ _)) (by simp; omega) (by simp) ?_; intro v4 w4 r1 r2 r3; have hR4 : Below wr.heap.size wr w4 := below_append (alb _ _) (OwnB.litg wr 40 40 5 wr.heap.size wr.heap.size rfl rfl (Nat.le_refl _)) r2 (Nat.le_refl _) (by simp); clear r2 r3) | (go_at_call 16; refine (lex_made _ _ _ (hS9.up (below_then (alb _ _) (below_drewN (Below.refl _ _) n9))) (by simp; omega)).mono ?_; rintro e w10 ⟨lp', cp', rfl, hlp', hcp', hL', hb10⟩) | (go_at_call 16; refine (lex_made _ _ _ (Sl.own k1) (by simp; omega)).mono ?_; rintro e w7 ⟨lp, cp, rfl, hlp, hcp, hL, hb7⟩; have hR7 := below_then' hR6 hb7 hR6.size) | (go_at_call 17; (with_reducible refine (token_q (TK_good _) hL').mono ?_); rw [T2.out]; rintro e w11 ⟨rfl, m11, v11, u11, o11, hL11⟩) | (go_at_call 17; (with_reducible refine (token_q (TK_good _) hL).mono ?_); rw [T1.out.2, T1.out.1]; rintro e w8 ⟨u8, rfl, j8, m8, y8, hL8⟩; obtain ⟨ao8, cap8, rfl, -, -, -⟩ := Rd.own hL8.row; have p0 := hL8.p0; have zl := World.block_lt_of_cell? _ _ p0; have hlr : wr.heap.size ≤ lp := Nat.le_trans hR6.size hlp; have hcr : wr.heap.size ≤ cp := Nat.le_trans hR6.size hcp; have hR8 := hL8.out0 hR7 hlr hcr; have S8 := Sl.own hL8.row; have k2' : OwnB w8 wr.heap.size 5 (.slice ao5 Z.length cap5) Z := (k2.up hb7).held hL8.held (fun g hg => by have := (World.ownsRow.lt k2 g hg).2; exact ⟨by omega, by omega⟩); obtain ⟨u9, hS9, hsl⟩ := sl_to bytesTy (t := 25) (Sl.own k2') (Z.length - 1) (Nat.sub_le _ _)) | (go_at_call 24; refine (same_sl _ _ C C _ (S8.up (alb _ _)) (hSw.up (below_then' hR8 (alb _ _) hR8.size))).mono ?_; rw [decide_eq_true (rfl : C = C)]; rintro e w9 ⟨rfl, n9, rfl⟩) | (go_at_call 21; refine (pos_l ((hL8.below (alb _ _)).drew n9)).mono ?_; rintro e w1 ⟨rfl, rfl⟩; obtain rfl : j8 = Z.length := (by have := hL8.at_; rw [List.length_append] at this; omega)))
      go_ret
      have hB8 : Below w.heap.size w w8 := below_then' hbel hR8
      have hB9 : Below w.heap.size w w10 := below_then' (below_then' hB8 (below_then (alb w8 _) (below_drewN (Below.refl _ _) n9)) hB8.size) hb10 (Nat.le_trans hB8.size (by simp))
      have hlp2 : w.heap.size ≤ lp' := Nat.le_trans hB8.size (Nat.le_trans (by simp) hlp')
      have hcp2 : w.heap.size ≤ cp' := Nat.le_trans hB8.size (Nat.le_trans (by simp) hcp')
      have hB11 := hL11.out0 hB9 hlp2 hcp2
      exact ⟨rfl, hB11.trans ((alb w11 _).mono hB11.size)⟩
end Go.Proofs.Ytlmgklebikcbjaa
