/-
  All operators of some bytes. Condition: these are no more than 3600000.
-/
import Derived.Test.YtjkoiknjffldjaaGreatDoorKCop
/-
  All operators of some bytes. Condition: these are no more than 3600000.
-/
namespace Go.Proofs.YtjkoiknjffldjaaGreatDoor
open Go.RowKit
set_option linter.unusedVariables false

theorem DI.fit {keys : List (List UInt8)} {ents : List (List UInt8 × PO)} {s : List UInt8} {r : PRes} (h : DI keys ents s r) : ∀ o t, r = .ok o t → t.length < s.length := by
  induction h with
  | err hT => intro o t q; cases q
  | close hT => intro o t q; injection q with _ q; subst q; exact TK_rest hT (by decide)
  | eof hT => intro o t q; cases q
  | form hT _ _ _ => intro o t q; cases q
  | twice hT _ => intro o t q; cases q
  | stop hT _ hv => intro o t q; cases q
  | step hT _ hv _ ih =>
    intro o t q
    have h1 := ih o t q
    have h2 := TK_rest hT (by decide)
    have h3 := hv.fit
    simp only [PRes.fit] at h3
    omega
theorem imgF_fit {s : List UInt8} {x r : List UInt8} (h : imgF s = .inr (x, r)) : r.length ≤ s.length := by
  unfold imgF at h
  split at h
  · cases h
  · split at h
    · split at h
      · injection h with h; injection h with _ h; subst h; rw [List.length_drop, List.length_cons]; omega
      · cases h
    · cases h
theorem bik_fit {m : Nat} {a : Int} {res : PRes} {o : CO} {r : List UInt8} (h : bik m a res = .op o r) : ∃ d t, res = .ok d t ∧ r.length ≤ t.length := by
  cases res with
  | bad e t => cases h
  | ok d t =>
    refine ⟨d, t, rfl, ?_⟩
    unfold bik at h
    simp only [] at h
    cases hF : imgF t with
    | inl e => rw [hF] at h; cases h
    | inr y =>
      obtain ⟨x, r2⟩ := y
      rw [hF] at h
      simp only [] at h
      split at h
      · injection h with _ h; subst h; exact imgF_fit hF
      · cases h
theorem OP.fit {N : Nat} {args : List PO} {s : List UInt8} {res : ORes} (h : OP N args s res) : ∀ o r, res = .op o r → r.length < s.length := by
  induction h with
  | err hT => intro o r q; cases q
  | fin hT => intro o r q; cases q
  | eof hT _ => intro o r q; cases q
  | word hT _ _ => intro o r q; injection q with _ q; subst q; exact TK_rest hT (by decide)
  | img hT hd =>
    intro o r q
    obtain ⟨d, t, h1, h2⟩ := bik_fit q
    have h3 := hd.fit d t h1
    have h4 := TK_rest hT (by decide)
    omega
  | stop _ _ _ _ => intro o r q; cases q
  | much _ _ _ _ _ => intro o r q; cases q
  | step _ _ _ hv _ _ ih =>
    intro o r q
    have h1 := ih o r q
    have h3 := hv.fit
    simp only [PRes.fit] at h3
    omega
theorem OP.ne {N : Nat} {args : List PO} {s : List UInt8} {res : ORes} (h : OP N args s res) : ∀ e, res = .bad e → (e == 0) = false := by
  induction h with
  | err hT => intro e q; injection q with q; subst q; exact TK_err hT
  | fin hT => intro e q; cases q
  | eof hT _ => intro e q; injection q with q; subst q; rfl
  | word hT _ _ => intro e q; cases q
  | @img args s n r res hT hd =>
    intro e q
    cases res with
    | bad x t => injection q with q; subst q; exact hd.ne _ _ rfl
    | ok d t =>
      unfold bik at q
      simp only [] at q
      cases hF : imgF t with
      | inl x => rw [hF] at q; injection q with q; subst q; exact imgF_ne hF
      | inr y =>
        obtain ⟨x, r2⟩ := y
        rw [hF] at q
        simp only [] at q
        split at q
        · cases q
        · injection q with q; subst q; rfl
  | stop _ _ _ hv => intro e q; injection q with q; subst q; exact hv.fit
  | much _ _ _ _ _ => intro e q; injection q with q; subst q; rfl
  | step _ _ _ _ _ _ ih => exact ih

theorem keepOP : KeepR OpV := fun A B w w' hA hk a b h => h.keep hA hk
/-- a row of operators as a slice -/
def AO (A : Nat → Prop) (w : World) (vo : Value) (l : List CO) : Prop := ∃ C : List (List Value), RowA A w 4 vo l.length (fun i => C.getD i []) ∧ All2 (OpV A w) C l
theorem AO.keep {A B : Nat → Prop} {w w' : World} {va : Value} {l : List CO} (h : AO A w va l) (hA : ∀ g, A g → B g) (hk : ∀ g, A g → g < w.heap.size → w'.heap[g]? = w.heap[g]?) : AO B w' va l := by
  obtain ⟨C, h1, h2⟩ := h
  exact ⟨C, h1.keep hA hk, h2.mono fun a b q => q.keep hA hk⟩
theorem AO.of {B : Nat} {w : World} {v : Value} {C : List (List Value)} {l : List CO} (h : RowG (fun c => c) OpV 4 51 B w v C l) {A : Nat → Prop} (hA : ∀ g, B ≤ g → g < w.heap.size → A g) : AO A w v l := by
  have h1 := h.row.row hA
  rw [List.map_id'] at h1
  rw [All2.len h.rel] at h1
  exact ⟨C, h1, h.wide keepOP hA⟩
/-- what All gives -/
def AlQ (w : World) : LRes → Ending → World → Prop
  | .bad x, e, w' => e = .returned (.tuple #[.slice none 0 0, .int .i64 x]) ∧ Below w.heap.size w w'
  | .ok l, e, w' => ∃ vo, e = .returned (.tuple #[vo, .int .i64 0]) ∧ AO (fun g => w.heap.size ≤ g ∧ g < w'.heap.size) w' vo l ∧ Below w.heap.size w w'
theorem geq_any (a c : Int) (t : TypeId) : binOp .geq t (.int .i64 a) (.int .i64 c) = pure (.bool (decide (c ≤ a))) := by
  simp [binOp, Op.intCmp]
abbrev zOp : Value := .agg #[.string ⟨#[]⟩, .slice none 0 0, .slice none 0 0, .int .i64 0]
theorem opTy' : Tryz.prog.underlying 44 = some (.slice 51) := by kernel_rfl
theorem opIn : (Tryz.prog.info? 51).map (fun i => (i.zero, i.size, i.bytes)) = some (some zOp, 4, 72) := by kernel_rfl

set_option maxHeartbeats 3200000 in
set_option maxRecDepth 100000 in
theorem all_any (v : Value) (b : List UInt8) (w : World) (h : Sl w v b) (hsb : b.length ≤ 3600000) :
    Calls Tryz.prog 13 #[v] w fun e w' => ∃ res, AL b.length [] b res ∧ AlQ w res e w' := by
  obtain ⟨ao, cap, rfl, -, -, -, -⟩ := id h
  have hnew := hid (reader_new _ b w h (by omega))
  go_enter Tryz.func13, Tryz.ntmps13
  go_wp2_with (go_at_call 23; refine hnew.out.mono ?_; rintro e w2 ⟨rp, pp, lp, cp, rfl, hR, hlc, hb2⟩)
  have hlo := hR.lt
  have hG : RowG (fun c => c) OpV 4 51 w2.heap.size w2 (.slice none 0 0) [] [] := RowG.nil _ _ _ _ _ _
  clear hnew
  go_loopw [5, 6, 7, 8] (fun s5 _ _ _ wr => ∃ l : List CO, ∃ C : List (List Value), ∃ p : Nat, ∃ t : List UInt8, Rs w2 wr rp pp lp cp b p t ∧ RowG (fun c => c) OpV 4 51 w2.heap.size wr s5 C l ∧ l.length + t.length ≤ b.length ∧ ∀ res, AL b.length l t res → AL b.length [] b res) (fun _ _ _ _ wr => remOf wr cp)
  case atStart => exact ⟨[], [], _, _, hR, hG, by simp, fun _ h => h⟩
  case round =>
    clear hR hG
    obtain ⟨l, C, p, t, hR, hG, hal, hback⟩ := hrel
    have hrm := hid hR.ps.rem
    have hBK := hid hback
    have hClen : C.length = l.length := All2.len hG.rel
    clear hback
    have hRl := hG.row.lin
    rw [List.length_map, hClen] at hRl
    obtain ⟨aol, capl, hvl⟩ := hRl
    subst hvl
    have hop := hid (op_any hR.fresh hsb)
    have hbel := hb2.trans (hR.ps.bel hb2.size hlc.1 hlc.2)
    have hbz := hbel.size
    have hrw := hR.ps.size
    by_cases hm : l.length < 100000
    · have tm : ∀ t, binOp .geq t (.int .i64 (l.length : Int)) (.int .i64 100000) = pure (.bool false) := fun t => (geq_any _ _ t).trans (by rw [decide_eq_false (by omega)])
      have hone : ∀ (nm : ByteArray) (y1 y2 : Option Addr) (y3 y4 y5 y6 : Nat) (z : Int), ∀ c ∈ ([[.string nm, .slice y1 y3 y4, .slice y2 y5 y6, .int .i64 z]] : List (List Value)), ∀ u ∈ c, u.oneCell' = true := fun nm y1 y2 y3 y4 y5 y6 z c hc => by
        rw [List.mem_singleton] at hc; subst hc
        intro u hu; simp at hu; rcases hu with rfl | rfl | rfl | rfl <;> rfl
      go_wp2_with (first | (at_builtin; refine wpList_append_slx rfl _ _ 44 rfl w2.heap.size 51 zOp 4 72 opTy' opIn rfl (by decide) (.slice aol l.length capl) C rfl hrow.out _ [[.string (st o9.name), .slice aov o9.args.length capv, .slice aod o9.data.length capd, .int .i64 o9.at_]] rfl (SlX.lit1 (w3.alloc (.cells #[.string (st o9.name), .slice aov o9.args.length capv, .slice aod o9.data.length capd, .int .i64 o9.at_] 51)) (w3.heap.size + 1) (by simp) [.string (st o9.name), .slice aov o9.args.length capv, .slice aod o9.data.length capd, .int .i64 o9.at_] _ 4 rfl) (hone _ _ _ _ _ _ _ _) (by simp; omega) (by decide) (by simp; omega) ?_; intro v8 w8 q1 q2 q3; obtain ⟨g8, cap8, rfl⟩ := q1.cons (by simp); have e8 : (C ++ ([[.string (st o9.name), .slice aov o9.args.length capv, .slice aod o9.data.length capd, .int .i64 o9.at_]] : List (List Value))).length = l.length + 1 := (by rw [List.length_append, hClen]; rfl); rw [e8] at q1 q3) | (go_at_call 24; refine hop.out.mono ?_; rintro e w3 ⟨res, hpv, hq⟩; have hrow4 := hG.row.lt; rcases res with x9 | _ | ⟨o9, t9⟩; (obtain ⟨rfl, j9, t9, hR3⟩ := hq; have bx := hpv.ne _ rfl; have hR := hR.joinR hR3); rotate_left; (obtain ⟨rfl, j9, t9, hR3⟩ := hq; have hR := hR.joinR hR3; have hG := hG.held keepOP hR3.ps.held (by omega) (by omega)); rotate_left; (obtain ⟨vs, rfl, hov, j9, hR3⟩ := hq; have hov0 := hid hov; obtain ⟨va, vd, rfl, hva, hvd⟩ := hov; obtain ⟨C5', ⟨aov, capv, rfl, -⟩, -⟩ := hva; obtain ⟨aod, capd, rfl, -, -, -, -⟩ := hvd.1; have hR := hR.joinR hR3; have hG := hG.held keepOP hR3.ps.held (by omega) (by omega); have hz3 := hR3.ps.size; have hBW := below_then (alb w3 (.cells #[.string (st o9.name), .slice aov o9.args.length capv, .slice aod o9.data.length capd, .int .i64 o9.at_] 51)) (alb _ (.cells #[.string (st o9.name), .slice aov o9.args.length capv, .slice aod o9.data.length capd, .int .i64 o9.at_] 51)); have hrow := hid (show OwX 4 51 ((w3.alloc (.cells #[.string (st o9.name), .slice aov o9.args.length capv, .slice aod o9.data.length capd, .int .i64 o9.at_] 51)).alloc (.cells #[.string (st o9.name), .slice aov o9.args.length capv, .slice aod o9.data.length capd, .int .i64 o9.at_] 51)) w2.heap.size (.slice aol l.length capl) C from (by simpa using (hG.up keepOP hBW).row))); rotate_left))
      · have hbe := hb2.trans (hR.ps.bel hb2.size hlc.1 hlc.2)
        exact bodyPost_ret (v := .tuple #[.slice none 0 0, .int .i64 x9]) (by simp [results, Tryz.results13, go_sem]) rfl ⟨_, hBK.out _ (AL.bad hpv), rfl, hbe.trans ((alb w3 (.cells #[.string ⟨#[]⟩, .slice none 0 0, .slice none 0 0, .int .i64 0] 51)).mono hbe.size)⟩
      · have hbe := hb2.trans (hR.ps.bel hb2.size hlc.1 hlc.2)
        have hG8 := hG.up keepOP (alb w3 (.cells #[.string ⟨#[]⟩, .slice none 0 0, .slice none 0 0, .int .i64 0] 51))
        exact bodyPost_ret (v := .tuple #[.slice aol l.length capl, .int .i64 0]) (by simp [results, Tryz.results13, go_sem]) rfl ⟨_, hBK.out _ (AL.fin hpv), _, rfl, AO.of hG8 (fun g h1 h2 => ⟨Nat.le_trans hb2.size h1, h2⟩), hbe.trans ((alb w3 (.cells #[.string ⟨#[]⟩, .slice none 0 0, .slice none 0 0, .int .i64 0] 51)).mono hbe.size)⟩
      · have hf := hpv.fit _ _ rfl
        have hR8 := (hR.below hBW).grow q2 (fun z hz => (hrow4 _ hz).1)
        have hG8 := (hG.up keepOP hBW).push keepOP (a := [.string (st o9.name), .slice aov o9.args.length capv, .slice aod o9.data.length capd, .int .i64 o9.at_]) (b := o9) (hov0.out.keep (fun g hg => ⟨by have := hg.1; omega, Nat.lt_of_lt_of_le hg.2 hBW.size, fun z => by have := (hrow4 _ z).2; have := hg.1; omega⟩) (fun g _ hlt => hBW.block g hlt)) (by simpa using q1) q2 q3
        go_roundw
        case rel => exact ⟨l ++ [o9], C ++ [[.string (st o9.name), .slice aov o9.args.length capv, .slice aod o9.data.length capd, .int .i64 o9.at_]], _, _, hR8, hG8, by rw [List.length_append, List.length_singleton]; omega, fun res hr => hBK.out _ (AL.step hpv hm hr)⟩
        case measure => rw [hR8.ps.rem, hrm.out]; omega
    · have tm : ∀ t, binOp .geq t (.int .i64 (l.length : Int)) (.int .i64 100000) = pure (.bool true) := fun t => (geq_any _ _ t).trans (by rw [decide_eq_true (by omega)])
      go_wp2_with (first | (go_at_call 24; refine hop.out.mono ?_; rintro e w3 ⟨res, hpv, hq⟩; have hrow4 := hG.row.lt; rcases res with x9 | _ | ⟨o9, t9⟩; (obtain ⟨rfl, j9, t9, hR3⟩ := hq; have bx := hpv.ne _ rfl; have hR := hR.joinR hR3); rotate_left; (obtain ⟨rfl, j9, t9, hR3⟩ := hq; have hR := hR.joinR hR3; have hG := hG.held keepOP hR3.ps.held (by omega) (by omega)); rotate_left; (obtain ⟨vs, rfl, hov, j9, hR3⟩ := hq; have hov0 := hid hov; obtain ⟨va, vd, rfl, hva, hvd⟩ := hov; obtain ⟨C5', ⟨aov, capv, rfl, -⟩, -⟩ := hva; obtain ⟨aod, capd, rfl, -, -, -, -⟩ := hvd.1; have hR := hR.joinR hR3; have hG := hG.held keepOP hR3.ps.held (by omega) (by omega); have hz3 := hR3.ps.size; have hBW := below_then (alb w3 (.cells #[.string (st o9.name), .slice aov o9.args.length capv, .slice aod o9.data.length capd, .int .i64 o9.at_] 51)) (alb _ (.cells #[.string (st o9.name), .slice aov o9.args.length capv, .slice aod o9.data.length capd, .int .i64 o9.at_] 51)); have hrow := hid (show OwX 4 51 ((w3.alloc (.cells #[.string (st o9.name), .slice aov o9.args.length capv, .slice aod o9.data.length capd, .int .i64 o9.at_] 51)).alloc (.cells #[.string (st o9.name), .slice aov o9.args.length capv, .slice aod o9.data.length capd, .int .i64 o9.at_] 51)) w2.heap.size (.slice aol l.length capl) C from (by simpa using (hG.up keepOP hBW).row))); rotate_left))
      · have hbe := hb2.trans (hR.ps.bel hb2.size hlc.1 hlc.2)
        exact bodyPost_ret (v := .tuple #[.slice none 0 0, .int .i64 x9]) (by simp [results, Tryz.results13, go_sem]) rfl ⟨_, hBK.out _ (AL.bad hpv), rfl, hbe.trans ((alb w3 (.cells #[.string ⟨#[]⟩, .slice none 0 0, .slice none 0 0, .int .i64 0] 51)).mono hbe.size)⟩
      · have hbe := hb2.trans (hR.ps.bel hb2.size hlc.1 hlc.2)
        have hG8 := hG.up keepOP (alb w3 (.cells #[.string ⟨#[]⟩, .slice none 0 0, .slice none 0 0, .int .i64 0] 51))
        exact bodyPost_ret (v := .tuple #[.slice aol l.length capl, .int .i64 0]) (by simp [results, Tryz.results13, go_sem]) rfl ⟨_, hBK.out _ (AL.fin hpv), _, rfl, AO.of hG8 (fun g h1 h2 => ⟨Nat.le_trans hb2.size h1, h2⟩), hbe.trans ((alb w3 (.cells #[.string ⟨#[]⟩, .slice none 0 0, .slice none 0 0, .int .i64 0] 51)).mono hbe.size)⟩
      · have hbe := hb2.trans (hR.ps.bel hb2.size hlc.1 hlc.2)
        exact bodyPost_ret (v := .tuple #[.slice none 0 0, .int .i64 7]) (by simp [results, Tryz.results13, go_sem]) rfl ⟨_, hBK.out _ (AL.lim hpv (by omega)), rfl, hbe.trans ((alb w3 (.cells #[.string (st o9.name), .slice aov o9.args.length capv, .slice aod o9.data.length capd, .int .i64 o9.at_] 51)).mono hbe.size)⟩
end Go.Proofs.YtjkoiknjffldjaaGreatDoor
