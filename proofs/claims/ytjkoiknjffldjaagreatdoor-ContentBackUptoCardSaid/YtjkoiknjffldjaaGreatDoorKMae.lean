/-
  The document's mayEntries, may at each depth, May. Conditions: none but what is said.
-/
import Derived.Test.YtjkoiknjffldjaaGreatDoorKMay
/-
  The document's mayEntries, may at each depth, May. Conditions: none but what is said.
-/
namespace Go.Proofs.YtjkoiknjffldjaaGreatDoor
open Go.RowKit
set_option linter.unusedVariables false

theorem tq {P : Program} {md : Region.Mode} {ops : Array Oper} {Q : Exit → Act → World → Prop} {S : World → Prop} {fuel : Nat} {listed : Array Bool} {a : Act} {w : World} (i : Nat) {oi : Oper} (v : Value) (hS : S w)
    (hy : ∀ w, S w → (execOp a.eval oi).run P w = .ok (.value v) w) (h : wpAnyH P md ops Q S fuel (listed.setIfInBounds i true) (a.put oi.dst v) w)
    (hi : ops[i]? = some oi := by simp only [List.getElem?_toArray, List.getElem?_cons_succ, List.getElem?_cons_zero] <;> rfl) (hs : Region.noSelect ops = true := by kernel_rfl) (hf : Region.free md ops listed i = true := by kernel_rfl) (hr : (Region.ready md ops listed).contains i = true := by kernel_rfl)
    (hQ : ∀ c a w, Q (.panic c) (a.put oi.dst v) w → Q (.panic c) a w := by exact fun _ _ _ h => h) (hw : Region.wanted oi (yielded ops a.tmps) = true := by rfl) : wpAnyH P md ops Q S (fuel + 1) listed a w :=
  wpAnyH_take hi hs hf hr hQ (.inl ⟨hw, hy⟩) hS h
theorem tu {P : Program} {md : Region.Mode} {ops : Array Oper} {Q : Exit → Act → World → Prop} {S : World → Prop} {fuel : Nat} {listed : Array Bool} {a : Act} {w : World} (i : Nat) {oi : Oper} (hS : S w)
    (h : wpAnyH P md ops Q S fuel (listed.setIfInBounds i true) (a.put oi.dst undef) w)
    (hi : ops[i]? = some oi := by simp only [List.getElem?_toArray, List.getElem?_cons_succ, List.getElem?_cons_zero] <;> rfl) (hs : Region.noSelect ops = true := by kernel_rfl) (hf : Region.free md ops listed i = true := by kernel_rfl) (hr : (Region.ready md ops listed).contains i = true := by kernel_rfl)
    (hQ : ∀ c a w, Q (.panic c) (a.put oi.dst undef) w → Q (.panic c) a w := by exact fun _ _ _ h => h) (hw : Region.wanted oi (yielded ops a.tmps) = false := by rfl) : wpAnyH P md ops Q S (fuel + 1) listed a w :=
  wpAnyH_take hi hs hf hr hQ (.inr ⟨hw, rfl⟩) hS h
theorem Sl.conv2 (w : World) (s : List UInt8) (e : TypeId) (hs : s.length ≤ reachBytes) :
    Sl (w.drew.alloc (.cells (bytesRow (st s) (grownCap w (st s).size 0 e)) e ((bytesRow (st s) (grownCap w (st s).size 0 e)).size, (bytesRow (st s) (grownCap w (st s).size 0 e)).size + 1))) (.slice (some ⟨w.heap.size, 0, none⟩) (st s).size (grownCap w (st s).size 0 e)) s := by
  have hz : (st s).size = s.length := st_size s
  refine ⟨_, grownCap w (st s).size 0 e, by rw [hz], by rw [← hz]; exact grownCap_ge w _ 0 e, grownCap_le_maxLen w _ 0 e (by rw [hz]; unfold maxLen; unfold reachBytes at hs; omega), (fun q => by cases q), .inr ⟨w.heap.size, 0, rfl, fun j hj => ?_⟩⟩
  have h1 := World.cell?_alloc_mark w.drew (bytesRow (st s) (grownCap w (st s).size 0 e)) e ((bytesRow (st s) (grownCap w (st s).size 0 e)).size, (bytesRow (st s) (grownCap w (st s).size 0 e)).size + 1) (0 + j)
  have hj' : j < (st s).data.size := by show j < s.toArray.size; simpa using hj
  rw [Nat.zero_add] at h1 ⊢
  rw [bytesRow_at _ _ _ hj'] at h1
  refine Eq.trans h1 ?_
  unfold b8 st
  simp [List.getD, hj]
  rfl
theorem conv_sl (w : World) (e : TypeId) (s : List UInt8) (g : Nat) (hg : g = w.heap.size) (hs : s.length ≤ reachBytes) :
    Sl (convW w e s) (.slice (Option.some ⟨g, 0, none⟩) s.length (convC w e s)) s := by
  subst hg
  have h := Sl.conv2 w s e hs
  have e1 : Value.slice (Option.some ⟨w.heap.size, 0, none⟩) s.length (convC w e s) = Value.slice (Option.some ⟨w.heap.size, 0, none⟩) (st s).size (grownCap w (st s).size 0 e) := by rw [st_size]; unfold convC; rw [st_size]
  rw [e1]
  exact h
theorem chk_all {f : PO → Bool} {b : List UInt8} {d : List (List UInt8 × PO)} (hb : ¬ (b.length : Int) > 16777216) (h : ∀ j, j < d.length → chkE f d j = true) : entF (some f) b d = true := by
  unfold entF
  simp only []
  rw [decide_eq_true (by omega), Bool.true_and, List.all_eq_true]
  exact fun j hj => h j (List.mem_range.1 hj)
theorem chk_no {f : PO → Bool} {b : List UInt8} {d : List (List UInt8 × PO)} {j : Nat} (hj : j < d.length) (h : chkE f d j = false) : entF (some f) b d = false := by
  unfold entF
  simp only []
  have h2 : (List.range d.length).all (chkE f d) = false := List.all_eq_false.2 ⟨j, List.mem_range.2 hj, by rw [h]; decide⟩
  rw [h2, Bool.and_false]
theorem keyAt_at {d : List (List UInt8 × PO)} {j : Nat} (h : j < d.length) : keyAt d j = d[j].1 := by unfold keyAt; simp [List.getD, h]
theorem valAt_at {d : List (List UInt8 × PO)} {j : Nat} (h : j < d.length) : valAt d j = d[j].2 := by unfold valAt; simp [List.getD, h]

set_option maxHeartbeats 6400000 in
set_option maxRecDepth 100000 in
theorem ent_of (dp : Nat) (hdp : dp ≤ 28) (hM : ∀ m, dp = m + 1 → MayC m) : EntC dp := by
  intro z k n b l d vs w hz hgv
  have hzz : 0 ≤ z ∧ z ≤ 28 := by omega
  cases hgv with
  | mk k n vb vl vd b l d Cl Cd hk hb hbz hl hle hlz hl' hd hde hdz hk' hd' =>
  obtain ⟨ab, cb, rfl, -⟩ := id hb
  obtain ⟨al, cl, rfl, -⟩ := id hl
  obtain ⟨ad, cd, rfl, -⟩ := id hd
  rw [hle]
  rw [hde] at hd ⊢
  have HO := hid (C5.new w _ rfl [.int .i64 k, .int .i64 n, .slice ab b.length cb, .slice al l.length cl, .slice ad d.length cd] 34)
  have HD := hid hd
  have HK := hid hk'
  have HV := hid hd'
  have hdm : d.length ≤ 9223372036854775807 := by unfold reachBytes at hdz; omega
  clear hb hl hd hl' hk' hd' hk hbz hlz hdz
  have kb := fun (w : World) (s : List UInt8) => convW_run (P := Tryz.prog) 9 24 5 (by kernel_rfl) Tryz.underlying24 Tryz.underlying5 w s
  rcases dp with _ | m
  · obtain rfl : z = 0 := hz
    have HF := hid (show entF (prevF 0) b d = false from rfl)
    go_enter Tryz.func55, Tryz.ntmps55
    go_wp2
    go_ret
    exact ⟨by rw [HF.out]; rfl, alb _ _⟩
  have hz1 : ¬ z < 1 := by omega
  have HZ := hid hz
  clear hz
  have HMM := hid (hM m rfl)
  clear hM
  by_cases hbl : (b.length : Int) > 16777216
  · have HF := hid (show entF (prevF (m + 1)) b d = false from by unfold entF prevF; simp only []; rw [decide_eq_false (by omega)]; rfl)
    go_enter Tryz.func55, Tryz.ntmps55
    go_wp2
    go_ret
    exact ⟨by rw [HF.out]; rfl, alb _ _⟩
  have hwz : IntKind.i64.wrap (z - 1) = z - 1 := IntWalk.i64_in _ (by omega)
  go_enter Tryz.func55, Tryz.ntmps55
  go_wp2
  go_loopw [5, 6] (fun s5 _ wr => ∃ i : Nat, s5 = .int .i64 i ∧ i ≤ d.length ∧ (∀ j, j < i → chkE (mayF m) d j = true) ∧ Below w.heap.size w wr ∧ C5 wr w.heap.size [.int .i64 k, .int .i64 n, .slice ab b.length cb, .slice al l.length cl, .slice ad d.length cd]) (fun s5 _ _ => d.length - (intOf s5).toNat)
  case atStart => exact ⟨0, rfl, Nat.zero_le _, fun j h => absurd h (Nat.not_lt_zero _), alb _ _, HO.out⟩
  case round =>
    obtain ⟨i, rfl, hi, hbef, hB, hC⟩ := hrel
    have HB := hid hbef
    clear hbef
    by_cases hlt : i < d.length
    rotate_left
    · obtain rfl : i = d.length := by omega
      have hzi : ¬ (d.length : Int) < (d.length : Int) := by omega
      have HF := hid (show entF (prevF (m + 1)) b d = true from chk_all (by omega) HB.out)
      obtain ⟨oc, of_, os⟩ := id hC
      go_wp2
      go_ret
      exact ⟨by rw [HF.out]; rfl, hB⟩
    have hzi : (i : Int) < (d.length : Int) := by omega
    have hSw := HD.out.up hB
    obtain ⟨g, off, rfl, hcell⟩ := hSw.some (by omega)
    have hCi : i < Cd.length := by omega
    have l2 := hcell i hCi
    obtain ⟨hke, hkz⟩ := HK.out i hCi hlt
    have hgi := HV.out i hCi hlt
    have hv5 := hgi.v5
    have hk1 := hgi.kind1
    have HGI := hid hgi
    have HPV := hid (show ∀ i', i = i' + 1 → wr.cell? ⟨g, off + i' * 6, none⟩ = some (.string (st (keyAt d i'))) from fun i' q => by
      have h1 : i' < Cd.length := by omega
      have h2 : i' < d.length := by omega
      have h3 := (HK.out i' h1 h2).1
      rw [keyAt_at h2]
      have h4 := hcell i' h1 0 _ (by rw [← List.head?_eq_getElem?]; exact h3)
      exact h4)
    have hka := keyAt_at hlt
    have hva := valAt_at hlt
    have HCK := hid (show ∀ (c1 c2 c5 : Bool), nmOk (keyAt d i) = c1 → (decide (0 < i) && kle (keyAt d i) (keyAt d (i - 1))) = c2 → mayF m (valAt d i) = c5 → chkE (mayF m) d i = (c1 && !c2 && (valAt d i).kind != 8 && (valAt d i).kind != 0 && c5) from fun c1 c2 c5 h1 h2 h3 => by unfold chkE; rw [h1, h2, h3])
    rw [hva] at HCK
    rw [← hka] at hke hkz
    have HCN := hid (show chkE (mayF m) d i = false → entF (prevF (m + 1)) b d = false from fun h => chk_no hlt h)
    clear hka hva
    generalize hkk : keyAt d i = key at hke hkz HCK
    have HKK := hid hkk
    clear hkk
    generalize d[i]'hlt = e at HGI hv5 hk1 HCK hgi
    generalize hci : Cd[i]'hCi = ci at l2 hke HGI hv5 hk1 hgi
    rcases ci with _ | ⟨c0, ct⟩
    · cases hke
    injection hke with hke
    subst hke
    simp only [List.tail_cons] at HGI hv5 hk1 hgi
    obtain ⟨p1, p2, p3, p4, p5, p6, p7, p8, p9, p10, p11, rfl⟩ := hv5
    have hk1 : p1 = e.2.kind := by simpa using hk1
    rw [← hk1] at HCK
    have HK1 := hid hk1
    have q0 := l2 0 _ rfl
    have q1 := l2 1 _ rfl
    have q2 := l2 2 _ rfl
    have q3 := l2 3 _ rfl
    have q4 := l2 4 _ rfl
    have q5 := l2 5 _ rfl
    rw [Nat.add_zero] at q0
    have hgw := World.block_lt_of_cell? _ _ q0
    clear l2 hcell hk1 hSw hci hgi
    have hsk := st_toList key
    obtain ⟨oc, of_, os⟩ := id hC
    go_upto_region 7 with fail
    have hbe := alb wr (.cells #[.string (st key), .int .i64 p1, .int .i64 p2, .slice p3 p6 p7, .slice p4 p8 p9, .slice p5 p10 p11] 41)
    have hE := C5.new wr _ rfl [.string (st key), .int .i64 p1, .int .i64 p2, .slice p3 p6 p7, .slice p4 p8 p9, .slice p5 p10 p11] 41
    have hBe := below_then hB hbe
    have hCe := hC.up hbe
    have HPE := hid (fun i' (q : i = i' + 1) => cell_up' hbe (HPV.out i' q))
    have HMA := hid (fun X (hX : Below (wr.alloc (.cells #[.string (st key), .int .i64 p1, .int .i64 p2, .slice p3 p6 p7, .slice p4 p8 p9, .slice p5 p10 p11] 41)).heap.size (wr.alloc (.cells #[.string (st key), .int .i64 p1, .int .i64 p2, .slice p3 p6 p7, .slice p4 p8 p9, .slice p5 p10 p11] 41)) X) => HMM.out (z - 1) e.2 [.int .i64 p1, .int .i64 p2, .slice p3 p6 p7, .slice p4 p8 p9, .slice p5 p10 p11] X (by have := HZ.out; omega) (HGI.out.up (hBe.trans (hX.mono hBe.size))))
    have hsz : (wr.alloc (.cells #[.string (st key), .int .i64 p1, .int .i64 p2, .slice p3 p6 p7, .slice p4 p8 p9, .slice p5 p10 p11] 41)).heap.size = wr.heap.size + 1 := by simp
    have hck : ∀ (w : World) (a : Addr) (v : Value), w.cell? a = some v → (convW w 5 key).cell? a = some v := fun w a v hq => cell_up' (convW_below _ _ _) hq
    clear q0 q1 q2 q3 q4 q5 oc of_ os hC hbe hB HPV
    generalize wr.alloc (.cells #[.string (st key), .int .i64 p1, .int .i64 p2, .slice p3 p6 p7, .slice p4 p8 p9, .slice p5 p10 p11] 41) = we at *
    generalize wr.heap.size = eb at *
    obtain ⟨oc, of_, os⟩ := id hE
    have b4 := hCe.1 4
    cases i with
    | zero =>
      have HSX := hid (show ∀ X : World, Below we.heap.size we X → (X.cell? ⟨eb, 0, none⟩ = some (.string (st key)) ∧ X.cell? ⟨eb, 1, none⟩ = some (.int .i64 p1) ∧ X.cell? ⟨eb, 2, none⟩ = some (.int .i64 p2) ∧ X.cell? ⟨eb, 3, none⟩ = some (.slice p3 p6 p7) ∧ X.cell? ⟨eb, 4, none⟩ = some (.slice p4 p8 p9) ∧ X.cell? ⟨eb, 5, none⟩ = some (.slice p5 p10 p11) ∧ X.cell? ⟨w.heap.size, 4, none⟩ = some (.slice (some ⟨g, off, none⟩) d.length cd)) from fun X hX => ⟨cell_up' hX (oc 0), cell_up' hX (oc 1), cell_up' hX (oc 2), cell_up' hX (oc 3), cell_up' hX (oc 4), cell_up' hX (oc 5), cell_up' hX b4⟩)
      refine wp_region_held_drew (S := (fun w' => w'.cell? ⟨eb, 0, none⟩ = some (.string (st key)) ∧ w'.cell? ⟨eb, 1, none⟩ = some (.int .i64 p1) ∧ w'.cell? ⟨eb, 2, none⟩ = some (.int .i64 p2) ∧ w'.cell? ⟨eb, 3, none⟩ = some (.slice p3 p6 p7) ∧ w'.cell? ⟨eb, 4, none⟩ = some (.slice p4 p8 p9) ∧ w'.cell? ⟨eb, 5, none⟩ = some (.slice p5 p10 p11) ∧ w'.cell? ⟨w.heap.size, 4, none⟩ = some (.slice (some ⟨g, off, none⟩) d.length cd))) (by kernel_rfl) ?_ (fun hHeld => ?_)
      · (try dsimp only)
        go_keep
      refine tq 0 ?_ hHeld ?_ ?_
      rotate_left
      · (intro w hSw; (try dsimp only at hSw); go_simp; (try with_reducible rfl))
      simp only [Act.put, List.setIfInBounds_toArray, List.set_cons_zero, List.set_cons_succ]
      refine tq 1 ?_ hHeld ?_ ?_
      rotate_left
      · (intro w hSw; (try dsimp only at hSw); go_simp; (try with_reducible rfl))
      simp only [Act.put, List.setIfInBounds_toArray, List.set_cons_zero, List.set_cons_succ]
      refine wpAnyH_ready (rs := [2]) (by kernel_rfl) (by simp) ?_
      refine AllReadyH.cons (o := _) (by simp only [List.getElem?_toArray, List.getElem?_cons_succ, List.getElem?_cons_zero]; rfl) (fun K hK => ?_) AllReadyH.nil
      go_simp
      refine hK.out _ _ ?_ (fun hHeld => ?_)
      · (try dsimp only)
        go_keep
      clear hK K
      (try simp only [Act.put, List.setIfInBounds_toArray, List.set_cons_zero, List.set_cons_succ])
      cases hc1 : nmOk key with
      | false =>
        have HF := hid (HCN.out (by rw [HCK.out false _ _ hc1 rfl rfl]; rfl))
        have HC1 := hid hc1
        clear hc1
        refine wpAnyH_ready (rs := [3]) (by kernel_rfl) (by simp) ?_
        refine AllReadyH.cons (o := _) (by simp only [List.getElem?_toArray, List.getElem?_cons_succ, List.getElem?_cons_zero]; rfl) (fun K hK => ?_) AllReadyH.nil
        go_simp; go_at_call 54; refine (rname_ok _ key _ (conv_sl _ _ key _ (by simp; omega) hkz)).mono ?_; rw [HC1.out]; rintro e w10 ⟨rfl, rfl⟩
        refine hK.out _ _ ?_ (fun hHeld => ?_)
        · (try dsimp only)
          go_keep
        clear hK K
        (try simp only [Act.put, List.setIfInBounds_toArray, List.set_cons_zero, List.set_cons_succ])
        refine tq 4 ?_ hHeld ?_ ?_
        rotate_left
        · (intro w hSw; (try dsimp only at hSw); go_simp; (try with_reducible rfl))
        simp only [Act.put, List.setIfInBounds_toArray, List.set_cons_zero, List.set_cons_succ]
        refine tq 5 ?_ hHeld ?_ ?_
        rotate_left
        · (intro w hSw; (try dsimp only at hSw); go_simp; (try with_reducible rfl))
        simp only [Act.put, List.setIfInBounds_toArray, List.set_cons_zero, List.set_cons_succ]
        refine tu 6 hHeld ?_
        simp only [Act.put, List.setIfInBounds_toArray, List.set_cons_zero, List.set_cons_succ]
        refine tu 7 hHeld ?_
        simp only [Act.put, List.setIfInBounds_toArray, List.set_cons_zero, List.set_cons_succ]
        refine tu 8 hHeld ?_
        simp only [Act.put, List.setIfInBounds_toArray, List.set_cons_zero, List.set_cons_succ]
        refine tu 9 hHeld ?_
        simp only [Act.put, List.setIfInBounds_toArray, List.set_cons_zero, List.set_cons_succ]
        refine tu 10 hHeld ?_
        simp only [Act.put, List.setIfInBounds_toArray, List.set_cons_zero, List.set_cons_succ]
        refine tu 11 hHeld ?_
        simp only [Act.put, List.setIfInBounds_toArray, List.set_cons_zero, List.set_cons_succ]
        refine tu 12 hHeld ?_
        simp only [Act.put, List.setIfInBounds_toArray, List.set_cons_zero, List.set_cons_succ]
        refine tu 13 hHeld ?_
        simp only [Act.put, List.setIfInBounds_toArray, List.set_cons_zero, List.set_cons_succ]
        refine tu 14 hHeld ?_
        simp only [Act.put, List.setIfInBounds_toArray, List.set_cons_zero, List.set_cons_succ]
        refine tu 15 hHeld ?_
        simp only [Act.put, List.setIfInBounds_toArray, List.set_cons_zero, List.set_cons_succ]
        refine tu 16 hHeld ?_
        simp only [Act.put, List.setIfInBounds_toArray, List.set_cons_zero, List.set_cons_succ]
        refine tu 17 hHeld ?_
        simp only [Act.put, List.setIfInBounds_toArray, List.set_cons_zero, List.set_cons_succ]
        refine tu 18 hHeld ?_
        simp only [Act.put, List.setIfInBounds_toArray, List.set_cons_zero, List.set_cons_succ]
        refine tu 19 hHeld ?_
        simp only [Act.put, List.setIfInBounds_toArray, List.set_cons_zero, List.set_cons_succ]
        refine tq 20 ?_ hHeld ?_ ?_
        rotate_left
        · (intro w hSw; (try dsimp only at hSw); go_simp; (try with_reducible rfl))
        simp only [Act.put, List.setIfInBounds_toArray, List.set_cons_zero, List.set_cons_succ]
        refine tq 21 ?_ hHeld ?_ ?_
        rotate_left
        · (intro w hSw; (try dsimp only at hSw); go_simp; (try with_reducible rfl))
        simp only [Act.put, List.setIfInBounds_toArray, List.set_cons_zero, List.set_cons_succ]
        refine tu 22 hHeld ?_
        simp only [Act.put, List.setIfInBounds_toArray, List.set_cons_zero, List.set_cons_succ]
        refine tu 23 hHeld ?_
        simp only [Act.put, List.setIfInBounds_toArray, List.set_cons_zero, List.set_cons_succ]
        refine tu 24 hHeld ?_
        simp only [Act.put, List.setIfInBounds_toArray, List.set_cons_zero, List.set_cons_succ]
        refine tu 25 hHeld ?_
        simp only [Act.put, List.setIfInBounds_toArray, List.set_cons_zero, List.set_cons_succ]
        refine tq 26 ?_ hHeld ?_ ?_
        rotate_left
        · (intro w hSw; (try dsimp only at hSw); go_simp; (try with_reducible rfl))
        simp only [Act.put, List.setIfInBounds_toArray, List.set_cons_zero, List.set_cons_succ]
        refine tq 27 ?_ hHeld ?_ ?_
        rotate_left
        · (intro w hSw; (try dsimp only at hSw); go_simp; (try with_reducible rfl))
        simp only [Act.put, List.setIfInBounds_toArray, List.set_cons_zero, List.set_cons_succ]
        refine tu 28 hHeld ?_
        simp only [Act.put, List.setIfInBounds_toArray, List.set_cons_zero, List.set_cons_succ]
        refine tu 29 hHeld ?_
        simp only [Act.put, List.setIfInBounds_toArray, List.set_cons_zero, List.set_cons_succ]
        refine tu 30 hHeld ?_
        simp only [Act.put, List.setIfInBounds_toArray, List.set_cons_zero, List.set_cons_succ]
        refine tu 31 hHeld ?_
        simp only [Act.put, List.setIfInBounds_toArray, List.set_cons_zero, List.set_cons_succ]
        refine tq 32 ?_ hHeld ?_ ?_
        rotate_left
        · (intro w hSw; (try dsimp only at hSw); go_simp; (try with_reducible rfl))
        simp only [Act.put, List.setIfInBounds_toArray, List.set_cons_zero, List.set_cons_succ]
        refine tq 33 ?_ hHeld ?_ ?_
        rotate_left
        · (intro w hSw; (try dsimp only at hSw); go_simp; (try with_reducible rfl))
        simp only [Act.put, List.setIfInBounds_toArray, List.set_cons_zero, List.set_cons_succ]
        refine tu 34 hHeld ?_
        simp only [Act.put, List.setIfInBounds_toArray, List.set_cons_zero, List.set_cons_succ]
        refine tu 35 hHeld ?_
        simp only [Act.put, List.setIfInBounds_toArray, List.set_cons_zero, List.set_cons_succ]
        refine tu 36 hHeld ?_
        simp only [Act.put, List.setIfInBounds_toArray, List.set_cons_zero, List.set_cons_succ]
        refine tu 37 hHeld ?_
        simp only [Act.put, List.setIfInBounds_toArray, List.set_cons_zero, List.set_cons_succ]
        refine tu 38 hHeld ?_
        simp only [Act.put, List.setIfInBounds_toArray, List.set_cons_zero, List.set_cons_succ]
        refine tu 39 hHeld ?_
        simp only [Act.put, List.setIfInBounds_toArray, List.set_cons_zero, List.set_cons_succ]
        refine tq 40 ?_ hHeld ?_ ?_
        rotate_left
        · (intro w hSw; (try dsimp only at hSw); go_simp; (try with_reducible rfl))
        simp only [Act.put, List.setIfInBounds_toArray, List.set_cons_zero, List.set_cons_succ]
        refine wpAnyH_done (by kernel_rfl) ?_ _
        have hbX := below_then (below_drewN (Below.refl we.heap.size we) 1) (convW_below (we.drewN 1) 5 key)
        go_wp2_with fail
        go_ret
        exact ⟨by rw [HF.out]; rfl, hBe.trans (hbX.mono hBe.size)⟩
      | true =>
        have HC1 := hid hc1
        clear hc1
        refine wpAnyH_ready (rs := [3]) (by kernel_rfl) (by simp) ?_
        refine AllReadyH.cons (o := _) (by simp only [List.getElem?_toArray, List.getElem?_cons_succ, List.getElem?_cons_zero]; rfl) (fun K hK => ?_) AllReadyH.nil
        go_simp; go_at_call 54; refine (rname_ok _ key _ (conv_sl _ _ key _ (by simp; omega) hkz)).mono ?_; rw [HC1.out]; rintro e w10 ⟨rfl, rfl⟩
        refine hK.out _ _ ?_ (fun hHeld => ?_)
        · (try dsimp only)
          go_keep
        clear hK K
        (try simp only [Act.put, List.setIfInBounds_toArray, List.set_cons_zero, List.set_cons_succ])
        refine tq 4 ?_ hHeld ?_ ?_
        rotate_left
        · (intro w hSw; (try dsimp only at hSw); go_simp; (try with_reducible rfl))
        simp only [Act.put, List.setIfInBounds_toArray, List.set_cons_zero, List.set_cons_succ]
        refine tq 5 ?_ hHeld ?_ ?_
        rotate_left
        · (intro w hSw; (try dsimp only at hSw); go_simp; (try with_reducible rfl))
        simp only [Act.put, List.setIfInBounds_toArray, List.set_cons_zero, List.set_cons_succ]
        refine tq 6 ?_ hHeld ?_ ?_
        rotate_left
        · (intro w hSw; (try dsimp only at hSw); go_simp; (try with_reducible rfl))
        simp only [Act.put, List.setIfInBounds_toArray, List.set_cons_zero, List.set_cons_succ]
        refine tq 7 ?_ hHeld ?_ ?_
        rotate_left
        · (intro w hSw; (try dsimp only at hSw); go_simp; (try with_reducible rfl))
        simp only [Act.put, List.setIfInBounds_toArray, List.set_cons_zero, List.set_cons_succ]
        refine tq 8 ?_ hHeld ?_ ?_
        rotate_left
        · (intro w hSw; (try dsimp only at hSw); go_simp; (try with_reducible rfl))
        simp only [Act.put, List.setIfInBounds_toArray, List.set_cons_zero, List.set_cons_succ]
        refine tu 9 hHeld ?_
        simp only [Act.put, List.setIfInBounds_toArray, List.set_cons_zero, List.set_cons_succ]
        refine tu 10 hHeld ?_
        simp only [Act.put, List.setIfInBounds_toArray, List.set_cons_zero, List.set_cons_succ]
        refine tu 11 hHeld ?_
        simp only [Act.put, List.setIfInBounds_toArray, List.set_cons_zero, List.set_cons_succ]
        refine tu 12 hHeld ?_
        simp only [Act.put, List.setIfInBounds_toArray, List.set_cons_zero, List.set_cons_succ]
        refine tu 13 hHeld ?_
        simp only [Act.put, List.setIfInBounds_toArray, List.set_cons_zero, List.set_cons_succ]
        refine tu 14 hHeld ?_
        simp only [Act.put, List.setIfInBounds_toArray, List.set_cons_zero, List.set_cons_succ]
        refine tu 15 hHeld ?_
        simp only [Act.put, List.setIfInBounds_toArray, List.set_cons_zero, List.set_cons_succ]
        refine tu 16 hHeld ?_
        simp only [Act.put, List.setIfInBounds_toArray, List.set_cons_zero, List.set_cons_succ]
        refine tu 17 hHeld ?_
        simp only [Act.put, List.setIfInBounds_toArray, List.set_cons_zero, List.set_cons_succ]
        refine tu 18 hHeld ?_
        simp only [Act.put, List.setIfInBounds_toArray, List.set_cons_zero, List.set_cons_succ]
        refine tq 19 ?_ hHeld ?_ ?_
        rotate_left
        · (intro w hSw; (try dsimp only at hSw); go_simp; (try with_reducible rfl))
        simp only [Act.put, List.setIfInBounds_toArray, List.set_cons_zero, List.set_cons_succ]
        refine tq 20 ?_ hHeld ?_ ?_
        rotate_left
        · (intro w hSw; (try dsimp only at hSw); go_simp; (try with_reducible rfl))
        simp only [Act.put, List.setIfInBounds_toArray, List.set_cons_zero, List.set_cons_succ]
        refine tq 21 ?_ hHeld ?_ ?_
        rotate_left
        · (intro w hSw; (try dsimp only at hSw); go_simp; (try with_reducible rfl))
        simp only [Act.put, List.setIfInBounds_toArray, List.set_cons_zero, List.set_cons_succ]
        refine tq 22 ?_ hHeld ?_ ?_
        rotate_left
        · (intro w hSw; (try dsimp only at hSw); go_simp; (try with_reducible rfl))
        simp only [Act.put, List.setIfInBounds_toArray, List.set_cons_zero, List.set_cons_succ]
        refine tq 23 ?_ hHeld ?_ ?_
        rotate_left
        · (intro w hSw; (try dsimp only at hSw); go_simp; (try with_reducible rfl))
        simp only [Act.put, List.setIfInBounds_toArray, List.set_cons_zero, List.set_cons_succ]
        refine tq 24 ?_ hHeld ?_ ?_
        rotate_left
        · (intro w hSw; (try dsimp only at hSw); go_simp; (try with_reducible rfl))
        simp only [Act.put, List.setIfInBounds_toArray, List.set_cons_zero, List.set_cons_succ]
        by_cases z8 : p1 = 8
        · have HF := hid (HCN.out (by rw [HCK.out true false _ HC1.out rfl rfl, z8]; rfl))
          have b8 : (p1 == 8) = true := by simp [z8]
          clear z8
          refine tq 25 ?_ hHeld ?_ ?_
          rotate_left
          · (intro w hSw; (try dsimp only at hSw); go_simp; (try with_reducible rfl))
          simp only [Act.put, List.setIfInBounds_toArray, List.set_cons_zero, List.set_cons_succ]
          refine tq 26 ?_ hHeld ?_ ?_
          rotate_left
          · (intro w hSw; (try dsimp only at hSw); go_simp; (try with_reducible rfl))
          simp only [Act.put, List.setIfInBounds_toArray, List.set_cons_zero, List.set_cons_succ]
          refine tq 27 ?_ hHeld ?_ ?_
          rotate_left
          · (intro w hSw; (try dsimp only at hSw); go_simp; (try with_reducible rfl))
          simp only [Act.put, List.setIfInBounds_toArray, List.set_cons_zero, List.set_cons_succ]
          refine tu 28 hHeld ?_
          simp only [Act.put, List.setIfInBounds_toArray, List.set_cons_zero, List.set_cons_succ]
          refine tu 29 hHeld ?_
          simp only [Act.put, List.setIfInBounds_toArray, List.set_cons_zero, List.set_cons_succ]
          refine tu 30 hHeld ?_
          simp only [Act.put, List.setIfInBounds_toArray, List.set_cons_zero, List.set_cons_succ]
          refine tu 31 hHeld ?_
          simp only [Act.put, List.setIfInBounds_toArray, List.set_cons_zero, List.set_cons_succ]
          refine tq 32 ?_ hHeld ?_ ?_
          rotate_left
          · (intro w hSw; (try dsimp only at hSw); go_simp; (try with_reducible rfl))
          simp only [Act.put, List.setIfInBounds_toArray, List.set_cons_zero, List.set_cons_succ]
          refine tq 33 ?_ hHeld ?_ ?_
          rotate_left
          · (intro w hSw; (try dsimp only at hSw); go_simp; (try with_reducible rfl))
          simp only [Act.put, List.setIfInBounds_toArray, List.set_cons_zero, List.set_cons_succ]
          refine tu 34 hHeld ?_
          simp only [Act.put, List.setIfInBounds_toArray, List.set_cons_zero, List.set_cons_succ]
          refine tu 35 hHeld ?_
          simp only [Act.put, List.setIfInBounds_toArray, List.set_cons_zero, List.set_cons_succ]
          refine tu 36 hHeld ?_
          simp only [Act.put, List.setIfInBounds_toArray, List.set_cons_zero, List.set_cons_succ]
          refine tu 37 hHeld ?_
          simp only [Act.put, List.setIfInBounds_toArray, List.set_cons_zero, List.set_cons_succ]
          refine tu 38 hHeld ?_
          simp only [Act.put, List.setIfInBounds_toArray, List.set_cons_zero, List.set_cons_succ]
          refine tu 39 hHeld ?_
          simp only [Act.put, List.setIfInBounds_toArray, List.set_cons_zero, List.set_cons_succ]
          refine tq 40 ?_ hHeld ?_ ?_
          rotate_left
          · (intro w hSw; (try dsimp only at hSw); go_simp; (try with_reducible rfl))
          simp only [Act.put, List.setIfInBounds_toArray, List.set_cons_zero, List.set_cons_succ]
          refine wpAnyH_done (by kernel_rfl) ?_ _
          have hbX := below_then (below_drewN (Below.refl we.heap.size we) 1) (convW_below (we.drewN 1) 5 key)
          go_wp2_with fail
          go_ret
          exact ⟨by rw [HF.out]; rfl, hBe.trans (hbX.mono hBe.size)⟩
        have b8 : (p1 == 8) = false := by simp [z8]
        have Z8 := hid z8
        clear z8
        refine tq 25 ?_ hHeld ?_ ?_
        rotate_left
        · (intro w hSw; (try dsimp only at hSw); go_simp; (try with_reducible rfl))
        simp only [Act.put, List.setIfInBounds_toArray, List.set_cons_zero, List.set_cons_succ]
        refine tq 26 ?_ hHeld ?_ ?_
        rotate_left
        · (intro w hSw; (try dsimp only at hSw); go_simp; (try with_reducible rfl))
        simp only [Act.put, List.setIfInBounds_toArray, List.set_cons_zero, List.set_cons_succ]
        refine tq 27 ?_ hHeld ?_ ?_
        rotate_left
        · (intro w hSw; (try dsimp only at hSw); go_simp; (try with_reducible rfl))
        simp only [Act.put, List.setIfInBounds_toArray, List.set_cons_zero, List.set_cons_succ]
        refine tq 28 ?_ hHeld ?_ ?_
        rotate_left
        · (intro w hSw; (try dsimp only at hSw); go_simp; (try with_reducible rfl))
        simp only [Act.put, List.setIfInBounds_toArray, List.set_cons_zero, List.set_cons_succ]
        refine tq 29 ?_ hHeld ?_ ?_
        rotate_left
        · (intro w hSw; (try dsimp only at hSw); go_simp; (try with_reducible rfl))
        simp only [Act.put, List.setIfInBounds_toArray, List.set_cons_zero, List.set_cons_succ]
        refine tq 30 ?_ hHeld ?_ ?_
        rotate_left
        · (intro w hSw; (try dsimp only at hSw); go_simp; (try with_reducible rfl))
        simp only [Act.put, List.setIfInBounds_toArray, List.set_cons_zero, List.set_cons_succ]
        by_cases z0 : p1 = 0
        · have HF := hid (HCN.out (by rw [HCK.out true false _ HC1.out rfl rfl, z0]; simp))
          have b0 : (p1 == 0) = true := by simp [z0]
          clear z0
          refine tq 31 ?_ hHeld ?_ ?_
          rotate_left
          · (intro w hSw; (try dsimp only at hSw); go_simp; (try with_reducible rfl))
          simp only [Act.put, List.setIfInBounds_toArray, List.set_cons_zero, List.set_cons_succ]
          refine tq 32 ?_ hHeld ?_ ?_
          rotate_left
          · (intro w hSw; (try dsimp only at hSw); go_simp; (try with_reducible rfl))
          simp only [Act.put, List.setIfInBounds_toArray, List.set_cons_zero, List.set_cons_succ]
          refine tq 33 ?_ hHeld ?_ ?_
          rotate_left
          · (intro w hSw; (try dsimp only at hSw); go_simp; (try with_reducible rfl))
          simp only [Act.put, List.setIfInBounds_toArray, List.set_cons_zero, List.set_cons_succ]
          refine tu 34 hHeld ?_
          simp only [Act.put, List.setIfInBounds_toArray, List.set_cons_zero, List.set_cons_succ]
          refine tu 35 hHeld ?_
          simp only [Act.put, List.setIfInBounds_toArray, List.set_cons_zero, List.set_cons_succ]
          refine tu 36 hHeld ?_
          simp only [Act.put, List.setIfInBounds_toArray, List.set_cons_zero, List.set_cons_succ]
          refine tu 37 hHeld ?_
          simp only [Act.put, List.setIfInBounds_toArray, List.set_cons_zero, List.set_cons_succ]
          refine tu 38 hHeld ?_
          simp only [Act.put, List.setIfInBounds_toArray, List.set_cons_zero, List.set_cons_succ]
          refine tu 39 hHeld ?_
          simp only [Act.put, List.setIfInBounds_toArray, List.set_cons_zero, List.set_cons_succ]
          refine tq 40 ?_ hHeld ?_ ?_
          rotate_left
          · (intro w hSw; (try dsimp only at hSw); go_simp; (try with_reducible rfl))
          simp only [Act.put, List.setIfInBounds_toArray, List.set_cons_zero, List.set_cons_succ]
          refine wpAnyH_done (by kernel_rfl) ?_ _
          have hbX := below_then (below_drewN (Below.refl we.heap.size we) 1) (convW_below (we.drewN 1) 5 key)
          go_wp2_with fail
          go_ret
          exact ⟨by rw [HF.out]; rfl, hBe.trans (hbX.mono hBe.size)⟩
        have b0 : (p1 == 0) = false := by simp [z0]
        have Z0 := hid z0
        clear z0
        refine tq 31 ?_ hHeld ?_ ?_
        rotate_left
        · (intro w hSw; (try dsimp only at hSw); go_simp; (try with_reducible rfl))
        simp only [Act.put, List.setIfInBounds_toArray, List.set_cons_zero, List.set_cons_succ]
        refine tq 32 ?_ hHeld ?_ ?_
        rotate_left
        · (intro w hSw; (try dsimp only at hSw); go_simp; (try with_reducible rfl))
        simp only [Act.put, List.setIfInBounds_toArray, List.set_cons_zero, List.set_cons_succ]
        refine tq 33 ?_ hHeld ?_ ?_
        rotate_left
        · (intro w hSw; (try dsimp only at hSw); go_simp; (try with_reducible rfl))
        simp only [Act.put, List.setIfInBounds_toArray, List.set_cons_zero, List.set_cons_succ]
        refine tq 34 ?_ hHeld ?_ ?_
        rotate_left
        · (intro w hSw; (try dsimp only at hSw); go_simp; (try with_reducible rfl))
        simp only [Act.put, List.setIfInBounds_toArray, List.set_cons_zero, List.set_cons_succ]
        refine tq 35 ?_ hHeld ?_ ?_
        rotate_left
        · (intro w hSw; (try dsimp only at hSw); go_simp; (try with_reducible rfl))
        simp only [Act.put, List.setIfInBounds_toArray, List.set_cons_zero, List.set_cons_succ]
        refine tq 36 ?_ hHeld ?_ ?_
        rotate_left
        · (intro w hSw; (try dsimp only at hSw); go_simp; (try with_reducible rfl))
        simp only [Act.put, List.setIfInBounds_toArray, List.set_cons_zero, List.set_cons_succ]
        refine tq 37 ?_ hHeld ?_ ?_
        rotate_left
        · (intro w hSw; (try dsimp only at hSw); go_simp; (try with_reducible rfl))
        simp only [Act.put, List.setIfInBounds_toArray, List.set_cons_zero, List.set_cons_succ]
        cases hc5 : mayF m e.2 with
        | false =>
          have HF := hid (HCN.out (by rw [HCK.out true false _ HC1.out rfl rfl, hc5]; simp))
          have HC5 := hid hc5
          clear hc5
          refine wpAnyH_ready (rs := [38]) (by kernel_rfl) (by simp) ?_
          refine AllReadyH.cons (o := _) (by simp only [List.getElem?_toArray, List.getElem?_cons_succ, List.getElem?_cons_zero]; rfl) (fun K hK => ?_) AllReadyH.nil
          go_simp; go_at_call 30; refine (HMA.out _ (below_then (below_drewN (Below.refl _ _) _) (convW_below _ _ _))).mono ?_; rw [HC5.out]; rintro e w11 ⟨rfl, hb11⟩; have hbX := below_then (below_then (below_drewN (Below.refl _ _) _) (convW_below _ _ _)) hb11
          refine hK.out _ _ ?_ (fun hHeld => ?_)
          · (try dsimp only)
            exact HSX.out _ hbX
          clear hK K
          (try simp only [Act.put, List.setIfInBounds_toArray, List.set_cons_zero, List.set_cons_succ])
          refine tq 39 ?_ hHeld ?_ ?_
          rotate_left
          · (intro w hSw; (try dsimp only at hSw); go_simp; (try with_reducible rfl))
          simp only [Act.put, List.setIfInBounds_toArray, List.set_cons_zero, List.set_cons_succ]
          refine tq 40 ?_ hHeld ?_ ?_
          rotate_left
          · (intro w hSw; (try dsimp only at hSw); go_simp; (try with_reducible rfl))
          simp only [Act.put, List.setIfInBounds_toArray, List.set_cons_zero, List.set_cons_succ]
          refine wpAnyH_done (by kernel_rfl) ?_ _
          go_wp2_with fail
          go_ret
          exact ⟨by rw [HF.out]; rfl, hBe.trans (hbX.mono hBe.size)⟩
        | true =>
          have HOK := hid ((HCK.out true false _ HC1.out rfl rfl).trans (show (true && !false && p1 != 8 && p1 != 0 && mayF m e.2) = true from by rw [hc5]; simp [Z8.out, Z0.out]))
          have HC5 := hid hc5
          clear hc5
          refine wpAnyH_ready (rs := [38]) (by kernel_rfl) (by simp) ?_
          refine AllReadyH.cons (o := _) (by simp only [List.getElem?_toArray, List.getElem?_cons_succ, List.getElem?_cons_zero]; rfl) (fun K hK => ?_) AllReadyH.nil
          go_simp; go_at_call 30; refine (HMA.out _ (below_then (below_drewN (Below.refl _ _) _) (convW_below _ _ _))).mono ?_; rw [HC5.out]; rintro e w11 ⟨rfl, hb11⟩; have hbX := below_then (below_then (below_drewN (Below.refl _ _) _) (convW_below _ _ _)) hb11
          refine hK.out _ _ ?_ (fun hHeld => ?_)
          · (try dsimp only)
            exact HSX.out _ hbX
          clear hK K
          (try simp only [Act.put, List.setIfInBounds_toArray, List.set_cons_zero, List.set_cons_succ])
          refine tq 39 ?_ hHeld ?_ ?_
          rotate_left
          · (intro w hSw; (try dsimp only at hSw); go_simp; (try with_reducible rfl))
          simp only [Act.put, List.setIfInBounds_toArray, List.set_cons_zero, List.set_cons_succ]
          refine tq 40 ?_ hHeld ?_ ?_
          rotate_left
          · (intro w hSw; (try dsimp only at hSw); go_simp; (try with_reducible rfl))
          simp only [Act.put, List.setIfInBounds_toArray, List.set_cons_zero, List.set_cons_succ]
          refine wpAnyH_done (by kernel_rfl) ?_ _
          go_wp2_with fail
          go_roundw
          case rel => exact ⟨1, rfl, by omega, fun j h => by
            rcases Nat.lt_or_ge j (0) with q | q
            · exact HB.out j q
            · obtain rfl : j = 0 := by omega
              exact HOK.out, hBe.trans (hbX.mono hBe.size), hCe.up hbX⟩
          case measure => simp [intOf]; omega
    | succ i' =>
      have pv := HPE.out i' rfl
      have hsp := st_toList (keyAt d i')
      have hw1 : IntKind.i64.wrap (((i' + 1 : Nat) : Int) - 1) = (i' : Int) := by rw [show ((i' + 1 : Nat) : Int) - 1 = (i' : Int) by omega]; exact IntWalk.i64_in _ (by omega)
      have hw2 : IntKind.i64.wrap (i' : Int) = (i' : Int) := IntWalk.i64_in _ (by omega)
      have hg1 : (0 : Int) < (i' : Int) + 1 := by omega
      have hlk := less_kle key (keyAt d i')
      have hi0 : (0 : Int) ≤ (i' : Int) := by omega
      have hi1 : (i' : Int) < (d.length : Int) := by omega
      have HSX := hid (show ∀ X : World, Below we.heap.size we X → (X.cell? ⟨eb, 0, none⟩ = some (.string (st key)) ∧ X.cell? ⟨eb, 1, none⟩ = some (.int .i64 p1) ∧ X.cell? ⟨eb, 2, none⟩ = some (.int .i64 p2) ∧ X.cell? ⟨eb, 3, none⟩ = some (.slice p3 p6 p7) ∧ X.cell? ⟨eb, 4, none⟩ = some (.slice p4 p8 p9) ∧ X.cell? ⟨eb, 5, none⟩ = some (.slice p5 p10 p11) ∧ X.cell? ⟨w.heap.size, 4, none⟩ = some (.slice (some ⟨g, off, none⟩) d.length cd) ∧ X.cell? ⟨g, off + i' * 6, none⟩ = some (.string (st (keyAt d i')))) from fun X hX => ⟨cell_up' hX (oc 0), cell_up' hX (oc 1), cell_up' hX (oc 2), cell_up' hX (oc 3), cell_up' hX (oc 4), cell_up' hX (oc 5), cell_up' hX b4, cell_up' hX pv⟩)
      refine wp_region_held_drew (S := (fun w' => w'.cell? ⟨eb, 0, none⟩ = some (.string (st key)) ∧ w'.cell? ⟨eb, 1, none⟩ = some (.int .i64 p1) ∧ w'.cell? ⟨eb, 2, none⟩ = some (.int .i64 p2) ∧ w'.cell? ⟨eb, 3, none⟩ = some (.slice p3 p6 p7) ∧ w'.cell? ⟨eb, 4, none⟩ = some (.slice p4 p8 p9) ∧ w'.cell? ⟨eb, 5, none⟩ = some (.slice p5 p10 p11) ∧ w'.cell? ⟨w.heap.size, 4, none⟩ = some (.slice (some ⟨g, off, none⟩) d.length cd) ∧ w'.cell? ⟨g, off + i' * 6, none⟩ = some (.string (st (keyAt d i'))))) (by kernel_rfl) ?_ (fun hHeld => ?_)
      · (try dsimp only)
        go_keep
      refine tq 0 ?_ hHeld ?_ ?_
      rotate_left
      · (intro w hSw; (try dsimp only at hSw); go_simp; (try with_reducible rfl))
      simp only [Act.put, List.setIfInBounds_toArray, List.set_cons_zero, List.set_cons_succ]
      refine tq 1 ?_ hHeld ?_ ?_
      rotate_left
      · (intro w hSw; (try dsimp only at hSw); go_simp; (try with_reducible rfl))
      simp only [Act.put, List.setIfInBounds_toArray, List.set_cons_zero, List.set_cons_succ]
      refine wpAnyH_ready (rs := [2]) (by kernel_rfl) (by simp) ?_
      refine AllReadyH.cons (o := _) (by simp only [List.getElem?_toArray, List.getElem?_cons_succ, List.getElem?_cons_zero]; rfl) (fun K hK => ?_) AllReadyH.nil
      go_simp
      refine hK.out _ _ ?_ (fun hHeld => ?_)
      · (try dsimp only)
        go_keep
      clear hK K
      (try simp only [Act.put, List.setIfInBounds_toArray, List.set_cons_zero, List.set_cons_succ])
      cases hc1 : nmOk key with
      | false =>
        have HF := hid (HCN.out (by rw [HCK.out false _ _ hc1 rfl rfl]; rfl))
        have HC1 := hid hc1
        clear hc1
        refine wpAnyH_ready (rs := [3]) (by kernel_rfl) (by simp) ?_
        refine AllReadyH.cons (o := _) (by simp only [List.getElem?_toArray, List.getElem?_cons_succ, List.getElem?_cons_zero]; rfl) (fun K hK => ?_) AllReadyH.nil
        go_simp; go_at_call 54; refine (rname_ok _ key _ (conv_sl _ _ key _ (by simp; omega) hkz)).mono ?_; rw [HC1.out]; rintro e w10 ⟨rfl, rfl⟩
        refine hK.out _ _ ?_ (fun hHeld => ?_)
        · (try dsimp only)
          go_keep
        clear hK K
        (try simp only [Act.put, List.setIfInBounds_toArray, List.set_cons_zero, List.set_cons_succ])
        refine tq 4 ?_ hHeld ?_ ?_
        rotate_left
        · (intro w hSw; (try dsimp only at hSw); go_simp; (try with_reducible rfl))
        simp only [Act.put, List.setIfInBounds_toArray, List.set_cons_zero, List.set_cons_succ]
        refine tq 5 ?_ hHeld ?_ ?_
        rotate_left
        · (intro w hSw; (try dsimp only at hSw); go_simp; (try with_reducible rfl))
        simp only [Act.put, List.setIfInBounds_toArray, List.set_cons_zero, List.set_cons_succ]
        refine tu 6 hHeld ?_
        simp only [Act.put, List.setIfInBounds_toArray, List.set_cons_zero, List.set_cons_succ]
        refine tu 7 hHeld ?_
        simp only [Act.put, List.setIfInBounds_toArray, List.set_cons_zero, List.set_cons_succ]
        refine tu 8 hHeld ?_
        simp only [Act.put, List.setIfInBounds_toArray, List.set_cons_zero, List.set_cons_succ]
        refine tu 9 hHeld ?_
        simp only [Act.put, List.setIfInBounds_toArray, List.set_cons_zero, List.set_cons_succ]
        refine tu 10 hHeld ?_
        simp only [Act.put, List.setIfInBounds_toArray, List.set_cons_zero, List.set_cons_succ]
        refine tu 11 hHeld ?_
        simp only [Act.put, List.setIfInBounds_toArray, List.set_cons_zero, List.set_cons_succ]
        refine tu 12 hHeld ?_
        simp only [Act.put, List.setIfInBounds_toArray, List.set_cons_zero, List.set_cons_succ]
        refine tu 13 hHeld ?_
        simp only [Act.put, List.setIfInBounds_toArray, List.set_cons_zero, List.set_cons_succ]
        refine tu 14 hHeld ?_
        simp only [Act.put, List.setIfInBounds_toArray, List.set_cons_zero, List.set_cons_succ]
        refine tu 15 hHeld ?_
        simp only [Act.put, List.setIfInBounds_toArray, List.set_cons_zero, List.set_cons_succ]
        refine tu 16 hHeld ?_
        simp only [Act.put, List.setIfInBounds_toArray, List.set_cons_zero, List.set_cons_succ]
        refine tu 17 hHeld ?_
        simp only [Act.put, List.setIfInBounds_toArray, List.set_cons_zero, List.set_cons_succ]
        refine tu 18 hHeld ?_
        simp only [Act.put, List.setIfInBounds_toArray, List.set_cons_zero, List.set_cons_succ]
        refine tu 19 hHeld ?_
        simp only [Act.put, List.setIfInBounds_toArray, List.set_cons_zero, List.set_cons_succ]
        refine tq 20 ?_ hHeld ?_ ?_
        rotate_left
        · (intro w hSw; (try dsimp only at hSw); go_simp; (try with_reducible rfl))
        simp only [Act.put, List.setIfInBounds_toArray, List.set_cons_zero, List.set_cons_succ]
        refine tq 21 ?_ hHeld ?_ ?_
        rotate_left
        · (intro w hSw; (try dsimp only at hSw); go_simp; (try with_reducible rfl))
        simp only [Act.put, List.setIfInBounds_toArray, List.set_cons_zero, List.set_cons_succ]
        refine tu 22 hHeld ?_
        simp only [Act.put, List.setIfInBounds_toArray, List.set_cons_zero, List.set_cons_succ]
        refine tu 23 hHeld ?_
        simp only [Act.put, List.setIfInBounds_toArray, List.set_cons_zero, List.set_cons_succ]
        refine tu 24 hHeld ?_
        simp only [Act.put, List.setIfInBounds_toArray, List.set_cons_zero, List.set_cons_succ]
        refine tu 25 hHeld ?_
        simp only [Act.put, List.setIfInBounds_toArray, List.set_cons_zero, List.set_cons_succ]
        refine tq 26 ?_ hHeld ?_ ?_
        rotate_left
        · (intro w hSw; (try dsimp only at hSw); go_simp; (try with_reducible rfl))
        simp only [Act.put, List.setIfInBounds_toArray, List.set_cons_zero, List.set_cons_succ]
        refine tq 27 ?_ hHeld ?_ ?_
        rotate_left
        · (intro w hSw; (try dsimp only at hSw); go_simp; (try with_reducible rfl))
        simp only [Act.put, List.setIfInBounds_toArray, List.set_cons_zero, List.set_cons_succ]
        refine tu 28 hHeld ?_
        simp only [Act.put, List.setIfInBounds_toArray, List.set_cons_zero, List.set_cons_succ]
        refine tu 29 hHeld ?_
        simp only [Act.put, List.setIfInBounds_toArray, List.set_cons_zero, List.set_cons_succ]
        refine tu 30 hHeld ?_
        simp only [Act.put, List.setIfInBounds_toArray, List.set_cons_zero, List.set_cons_succ]
        refine tu 31 hHeld ?_
        simp only [Act.put, List.setIfInBounds_toArray, List.set_cons_zero, List.set_cons_succ]
        refine tq 32 ?_ hHeld ?_ ?_
        rotate_left
        · (intro w hSw; (try dsimp only at hSw); go_simp; (try with_reducible rfl))
        simp only [Act.put, List.setIfInBounds_toArray, List.set_cons_zero, List.set_cons_succ]
        refine tq 33 ?_ hHeld ?_ ?_
        rotate_left
        · (intro w hSw; (try dsimp only at hSw); go_simp; (try with_reducible rfl))
        simp only [Act.put, List.setIfInBounds_toArray, List.set_cons_zero, List.set_cons_succ]
        refine tu 34 hHeld ?_
        simp only [Act.put, List.setIfInBounds_toArray, List.set_cons_zero, List.set_cons_succ]
        refine tu 35 hHeld ?_
        simp only [Act.put, List.setIfInBounds_toArray, List.set_cons_zero, List.set_cons_succ]
        refine tu 36 hHeld ?_
        simp only [Act.put, List.setIfInBounds_toArray, List.set_cons_zero, List.set_cons_succ]
        refine tu 37 hHeld ?_
        simp only [Act.put, List.setIfInBounds_toArray, List.set_cons_zero, List.set_cons_succ]
        refine tu 38 hHeld ?_
        simp only [Act.put, List.setIfInBounds_toArray, List.set_cons_zero, List.set_cons_succ]
        refine tu 39 hHeld ?_
        simp only [Act.put, List.setIfInBounds_toArray, List.set_cons_zero, List.set_cons_succ]
        refine tq 40 ?_ hHeld ?_ ?_
        rotate_left
        · (intro w hSw; (try dsimp only at hSw); go_simp; (try with_reducible rfl))
        simp only [Act.put, List.setIfInBounds_toArray, List.set_cons_zero, List.set_cons_succ]
        refine wpAnyH_done (by kernel_rfl) ?_ _
        have hbX := below_then (below_drewN (Below.refl we.heap.size we) 1) (convW_below (we.drewN 1) 5 key)
        go_wp2_with fail
        go_ret
        exact ⟨by rw [HF.out]; rfl, hBe.trans (hbX.mono hBe.size)⟩
      | true =>
        have HC1 := hid hc1
        clear hc1
        refine wpAnyH_ready (rs := [3]) (by kernel_rfl) (by simp) ?_
        refine AllReadyH.cons (o := _) (by simp only [List.getElem?_toArray, List.getElem?_cons_succ, List.getElem?_cons_zero]; rfl) (fun K hK => ?_) AllReadyH.nil
        go_simp; go_at_call 54; refine (rname_ok _ key _ (conv_sl _ _ key _ (by simp; omega) hkz)).mono ?_; rw [HC1.out]; rintro e w10 ⟨rfl, rfl⟩
        refine hK.out _ _ ?_ (fun hHeld => ?_)
        · (try dsimp only)
          go_keep
        clear hK K
        (try simp only [Act.put, List.setIfInBounds_toArray, List.set_cons_zero, List.set_cons_succ])
        refine tq 4 ?_ hHeld ?_ ?_
        rotate_left
        · (intro w hSw; (try dsimp only at hSw); go_simp; (try with_reducible rfl))
        simp only [Act.put, List.setIfInBounds_toArray, List.set_cons_zero, List.set_cons_succ]
        refine tq 5 ?_ hHeld ?_ ?_
        rotate_left
        · (intro w hSw; (try dsimp only at hSw); go_simp; (try with_reducible rfl))
        simp only [Act.put, List.setIfInBounds_toArray, List.set_cons_zero, List.set_cons_succ]
        refine tq 6 ?_ hHeld ?_ ?_
        rotate_left
        · (intro w hSw; (try dsimp only at hSw); go_simp; (try with_reducible rfl))
        simp only [Act.put, List.setIfInBounds_toArray, List.set_cons_zero, List.set_cons_succ]
        refine tq 7 ?_ hHeld ?_ ?_
        rotate_left
        · (intro w hSw; (try dsimp only at hSw); go_simp; (try with_reducible rfl))
        simp only [Act.put, List.setIfInBounds_toArray, List.set_cons_zero, List.set_cons_succ]
        refine tq 8 ?_ hHeld ?_ ?_
        rotate_left
        · (intro w hSw; (try dsimp only at hSw); go_simp; (try with_reducible rfl))
        simp only [Act.put, List.setIfInBounds_toArray, List.set_cons_zero, List.set_cons_succ]
        refine tq 9 ?_ hHeld ?_ ?_
        rotate_left
        · (intro w hSw; (try dsimp only at hSw); go_simp; (try with_reducible rfl))
        simp only [Act.put, List.setIfInBounds_toArray, List.set_cons_zero, List.set_cons_succ]
        refine tq 10 ?_ hHeld ?_ ?_
        rotate_left
        · (intro w hSw; (try dsimp only at hSw); go_simp; (try with_reducible rfl))
        simp only [Act.put, List.setIfInBounds_toArray, List.set_cons_zero, List.set_cons_succ]
        refine tq 11 ?_ hHeld ?_ ?_
        rotate_left
        · (intro w hSw; (try dsimp only at hSw); go_simp; (try with_reducible rfl))
        simp only [Act.put, List.setIfInBounds_toArray, List.set_cons_zero, List.set_cons_succ]
        refine tq 12 ?_ hHeld ?_ ?_
        rotate_left
        · (intro w hSw; (try dsimp only at hSw); go_simp; (try with_reducible rfl))
        simp only [Act.put, List.setIfInBounds_toArray, List.set_cons_zero, List.set_cons_succ]
        refine tq 13 ?_ hHeld ?_ ?_
        rotate_left
        · (intro w hSw; (try dsimp only at hSw); go_simp; (try with_reducible rfl))
        simp only [Act.put, List.setIfInBounds_toArray, List.set_cons_zero, List.set_cons_succ]
        refine tq 14 ?_ hHeld ?_ ?_
        rotate_left
        · (intro w hSw; (try dsimp only at hSw); go_simp; (try with_reducible rfl))
        simp only [Act.put, List.setIfInBounds_toArray, List.set_cons_zero, List.set_cons_succ]
        refine tq 15 ?_ hHeld ?_ ?_
        rotate_left
        · (intro w hSw; (try dsimp only at hSw); go_simp; (try with_reducible rfl))
        simp only [Act.put, List.setIfInBounds_toArray, List.set_cons_zero, List.set_cons_succ]
        refine tq 16 ?_ hHeld ?_ ?_
        rotate_left
        · (intro w hSw; (try dsimp only at hSw); go_simp; (try with_reducible rfl))
        simp only [Act.put, List.setIfInBounds_toArray, List.set_cons_zero, List.set_cons_succ]
        refine tq 17 ?_ hHeld ?_ ?_
        rotate_left
        · (intro w hSw; (try dsimp only at hSw); go_simp; (try with_reducible rfl))
        simp only [Act.put, List.setIfInBounds_toArray, List.set_cons_zero, List.set_cons_succ]
        cases hc2 : kle key (keyAt d i') with
        | true =>
          have HC2 := hid hc2
          have HF := hid (HCN.out (by rw [HCK.out true true _ HC1.out (by rw [show i' + 1 - 1 = i' from rfl, HC2.out]; simp) rfl]; rfl))
          refine tq 18 ?_ hHeld ?_ ?_
          rotate_left
          · (intro w hSw; (try dsimp only at hSw); go_simp; (try with_reducible rfl))
          simp only [Act.put, List.setIfInBounds_toArray, List.set_cons_zero, List.set_cons_succ]
          refine tq 19 ?_ hHeld ?_ ?_
          rotate_left
          · (intro w hSw; (try dsimp only at hSw); go_simp; (try with_reducible rfl))
          simp only [Act.put, List.setIfInBounds_toArray, List.set_cons_zero, List.set_cons_succ]
          refine tq 20 ?_ hHeld ?_ ?_
          rotate_left
          · (intro w hSw; (try dsimp only at hSw); go_simp; (try with_reducible rfl))
          simp only [Act.put, List.setIfInBounds_toArray, List.set_cons_zero, List.set_cons_succ]
          refine tq 21 ?_ hHeld ?_ ?_
          rotate_left
          · (intro w hSw; (try dsimp only at hSw); go_simp; (try with_reducible rfl))
          simp only [Act.put, List.setIfInBounds_toArray, List.set_cons_zero, List.set_cons_succ]
          refine tu 22 hHeld ?_
          simp only [Act.put, List.setIfInBounds_toArray, List.set_cons_zero, List.set_cons_succ]
          refine tu 23 hHeld ?_
          simp only [Act.put, List.setIfInBounds_toArray, List.set_cons_zero, List.set_cons_succ]
          refine tu 24 hHeld ?_
          simp only [Act.put, List.setIfInBounds_toArray, List.set_cons_zero, List.set_cons_succ]
          refine tu 25 hHeld ?_
          simp only [Act.put, List.setIfInBounds_toArray, List.set_cons_zero, List.set_cons_succ]
          refine tq 26 ?_ hHeld ?_ ?_
          rotate_left
          · (intro w hSw; (try dsimp only at hSw); go_simp; (try with_reducible rfl))
          simp only [Act.put, List.setIfInBounds_toArray, List.set_cons_zero, List.set_cons_succ]
          refine tq 27 ?_ hHeld ?_ ?_
          rotate_left
          · (intro w hSw; (try dsimp only at hSw); go_simp; (try with_reducible rfl))
          simp only [Act.put, List.setIfInBounds_toArray, List.set_cons_zero, List.set_cons_succ]
          refine tu 28 hHeld ?_
          simp only [Act.put, List.setIfInBounds_toArray, List.set_cons_zero, List.set_cons_succ]
          refine tu 29 hHeld ?_
          simp only [Act.put, List.setIfInBounds_toArray, List.set_cons_zero, List.set_cons_succ]
          refine tu 30 hHeld ?_
          simp only [Act.put, List.setIfInBounds_toArray, List.set_cons_zero, List.set_cons_succ]
          refine tu 31 hHeld ?_
          simp only [Act.put, List.setIfInBounds_toArray, List.set_cons_zero, List.set_cons_succ]
          refine tq 32 ?_ hHeld ?_ ?_
          rotate_left
          · (intro w hSw; (try dsimp only at hSw); go_simp; (try with_reducible rfl))
          simp only [Act.put, List.setIfInBounds_toArray, List.set_cons_zero, List.set_cons_succ]
          refine tq 33 ?_ hHeld ?_ ?_
          rotate_left
          · (intro w hSw; (try dsimp only at hSw); go_simp; (try with_reducible rfl))
          simp only [Act.put, List.setIfInBounds_toArray, List.set_cons_zero, List.set_cons_succ]
          refine tu 34 hHeld ?_
          simp only [Act.put, List.setIfInBounds_toArray, List.set_cons_zero, List.set_cons_succ]
          refine tu 35 hHeld ?_
          simp only [Act.put, List.setIfInBounds_toArray, List.set_cons_zero, List.set_cons_succ]
          refine tu 36 hHeld ?_
          simp only [Act.put, List.setIfInBounds_toArray, List.set_cons_zero, List.set_cons_succ]
          refine tu 37 hHeld ?_
          simp only [Act.put, List.setIfInBounds_toArray, List.set_cons_zero, List.set_cons_succ]
          refine tu 38 hHeld ?_
          simp only [Act.put, List.setIfInBounds_toArray, List.set_cons_zero, List.set_cons_succ]
          refine tu 39 hHeld ?_
          simp only [Act.put, List.setIfInBounds_toArray, List.set_cons_zero, List.set_cons_succ]
          refine tq 40 ?_ hHeld ?_ ?_
          rotate_left
          · (intro w hSw; (try dsimp only at hSw); go_simp; (try with_reducible rfl))
          simp only [Act.put, List.setIfInBounds_toArray, List.set_cons_zero, List.set_cons_succ]
          refine wpAnyH_done (by kernel_rfl) ?_ _
          have hbX := below_then (below_drewN (Below.refl we.heap.size we) 1) (convW_below (we.drewN 1) 5 key)
          go_wp2_with fail
          go_ret
          exact ⟨by rw [HF.out]; rfl, hBe.trans (hbX.mono hBe.size)⟩
        | false =>
          have HC2 := hid hc2
          refine tq 18 ?_ hHeld ?_ ?_
          rotate_left
          · (intro w hSw; (try dsimp only at hSw); go_simp; (try with_reducible rfl))
          simp only [Act.put, List.setIfInBounds_toArray, List.set_cons_zero, List.set_cons_succ]
          refine tq 19 ?_ hHeld ?_ ?_
          rotate_left
          · (intro w hSw; (try dsimp only at hSw); go_simp; (try with_reducible rfl))
          simp only [Act.put, List.setIfInBounds_toArray, List.set_cons_zero, List.set_cons_succ]
          refine tq 20 ?_ hHeld ?_ ?_
          rotate_left
          · (intro w hSw; (try dsimp only at hSw); go_simp; (try with_reducible rfl))
          simp only [Act.put, List.setIfInBounds_toArray, List.set_cons_zero, List.set_cons_succ]
          refine tq 21 ?_ hHeld ?_ ?_
          rotate_left
          · (intro w hSw; (try dsimp only at hSw); go_simp; (try with_reducible rfl))
          simp only [Act.put, List.setIfInBounds_toArray, List.set_cons_zero, List.set_cons_succ]
          refine tq 22 ?_ hHeld ?_ ?_
          rotate_left
          · (intro w hSw; (try dsimp only at hSw); go_simp; (try with_reducible rfl))
          simp only [Act.put, List.setIfInBounds_toArray, List.set_cons_zero, List.set_cons_succ]
          refine tq 23 ?_ hHeld ?_ ?_
          rotate_left
          · (intro w hSw; (try dsimp only at hSw); go_simp; (try with_reducible rfl))
          simp only [Act.put, List.setIfInBounds_toArray, List.set_cons_zero, List.set_cons_succ]
          refine tq 24 ?_ hHeld ?_ ?_
          rotate_left
          · (intro w hSw; (try dsimp only at hSw); go_simp; (try with_reducible rfl))
          simp only [Act.put, List.setIfInBounds_toArray, List.set_cons_zero, List.set_cons_succ]
          by_cases z8 : p1 = 8
          · have HF := hid (HCN.out (by rw [HCK.out true false _ HC1.out (by rw [show i' + 1 - 1 = i' from rfl, HC2.out]; simp) rfl, z8]; rfl))
            have b8 : (p1 == 8) = true := by simp [z8]
            clear z8
            refine tq 25 ?_ hHeld ?_ ?_
            rotate_left
            · (intro w hSw; (try dsimp only at hSw); go_simp; (try with_reducible rfl))
            simp only [Act.put, List.setIfInBounds_toArray, List.set_cons_zero, List.set_cons_succ]
            refine tq 26 ?_ hHeld ?_ ?_
            rotate_left
            · (intro w hSw; (try dsimp only at hSw); go_simp; (try with_reducible rfl))
            simp only [Act.put, List.setIfInBounds_toArray, List.set_cons_zero, List.set_cons_succ]
            refine tq 27 ?_ hHeld ?_ ?_
            rotate_left
            · (intro w hSw; (try dsimp only at hSw); go_simp; (try with_reducible rfl))
            simp only [Act.put, List.setIfInBounds_toArray, List.set_cons_zero, List.set_cons_succ]
            refine tu 28 hHeld ?_
            simp only [Act.put, List.setIfInBounds_toArray, List.set_cons_zero, List.set_cons_succ]
            refine tu 29 hHeld ?_
            simp only [Act.put, List.setIfInBounds_toArray, List.set_cons_zero, List.set_cons_succ]
            refine tu 30 hHeld ?_
            simp only [Act.put, List.setIfInBounds_toArray, List.set_cons_zero, List.set_cons_succ]
            refine tu 31 hHeld ?_
            simp only [Act.put, List.setIfInBounds_toArray, List.set_cons_zero, List.set_cons_succ]
            refine tq 32 ?_ hHeld ?_ ?_
            rotate_left
            · (intro w hSw; (try dsimp only at hSw); go_simp; (try with_reducible rfl))
            simp only [Act.put, List.setIfInBounds_toArray, List.set_cons_zero, List.set_cons_succ]
            refine tq 33 ?_ hHeld ?_ ?_
            rotate_left
            · (intro w hSw; (try dsimp only at hSw); go_simp; (try with_reducible rfl))
            simp only [Act.put, List.setIfInBounds_toArray, List.set_cons_zero, List.set_cons_succ]
            refine tu 34 hHeld ?_
            simp only [Act.put, List.setIfInBounds_toArray, List.set_cons_zero, List.set_cons_succ]
            refine tu 35 hHeld ?_
            simp only [Act.put, List.setIfInBounds_toArray, List.set_cons_zero, List.set_cons_succ]
            refine tu 36 hHeld ?_
            simp only [Act.put, List.setIfInBounds_toArray, List.set_cons_zero, List.set_cons_succ]
            refine tu 37 hHeld ?_
            simp only [Act.put, List.setIfInBounds_toArray, List.set_cons_zero, List.set_cons_succ]
            refine tu 38 hHeld ?_
            simp only [Act.put, List.setIfInBounds_toArray, List.set_cons_zero, List.set_cons_succ]
            refine tu 39 hHeld ?_
            simp only [Act.put, List.setIfInBounds_toArray, List.set_cons_zero, List.set_cons_succ]
            refine tq 40 ?_ hHeld ?_ ?_
            rotate_left
            · (intro w hSw; (try dsimp only at hSw); go_simp; (try with_reducible rfl))
            simp only [Act.put, List.setIfInBounds_toArray, List.set_cons_zero, List.set_cons_succ]
            refine wpAnyH_done (by kernel_rfl) ?_ _
            have hbX := below_then (below_drewN (Below.refl we.heap.size we) 1) (convW_below (we.drewN 1) 5 key)
            go_wp2_with fail
            go_ret
            exact ⟨by rw [HF.out]; rfl, hBe.trans (hbX.mono hBe.size)⟩
          have b8 : (p1 == 8) = false := by simp [z8]
          have Z8 := hid z8
          clear z8
          refine tq 25 ?_ hHeld ?_ ?_
          rotate_left
          · (intro w hSw; (try dsimp only at hSw); go_simp; (try with_reducible rfl))
          simp only [Act.put, List.setIfInBounds_toArray, List.set_cons_zero, List.set_cons_succ]
          refine tq 26 ?_ hHeld ?_ ?_
          rotate_left
          · (intro w hSw; (try dsimp only at hSw); go_simp; (try with_reducible rfl))
          simp only [Act.put, List.setIfInBounds_toArray, List.set_cons_zero, List.set_cons_succ]
          refine tq 27 ?_ hHeld ?_ ?_
          rotate_left
          · (intro w hSw; (try dsimp only at hSw); go_simp; (try with_reducible rfl))
          simp only [Act.put, List.setIfInBounds_toArray, List.set_cons_zero, List.set_cons_succ]
          refine tq 28 ?_ hHeld ?_ ?_
          rotate_left
          · (intro w hSw; (try dsimp only at hSw); go_simp; (try with_reducible rfl))
          simp only [Act.put, List.setIfInBounds_toArray, List.set_cons_zero, List.set_cons_succ]
          refine tq 29 ?_ hHeld ?_ ?_
          rotate_left
          · (intro w hSw; (try dsimp only at hSw); go_simp; (try with_reducible rfl))
          simp only [Act.put, List.setIfInBounds_toArray, List.set_cons_zero, List.set_cons_succ]
          refine tq 30 ?_ hHeld ?_ ?_
          rotate_left
          · (intro w hSw; (try dsimp only at hSw); go_simp; (try with_reducible rfl))
          simp only [Act.put, List.setIfInBounds_toArray, List.set_cons_zero, List.set_cons_succ]
          by_cases z0 : p1 = 0
          · have HF := hid (HCN.out (by rw [HCK.out true false _ HC1.out (by rw [show i' + 1 - 1 = i' from rfl, HC2.out]; simp) rfl, z0]; simp))
            have b0 : (p1 == 0) = true := by simp [z0]
            clear z0
            refine tq 31 ?_ hHeld ?_ ?_
            rotate_left
            · (intro w hSw; (try dsimp only at hSw); go_simp; (try with_reducible rfl))
            simp only [Act.put, List.setIfInBounds_toArray, List.set_cons_zero, List.set_cons_succ]
            refine tq 32 ?_ hHeld ?_ ?_
            rotate_left
            · (intro w hSw; (try dsimp only at hSw); go_simp; (try with_reducible rfl))
            simp only [Act.put, List.setIfInBounds_toArray, List.set_cons_zero, List.set_cons_succ]
            refine tq 33 ?_ hHeld ?_ ?_
            rotate_left
            · (intro w hSw; (try dsimp only at hSw); go_simp; (try with_reducible rfl))
            simp only [Act.put, List.setIfInBounds_toArray, List.set_cons_zero, List.set_cons_succ]
            refine tu 34 hHeld ?_
            simp only [Act.put, List.setIfInBounds_toArray, List.set_cons_zero, List.set_cons_succ]
            refine tu 35 hHeld ?_
            simp only [Act.put, List.setIfInBounds_toArray, List.set_cons_zero, List.set_cons_succ]
            refine tu 36 hHeld ?_
            simp only [Act.put, List.setIfInBounds_toArray, List.set_cons_zero, List.set_cons_succ]
            refine tu 37 hHeld ?_
            simp only [Act.put, List.setIfInBounds_toArray, List.set_cons_zero, List.set_cons_succ]
            refine tu 38 hHeld ?_
            simp only [Act.put, List.setIfInBounds_toArray, List.set_cons_zero, List.set_cons_succ]
            refine tu 39 hHeld ?_
            simp only [Act.put, List.setIfInBounds_toArray, List.set_cons_zero, List.set_cons_succ]
            refine tq 40 ?_ hHeld ?_ ?_
            rotate_left
            · (intro w hSw; (try dsimp only at hSw); go_simp; (try with_reducible rfl))
            simp only [Act.put, List.setIfInBounds_toArray, List.set_cons_zero, List.set_cons_succ]
            refine wpAnyH_done (by kernel_rfl) ?_ _
            have hbX := below_then (below_drewN (Below.refl we.heap.size we) 1) (convW_below (we.drewN 1) 5 key)
            go_wp2_with fail
            go_ret
            exact ⟨by rw [HF.out]; rfl, hBe.trans (hbX.mono hBe.size)⟩
          have b0 : (p1 == 0) = false := by simp [z0]
          have Z0 := hid z0
          clear z0
          refine tq 31 ?_ hHeld ?_ ?_
          rotate_left
          · (intro w hSw; (try dsimp only at hSw); go_simp; (try with_reducible rfl))
          simp only [Act.put, List.setIfInBounds_toArray, List.set_cons_zero, List.set_cons_succ]
          refine tq 32 ?_ hHeld ?_ ?_
          rotate_left
          · (intro w hSw; (try dsimp only at hSw); go_simp; (try with_reducible rfl))
          simp only [Act.put, List.setIfInBounds_toArray, List.set_cons_zero, List.set_cons_succ]
          refine tq 33 ?_ hHeld ?_ ?_
          rotate_left
          · (intro w hSw; (try dsimp only at hSw); go_simp; (try with_reducible rfl))
          simp only [Act.put, List.setIfInBounds_toArray, List.set_cons_zero, List.set_cons_succ]
          refine tq 34 ?_ hHeld ?_ ?_
          rotate_left
          · (intro w hSw; (try dsimp only at hSw); go_simp; (try with_reducible rfl))
          simp only [Act.put, List.setIfInBounds_toArray, List.set_cons_zero, List.set_cons_succ]
          refine tq 35 ?_ hHeld ?_ ?_
          rotate_left
          · (intro w hSw; (try dsimp only at hSw); go_simp; (try with_reducible rfl))
          simp only [Act.put, List.setIfInBounds_toArray, List.set_cons_zero, List.set_cons_succ]
          refine tq 36 ?_ hHeld ?_ ?_
          rotate_left
          · (intro w hSw; (try dsimp only at hSw); go_simp; (try with_reducible rfl))
          simp only [Act.put, List.setIfInBounds_toArray, List.set_cons_zero, List.set_cons_succ]
          refine tq 37 ?_ hHeld ?_ ?_
          rotate_left
          · (intro w hSw; (try dsimp only at hSw); go_simp; (try with_reducible rfl))
          simp only [Act.put, List.setIfInBounds_toArray, List.set_cons_zero, List.set_cons_succ]
          cases hc5 : mayF m e.2 with
          | false =>
            have HF := hid (HCN.out (by rw [HCK.out true false _ HC1.out (by rw [show i' + 1 - 1 = i' from rfl, HC2.out]; simp) rfl, hc5]; simp))
            have HC5 := hid hc5
            clear hc5
            refine wpAnyH_ready (rs := [38]) (by kernel_rfl) (by simp) ?_
            refine AllReadyH.cons (o := _) (by simp only [List.getElem?_toArray, List.getElem?_cons_succ, List.getElem?_cons_zero]; rfl) (fun K hK => ?_) AllReadyH.nil
            go_simp; go_at_call 30; refine (HMA.out _ (below_then (below_drewN (Below.refl _ _) _) (convW_below _ _ _))).mono ?_; rw [HC5.out]; rintro e w11 ⟨rfl, hb11⟩; have hbX := below_then (below_then (below_drewN (Below.refl _ _) _) (convW_below _ _ _)) hb11
            refine hK.out _ _ ?_ (fun hHeld => ?_)
            · (try dsimp only)
              exact HSX.out _ hbX
            clear hK K
            (try simp only [Act.put, List.setIfInBounds_toArray, List.set_cons_zero, List.set_cons_succ])
            refine tq 39 ?_ hHeld ?_ ?_
            rotate_left
            · (intro w hSw; (try dsimp only at hSw); go_simp; (try with_reducible rfl))
            simp only [Act.put, List.setIfInBounds_toArray, List.set_cons_zero, List.set_cons_succ]
            refine tq 40 ?_ hHeld ?_ ?_
            rotate_left
            · (intro w hSw; (try dsimp only at hSw); go_simp; (try with_reducible rfl))
            simp only [Act.put, List.setIfInBounds_toArray, List.set_cons_zero, List.set_cons_succ]
            refine wpAnyH_done (by kernel_rfl) ?_ _
            go_wp2_with fail
            go_ret
            exact ⟨by rw [HF.out]; rfl, hBe.trans (hbX.mono hBe.size)⟩
          | true =>
            have HOK := hid ((HCK.out true false _ HC1.out (by rw [show i' + 1 - 1 = i' from rfl, HC2.out]; simp) rfl).trans (show (true && !false && p1 != 8 && p1 != 0 && mayF m e.2) = true from by rw [hc5]; simp [Z8.out, Z0.out]))
            have HC5 := hid hc5
            clear hc5
            refine wpAnyH_ready (rs := [38]) (by kernel_rfl) (by simp) ?_
            refine AllReadyH.cons (o := _) (by simp only [List.getElem?_toArray, List.getElem?_cons_succ, List.getElem?_cons_zero]; rfl) (fun K hK => ?_) AllReadyH.nil
            go_simp; go_at_call 30; refine (HMA.out _ (below_then (below_drewN (Below.refl _ _) _) (convW_below _ _ _))).mono ?_; rw [HC5.out]; rintro e w11 ⟨rfl, hb11⟩; have hbX := below_then (below_then (below_drewN (Below.refl _ _) _) (convW_below _ _ _)) hb11
            refine hK.out _ _ ?_ (fun hHeld => ?_)
            · (try dsimp only)
              exact HSX.out _ hbX
            clear hK K
            (try simp only [Act.put, List.setIfInBounds_toArray, List.set_cons_zero, List.set_cons_succ])
            refine tq 39 ?_ hHeld ?_ ?_
            rotate_left
            · (intro w hSw; (try dsimp only at hSw); go_simp; (try with_reducible rfl))
            simp only [Act.put, List.setIfInBounds_toArray, List.set_cons_zero, List.set_cons_succ]
            refine tq 40 ?_ hHeld ?_ ?_
            rotate_left
            · (intro w hSw; (try dsimp only at hSw); go_simp; (try with_reducible rfl))
            simp only [Act.put, List.setIfInBounds_toArray, List.set_cons_zero, List.set_cons_succ]
            refine wpAnyH_done (by kernel_rfl) ?_ _
            go_wp2_with fail
            go_roundw
            case rel => exact ⟨i' + 1 + 1, by go_num, by omega, fun j h => by
              rcases Nat.lt_or_ge j (i' + 1) with q | q
              · exact HB.out j q
              · obtain rfl : j = i' + 1 := by omega
                exact HOK.out, hBe.trans (hbX.mono hBe.size), hCe.up hbX⟩
            case measure => simp [intOf]; omega
theorem may_all : ∀ (dp : Nat), dp ≤ 28 → MayC dp
  | 0, h => may_of 0 h (fun m q => by omega) (ent_of 0 h (fun m q => by omega))
  | dp + 1, h => may_of (dp + 1) h (fun m q => by have e : m = dp := (by omega); subst e; exact may_all m (by omega)) (ent_of (dp + 1) h (fun m q => by have e : m = dp := (by omega); subst e; exact may_all m (by omega)))

set_option maxHeartbeats 800000 in
set_option maxRecDepth 100000 in
theorem rmay_any {o : PO} {vs : List Value} {w : World} (h : GV w vs o) : Calls Tryz.prog 18 #[.agg vs.toArray] w fun e w' => e = .returned (.bool (mayF 28 o)) ∧ Below w.heap.size w w' := by
  have hv := h.v5
  have HM := hid (fun X (hX : Below w.heap.size w X) => may_all 28 (Nat.le_refl _) 28 o vs X rfl (h.up hX))
  obtain ⟨p1, p2, p3, p4, p5, p6, p7, p8, p9, p10, p11, rfl⟩ := hv
  clear h
  go_enter Tryz.func18, Tryz.ntmps18
  go_wp2_with (go_at_call 30; refine (HM.out _ (alb _ _)).mono ?_; rintro e w2 ⟨rfl, hb2⟩)
  go_ret
  exact ⟨rfl, below_then (alb _ _) hb2⟩
end Go.Proofs.YtjkoiknjffldjaaGreatDoor
