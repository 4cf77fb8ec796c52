/-
  The statements' ops: operators as the document's model has them. Condition: the row and its operators lie in memory.
-/
import Derived.Test.YtjkoiknjffldjaaGreatDoorKCal
import Derived.Test.YtjkoiknjffldjaaGreatDoorKAwk
/-
  The statements' ops: operators as the document's model has them. Condition: the row and its operators lie in memory.
-/
namespace Go.Proofs.YtjkoiknjffldjaaGreatDoor
open Go.RowKit
set_option linter.unusedVariables false

abbrev zRop : Value := .agg #[.string ⟨#[]⟩, .slice none 0 0, .slice none 0 0, .int .i64 0]
theorem ropTy' : Tryz.prog.underlying 22 = some (.slice 27) := by kernel_rfl
theorem ropIn : (Tryz.prog.info? 27).map (fun i => (i.zero, i.size, i.bytes)) = some (some zRop, 4, 72) := by kernel_rfl
theorem OpV.form {A : Nat → Prop} {w : World} {vs : List Value} {o : CO} (h : OpV A w vs o) : ∃ ao cap ad cad, vs = [.string (st o.name), .slice ao o.args.length cap, .slice ad o.data.length cad, .int .i64 o.at_] := by
  obtain ⟨va, vd, rfl, ⟨C, ⟨ao, cap, rfl, -⟩, -⟩, ⟨ad, cad, rfl, -⟩, -⟩ := h
  exact ⟨ao, cap, ad, cad, rfl⟩

set_option maxHeartbeats 3200000 in
set_option maxRecDepth 100000 in
theorem ops_cells (v : Value) (l : List CO) (C : List (List Value)) (w : World) (hS : SlX 4 w v C) (hC : All2 (OpV (fun _ => True) w) C l) (hl : l.length ≤ 4000000) :
    Calls Tryz.prog 15 #[v] w fun e w' => ∃ vo, e = .returned vo ∧ OwX 4 27 w' w.heap.size vo C ∧ Below w.heap.size w w' := by
  have hCl := All2.len hC
  obtain ⟨aos, cas, rfl, -⟩ := id hS
  rw [hCl] at hS ⊢
  go_enter Tryz.func15, Tryz.ntmps15
  go_wp2
  go_loopw [3, 4] (fun s3 s4 wr => ∃ i : Nat, ∃ aol capl, s4 = .int .i64 i ∧ i ≤ l.length ∧ s3 = .slice aol i capl ∧ OwX 4 27 wr w.heap.size (.slice aol i capl) (C.take i) ∧ Below w.heap.size w wr) (fun _ s4 _ => l.length - (intOf s4).toNat)
  case atStart => exact ⟨0, none, 0, rfl, Nat.zero_le _, rfl, OwX.nil _ _ _ _, Below.refl _ _⟩
  case round =>
    obtain ⟨i, aol, capl, rfl, hi, rfl, hrow, hB⟩ := hrel
    by_cases hlt : i < l.length
    · have hz : (i : Int) < (l.length : Int) := by omega
      obtain ⟨g, off, rfl, hcell⟩ := hS.some (by omega)
      have hCi : i < C.length := by omega
      have l2 := hcell i hCi
      obtain ⟨aoa, capa, aod, capd, hform⟩ := (All2.at hC i hCi hlt).form
      have htk : C.take (i + 1) = C.take i ++ [C[i]'hCi] := List.take_succ_eq_append_getElem hCi
      rw [hform] at htk l2
      have c0 := l2 0 _ rfl
      have c1 := l2 1 _ rfl
      have c2 := l2 2 _ rfl
      have c3 := l2 3 _ rfl
      rw [Nat.add_zero] at c0
      have HTK := hid htk
      have htl : (C.take i).length = i := by rw [List.length_take]; omega
      clear l2 hcell hform htk
      generalize l[i]'hlt = o at c0 c1 c2 c3 HTK
      obtain ⟨nm, as_, dd, at_⟩ := o
      simp only [] at c0 c1 c2 c3 HTK
      have hone : ∀ c ∈ ([[.string (st nm), .slice aoa as_.length capa, .slice aod dd.length capd, .int .i64 at_]] : List (List Value)), ∀ u ∈ c, u.oneCell' = true := fun c hc => by
        rw [List.mem_singleton] at hc; subst hc
        intro u hu; simp at hu; rcases hu with rfl | rfl | rfl | rfl <;> rfl
      generalize as_.length = na at *
      generalize dd.length = nd at *
      have hbz := hB.size
      go_upto_region 5 with fail
      have HS := hid (show ∀ w', Below w.heap.size w w' → w'.cell? ⟨g, off + i * 4, none⟩ = some (.string (st nm)) ∧ w'.cell? ⟨g, off + i * 4 + 1, none⟩ = some (.slice aoa na capa) ∧ w'.cell? ⟨g, off + i * 4 + 2, none⟩ = some (.slice aod nd capd) ∧ w'.cell? ⟨g, off + i * 4 + 3, none⟩ = some (.int .i64 at_) from fun X hX => ⟨cell_up' hX c0, cell_up' hX c1, cell_up' hX c2, cell_up' hX c3⟩)
      clear c0 c1 c2 c3
      obtain ⟨c0, c1, c2, c3⟩ := HS.out wr hB
      have hBd := hB.trans ((below_drewN (Below.refl wr.heap.size wr) 1).mono hB.size)
      have hBa := hid (show ∀ o : Obj, Below w.heap.size w (wr.drew.alloc o) from fun o => hBd.trans ((alb wr.drew o).mono hBd.size))
      have hrlt := hrow.lt
      have hdw : Below wr.heap.size wr wr.drew := below_drewN (Below.refl _ _) 1
      have hrow1 := hid (hrow.up hdw)
      go_region_held3 (fun w' => w'.cell? ⟨g, off + i * 4, none⟩ = some (.string (st nm)) ∧ w'.cell? ⟨g, off + i * 4 + 1, none⟩ = some (.slice aoa na capa) ∧ w'.cell? ⟨g, off + i * 4 + 2, none⟩ = some (.slice aod nd capd) ∧ w'.cell? ⟨g, off + i * 4 + 3, none⟩ = some (.int .i64 at_)) (first | go_keep | with_reducible exact HS.out _ hB | with_reducible exact HS.out _ hBd | with_reducible exact HS.out _ (hBa.out _) | with_reducible exact HS.out _ hB8 | skip) (first | (refine wp_append_slx _ _ 22 rfl w.heap.size 27 zRop 4 72 ropTy' ropIn rfl (by decide) (.slice aol i capl) (C.take i) rfl (hrow1.out.up (alb _ _)) _ [[.string (st nm), .slice aoa na capa, .slice aod nd capd, .int .i64 at_]] rfl (SlX.lit1 wr.drew _ rfl [.string (st nm), .slice aoa na capa, .slice aod nd capd, .int .i64 at_] _ 4 rfl) hone (by rw [htl]; simp; omega) (by decide) (by simp; omega) ?_; intro v8 w8 r1 r2 r3; obtain ⟨g8, cap8, rfl⟩ := r1.cons (by simp); have e8 : (C.take i ++ ([[.string (st nm), .slice aoa na capa, .slice aod nd capd, .int .i64 at_]] : List (List Value))).length = i + 1 := (by rw [List.length_append, htl]; rfl); rw [e8] at r1 r3; have hB8 := (hBa.out _).grown r2 (hBa.out _).size (fun k hk => (hrlt k hk).1)))
      all_goals
        go_wp2_with fail
        go_roundw
        case rel => exact ⟨i + 1, _, _, by go_num, by omega, rfl, by rw [HTK.out]; exact r1, hB8⟩
        case measure => simp [intOf]; omega
    · obtain rfl : i = l.length := by omega
      have hz : ¬ (l.length : Int) < (l.length : Int) := by omega
      have htl : C.take l.length = C := List.take_of_length_le (by omega)
      rw [htl] at hrow
      go_wp2
      go_ret
      exact ⟨_, rfl, hrow, hB⟩
end Go.Proofs.YtjkoiknjffldjaaGreatDoor
