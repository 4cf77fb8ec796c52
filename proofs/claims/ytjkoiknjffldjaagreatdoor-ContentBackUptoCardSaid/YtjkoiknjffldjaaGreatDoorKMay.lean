/-
  The document's May: may an object be? Conditions: none but what is said.
-/
import Derived.Test.YtjkoiknjffldjaaGreatDoorKGv
import Derived.Test.YtjkoiknjffldjaaGreatDoorHc
/-
  The document's May: may an object be? Conditions: none but what is said.
-/
namespace Go.Proofs.YtjkoiknjffldjaaGreatDoor
open Go.RowKit
set_option linter.unusedVariables false

/-- may bytes be a name? -/
def nmOk (b : List UInt8) : Bool := decide (b.length ≤ 127) && b.all (fun x => x != 0)
/-- are the parts of an object such as its kind bears? -/
def mayH (k : Int) (b l d : Nat) : Bool := !((decide (0 < l) && k != 6) || (decide (0 < d) && !(k == 7 || k == 8)) || (decide (0 < b) && k != 4 && k != 5 && k != 8))
def keyAt (d : List (List UInt8 × PO)) (j : Nat) : List UInt8 := (d.getD j ([], poNull)).1
def valAt (d : List (List UInt8 × PO)) (j : Nat) : PO := (d.getD j ([], poNull)).2
/-- is an entry at its place? -/
def chkE (f : PO → Bool) (d : List (List UInt8 × PO)) (j : Nat) : Bool := nmOk (keyAt d j) && !(decide (0 < j) && kle (keyAt d j) (keyAt d (j - 1))) && (valAt d j).kind != 8 && (valAt d j).kind != 0 && f (valAt d j)
def entF (f : Option (PO → Bool)) (b : List UInt8) (d : List (List UInt8 × PO)) : Bool :=
  match f with
  | none => false
  | some f => decide (b.length ≤ 16777216) && (List.range d.length).all (chkE f d)
/-- may an object be, if what it holds may as f says -/
def mayS (f : Option (PO → Bool)) : PO → Bool
  | .mk k n b l d => mayH k b.length l.length d.length && (
      if k = 1 then (n == 0 || n == 1)
      else if k = 2 then (decide (-2147483647 ≤ n) && decide (n ≤ 2147483647))
      else if k = 3 then (decide (-214748364799999 ≤ n) && decide (n ≤ 214748364799999))
      else if k = 9 then (decide (1 ≤ n) && decide (n ≤ 8388607))
      else if ¬ n = 0 then false
      else if k = 0 then true
      else if k = 4 then decide (b.length ≤ 32767)
      else if k = 5 then nmOk b
      else if k = 6 then (match f with
        | none => false
        | some f => l.all fun x => x.kind != 8 && f x)
      else if k = 7 ∨ k = 8 then entF f b d
      else false)
/-- may an object be, with so many in one another? -/
def mayF : Nat → PO → Bool
  | 0, o => mayS none o
  | dp + 1, o => mayS (some (mayF dp)) o
def prevF : Nat → Option (PO → Bool)
  | 0 => none
  | dp + 1 => some (mayF dp)
theorem mayF_eq (dp : Nat) (o : PO) : mayF dp o = mayS (prevF dp) o := by cases dp <;> rfl

theorem rhas_m (k n : Int) (b l d : Option Addr) (nb cb nl cl nd cd : Nat) (w : World) :
    Calls Tryz.prog 52 #[.agg #[.int .i64 k, .int .i64 n, .slice b nb cb, .slice l nl cl, .slice d nd cd]] w fun e w' => e = .returned (.bool (k == 7 || k == 8)) ∧ Below w.heap.size w w' := by
  by_cases h7 : k = 7
  · subst h7
    go_enter Tryz.func52, Tryz.ntmps52
    go_wp2
    go_ret
    exact ⟨rfl, alb _ _⟩
  · have b7 : (k == 7) = false := by simp [h7]
    rw [b7]
    go_enter Tryz.func52, Tryz.ntmps52
    go_wp2
    go_ret
    exact ⟨by simp, alb _ _⟩

theorem rin_any (n : Int) (w : World) : Calls Tryz.prog 53 #[.int .i64 n] w fun e w' => e = .returned (.bool (decide (-214748364799999 ≤ n) && decide (n ≤ 214748364799999))) ∧ w' = w := by
  by_cases h1 : n ≥ -214748364799999
  · by_cases h2 : n ≤ 214748364799999
    · rw [decide_eq_true (show -214748364799999 ≤ n from h1), decide_eq_true h2]
      go_enter Tryz.func53, Tryz.ntmps53
      go_wp2
      go_ret
      exact ⟨rfl, rfl⟩
    · rw [decide_eq_true (show -214748364799999 ≤ n from h1), decide_eq_false h2]
      go_enter Tryz.func53, Tryz.ntmps53
      go_wp2
      go_ret
      exact ⟨rfl, rfl⟩
  · rw [decide_eq_false (show ¬ -214748364799999 ≤ n from h1)]
    go_enter Tryz.func53, Tryz.ntmps53
    go_wp2
    go_ret
    exact ⟨rfl, rfl⟩

theorem nm_all {b : List UInt8} (h : ∀ j, j < b.length → ¬ b8 b j = 0) : b.all (fun x => x != 0) = true := by
  rw [List.all_eq_true]
  intro x hx
  obtain ⟨j, hj, rfl⟩ := List.getElem_of_mem hx
  have h1 := h j hj
  simp only [bne_iff_ne, ne_eq]
  intro q
  apply h1
  unfold b8
  simp [List.getD, hj, q]
theorem nm_no {b : List UInt8} {j : Nat} (hj : j < b.length) (h : b8 b j = 0) : b.all (fun x => x != 0) = false := by
  rw [List.all_eq_false]
  refine ⟨b[j], List.getElem_mem hj, ?_⟩
  have h2 : ((b[j]).toNat : Int) = 0 := by
    unfold b8 at h
    simpa [List.getD, hj] using h
  have h3 : b[j] = 0 := UInt8.toNat_inj.1 (show (b[j]).toNat = 0 by omega)
  simp [h3]
theorem rname_ok (v : Value) (b : List UInt8) (w : World) (h : Sl w v b) : Calls Tryz.prog 54 #[v] w fun e w' => e = .returned (.bool (nmOk b)) ∧ w' = w := by
  obtain ⟨ao, cap, rfl, q1, q2, -, hrd⟩ := id h
  have hmx : b.length ≤ 9223372036854775807 := by unfold maxLen at q2; omega
  by_cases hl : (b.length : Int) > 127
  · have HF := hid (show nmOk b = false from by unfold nmOk; rw [decide_eq_false (by omega)]; rfl)
    go_enter Tryz.func54, Tryz.ntmps54
    go_wp2
    go_ret
    exact ⟨by rw [HF.out]; rfl, rfl⟩
  · have HF := hid (show nmOk b = b.all (fun x => x != 0) from by unfold nmOk; rw [decide_eq_true (by omega)]; rfl)
    go_enter Tryz.func54, Tryz.ntmps54
    go_wp2
    go_loopw [3] (fun s3 wr => ∃ i : Nat, s3 = .int .i64 i ∧ i ≤ b.length ∧ wr = w ∧ ∀ j, j < i → ¬ b8 b j = 0) (fun s3 _ => b.length - (intOf s3).toNat)
    case atStart => exact ⟨0, rfl, Nat.zero_le _, rfl, fun j h => absurd h (Nat.not_lt_zero _)⟩
    case round =>
      obtain ⟨i, rfl, hi, rfl, hbef⟩ := hrel
      have HB := hid hbef
      clear hbef
      by_cases hlt : i < b.length
      · have hz : (i : Int) < (b.length : Int) := by omega
        obtain ⟨bb, oo, hao, -, hc⟩ := hrd.some (by omega)
        have hck := hc i hlt
        subst hao
        clear hc
        have x0 := b8_ge b i
        have x1 := b8_le b i
        by_cases h0 : b8 b i = 0
        · have HN := hid (nm_no hlt h0)
          have be : (b8 b i == 0) = true := by rw [h0]; rfl
          clear h0
          go_wp2
          go_ret
          exact ⟨by rw [HF.out, HN.out]; rfl, rfl⟩
        · have be : (b8 b i == 0) = false := by simp [h0]
          have H0 := hid h0
          clear h0
          go_wp2
          go_roundw
          case rel => exact ⟨i + 1, by go_num, by omega, trivial, fun j hj => by
            rcases Nat.lt_or_ge j i with q | q
            · exact HB.out j q
            · obtain rfl : j = i := by omega
              exact H0.out⟩
          case measure => simp [intOf]; omega
      · obtain rfl : i = b.length := by omega
        have hz : ¬ (b.length : Int) < (b.length : Int) := by omega
        have HN := hid (nm_all HB.out)
        go_wp2
        go_ret
        exact ⟨by rw [HF.out, HN.out]; rfl, rfl⟩

def MayC (dp : Nat) : Prop := ∀ (z : Int) (o : PO) (vs : List Value) (w : World), z = dp → GV w vs o → Calls Tryz.prog 30 #[.agg vs.toArray, .int .i64 z] w fun e w' => e = .returned (.bool (mayF dp o)) ∧ Below w.heap.size w w'
def EntC (dp : Nat) : Prop := ∀ (z : Int) (k n : Int) (b : List UInt8) (l : List PO) (d : List (List UInt8 × PO)) (vs : List Value) (w : World), z = dp → GV w vs (.mk k n b l d) → Calls Tryz.prog 55 #[.agg vs.toArray, .int .i64 z] w fun e w' => e = .returned (.bool (entF (prevF dp) b d)) ∧ Below w.heap.size w w'

set_option maxHeartbeats 3200000 in
set_option maxRecDepth 100000 in
theorem may6_a (z : Int) (vb vl vd : Value) (b : List UInt8) (l : List PO) (d : List (List UInt8 × PO)) (w : World) (hz : z = 0) (hgv : GV w [.int .i64 6, .int .i64 0, vb, vl, vd] (.mk 6 0 b l d)) (qb : b.length = 0) (qd : d.length = 0) (ql : 0 < l.length) :
    Calls Tryz.prog 30 #[.agg #[.int .i64 6, .int .i64 0, vb, vl, vd], .int .i64 z] w fun e w' => e = .returned (.bool (mayS (prevF 0) (.mk 6 0 b l d))) ∧ Below w.heap.size w w' := by
  have hzz : 0 ≤ z ∧ z ≤ 28 := by omega
  have HZ := hid hz
  cases hgv with
  | mk k n vb vl vd b l d Cl Cd hk hb hbz hl hle hlz hl' hd hde hdz hk' hd' =>
    obtain ⟨ab, cb, rfl, -⟩ := id hb
    obtain ⟨al, cl, rfl, -⟩ := id hl
    obtain ⟨ad, cd, rfl, -⟩ := id hd
    rw [hle] at hl ⊢
    rw [hde] at hd ⊢
    have HO := hid (C5.new w _ rfl [.int .i64 6, .int .i64 0, .slice ab b.length cb, .slice al l.length cl, .slice ad d.length cd] 34)
    have HL := hid hl
    have HL2 := hid hl'
    have hlm : l.length ≤ 9223372036854775807 := by unfold reachBytes at hlz; omega
    clear hz hb hl hd hl' hk' hd' hk
    have xd : ¬ (d.length : Int) > 0 := by omega
    have xb : ¬ (b.length : Int) > 0 := by omega
    have xl : (l.length : Int) > 0 := by omega
    have QLH := hid ql
    have QDH := hid qd
    have QBH := hid qb
    clear ql qd qb
    go_enter Tryz.func30, Tryz.ntmps30
    go_wp2_with (first | (go_at_call 52; refine (rhas_m _ _ _ _ _ _ _ _ _ _ _ _).mono ?_; rintro e w2 ⟨rfl, hb2⟩; have hO2 := HO.out.up hb2; have hB2 := below_then (alb w _) hb2; obtain ⟨oc, of_, os⟩ := id hO2))
    go_loopw [6] (fun s6 wr => s6 = .int .i64 0 ∧ Below w.heap.size w wr ∧ C5 wr w.heap.size [.int .i64 6, .int .i64 0, .slice ab b.length cb, .slice al l.length cl, .slice ad d.length cd]) (fun _ _ => 0)
    case atStart => exact ⟨rfl, hB2, hO2⟩
    case round =>
      obtain ⟨rfl, hB, hC⟩ := hrel
      obtain ⟨oc, of_, os⟩ := id hC
      have HF := hid (show mayS (prevF 0) (.mk 6 0 b l d) = false from by unfold mayS mayH; simp [QDH.out, QBH.out, prevF])
      obtain ⟨i, hi0⟩ : ∃ i : Nat, i = 0 := ⟨_, rfl⟩
      have hlt : i < l.length := by have := QLH.out; omega
      have hSw := HL.out.up hB
      obtain ⟨g, off, rfl, hcell⟩ := hSw.some (by omega)
      have hCi : i < Cl.length := by omega
      have l2 := hcell i hCi
      have hgi := HL2.out i hCi hlt
      have hv5 := hgi.v5
      have hk1 := hgi.kind1
      have HGI := hid hgi
      generalize Cl[i]'hCi = ci at l2 hv5 hk1 HGI
      obtain ⟨p1, p2, p3, p4, p5, p6, p7, p8, p9, p10, p11, rfl⟩ := hv5
      have hk1 : p1 = (l[i]'hlt).kind := by simpa using hk1
      have HK1 := hid hk1
      have c0 := l2 0 _ rfl
      have c1 := l2 1 _ rfl
      have c2 := l2 2 _ rfl
      have c3 := l2 3 _ rfl
      have c4 := l2 4 _ rfl
      rw [Nat.add_zero] at c0
      clear l2 hcell hk1 hSw hgi
      subst hi0
      rw [Nat.zero_mul, Nat.add_zero] at c0 c1 c2 c3 c4
      by_cases z8 : p1 = 8
      · subst z8
        go_wp2
        go_ret
        exact ⟨by rw [HF.out]; rfl, hB⟩
      · have b8 : (p1 == 8) = false := by simp [z8]
        have hz1 : z < 1 := by have := HZ.out; omega
        go_wp2
        go_ret
        exact ⟨by rw [HF.out]; rfl, hB⟩
set_option maxHeartbeats 3200000 in
set_option maxRecDepth 100000 in
theorem may6_b (z : Int) (vb vl vd : Value) (b : List UInt8) (l : List PO) (d : List (List UInt8 × PO)) (w : World) (hz : z = 0) (hgv : GV w [.int .i64 6, .int .i64 0, vb, vl, vd] (.mk 6 0 b l d)) (qb : b.length = 0) (qd : d.length = 0) (ql : ¬ 0 < l.length) :
    Calls Tryz.prog 30 #[.agg #[.int .i64 6, .int .i64 0, vb, vl, vd], .int .i64 z] w fun e w' => e = .returned (.bool (mayS (prevF 0) (.mk 6 0 b l d))) ∧ Below w.heap.size w w' := by
  have hzz : 0 ≤ z ∧ z ≤ 28 := by omega
  have HZ := hid hz
  cases hgv with
  | mk k n vb vl vd b l d Cl Cd hk hb hbz hl hle hlz hl' hd hde hdz hk' hd' =>
    obtain ⟨ab, cb, rfl, -⟩ := id hb
    obtain ⟨al, cl, rfl, -⟩ := id hl
    obtain ⟨ad, cd, rfl, -⟩ := id hd
    rw [hle] at hl ⊢
    rw [hde] at hd ⊢
    have HO := hid (C5.new w _ rfl [.int .i64 6, .int .i64 0, .slice ab b.length cb, .slice al l.length cl, .slice ad d.length cd] 34)
    have HL := hid hl
    have HL2 := hid hl'
    have hlm : l.length ≤ 9223372036854775807 := by unfold reachBytes at hlz; omega
    clear hz hb hl hd hl' hk' hd' hk
    have xd : ¬ (d.length : Int) > 0 := by omega
    have xb : ¬ (b.length : Int) > 0 := by omega
    obtain rfl : z = 0 := HZ.out
    have QL := hid (show l = [] from List.length_eq_zero_iff.1 (by omega))
    have xl : ¬ (l.length : Int) > 0 := by omega
    have QLH := hid ql
    have QDH := hid qd
    have QBH := hid qb
    clear ql qd qb
    go_enter Tryz.func30, Tryz.ntmps30
    go_wp2_with (first | (go_at_call 52; refine (rhas_m _ _ _ _ _ _ _ _ _ _ _ _).mono ?_; rintro e w2 ⟨rfl, hb2⟩; have hO2 := HO.out.up hb2; have hB2 := below_then (alb w _) hb2; obtain ⟨oc, of_, os⟩ := id hO2))
    go_loopw [6] (fun s6 wr => s6 = .int .i64 0 ∧ Below w.heap.size w wr ∧ C5 wr w.heap.size [.int .i64 6, .int .i64 0, .slice ab b.length cb, .slice al l.length cl, .slice ad d.length cd]) (fun _ _ => 0)
    case atStart => exact ⟨rfl, hB2, hO2⟩
    case round =>
      obtain ⟨rfl, hB, hC⟩ := hrel
      obtain ⟨oc, of_, os⟩ := id hC
      have HF := hid (show mayS (prevF 0) (.mk 6 0 b l d) = false from by unfold mayS mayH; simp [QDH.out, QBH.out, prevF])
      go_wp2
      go_ret
      exact ⟨by rw [HF.out]; rfl, hB⟩
set_option maxHeartbeats 3200000 in
set_option maxRecDepth 100000 in
theorem may6_c (m : Nat) (hdp : m + 1 ≤ 28) (hM : MayC m) (z : Int) (vb vl vd : Value) (b : List UInt8) (l : List PO) (d : List (List UInt8 × PO)) (w : World) (hz : z = (m + 1)) (hgv : GV w [.int .i64 6, .int .i64 0, vb, vl, vd] (.mk 6 0 b l d)) (qb : b.length = 0) (qd : d.length = 0) (ql : 0 < l.length) :
    Calls Tryz.prog 30 #[.agg #[.int .i64 6, .int .i64 0, vb, vl, vd], .int .i64 z] w fun e w' => e = .returned (.bool (mayS (prevF (m + 1)) (.mk 6 0 b l d))) ∧ Below w.heap.size w w' := by
  have hzz : 0 ≤ z ∧ z ≤ 28 := by omega
  have HZ := hid hz
  cases hgv with
  | mk k n vb vl vd b l d Cl Cd hk hb hbz hl hle hlz hl' hd hde hdz hk' hd' =>
    obtain ⟨ab, cb, rfl, -⟩ := id hb
    obtain ⟨al, cl, rfl, -⟩ := id hl
    obtain ⟨ad, cd, rfl, -⟩ := id hd
    rw [hle] at hl ⊢
    rw [hde] at hd ⊢
    have HO := hid (C5.new w _ rfl [.int .i64 6, .int .i64 0, .slice ab b.length cb, .slice al l.length cl, .slice ad d.length cd] 34)
    have HL := hid hl
    have HL2 := hid hl'
    have hlm : l.length ≤ 9223372036854775807 := by unfold reachBytes at hlz; omega
    clear hz hb hl hd hl' hk' hd' hk
    have xd : ¬ (d.length : Int) > 0 := by omega
    have xb : ¬ (b.length : Int) > 0 := by omega
    have HMM := hid hM
    have xl : (l.length : Int) > 0 := by omega
    have QLH := hid ql
    have QDH := hid qd
    have QBH := hid qb
    clear ql qd qb
    go_enter Tryz.func30, Tryz.ntmps30
    go_wp2_with (first | (go_at_call 52; refine (rhas_m _ _ _ _ _ _ _ _ _ _ _ _).mono ?_; rintro e w2 ⟨rfl, hb2⟩; have hO2 := HO.out.up hb2; have hB2 := below_then (alb w _) hb2; obtain ⟨oc, of_, os⟩ := id hO2))
    go_loopw [6] (fun s6 wr => ∃ i : Nat, s6 = .int .i64 i ∧ i ≤ l.length ∧ (∀ j (h : j < l.length), j < i → (l[j].kind != 8 && mayF m l[j]) = true) ∧ Below w.heap.size w wr ∧ C5 wr w.heap.size [.int .i64 6, .int .i64 0, .slice ab b.length cb, .slice al l.length cl, .slice ad d.length cd]) (fun s6 _ => l.length - (intOf s6).toNat)
    case atStart => exact ⟨0, rfl, Nat.zero_le _, fun j _ h => absurd h (Nat.not_lt_zero _), hB2, hO2⟩
    case round =>
      obtain ⟨i, rfl, hi, hbef, hB, hC⟩ := hrel
      obtain ⟨oc, of_, os⟩ := id hC
      have HB := hid hbef
      clear hbef
      have hz1 : ¬ z < 1 := by have := HZ.out; omega
      by_cases hlt : i < l.length
      · have hzi : (i : Int) < (l.length : Int) := by omega
        have hSw := HL.out.up hB
        obtain ⟨g, off, rfl, hcell⟩ := hSw.some (by omega)
        have hCi : i < Cl.length := by omega
        have l2 := hcell i hCi
        have hgi := HL2.out i hCi hlt
        have hv5 := hgi.v5
        have hk1 := hgi.kind1
        have HGI := hid hgi
        generalize Cl[i]'hCi = ci at l2 hv5 hk1 HGI
        obtain ⟨p1, p2, p3, p4, p5, p6, p7, p8, p9, p10, p11, rfl⟩ := hv5
        have hk1 : p1 = (l[i]'hlt).kind := by simpa using hk1
        have HK1 := hid hk1
        have c0 := l2 0 _ rfl
        have c1 := l2 1 _ rfl
        have c2 := l2 2 _ rfl
        have c3 := l2 3 _ rfl
        have c4 := l2 4 _ rfl
        rw [Nat.add_zero] at c0
        clear l2 hcell hk1 hSw hgi
        have hwz : IntKind.i64.wrap (z - 1) = z - 1 := IntWalk.i64_in _ (by omega)
        have hNO := hid (fun (h : (l[i].kind != 8 && mayF m l[i]) = false) => (show mayS (prevF (m + 1)) (.mk 6 0 b l d) = false from by unfold mayS mayH; simp only [prevF]; have h9 : (l.all fun x => x.kind != 8 && mayF m x) = false := List.all_eq_false.2 ⟨_, List.getElem_mem hlt, by rw [h]; decide⟩; rw [h9]; simp [QDH.out, QBH.out]))
        by_cases z8 : p1 = 8
        · have HF := hid (hNO.out (by rw [← HK1.out, z8]; rfl))
          have b8 : (p1 == 8) = true := by simp [z8]
          clear z8
          go_wp2
          go_ret
          exact ⟨by rw [HF.out]; rfl, hB⟩
        have b8 : (p1 == 8) = false := by simp [z8]
        have HZ8 := hid z8
        clear z8
        have HCM := hid (HMM.out (z - 1) l[i] _ wr (by have := HZ.out; omega) (HGI.out.up hB))
        cases hmf : mayF m l[i] with
        | false =>
          have HF := hid (hNO.out (by rw [hmf]; simp))
          rw [hmf] at HCM
          clear hmf
          go_wp2_with (first | (go_at_call 30; refine HCM.out.mono ?_; rintro e w5 ⟨rfl, hb5⟩))
          go_ret
          exact ⟨by rw [HF.out]; rfl, hB.trans (hb5.mono hB.size)⟩
        | true =>
          have HOK := hid (show (l[i].kind != 8 && mayF m l[i]) = true from by rw [hmf, ← HK1.out]; simp [HZ8.out])
          rw [hmf] at HCM
          clear hmf
          go_wp2_with (first | (go_at_call 30; refine HCM.out.mono ?_; rintro e w5 ⟨rfl, hb5⟩))
          go_roundw
          case rel => exact ⟨i + 1, by go_num, by omega, fun j h1 h2 => by
            rcases Nat.lt_or_ge j i with q | q
            · exact HB.out j h1 q
            · obtain rfl : j = i := by omega
              exact HOK.out, hB.trans (hb5.mono hB.size), hC.up hb5⟩
          case measure => simp [intOf]; omega
      · obtain rfl : i = l.length := by omega
        have hzi : ¬ (l.length : Int) < (l.length : Int) := by omega
        have hz2 : z ≥ 1 := by omega
        have HF := hid (show mayS (prevF (m + 1)) (.mk 6 0 b l d) = true from by unfold mayS mayH; simp only [prevF]; have h9 : (l.all fun x => x.kind != 8 && mayF m x) = true := List.all_eq_true.2 (fun x hx => by obtain ⟨j, hj, rfl⟩ := List.getElem_of_mem hx; exact HB.out j hj hj); rw [h9]; simp [QDH.out, QBH.out])
        go_wp2
        go_ret
        exact ⟨by rw [HF.out]; rfl, hB⟩
set_option maxHeartbeats 3200000 in
set_option maxRecDepth 100000 in
theorem may6_d (m : Nat) (hdp : m + 1 ≤ 28) (z : Int) (vb vl vd : Value) (b : List UInt8) (l : List PO) (d : List (List UInt8 × PO)) (w : World) (hz : z = (m + 1)) (hgv : GV w [.int .i64 6, .int .i64 0, vb, vl, vd] (.mk 6 0 b l d)) (qb : b.length = 0) (qd : d.length = 0) (ql : ¬ 0 < l.length) :
    Calls Tryz.prog 30 #[.agg #[.int .i64 6, .int .i64 0, vb, vl, vd], .int .i64 z] w fun e w' => e = .returned (.bool (mayS (prevF (m + 1)) (.mk 6 0 b l d))) ∧ Below w.heap.size w w' := by
  have hzz : 0 ≤ z ∧ z ≤ 28 := by omega
  have HZ := hid hz
  cases hgv with
  | mk k n vb vl vd b l d Cl Cd hk hb hbz hl hle hlz hl' hd hde hdz hk' hd' =>
    obtain ⟨ab, cb, rfl, -⟩ := id hb
    obtain ⟨al, cl, rfl, -⟩ := id hl
    obtain ⟨ad, cd, rfl, -⟩ := id hd
    rw [hle] at hl ⊢
    rw [hde] at hd ⊢
    have HO := hid (C5.new w _ rfl [.int .i64 6, .int .i64 0, .slice ab b.length cb, .slice al l.length cl, .slice ad d.length cd] 34)
    have HL := hid hl
    have HL2 := hid hl'
    have hlm : l.length ≤ 9223372036854775807 := by unfold reachBytes at hlz; omega
    clear hz hb hl hd hl' hk' hd' hk
    have xd : ¬ (d.length : Int) > 0 := by omega
    have xb : ¬ (b.length : Int) > 0 := by omega
    have QL := hid (show l = [] from List.length_eq_zero_iff.1 (by omega))
    have hz2 : z ≥ 1 := by have := HZ.out; omega
    have xl : ¬ (l.length : Int) > 0 := by omega
    have QLH := hid ql
    have QDH := hid qd
    have QBH := hid qb
    clear ql qd qb
    go_enter Tryz.func30, Tryz.ntmps30
    go_wp2_with (first | (go_at_call 52; refine (rhas_m _ _ _ _ _ _ _ _ _ _ _ _).mono ?_; rintro e w2 ⟨rfl, hb2⟩; have hO2 := HO.out.up hb2; have hB2 := below_then (alb w _) hb2; obtain ⟨oc, of_, os⟩ := id hO2))
    go_loopw [6] (fun s6 wr => s6 = .int .i64 0 ∧ Below w.heap.size w wr ∧ C5 wr w.heap.size [.int .i64 6, .int .i64 0, .slice ab b.length cb, .slice al l.length cl, .slice ad d.length cd]) (fun _ _ => 0)
    case atStart => exact ⟨rfl, hB2, hO2⟩
    case round =>
      obtain ⟨rfl, hB, hC⟩ := hrel
      obtain ⟨oc, of_, os⟩ := id hC
      have HF := hid (show mayS (prevF (m + 1)) (.mk 6 0 b l d) = true from by unfold mayS mayH; simp [QDH.out, QBH.out, prevF, QL.out])
      go_wp2
      go_ret
      exact ⟨by rw [HF.out]; rfl, hB⟩
theorem may6_of (dp : Nat) (hdp : dp ≤ 28) (hM : ∀ m, dp = m + 1 → MayC m) (z : Int) (vb vl vd : Value) (b : List UInt8) (l : List PO) (d : List (List UInt8 × PO)) (w : World) (hz : z = dp) (hgv : GV w [.int .i64 6, .int .i64 0, vb, vl, vd] (.mk 6 0 b l d)) (qb : b.length = 0) (qd : d.length = 0) :
    Calls Tryz.prog 30 #[.agg #[.int .i64 6, .int .i64 0, vb, vl, vd], .int .i64 z] w fun e w' => e = .returned (.bool (mayS (prevF dp) (.mk 6 0 b l d))) ∧ Below w.heap.size w w' := by
  by_cases ql : 0 < l.length
  · cases dp with
    | zero => exact may6_a z vb vl vd b l d w hz hgv qb qd ql
    | succ m => exact may6_c m hdp (hM m rfl) z vb vl vd b l d w hz hgv qb qd ql
  · cases dp with
    | zero => exact may6_b z vb vl vd b l d w hz hgv qb qd ql
    | succ m => exact may6_d m hdp z vb vl vd b l d w hz hgv qb qd ql

set_option maxHeartbeats 6400000 in
set_option maxRecDepth 100000 in
theorem may_of (dp : Nat) (hdp : dp ≤ 28) (hM : ∀ m, dp = m + 1 → MayC m) (hE : EntC dp) : MayC dp := by
  intro z o vs w hz hgv
  have hzz : 0 ≤ z ∧ z ≤ 28 := by omega
  have HZ := hid hz
  have HG := hid hgv
  rw [mayF_eq]
  obtain ⟨k, n, vb, vl, vd, b, l, d, Cl, Cd, hk, hb, hbz, hl, hle, hlz, hl', hd, hde, hdz, hk', hd'⟩ := hgv
  obtain ⟨ab, cb, rfl, -⟩ := id hb
  obtain ⟨al, cl, rfl, -⟩ := id hl
  obtain ⟨ad, cd, rfl, -⟩ := id hd
  rw [hle] at hl HG ⊢
  rw [hde] at hd HG ⊢
  have HO := hid (C5.new w _ rfl [.int .i64 k, .int .i64 n, .slice ab b.length cb, .slice al l.length cl, .slice ad d.length cd] 34)
  have HL := hid hl
  have HBS := hid hb
  have HL2 := hid hl'
  clear hz hb hl hd hl' hk' hd' hk
  have HE := hid hE
  have HMM := hid hM
  clear hE hM
  by_cases cA : 0 < l.length ∧ ¬ k = 6
  · obtain ⟨ql, k6⟩ := cA
    have xl : (l.length : Int) > 0 := by omega
    have b6 : (k != 6) = true := by simp [k6]
    have HF := hid (show mayS (prevF dp) (.mk k n b l d) = false from by unfold mayS mayH; simp [ql, k6])
    (try clear hA); (try clear hB); (try clear hC); (try clear ql); (try clear qd); (try clear qb)
    go_enter Tryz.func30, Tryz.ntmps30
    go_wp2_with (first | (go_at_call 52; refine (rhas_m _ _ _ _ _ _ _ _ _ _ _ _).mono ?_; rintro e w2 ⟨rfl, hb2⟩; have hO2 := HO.out.up hb2; have hB2 := below_then (alb w _) hb2; obtain ⟨oc, of_, os⟩ := id hO2))
    go_ret
    exact ⟨by rw [HF.out]; rfl, hB2⟩
  have hA : l.length = 0 ∨ k = 6 := by
    by_cases q : k = 6
    · exact .inr q
    · exact .inl (by omega)
  clear cA
  by_cases cB : 0 < d.length ∧ ¬ (k = 7 ∨ k = 8)
  · obtain ⟨qd, k78⟩ := cB
    have xd : (d.length : Int) > 0 := by omega
    by_cases k6 : k = 6
    · subst k6
      by_cases ql : 0 < l.length
      · have xl : (l.length : Int) > 0 := by omega
        have HF := hid (show mayS (prevF dp) (.mk 6 n b l d) = false from by unfold mayS mayH; simp [qd])
        (try clear hA); (try clear hB); (try clear hC); (try clear ql); (try clear qd); (try clear qb)
        go_enter Tryz.func30, Tryz.ntmps30
        go_wp2_with (first | (go_at_call 52; refine (rhas_m _ _ _ _ _ _ _ _ _ _ _ _).mono ?_; rintro e w2 ⟨rfl, hb2⟩; have hO2 := HO.out.up hb2; have hB2 := below_then (alb w _) hb2; obtain ⟨oc, of_, os⟩ := id hO2))
        go_ret
        exact ⟨by rw [HF.out]; rfl, hB2⟩
      · have xl : ¬ (l.length : Int) > 0 := by omega
        have HF := hid (show mayS (prevF dp) (.mk 6 n b l d) = false from by unfold mayS mayH; simp [qd])
        (try clear hA); (try clear hB); (try clear hC); (try clear ql); (try clear qd); (try clear qb)
        go_enter Tryz.func30, Tryz.ntmps30
        go_wp2_with (first | (go_at_call 52; refine (rhas_m _ _ _ _ _ _ _ _ _ _ _ _).mono ?_; rintro e w2 ⟨rfl, hb2⟩; have hO2 := HO.out.up hb2; have hB2 := below_then (alb w _) hb2; obtain ⟨oc, of_, os⟩ := id hO2))
        go_ret
        exact ⟨by rw [HF.out]; rfl, hB2⟩
    · have ql : l.length = 0 := by omega
      have xl : ¬ (l.length : Int) > 0 := by omega
      have b7 : (k == 7) = false := by simp; omega
      have b8 : (k == 8) = false := by simp; omega
      have HK := hid k78
      clear k78 ql k6 hA
      have HF := hid (show mayS (prevF dp) (.mk k n b l d) = false from by unfold mayS mayH; simp [qd, b7, b8])
      (try clear hA); (try clear hB); (try clear hC); (try clear ql); (try clear qd); (try clear qb)
      go_enter Tryz.func30, Tryz.ntmps30
      go_wp2_with (first | (go_at_call 52; refine (rhas_m _ _ _ _ _ _ _ _ _ _ _ _).mono ?_; rintro e w2 ⟨rfl, hb2⟩; have hO2 := HO.out.up hb2; have hB2 := below_then (alb w _) hb2; obtain ⟨oc, of_, os⟩ := id hO2))
      go_ret
      exact ⟨by rw [HF.out]; rfl, hB2⟩
  have hB : d.length = 0 ∨ k = 7 ∨ k = 8 := by omega
  clear cB
  by_cases cC : 0 < b.length ∧ ¬ (k = 4 ∨ k = 5 ∨ k = 8)
  · obtain ⟨qb, k458⟩ := cC
    have xb : (b.length : Int) > 0 := by omega
    by_cases k6 : k = 6
    · subst k6
      have qd : d.length = 0 := by omega
      have xd : ¬ (d.length : Int) > 0 := by omega
      by_cases ql : 0 < l.length
      · have xl : (l.length : Int) > 0 := by omega
        have HF := hid (show mayS (prevF dp) (.mk 6 n b l d) = false from by unfold mayS mayH; simp [qb])
        (try clear hA); (try clear hB); (try clear hC); (try clear ql); (try clear qd); (try clear qb)
        go_enter Tryz.func30, Tryz.ntmps30
        go_wp2_with (first | (go_at_call 52; refine (rhas_m _ _ _ _ _ _ _ _ _ _ _ _).mono ?_; rintro e w2 ⟨rfl, hb2⟩; have hO2 := HO.out.up hb2; have hB2 := below_then (alb w _) hb2; obtain ⟨oc, of_, os⟩ := id hO2))
        go_ret
        exact ⟨by rw [HF.out]; rfl, hB2⟩
      · have xl : ¬ (l.length : Int) > 0 := by omega
        have HF := hid (show mayS (prevF dp) (.mk 6 n b l d) = false from by unfold mayS mayH; simp [qb])
        (try clear hA); (try clear hB); (try clear hC); (try clear ql); (try clear qd); (try clear qb)
        go_enter Tryz.func30, Tryz.ntmps30
        go_wp2_with (first | (go_at_call 52; refine (rhas_m _ _ _ _ _ _ _ _ _ _ _ _).mono ?_; rintro e w2 ⟨rfl, hb2⟩; have hO2 := HO.out.up hb2; have hB2 := below_then (alb w _) hb2; obtain ⟨oc, of_, os⟩ := id hO2))
        go_ret
        exact ⟨by rw [HF.out]; rfl, hB2⟩
    by_cases k7 : k = 7
    · subst k7
      have ql : l.length = 0 := by omega
      have xl : ¬ (l.length : Int) > 0 := by omega
      by_cases qd : 0 < d.length
      · have xd : (d.length : Int) > 0 := by omega
        have HF := hid (show mayS (prevF dp) (.mk 7 n b l d) = false from by unfold mayS mayH; simp [qb])
        (try clear hA); (try clear hB); (try clear hC); (try clear ql); (try clear qd); (try clear qb)
        go_enter Tryz.func30, Tryz.ntmps30
        go_wp2_with (first | (go_at_call 52; refine (rhas_m _ _ _ _ _ _ _ _ _ _ _ _).mono ?_; rintro e w2 ⟨rfl, hb2⟩; have hO2 := HO.out.up hb2; have hB2 := below_then (alb w _) hb2; obtain ⟨oc, of_, os⟩ := id hO2))
        go_ret
        exact ⟨by rw [HF.out]; rfl, hB2⟩
      · have xd : ¬ (d.length : Int) > 0 := by omega
        have HF := hid (show mayS (prevF dp) (.mk 7 n b l d) = false from by unfold mayS mayH; simp [qb])
        (try clear hA); (try clear hB); (try clear hC); (try clear ql); (try clear qd); (try clear qb)
        go_enter Tryz.func30, Tryz.ntmps30
        go_wp2_with (first | (go_at_call 52; refine (rhas_m _ _ _ _ _ _ _ _ _ _ _ _).mono ?_; rintro e w2 ⟨rfl, hb2⟩; have hO2 := HO.out.up hb2; have hB2 := below_then (alb w _) hb2; obtain ⟨oc, of_, os⟩ := id hO2))
        go_ret
        exact ⟨by rw [HF.out]; rfl, hB2⟩
    have ql : l.length = 0 := by omega
    have qd : d.length = 0 := by omega
    have xl : ¬ (l.length : Int) > 0 := by omega
    have xd : ¬ (d.length : Int) > 0 := by omega
    have b4 : (k != 4) = true := by simp; omega
    have b5 : (k != 5) = true := by simp; omega
    have b8 : (k != 8) = true := by simp; omega
    have b7 : (k == 7) = false := by simp; omega
    have b8' : (k == 8) = false := by simp; omega
    clear ql qd hA hB k6 k7 k458
    have HF := hid (show mayS (prevF dp) (.mk k n b l d) = false from by unfold mayS mayH; simp [qb, b4, b5, b8])
    (try clear hA); (try clear hB); (try clear hC); (try clear ql); (try clear qd); (try clear qb)
    go_enter Tryz.func30, Tryz.ntmps30
    go_wp2_with (first | (go_at_call 52; refine (rhas_m _ _ _ _ _ _ _ _ _ _ _ _).mono ?_; rintro e w2 ⟨rfl, hb2⟩; have hO2 := HO.out.up hb2; have hB2 := below_then (alb w _) hb2; obtain ⟨oc, of_, os⟩ := id hO2))
    go_ret
    exact ⟨by rw [HF.out]; rfl, hB2⟩
  have hC : b.length = 0 ∨ k = 4 ∨ k = 5 ∨ k = 8 := by omega
  clear cC
  by_cases k1 : k = 1
  · subst k1
    have ql : l.length = 0 := by omega
    have qd : d.length = 0 := by omega
    have qb : b.length = 0 := by omega
    have xl : ¬ (l.length : Int) > 0 := by omega
    have xd : ¬ (d.length : Int) > 0 := by omega
    have xb : ¬ (b.length : Int) > 0 := by omega
    by_cases n0 : n = 0
    · have bn : (n == 0) = true := by simp [n0]
      have N0 := hid n0
      clear n0
      have HF := hid (show mayS (prevF dp) (.mk 1 n b l d) = true from by unfold mayS mayH; simp [ql, qd, qb, N0.out])
      (try clear hA); (try clear hB); (try clear hC); (try clear ql); (try clear qd); (try clear qb)
      go_enter Tryz.func30, Tryz.ntmps30
      go_wp2_with (first | (go_at_call 52; refine (rhas_m _ _ _ _ _ _ _ _ _ _ _ _).mono ?_; rintro e w2 ⟨rfl, hb2⟩; have hO2 := HO.out.up hb2; have hB2 := below_then (alb w _) hb2; obtain ⟨oc, of_, os⟩ := id hO2))
      go_ret
      exact ⟨by rw [HF.out]; rfl, hB2⟩
    by_cases n1 : n = 1
    · have bn : (n == 0) = false := by simp [n0]
      have bm : (n == 1) = true := by simp [n1]
      have N1 := hid n1
      clear n0 n1
      have HF := hid (show mayS (prevF dp) (.mk 1 n b l d) = true from by unfold mayS mayH; simp [ql, qd, qb, N1.out])
      (try clear hA); (try clear hB); (try clear hC); (try clear ql); (try clear qd); (try clear qb)
      go_enter Tryz.func30, Tryz.ntmps30
      go_wp2_with (first | (go_at_call 52; refine (rhas_m _ _ _ _ _ _ _ _ _ _ _ _).mono ?_; rintro e w2 ⟨rfl, hb2⟩; have hO2 := HO.out.up hb2; have hB2 := below_then (alb w _) hb2; obtain ⟨oc, of_, os⟩ := id hO2))
      go_ret
      exact ⟨by rw [HF.out]; rfl, hB2⟩
    have bn : (n == 0) = false := by simp [n0]
    have bm : (n == 1) = false := by simp [n1]
    have N0 := hid n0
    have N1 := hid n1
    clear n0 n1
    have HF := hid (show mayS (prevF dp) (.mk 1 n b l d) = false from by unfold mayS mayH; simp [ql, qd, qb, N0.out, N1.out])
    (try clear hA); (try clear hB); (try clear hC); (try clear ql); (try clear qd); (try clear qb)
    go_enter Tryz.func30, Tryz.ntmps30
    go_wp2_with (first | (go_at_call 52; refine (rhas_m _ _ _ _ _ _ _ _ _ _ _ _).mono ?_; rintro e w2 ⟨rfl, hb2⟩; have hO2 := HO.out.up hb2; have hB2 := below_then (alb w _) hb2; obtain ⟨oc, of_, os⟩ := id hO2))
    go_ret
    exact ⟨by rw [HF.out]; rfl, hB2⟩
  by_cases k2 : k = 2
  · subst k2
    have ql : l.length = 0 := by omega
    have qd : d.length = 0 := by omega
    have qb : b.length = 0 := by omega
    have xl : ¬ (l.length : Int) > 0 := by omega
    have xd : ¬ (d.length : Int) > 0 := by omega
    have xb : ¬ (b.length : Int) > 0 := by omega
    by_cases y1 : n ≥ -2147483647
    · have y2 : -2147483647 ≤ n := y1
      have HF := hid (show mayS (prevF dp) (.mk 2 n b l d) = decide (n ≤ 2147483647) from by unfold mayS mayH; simp [ql, qd, qb, y2])
      (try clear hA); (try clear hB); (try clear hC); (try clear ql); (try clear qd); (try clear qb)
      go_enter Tryz.func30, Tryz.ntmps30
      go_wp2_with (first | (go_at_call 52; refine (rhas_m _ _ _ _ _ _ _ _ _ _ _ _).mono ?_; rintro e w2 ⟨rfl, hb2⟩; have hO2 := HO.out.up hb2; have hB2 := below_then (alb w _) hb2; obtain ⟨oc, of_, os⟩ := id hO2))
      go_ret
      exact ⟨by rw [HF.out]; rfl, hB2⟩
    · have HF := hid (show mayS (prevF dp) (.mk 2 n b l d) = false from by unfold mayS mayH; simp [ql, qd, qb]; omega)
      (try clear hA); (try clear hB); (try clear hC); (try clear ql); (try clear qd); (try clear qb)
      go_enter Tryz.func30, Tryz.ntmps30
      go_wp2_with (first | (go_at_call 52; refine (rhas_m _ _ _ _ _ _ _ _ _ _ _ _).mono ?_; rintro e w2 ⟨rfl, hb2⟩; have hO2 := HO.out.up hb2; have hB2 := below_then (alb w _) hb2; obtain ⟨oc, of_, os⟩ := id hO2))
      go_ret
      exact ⟨by rw [HF.out]; rfl, hB2⟩
  by_cases k3 : k = 3
  · subst k3
    have ql : l.length = 0 := by omega
    have qd : d.length = 0 := by omega
    have qb : b.length = 0 := by omega
    have xl : ¬ (l.length : Int) > 0 := by omega
    have xd : ¬ (d.length : Int) > 0 := by omega
    have xb : ¬ (b.length : Int) > 0 := by omega
    have HF := hid (show mayS (prevF dp) (.mk 3 n b l d) = (decide (-214748364799999 ≤ n) && decide (n ≤ 214748364799999)) from by unfold mayS mayH; simp [ql, qd, qb])
    (try clear hA); (try clear hB); (try clear hC); (try clear ql); (try clear qd); (try clear qb)
    go_enter Tryz.func30, Tryz.ntmps30
    go_wp2_with (first | (go_at_call 53; refine (rin_any _ _).mono ?_; rintro e w3 ⟨rfl, rfl⟩) | (go_at_call 52; refine (rhas_m _ _ _ _ _ _ _ _ _ _ _ _).mono ?_; rintro e w2 ⟨rfl, hb2⟩; have hO2 := HO.out.up hb2; have hB2 := below_then (alb w _) hb2; obtain ⟨oc, of_, os⟩ := id hO2))
    go_ret
    exact ⟨by rw [HF.out]; rfl, hB2⟩
  by_cases k9 : k = 9
  · subst k9
    have ql : l.length = 0 := by omega
    have qd : d.length = 0 := by omega
    have qb : b.length = 0 := by omega
    have xl : ¬ (l.length : Int) > 0 := by omega
    have xd : ¬ (d.length : Int) > 0 := by omega
    have xb : ¬ (b.length : Int) > 0 := by omega
    by_cases y1 : n ≥ 1
    · have y2 : 1 ≤ n := y1
      have HF := hid (show mayS (prevF dp) (.mk 9 n b l d) = decide (n ≤ 8388607) from by unfold mayS mayH; simp [ql, qd, qb, y2])
      (try clear hA); (try clear hB); (try clear hC); (try clear ql); (try clear qd); (try clear qb)
      go_enter Tryz.func30, Tryz.ntmps30
      go_wp2_with (first | (go_at_call 52; refine (rhas_m _ _ _ _ _ _ _ _ _ _ _ _).mono ?_; rintro e w2 ⟨rfl, hb2⟩; have hO2 := HO.out.up hb2; have hB2 := below_then (alb w _) hb2; obtain ⟨oc, of_, os⟩ := id hO2))
      go_ret
      exact ⟨by rw [HF.out]; rfl, hB2⟩
    · have HF := hid (show mayS (prevF dp) (.mk 9 n b l d) = false from by unfold mayS mayH; simp [ql, qd, qb]; omega)
      (try clear hA); (try clear hB); (try clear hC); (try clear ql); (try clear qd); (try clear qb)
      go_enter Tryz.func30, Tryz.ntmps30
      go_wp2_with (first | (go_at_call 52; refine (rhas_m _ _ _ _ _ _ _ _ _ _ _ _).mono ?_; rintro e w2 ⟨rfl, hb2⟩; have hO2 := HO.out.up hb2; have hB2 := below_then (alb w _) hb2; obtain ⟨oc, of_, os⟩ := id hO2))
      go_ret
      exact ⟨by rw [HF.out]; rfl, hB2⟩
  by_cases n0 : ¬ n = 0
  · by_cases k0 : k = 0
    · subst k0
      have ql : l.length = 0 := by omega
      have qd : d.length = 0 := by omega
      have qb : b.length = 0 := by omega
      have xl : ¬ (l.length : Int) > 0 := by omega
      have xd : ¬ (d.length : Int) > 0 := by omega
      have xb : ¬ (b.length : Int) > 0 := by omega
      have bn : (n != 0) = true := by simp [n0]
      have HF := hid (show mayS (prevF dp) (.mk 0 n b l d) = false from by unfold mayS mayH; simp [n0])
      (try clear hA); (try clear hB); (try clear hC); (try clear ql); (try clear qd); (try clear qb)
      go_enter Tryz.func30, Tryz.ntmps30
      go_wp2_with (first | (go_at_call 52; refine (rhas_m _ _ _ _ _ _ _ _ _ _ _ _).mono ?_; rintro e w2 ⟨rfl, hb2⟩; have hO2 := HO.out.up hb2; have hB2 := below_then (alb w _) hb2; obtain ⟨oc, of_, os⟩ := id hO2))
      go_ret
      exact ⟨by rw [HF.out]; rfl, hB2⟩
    by_cases k4 : k = 4
    · subst k4
      have ql : l.length = 0 := by omega
      have qd : d.length = 0 := by omega
      have xl : ¬ (l.length : Int) > 0 := by omega
      have xd : ¬ (d.length : Int) > 0 := by omega
      by_cases qb : 0 < b.length
      · have xb : (b.length : Int) > 0 := by omega
        have bn : (n != 0) = true := by simp [n0]
        have HF := hid (show mayS (prevF dp) (.mk 4 n b l d) = false from by unfold mayS mayH; simp [n0])
        (try clear hA); (try clear hB); (try clear hC); (try clear ql); (try clear qd); (try clear qb)
        go_enter Tryz.func30, Tryz.ntmps30
        go_wp2_with (first | (go_at_call 52; refine (rhas_m _ _ _ _ _ _ _ _ _ _ _ _).mono ?_; rintro e w2 ⟨rfl, hb2⟩; have hO2 := HO.out.up hb2; have hB2 := below_then (alb w _) hb2; obtain ⟨oc, of_, os⟩ := id hO2))
        go_ret
        exact ⟨by rw [HF.out]; rfl, hB2⟩
      · have xb : ¬ (b.length : Int) > 0 := by omega
        have bn : (n != 0) = true := by simp [n0]
        have HF := hid (show mayS (prevF dp) (.mk 4 n b l d) = false from by unfold mayS mayH; simp [n0])
        (try clear hA); (try clear hB); (try clear hC); (try clear ql); (try clear qd); (try clear qb)
        go_enter Tryz.func30, Tryz.ntmps30
        go_wp2_with (first | (go_at_call 52; refine (rhas_m _ _ _ _ _ _ _ _ _ _ _ _).mono ?_; rintro e w2 ⟨rfl, hb2⟩; have hO2 := HO.out.up hb2; have hB2 := below_then (alb w _) hb2; obtain ⟨oc, of_, os⟩ := id hO2))
        go_ret
        exact ⟨by rw [HF.out]; rfl, hB2⟩
    by_cases k5 : k = 5
    · subst k5
      have ql : l.length = 0 := by omega
      have qd : d.length = 0 := by omega
      have xl : ¬ (l.length : Int) > 0 := by omega
      have xd : ¬ (d.length : Int) > 0 := by omega
      by_cases qb : 0 < b.length
      · have xb : (b.length : Int) > 0 := by omega
        have bn : (n != 0) = true := by simp [n0]
        have HF := hid (show mayS (prevF dp) (.mk 5 n b l d) = false from by unfold mayS mayH; simp [n0])
        (try clear hA); (try clear hB); (try clear hC); (try clear ql); (try clear qd); (try clear qb)
        go_enter Tryz.func30, Tryz.ntmps30
        go_wp2_with (first | (go_at_call 52; refine (rhas_m _ _ _ _ _ _ _ _ _ _ _ _).mono ?_; rintro e w2 ⟨rfl, hb2⟩; have hO2 := HO.out.up hb2; have hB2 := below_then (alb w _) hb2; obtain ⟨oc, of_, os⟩ := id hO2))
        go_ret
        exact ⟨by rw [HF.out]; rfl, hB2⟩
      · have xb : ¬ (b.length : Int) > 0 := by omega
        have bn : (n != 0) = true := by simp [n0]
        have HF := hid (show mayS (prevF dp) (.mk 5 n b l d) = false from by unfold mayS mayH; simp [n0])
        (try clear hA); (try clear hB); (try clear hC); (try clear ql); (try clear qd); (try clear qb)
        go_enter Tryz.func30, Tryz.ntmps30
        go_wp2_with (first | (go_at_call 52; refine (rhas_m _ _ _ _ _ _ _ _ _ _ _ _).mono ?_; rintro e w2 ⟨rfl, hb2⟩; have hO2 := HO.out.up hb2; have hB2 := below_then (alb w _) hb2; obtain ⟨oc, of_, os⟩ := id hO2))
        go_ret
        exact ⟨by rw [HF.out]; rfl, hB2⟩
    by_cases k6 : k = 6
    · subst k6
      have qd : d.length = 0 := by omega
      have qb : b.length = 0 := by omega
      have xd : ¬ (d.length : Int) > 0 := by omega
      have xb : ¬ (b.length : Int) > 0 := by omega
      by_cases ql : 0 < l.length
      · have xl : (l.length : Int) > 0 := by omega
        have bn : (n != 0) = true := by simp [n0]
        have HF := hid (show mayS (prevF dp) (.mk 6 n b l d) = false from by unfold mayS mayH; simp [n0])
        (try clear hA); (try clear hB); (try clear hC); (try clear ql); (try clear qd); (try clear qb)
        go_enter Tryz.func30, Tryz.ntmps30
        go_wp2_with (first | (go_at_call 52; refine (rhas_m _ _ _ _ _ _ _ _ _ _ _ _).mono ?_; rintro e w2 ⟨rfl, hb2⟩; have hO2 := HO.out.up hb2; have hB2 := below_then (alb w _) hb2; obtain ⟨oc, of_, os⟩ := id hO2))
        go_ret
        exact ⟨by rw [HF.out]; rfl, hB2⟩
      · have xl : ¬ (l.length : Int) > 0 := by omega
        have bn : (n != 0) = true := by simp [n0]
        have HF := hid (show mayS (prevF dp) (.mk 6 n b l d) = false from by unfold mayS mayH; simp [n0])
        (try clear hA); (try clear hB); (try clear hC); (try clear ql); (try clear qd); (try clear qb)
        go_enter Tryz.func30, Tryz.ntmps30
        go_wp2_with (first | (go_at_call 52; refine (rhas_m _ _ _ _ _ _ _ _ _ _ _ _).mono ?_; rintro e w2 ⟨rfl, hb2⟩; have hO2 := HO.out.up hb2; have hB2 := below_then (alb w _) hb2; obtain ⟨oc, of_, os⟩ := id hO2))
        go_ret
        exact ⟨by rw [HF.out]; rfl, hB2⟩
    by_cases k7 : k = 7
    · subst k7
      have ql : l.length = 0 := by omega
      have qb : b.length = 0 := by omega
      have xl : ¬ (l.length : Int) > 0 := by omega
      have xb : ¬ (b.length : Int) > 0 := by omega
      by_cases qd : 0 < d.length
      · have xd : (d.length : Int) > 0 := by omega
        have bn : (n != 0) = true := by simp [n0]
        have HF := hid (show mayS (prevF dp) (.mk 7 n b l d) = false from by unfold mayS mayH; simp [n0])
        (try clear hA); (try clear hB); (try clear hC); (try clear ql); (try clear qd); (try clear qb)
        go_enter Tryz.func30, Tryz.ntmps30
        go_wp2_with (first | (go_at_call 52; refine (rhas_m _ _ _ _ _ _ _ _ _ _ _ _).mono ?_; rintro e w2 ⟨rfl, hb2⟩; have hO2 := HO.out.up hb2; have hB2 := below_then (alb w _) hb2; obtain ⟨oc, of_, os⟩ := id hO2))
        go_ret
        exact ⟨by rw [HF.out]; rfl, hB2⟩
      · have xd : ¬ (d.length : Int) > 0 := by omega
        have bn : (n != 0) = true := by simp [n0]
        have HF := hid (show mayS (prevF dp) (.mk 7 n b l d) = false from by unfold mayS mayH; simp [n0])
        (try clear hA); (try clear hB); (try clear hC); (try clear ql); (try clear qd); (try clear qb)
        go_enter Tryz.func30, Tryz.ntmps30
        go_wp2_with (first | (go_at_call 52; refine (rhas_m _ _ _ _ _ _ _ _ _ _ _ _).mono ?_; rintro e w2 ⟨rfl, hb2⟩; have hO2 := HO.out.up hb2; have hB2 := below_then (alb w _) hb2; obtain ⟨oc, of_, os⟩ := id hO2))
        go_ret
        exact ⟨by rw [HF.out]; rfl, hB2⟩
    by_cases k8 : k = 8
    · subst k8
      have ql : l.length = 0 := by omega
      have xl : ¬ (l.length : Int) > 0 := by omega
      by_cases qd : 0 < d.length
      · by_cases qb : 0 < b.length
        · have xd : (d.length : Int) > 0 := by omega
          have xb : (b.length : Int) > 0 := by omega
          have bn : (n != 0) = true := by simp [n0]
          have HF := hid (show mayS (prevF dp) (.mk 8 n b l d) = false from by unfold mayS mayH; simp [n0])
          (try clear hA); (try clear hB); (try clear hC); (try clear ql); (try clear qd); (try clear qb)
          go_enter Tryz.func30, Tryz.ntmps30
          go_wp2_with (first | (go_at_call 52; refine (rhas_m _ _ _ _ _ _ _ _ _ _ _ _).mono ?_; rintro e w2 ⟨rfl, hb2⟩; have hO2 := HO.out.up hb2; have hB2 := below_then (alb w _) hb2; obtain ⟨oc, of_, os⟩ := id hO2))
          go_ret
          exact ⟨by rw [HF.out]; rfl, hB2⟩
        · have xd : (d.length : Int) > 0 := by omega
          have xb : ¬ (b.length : Int) > 0 := by omega
          have bn : (n != 0) = true := by simp [n0]
          have HF := hid (show mayS (prevF dp) (.mk 8 n b l d) = false from by unfold mayS mayH; simp [n0])
          (try clear hA); (try clear hB); (try clear hC); (try clear ql); (try clear qd); (try clear qb)
          go_enter Tryz.func30, Tryz.ntmps30
          go_wp2_with (first | (go_at_call 52; refine (rhas_m _ _ _ _ _ _ _ _ _ _ _ _).mono ?_; rintro e w2 ⟨rfl, hb2⟩; have hO2 := HO.out.up hb2; have hB2 := below_then (alb w _) hb2; obtain ⟨oc, of_, os⟩ := id hO2))
          go_ret
          exact ⟨by rw [HF.out]; rfl, hB2⟩
      · by_cases qb : 0 < b.length
        · have xd : ¬ (d.length : Int) > 0 := by omega
          have xb : (b.length : Int) > 0 := by omega
          have bn : (n != 0) = true := by simp [n0]
          have HF := hid (show mayS (prevF dp) (.mk 8 n b l d) = false from by unfold mayS mayH; simp [n0])
          (try clear hA); (try clear hB); (try clear hC); (try clear ql); (try clear qd); (try clear qb)
          go_enter Tryz.func30, Tryz.ntmps30
          go_wp2_with (first | (go_at_call 52; refine (rhas_m _ _ _ _ _ _ _ _ _ _ _ _).mono ?_; rintro e w2 ⟨rfl, hb2⟩; have hO2 := HO.out.up hb2; have hB2 := below_then (alb w _) hb2; obtain ⟨oc, of_, os⟩ := id hO2))
          go_ret
          exact ⟨by rw [HF.out]; rfl, hB2⟩
        · have xd : ¬ (d.length : Int) > 0 := by omega
          have xb : ¬ (b.length : Int) > 0 := by omega
          have bn : (n != 0) = true := by simp [n0]
          have HF := hid (show mayS (prevF dp) (.mk 8 n b l d) = false from by unfold mayS mayH; simp [n0])
          (try clear hA); (try clear hB); (try clear hC); (try clear ql); (try clear qd); (try clear qb)
          go_enter Tryz.func30, Tryz.ntmps30
          go_wp2_with (first | (go_at_call 52; refine (rhas_m _ _ _ _ _ _ _ _ _ _ _ _).mono ?_; rintro e w2 ⟨rfl, hb2⟩; have hO2 := HO.out.up hb2; have hB2 := below_then (alb w _) hb2; obtain ⟨oc, of_, os⟩ := id hO2))
          go_ret
          exact ⟨by rw [HF.out]; rfl, hB2⟩
    have ql : l.length = 0 := by omega
    have qd : d.length = 0 := by omega
    have qb : b.length = 0 := by omega
    have xl : ¬ (l.length : Int) > 0 := by omega
    have xd : ¬ (d.length : Int) > 0 := by omega
    have xb : ¬ (b.length : Int) > 0 := by omega
    have b1 : (k == 1) = false := by simp [k1]
    have b2 : (k == 2) = false := by simp [k2]
    have b3 : (k == 3) = false := by simp [k3]
    have b9 : (k == 9) = false := by simp [k9]
    have b0 : (k == 0) = false := by simp [k0]
    have b4 : (k == 4) = false := by simp [k4]
    have b5 : (k == 5) = false := by simp [k5]
    have b6 : (k == 6) = false := by simp [k6]
    have b7 : (k == 7) = false := by simp [k7]
    have b8 : (k == 8) = false := by simp [k8]
    clear hA hB hC
    have bn : (n != 0) = true := by simp [n0]
    have HF := hid (show mayS (prevF dp) (.mk k n b l d) = false from by unfold mayS; simp [n0, k1, k2, k3, k9])
    (try clear hA); (try clear hB); (try clear hC); (try clear ql); (try clear qd); (try clear qb)
    go_enter Tryz.func30, Tryz.ntmps30
    go_wp2_with (first | (go_at_call 52; refine (rhas_m _ _ _ _ _ _ _ _ _ _ _ _).mono ?_; rintro e w2 ⟨rfl, hb2⟩; have hO2 := HO.out.up hb2; have hB2 := below_then (alb w _) hb2; obtain ⟨oc, of_, os⟩ := id hO2))
    go_ret
    exact ⟨by rw [HF.out]; rfl, hB2⟩
  obtain rfl : n = 0 := by omega
  clear n0
  by_cases k0 : k = 0
  · subst k0
    have ql : l.length = 0 := by omega
    have qd : d.length = 0 := by omega
    have qb : b.length = 0 := by omega
    have xl : ¬ (l.length : Int) > 0 := by omega
    have xd : ¬ (d.length : Int) > 0 := by omega
    have xb : ¬ (b.length : Int) > 0 := by omega
    have HF := hid (show mayS (prevF dp) (.mk 0 0 b l d) = true from by unfold mayS mayH; simp [ql, qd, qb])
    (try clear hA); (try clear hB); (try clear hC); (try clear ql); (try clear qd); (try clear qb)
    go_enter Tryz.func30, Tryz.ntmps30
    go_wp2_with (first | (go_at_call 52; refine (rhas_m _ _ _ _ _ _ _ _ _ _ _ _).mono ?_; rintro e w2 ⟨rfl, hb2⟩; have hO2 := HO.out.up hb2; have hB2 := below_then (alb w _) hb2; obtain ⟨oc, of_, os⟩ := id hO2))
    go_ret
    exact ⟨by rw [HF.out]; rfl, hB2⟩
  by_cases k4 : k = 4
  · subst k4
    have ql : l.length = 0 := by omega
    have qd : d.length = 0 := by omega
    have xl : ¬ (l.length : Int) > 0 := by omega
    have xd : ¬ (d.length : Int) > 0 := by omega
    by_cases qb : 0 < b.length
    · have xb : (b.length : Int) > 0 := by omega
      have HF := hid (show mayS (prevF dp) (.mk 4 0 b l d) = decide ((b.length : Int) ≤ 32767) from by unfold mayS mayH; have e : decide ((b.length : Int) ≤ 32767) = decide (b.length ≤ 32767) := decide_eq_decide.2 (by omega); rw [e]; simp [ql, qd])
      (try clear hA); (try clear hB); (try clear hC); (try clear ql); (try clear qd); (try clear qb)
      go_enter Tryz.func30, Tryz.ntmps30
      go_wp2_with (first | (go_at_call 52; refine (rhas_m _ _ _ _ _ _ _ _ _ _ _ _).mono ?_; rintro e w2 ⟨rfl, hb2⟩; have hO2 := HO.out.up hb2; have hB2 := below_then (alb w _) hb2; obtain ⟨oc, of_, os⟩ := id hO2))
      go_ret
      exact ⟨by rw [HF.out]; rfl, hB2⟩
    · have xb : ¬ (b.length : Int) > 0 := by omega
      have HF := hid (show mayS (prevF dp) (.mk 4 0 b l d) = decide ((b.length : Int) ≤ 32767) from by unfold mayS mayH; have e : decide ((b.length : Int) ≤ 32767) = decide (b.length ≤ 32767) := decide_eq_decide.2 (by omega); rw [e]; simp [ql, qd])
      (try clear hA); (try clear hB); (try clear hC); (try clear ql); (try clear qd); (try clear qb)
      go_enter Tryz.func30, Tryz.ntmps30
      go_wp2_with (first | (go_at_call 52; refine (rhas_m _ _ _ _ _ _ _ _ _ _ _ _).mono ?_; rintro e w2 ⟨rfl, hb2⟩; have hO2 := HO.out.up hb2; have hB2 := below_then (alb w _) hb2; obtain ⟨oc, of_, os⟩ := id hO2))
      go_ret
      exact ⟨by rw [HF.out]; rfl, hB2⟩
  by_cases k5 : k = 5
  · subst k5
    have ql : l.length = 0 := by omega
    have qd : d.length = 0 := by omega
    have xl : ¬ (l.length : Int) > 0 := by omega
    have xd : ¬ (d.length : Int) > 0 := by omega
    by_cases qb : 0 < b.length
    · have xb : (b.length : Int) > 0 := by omega
      have HF := hid (show mayS (prevF dp) (.mk 5 0 b l d) = nmOk b from by unfold mayS mayH; simp [ql, qd])
      (try clear hA); (try clear hB); (try clear hC); (try clear ql); (try clear qd); (try clear qb)
      go_enter Tryz.func30, Tryz.ntmps30
      go_wp2_with (first | (go_at_call 54; refine (rname_ok _ b _ (HBS.out.up hB2)).mono ?_; rintro e w3 ⟨rfl, rfl⟩) | (go_at_call 52; refine (rhas_m _ _ _ _ _ _ _ _ _ _ _ _).mono ?_; rintro e w2 ⟨rfl, hb2⟩; have hO2 := HO.out.up hb2; have hB2 := below_then (alb w _) hb2; obtain ⟨oc, of_, os⟩ := id hO2))
      go_ret
      exact ⟨by rw [HF.out]; rfl, hB2⟩
    · have xb : ¬ (b.length : Int) > 0 := by omega
      have HF := hid (show mayS (prevF dp) (.mk 5 0 b l d) = nmOk b from by unfold mayS mayH; simp [ql, qd])
      (try clear hA); (try clear hB); (try clear hC); (try clear ql); (try clear qd); (try clear qb)
      go_enter Tryz.func30, Tryz.ntmps30
      go_wp2_with (first | (go_at_call 54; refine (rname_ok _ b _ (HBS.out.up hB2)).mono ?_; rintro e w3 ⟨rfl, rfl⟩) | (go_at_call 52; refine (rhas_m _ _ _ _ _ _ _ _ _ _ _ _).mono ?_; rintro e w2 ⟨rfl, hb2⟩; have hO2 := HO.out.up hb2; have hB2 := below_then (alb w _) hb2; obtain ⟨oc, of_, os⟩ := id hO2))
      go_ret
      exact ⟨by rw [HF.out]; rfl, hB2⟩
  by_cases k6 : k = 6
  · subst k6
    exact may6_of dp hdp HMM.out z _ _ _ b l d w HZ.out HG.out (by omega) (by omega)
  by_cases k7 : k = 7
  · subst k7
    have ql : l.length = 0 := by omega
    have qb : b.length = 0 := by omega
    have xl : ¬ (l.length : Int) > 0 := by omega
    have xb : ¬ (b.length : Int) > 0 := by omega
    by_cases qd : 0 < d.length
    · have xd : (d.length : Int) > 0 := by omega
      have HF := hid (show mayS (prevF dp) (.mk 7 0 b l d) = entF (prevF dp) b d from by unfold mayS mayH; simp [ql, qb])
      (try clear hA); (try clear hB); (try clear hC); (try clear ql); (try clear qd); (try clear qb)
      go_enter Tryz.func30, Tryz.ntmps30
      go_wp2_with (first | (go_at_call 55; refine (HE.out z _ 0 b l d _ _ HZ.out (HG.out.up hB2)).mono ?_; rintro e w3 ⟨rfl, hb3⟩) | (go_at_call 52; refine (rhas_m _ _ _ _ _ _ _ _ _ _ _ _).mono ?_; rintro e w2 ⟨rfl, hb2⟩; have hO2 := HO.out.up hb2; have hB2 := below_then (alb w _) hb2; obtain ⟨oc, of_, os⟩ := id hO2))
      go_ret
      exact ⟨by rw [HF.out]; rfl, hB2.trans (hb3.mono hB2.size)⟩
    · have xd : ¬ (d.length : Int) > 0 := by omega
      have HF := hid (show mayS (prevF dp) (.mk 7 0 b l d) = entF (prevF dp) b d from by unfold mayS mayH; simp [ql, qb])
      (try clear hA); (try clear hB); (try clear hC); (try clear ql); (try clear qd); (try clear qb)
      go_enter Tryz.func30, Tryz.ntmps30
      go_wp2_with (first | (go_at_call 55; refine (HE.out z _ 0 b l d _ _ HZ.out (HG.out.up hB2)).mono ?_; rintro e w3 ⟨rfl, hb3⟩) | (go_at_call 52; refine (rhas_m _ _ _ _ _ _ _ _ _ _ _ _).mono ?_; rintro e w2 ⟨rfl, hb2⟩; have hO2 := HO.out.up hb2; have hB2 := below_then (alb w _) hb2; obtain ⟨oc, of_, os⟩ := id hO2))
      go_ret
      exact ⟨by rw [HF.out]; rfl, hB2.trans (hb3.mono hB2.size)⟩
  by_cases k8 : k = 8
  · subst k8
    have ql : l.length = 0 := by omega
    have xl : ¬ (l.length : Int) > 0 := by omega
    by_cases qd : 0 < d.length
    · by_cases qb : 0 < b.length
      · have xd : (d.length : Int) > 0 := by omega
        have xb : (b.length : Int) > 0 := by omega
        have HF := hid (show mayS (prevF dp) (.mk 8 0 b l d) = entF (prevF dp) b d from by unfold mayS mayH; simp [ql])
        (try clear hA); (try clear hB); (try clear hC); (try clear ql); (try clear qd); (try clear qb)
        go_enter Tryz.func30, Tryz.ntmps30
        go_wp2_with (first | (go_at_call 55; refine (HE.out z _ 0 b l d _ _ HZ.out (HG.out.up hB2)).mono ?_; rintro e w3 ⟨rfl, hb3⟩) | (go_at_call 52; refine (rhas_m _ _ _ _ _ _ _ _ _ _ _ _).mono ?_; rintro e w2 ⟨rfl, hb2⟩; have hO2 := HO.out.up hb2; have hB2 := below_then (alb w _) hb2; obtain ⟨oc, of_, os⟩ := id hO2))
        go_ret
        exact ⟨by rw [HF.out]; rfl, hB2.trans (hb3.mono hB2.size)⟩
      · have xd : (d.length : Int) > 0 := by omega
        have xb : ¬ (b.length : Int) > 0 := by omega
        have HF := hid (show mayS (prevF dp) (.mk 8 0 b l d) = entF (prevF dp) b d from by unfold mayS mayH; simp [ql])
        (try clear hA); (try clear hB); (try clear hC); (try clear ql); (try clear qd); (try clear qb)
        go_enter Tryz.func30, Tryz.ntmps30
        go_wp2_with (first | (go_at_call 55; refine (HE.out z _ 0 b l d _ _ HZ.out (HG.out.up hB2)).mono ?_; rintro e w3 ⟨rfl, hb3⟩) | (go_at_call 52; refine (rhas_m _ _ _ _ _ _ _ _ _ _ _ _).mono ?_; rintro e w2 ⟨rfl, hb2⟩; have hO2 := HO.out.up hb2; have hB2 := below_then (alb w _) hb2; obtain ⟨oc, of_, os⟩ := id hO2))
        go_ret
        exact ⟨by rw [HF.out]; rfl, hB2.trans (hb3.mono hB2.size)⟩
    · by_cases qb : 0 < b.length
      · have xd : ¬ (d.length : Int) > 0 := by omega
        have xb : (b.length : Int) > 0 := by omega
        have HF := hid (show mayS (prevF dp) (.mk 8 0 b l d) = entF (prevF dp) b d from by unfold mayS mayH; simp [ql])
        (try clear hA); (try clear hB); (try clear hC); (try clear ql); (try clear qd); (try clear qb)
        go_enter Tryz.func30, Tryz.ntmps30
        go_wp2_with (first | (go_at_call 55; refine (HE.out z _ 0 b l d _ _ HZ.out (HG.out.up hB2)).mono ?_; rintro e w3 ⟨rfl, hb3⟩) | (go_at_call 52; refine (rhas_m _ _ _ _ _ _ _ _ _ _ _ _).mono ?_; rintro e w2 ⟨rfl, hb2⟩; have hO2 := HO.out.up hb2; have hB2 := below_then (alb w _) hb2; obtain ⟨oc, of_, os⟩ := id hO2))
        go_ret
        exact ⟨by rw [HF.out]; rfl, hB2.trans (hb3.mono hB2.size)⟩
      · have xd : ¬ (d.length : Int) > 0 := by omega
        have xb : ¬ (b.length : Int) > 0 := by omega
        have HF := hid (show mayS (prevF dp) (.mk 8 0 b l d) = entF (prevF dp) b d from by unfold mayS mayH; simp [ql])
        (try clear hA); (try clear hB); (try clear hC); (try clear ql); (try clear qd); (try clear qb)
        go_enter Tryz.func30, Tryz.ntmps30
        go_wp2_with (first | (go_at_call 55; refine (HE.out z _ 0 b l d _ _ HZ.out (HG.out.up hB2)).mono ?_; rintro e w3 ⟨rfl, hb3⟩) | (go_at_call 52; refine (rhas_m _ _ _ _ _ _ _ _ _ _ _ _).mono ?_; rintro e w2 ⟨rfl, hb2⟩; have hO2 := HO.out.up hb2; have hB2 := below_then (alb w _) hb2; obtain ⟨oc, of_, os⟩ := id hO2))
        go_ret
        exact ⟨by rw [HF.out]; rfl, hB2.trans (hb3.mono hB2.size)⟩
  have ql : l.length = 0 := by omega
  have qd : d.length = 0 := by omega
  have qb : b.length = 0 := by omega
  have xl : ¬ (l.length : Int) > 0 := by omega
  have xd : ¬ (d.length : Int) > 0 := by omega
  have xb : ¬ (b.length : Int) > 0 := by omega
  have b1 : (k == 1) = false := by simp [k1]
  have b2 : (k == 2) = false := by simp [k2]
  have b3 : (k == 3) = false := by simp [k3]
  have b9 : (k == 9) = false := by simp [k9]
  have b0 : (k == 0) = false := by simp [k0]
  have b4 : (k == 4) = false := by simp [k4]
  have b5 : (k == 5) = false := by simp [k5]
  have b6 : (k == 6) = false := by simp [k6]
  have b7 : (k == 7) = false := by simp [k7]
  have b8 : (k == 8) = false := by simp [k8]
  clear hA hB hC
  have HF := hid (show mayS (prevF dp) (.mk k 0 b l d) = false from by unfold mayS; simp [k0, k1, k2, k3, k4, k5, k6, k7, k8, k9])
  (try clear hA); (try clear hB); (try clear hC); (try clear ql); (try clear qd); (try clear qb)
  go_enter Tryz.func30, Tryz.ntmps30
  go_wp2_with (first | (go_at_call 52; refine (rhas_m _ _ _ _ _ _ _ _ _ _ _ _).mono ?_; rintro e w2 ⟨rfl, hb2⟩; have hO2 := HO.out.up hb2; have hB2 := below_then (alb w _) hb2; obtain ⟨oc, of_, os⟩ := id hO2))
  go_ret
  exact ⟨by rw [HF.out]; rfl, hB2⟩
end Go.Proofs.YtjkoiknjffldjaaGreatDoor
