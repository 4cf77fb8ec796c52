/-
  token, Token, Keyword: the token that stands there, behind blanks; a word is passed; the program's walks. Condition: the lexer stands in its bytes.
-/
import Derived.Test.YtlmgklebikcbjaaGreatTokW
namespace Go.Proofs.YtlmgklebikcbjaaGreat
open Go.RowKit
set_option linter.unusedVariables false

section
variable {w0 w w' : World} {lp cp : Nat} {b : List UInt8} {i : Nat} {s t : List UInt8} {m v u : Value} {out : List UInt8} {x : UInt8}

theorem token_l (h : Lx w0 w lp cp b i s m v u out) :
    Calls Tryz.prog 82 #[.pointer (some ⟨lp, 0, none⟩)] w fun e w' => TokP (tk s) w0 lp cp b 0 e w' := by
  rcases s with _ | ⟨x, t⟩
  · exact token_end h
  rw [tk]
  by_cases h91 : c8 x = 91
  · rw [if_pos h91]; exact token_91 h91 h
  rw [if_neg h91]
  by_cases h93 : c8 x = 93
  · rw [if_pos h93]; exact token_93 h93 h
  rw [if_neg h93]
  by_cases h6060 : c8 x = 60 ∧ hd t = 60
  · rw [if_pos h6060]; exact token_6060 h6060.1 h6060.2 h
  rw [if_neg h6060]
  by_cases h6262 : c8 x = 62 ∧ hd t = 62
  · rw [if_pos h6262]; exact token_6262 h6262.1 h6262.2 h
  rw [if_neg h6262]
  by_cases h47 : c8 x = 47
  · rw [if_pos h47]; exact token_47 h47 h
  rw [if_neg h47]
  by_cases h40 : c8 x = 40
  · rw [if_pos h40]; exact token_40 h40 h
  rw [if_neg h40]
  by_cases h60 : c8 x = 60
  · rw [if_pos h60]; exact token_60 h60 (fun q => h6060 ⟨h60, q⟩) h
  rw [if_neg h60]
  by_cases hn : c8 x = 43 ∨ c8 x = 45 ∨ c8 x = 46 ∨ 48 ≤ c8 x ∧ c8 x ≤ 57
  · rw [if_pos hn]; exact token_num h91 h93 h6060 h6262 h47 h40 h60 hn h
  rw [if_neg hn]
  by_cases hr : rg (c8 x) = true
  · rw [if_pos hr]
    by_cases hl : 127 < rn (x :: t)
    · rw [if_pos hl]; exact token_long h91 h93 h6060 h6262 h47 h40 h60 hn hr hl h
    · rw [if_neg hl]; exact token_word h91 h93 h6060 h6262 h47 h40 h60 hn hr hl h
  · rw [if_neg hr]; exact token_none h91 h93 h6060 h6262 h47 h40 h60 hn (by simpa using hr) h

theorem Lx.p0a (h : Lx w0 w lp cp b i s m v u out) (o : Obj) : (w.alloc o).cell? ⟨lp, 0, none⟩ = some (.pointer (some ⟨cp, 0, none⟩)) := (h.below (Below.alloc (Below.refl _ _) (Nat.le_refl _) o)).p0

/-- what Token leaves: at the token's place behind an error -/
def TokQ (T : TRes) (w0 : World) (lp cp : Nat) (b : List UInt8) (a : Nat) (e : Ending) (w' : World) : Prop :=
  match T with
  | .bad x => e = .returned (.tuple #[.agg #[.int .i64 0, .int .i64 a, .int .i64 0, .slice none 0 0], .int .i64 x]) ∧ ∃ m v u out, Lx w0 w' lp cp b a (b.drop a) m v u out
  | .tok k n out rest => ∃ u, e = .returned (.tuple #[.agg #[.int .i64 k, .int .i64 a, .int .i64 n, u], .int .i64 0]) ∧ ∃ i m v, Lx w0 w' lp cp b i rest m v u out

/-- an error's number is no nought -/
def TRes.good : TRes → Prop
  | .bad x => (x == 0) = false ∧ ∃ k : Nat, x = k ∧ k ≤ 100
  | .tok .. => True

set_option maxHeartbeats 1600000 in
set_option maxRecDepth 100000 in
theorem token_q (hg : (TK s).good) (h : Lx w0 w lp cp b i s m v u out) :
    Calls Tryz.prog 57 #[.pointer (some ⟨lp, 0, none⟩)] w fun e w' => TokQ (TK s) w0 lp cp b (i + bl s false) e w' := by
  have HL0 := hid h
  have hL := (h.below (Below.alloc (Below.refl _ _) (Nat.le_refl _) (Obj.cells #[Value.int IntKind.i64 0, Value.int IntKind.i64 0, Value.int IntKind.i64 0, Value.slice none 0 0] 79))).fresh
  have p0 := hL.p0
  have hpl := h.at_
  have hpm := h.sm
  have hbl := bl_le s false
  have hle : i + bl s false ≤ b.length := by omega
  have hdr := hid h.drp
  clear h hpl hbl
  unfold TK at *
  generalize hR : tk (s.drop (bl s false)) = R at hg ⊢
  have HR := hid hR
  generalize hz : i + bl s false = z at hle ⊢
  have HZ := hid hz
  clear hR hz
  rcases R with err | ⟨k0, n0, out1, rest⟩
  · have q1 := hg.1
    obtain ⟨-, kk, rfl, hkk⟩ := hg
    have q2 : (((kk : Nat) : Int) != 0) = true := by rw [bne, q1]; rfl
    clear q1
    go_enter Tryz.func57, Tryz.ntmps57
    go_wp2_with (first | (go_at_call 36; refine (made_any lp cp _ p0).mono ?_; rintro e w1 ⟨rfl, rfl⟩) | (go_at_call 29; refine (blank_l hL).mono ?_; rw [HZ.out]; rintro e w1 ⟨rfl, hL⟩; have p0 := hL.p0; obtain ⟨rc, rf, rs⟩ := HL0.out.rcell hL) | (go_at_call 27; refine (pos_l hL).mono ?_; rintro e w1 ⟨rfl, rfl⟩) | (go_at_call 82; refine (token_l hL).mono ?_; rw [HR.out]; rintro e w1 ⟨⟨k1, n1, a1, ao1, l1, c1, rfl⟩, j, s1, m1, v1, u1, o1, hL⟩; have p0 := hL.p0a) | (go_at_call 40; refine (seek_l z _ rfl hle (hL.below (Below.alloc (Below.refl _ _) (Nat.le_refl _) _))).mono ?_; rintro e w1 ⟨rfl, hL⟩; obtain ⟨rc, rf, rs⟩ := HL0.out.rcell hL))
    refine bodyPost_ret (v := .tuple #[.agg #[.int .i64 0, .int .i64 z, .int .i64 0, .slice none 0 0], .int .i64 kk]) (by simp [results, Tryz.results57, go_sem, rc]) rfl ?_
    have hF := fun x0 x1 x2 x3 => HL0.out.close hL (fun B => Held.set4 B _ _ x0 x1 x2 x3)
    exact ⟨rfl, _, _, _, _, hF _ _ _ _⟩
  · go_enter Tryz.func57, Tryz.ntmps57
    go_wp2_with (first | (go_at_call 36; refine (made_any lp cp _ p0).mono ?_; rintro e w1 ⟨rfl, rfl⟩) | (go_at_call 29; refine (blank_l hL).mono ?_; rw [HZ.out]; rintro e w1 ⟨rfl, hL⟩; have p0 := hL.p0; obtain ⟨rc, rf, rs⟩ := HL0.out.rcell hL) | (go_at_call 27; refine (pos_l hL).mono ?_; rintro e w1 ⟨rfl, rfl⟩) | (go_at_call 82; refine (token_l hL).mono ?_; rw [HR.out]; rintro e w1 ⟨u1, rfl, j, m1, v1, hL⟩; obtain ⟨ao1, cap1, rfl, -, -, -⟩ := Rd.own hL.row; have p0 := hL.p0a; obtain ⟨rc, rf, rs⟩ := HL0.out.rcell hL))
    refine bodyPost_ret (v := .tuple #[.agg #[.int .i64 k0, .int .i64 z, .int .i64 n0, .slice ao1 out1.length cap1], .int .i64 0]) (by simp [results, Tryz.results57, go_sem, rc, rs]) rfl ?_
    have hF := fun o x0 x1 x2 x3 => (HL0.out.close hL (fun B => Held.set4 B _ _ x0 x1 x2 x3)).below (Below.alloc (Below.refl _ _) (Nat.le_refl _) o)
    exact ⟨_, rfl, _, _, _, hF _ _ _ _ _⟩

/-- the word p stands behind the blanks of s, and a delimiter behind it -/
def KW (p s : List UInt8) : Bool := pfx p (s.drop (bl s false)) && !rg (hd ((s.drop (bl s false)).drop p.length))

theorem keyword_yes (p : ByteArray) (hp : p.size ≤ 1000000) (hk : KW p.data.toList s = true) (h : Lx w0 w lp cp b i s m v u out) :
    Calls Tryz.prog 20 #[.pointer (some ⟨lp, 0, none⟩), .string p] w fun e w' => e = .returned (.bool true) ∧ Lx w0 w' lp cp b (i + bl s false + p.size) ((s.drop (bl s false)).drop p.size) m v u out := by
  have hL := h
  have p0 := hL.p0
  have hz : p.data.toList.length = p.size := by show p.data.toList.length = p.data.size; simp
  unfold KW at hk
  generalize hs1 : s.drop (bl s false) = s1 at hk ⊢
  have HS := hid hs1
  clear hs1
  rw [hz, Bool.and_eq_true, Bool.not_eq_true'] at hk
  have HC := hid hk.1
  have HR := hid hk.2
  clear h hk hz
  go_enter Tryz.func20, Tryz.ntmps20
  go_wp2_with (first | (go_at_call 36; refine (made_any lp cp _ p0).mono ?_; rintro e w1 ⟨rfl, rfl⟩) | (go_at_call 27; refine (pos_l hL).mono ?_; rintro e w1 ⟨rfl, rfl⟩) | (go_at_call 29; refine (blank_l hL).mono ?_; rintro e w1 ⟨rfl, hL⟩; have hL := hL.eqs HS.out; have p0 := hL.p0) | (go_at_call 37; refine (match_yes _ hp HC.out hL).mono ?_; rintro e w1 ⟨rfl, hL⟩; have p0 := hL.p0) | (go_at_call 39; refine (peek0 hL).mono ?_; rintro e w1 ⟨rfl, hL, -⟩; have p0 := hL.p0; first | rw [hd_cons] | rw [hd_nil] | skip) | (go_at_call 38; refine (regular_l _ hL).mono ?_; rintro e w1 ⟨rfl, hL⟩; have p0 := hL.p0; rw [HR.out]))
  go_ret
  exact ⟨rfl, hL⟩

theorem keyword_no (p : ByteArray) (hp : p.size ≤ 1000000) (hk : KW p.data.toList s = false) (h : Lx w0 w lp cp b i s m v u out) :
    Calls Tryz.prog 20 #[.pointer (some ⟨lp, 0, none⟩), .string p] w fun e w' => e = .returned (.bool false) ∧ Lx w0 w' lp cp b i s m v u out := by
  have hL := h
  have p0 := hL.p0
  have hat := hL.at_
  have hle : i ≤ b.length := by omega
  have hdr := hid h.drp
  have hz : p.data.toList.length = p.size := by show p.data.toList.length = p.data.size; simp
  unfold KW at hk
  generalize hs1 : s.drop (bl s false) = s1 at hk
  have HS := hid hs1
  clear hs1
  rw [hz] at hk
  cases hc : pfx p.data.toList s1 with
  | true =>
    have HR : Hid (rg (hd (s1.drop p.size)) = true) := hid (by simpa [hc] using hk)
    have HC := hid hc
    clear h hat hk hz hc
    go_enter Tryz.func20, Tryz.ntmps20
    go_wp2_with (first | (go_at_call 36; refine (made_any lp cp _ p0).mono ?_; rintro e w1 ⟨rfl, rfl⟩) | (go_at_call 27; refine (pos_l hL).mono ?_; rintro e w1 ⟨rfl, rfl⟩) | (go_at_call 29; refine (blank_l hL).mono ?_; rintro e w1 ⟨rfl, hL⟩; have hL := hL.eqs HS.out; have p0 := hL.p0) | (go_at_call 37; refine (match_yes _ hp HC.out hL).mono ?_; rintro e w1 ⟨rfl, hL⟩; have p0 := hL.p0) | (go_at_call 39; refine (peek0 hL).mono ?_; rintro e w1 ⟨rfl, hL, -⟩; have p0 := hL.p0; first | rw [hd_cons] | rw [hd_nil] | skip) | (go_at_call 38; refine (regular_l _ hL).mono ?_; rintro e w1 ⟨rfl, hL⟩; have p0 := hL.p0; rw [HR.out]) | (go_at_call 40; refine (seek_l i _ (by rfl) (by exact hle) hL).mono ?_; rintro e w1 ⟨rfl, hL⟩; have p0 := hL.p0))
    go_ret
    rw [hdr.out] at hL
    exact ⟨rfl, hL⟩
  | false =>
    have HC := hid hc
    clear h hat hk hz hc
    go_enter Tryz.func20, Tryz.ntmps20
    go_wp2_with (first | (go_at_call 36; refine (made_any lp cp _ p0).mono ?_; rintro e w1 ⟨rfl, rfl⟩) | (go_at_call 27; refine (pos_l hL).mono ?_; rintro e w1 ⟨rfl, rfl⟩) | (go_at_call 29; refine (blank_l hL).mono ?_; rintro e w1 ⟨rfl, hL⟩; have hL := hL.eqs HS.out; have p0 := hL.p0) | (go_at_call 37; refine (match_no _ hp HC.out hL).mono ?_; rintro e w1 ⟨rfl, hL⟩; have p0 := hL.p0) | (go_at_call 40; refine (seek_l i _ (by rfl) (by exact hle) hL).mono ?_; rintro e w1 ⟨rfl, hL⟩; have p0 := hL.p0))
    go_ret
    rw [hdr.out] at hL
    exact ⟨rfl, hL⟩
end
end Go.Proofs.YtlmgklebikcbjaaGreat
