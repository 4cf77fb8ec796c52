/-
  predict.Encode whole: for whatever shape and bytes it answers what the plain law says. Conditions: lengths.
-/
import Derived.Test.YtmlaakadjkmphaaEncB
import Derived.Test.YtmlaakadjkmphaaEncC
import Derived.Test.YtmlaakadjkmphaaEncD
namespace Go.Proofs.Ytmlaakadjkmphaa
open Go.RowKit

theorem encode_any (p c m : Int) (v : Value) (l : List UInt8) (w : World) (hv : Sl w v l) (hl : l.length ≤ 20000) :
    Calls Try.prog 13 #[.agg #[.int .i64 p, .int .i64 c, .int .i64 m], v] w (EncPost p c m l w) := by
  by_cases h : mayB p c m = true
  · obtain ⟨b1, b2, b3, b4, b5⟩ := may_bounds h
    by_cases hp : p = 1
    · subst hp; exact enc_plain c m v l w h hv hl
    · obtain ⟨c, rfl⟩ := Int.eq_ofNat_of_zero_le (show 0 ≤ c by omega)
      obtain ⟨m, rfl⟩ := Int.eq_ofNat_of_zero_le (show 0 ≤ m by omega)
      by_cases hm : l.length % (c * m) = 0
      · by_cases h10 : 10 ≤ p
        · by_cases h15 : p = 15
          · exact enc_rowsB p c m (c * m) v l w h hp rfl h15 hv hl hm
          · exact enc_rowsC p c m (c * m) v l w h hp rfl h10 h15 hv hl hm
        · exact enc_rowsA p c m (c * m) v l w h hp rfl h10 hv hl hm
      · exact enc_form p c m (c * m) v l w h hp rfl hv hl hm
  · exact enc_arg p c m v l w (by simpa using h)
end Go.Proofs.Ytmlaakadjkmphaa
