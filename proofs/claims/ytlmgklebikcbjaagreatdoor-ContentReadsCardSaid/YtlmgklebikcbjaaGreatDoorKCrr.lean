/-
  ContentReads: any bytes: all operators with their operands, images within the line, or what is wrong first; the walk. Condition: the table of white signs reads as the library lays it.
-/
import Derived.Test.YtlmgklebikcbjaaGreatDoorKCrd
import Derived.Test.YtlmgklebikcbjaaGreatDoorKRim
/-
  ContentReads: any bytes: all operators with their operands, images within the line, or what is wrong first; the walk. Condition: the table of white signs reads as the library lays it.
-/
namespace Go.Proofs.YtlmgklebikcbjaaGreatDoor
open Go.RowKit
set_option linter.unusedVariables false

theorem crr_any (v : Value) (b : List UInt8) (w : World) (htab : Lib.TabIs Tryz.prog w "strings.asciiSpace" .u8 Lib.asciiSpaceTab) (h : Sl w v b) :
    Calls Tryz.prog 4 #[v] w fun e w' => e = .returned (.bool true) ∧ Below w.heap.size w w' :=
   crd_of v b w htab h fun hl rp pp => rimg_any (by omega)
end Go.Proofs.YtlmgklebikcbjaaGreatDoor
