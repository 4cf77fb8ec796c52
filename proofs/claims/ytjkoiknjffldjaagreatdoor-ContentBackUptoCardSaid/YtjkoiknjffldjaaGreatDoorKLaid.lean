/-
  What the rows' listed variables give the walks: the table of white signs; the heap that the door leaves meets the rows' condition. No condition.
-/
import Derived.Test.YtjkoiknjffldjaaGreatDoorKKin
import Derived.Test.YtjkoiknjffldjaaGreatDoorKLift
import Derived.Test.YtjkoiknjffldjaaGreatDoorRows
import Derived.LaidMore
import Derived.LaidSub
import Derived.Lib.LaidTab
import Derived.Deep.DeepLaidRun
import Derived.Stop.Joined
/-
  What the rows' listed variables give the walks: the table of white signs; the heap that the door leaves meets the rows' condition. No condition.
-/
namespace Go.Proofs.YtjkoiknjffldjaaGreatDoor
open Go.ChangeShapes Go.WideShapes Go.ChangeAt Go.RowKit
set_option linter.unusedVariables false

abbrev lds : List (String × DataW Unit) := [("unicode.White_Space", Rows.laid_unicode_White_Space), ("strings.asciiSpace", Rows.laid_strings_asciiSpace)]
set_option maxRecDepth 100000 in
theorem tab_of {W : World} (h : laidMetH Tryz.prog lds W) : Lib.TabIs Tryz.prog W "strings.asciiSpace" .u8 Lib.asciiSpaceTab := by
  rw [MakeChecks.laidMetH_plain _ _ _ (by kernel_rfl)] at h
  have h2 := h.filter (fun x => x.1 == "strings.asciiSpace")
  have e : lds.filter (fun x => x.1 == "strings.asciiSpace") = [("strings.asciiSpace", Rows.laid_strings_asciiSpace)] := by kernel_rfl
  rw [e] at h2
  have e2 : (Rows.laid_strings_asciiSpace : DataW Unit) = Lib.tabData .u8 Lib.asciiSpaceTab := by kernel_rfl
  rw [e2] at h2
  exact Lib.tabIs_of_head (P := Tryz.prog) (t := 119) (e := 5) (n := 256) (g := 0) (by kernel_rfl) (by kernel_rfl) Tryz.underlying119 Tryz.underlying5 (by kernel_rfl) (by kernel_rfl) h2
set_option maxRecDepth 100000 in
theorem door_met (os : Os) (args : Array Value) : laidMetH Tryz.prog lds ((World.doorLaid Tryz.prog 33 os).forCall (fun _ _ => 0) ⟨#[], args, []⟩).memory :=
  laidMetH_of_parts3 (fuel := 8) (laidMet_of_run3 8 (by kernel_rfl) (by kernel_rfl) (by kernel_rfl)) (by kernel_rfl) (by kernel_rfl)
end Go.Proofs.YtjkoiknjffldjaaGreatDoor
