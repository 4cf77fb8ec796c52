/-
  DERIVED. GIVEN WITH THE SEED: THE CARDS: each row of YtjkoiknjffldjaaGreatDoorRows.lean that lists a variable, with what it lists TIED to the program's text (the seventh form; the later family's looks); each row that meets fmt, with fmt's text TOLD by the authors' own Lean function (tested against real Go, not proved from fmt's source: count such statements apart). THE CARD IS WHAT COUNTS. Prove the row's statement (the work); the ties are given (YtjkoiknjffldjaaGreatDoorTie.lean); close each card by the builder's one call (the guide's Derived/Test/ToyasCard.lean, 'card_holds'). Laid BY PROGRAM, IN A SANDBOX (cutbox-door.mjs). By AI agents, Wed Nov 11 2026. No macro, syntax, notation, axiom, sorry.
-/
import Derived.Test.YtjkoiknjffldjaaGreatDoorRows
import GoSem.ClaimSeven
namespace Go.Proofs.YtjkoiknjffldjaaGreatDoor
namespace Rows

/-- THE TIED CARD OF 'pressmarklaw22.ContentBack'. -/
def contentBackCard : Claim7 := { stood := { row := contentBackRow, standIns := [], harness := (true, "190c93a2467e0fed3a55578a7c16acb720e17577dc7e10841154aeb67e2f3d02"), looks := false }, kinds := [], alts := [], laidByText := true, laidKinds := [.listed, .data], laidTests := true, laidLooks := .later }
def ContentBackCardSaid : Prop := Claim7.holds Tryz.pinned (.plain (OpenSpec.ofChange contentBackSpec)) contentBackCard

/-- THE SECOND FORM's CARD OF 'pressmarklaw22.ContentBack'. -/
def contentBackUptoCard : Claim7 := { stood := { row := contentBackUptoRow, standIns := [], harness := (true, "190c93a2467e0fed3a55578a7c16acb720e17577dc7e10841154aeb67e2f3d02"), looks := false }, kinds := [], alts := [], laidByText := true, laidKinds := [.listed, .data], laidTests := true, laidLooks := .later }
def ContentBackUptoCardSaid : Prop := Claim7.holds Tryz.pinned (.plain (OpenSpec.upto contentBackSpec)) contentBackUptoCard
end Rows
end Go.Proofs.YtjkoiknjffldjaaGreatDoor
