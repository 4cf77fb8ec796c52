/-
  DERIVED. GIVEN WITH THE SEED: THE CARDS: each row of YtlmgklebikcbjaaGreatDoorRows.lean that lists a variable, with what it lists TIED to the program's text (the seventh form; the later family's looks); each row that meets fmt, with fmt's text TOLD by the authors' own Lean function (tested against real Go, not proved from fmt's source: count such statements apart). THE CARD IS WHAT COUNTS. Prove the row's statement (the work); the ties are given (YtlmgklebikcbjaaGreatDoorTie.lean); close each card by the builder's one call (the guide's Derived/Test/ToyasCard.lean, 'card_holds'). Laid BY PROGRAM, IN A SANDBOX (cutbox-door.mjs). By AI agents, Wed Nov 11 2026. No macro, syntax, notation, axiom, sorry.
-/
import Derived.Test.YtlmgklebikcbjaaGreatDoorRows
import GoSem.ClaimSeven
namespace Go.Proofs.YtlmgklebikcbjaaGreatDoor
namespace Rows

/-- THE TIED CARD OF 'pressmarklaw22.ContentKnown'. -/
def contentKnownCard : Claim7 := { stood := { row := contentKnownRow, standIns := [], harness := (true, "8367913c26ba1b9a0807e6cbde1cac5bc8117bf0b80af60d7cc1e18d8e2ad89a"), looks := false }, kinds := [], alts := [], laidByText := true, laidKinds := [.listed, .data], laidTests := true, laidLooks := .later }
def ContentKnownCardSaid : Prop := Claim7.holds Tryz.pinned (.plain (OpenSpec.ofChange contentKnownSpec)) contentKnownCard

/-- THE TIED CARD OF 'pressmarklaw22.ContentReads'. -/
def contentReadsCard : Claim7 := { stood := { row := contentReadsRow, standIns := [], harness := (true, "8367913c26ba1b9a0807e6cbde1cac5bc8117bf0b80af60d7cc1e18d8e2ad89a"), looks := false }, kinds := [], alts := [], laidByText := true, laidKinds := [.listed, .data], laidTests := true, laidLooks := .later }
def ContentReadsCardSaid : Prop := Claim7.holds Tryz.pinned (.plain (OpenSpec.ofChange contentReadsSpec)) contentReadsCard

/-- THE TIED CARD OF 'pressmarklaw22.ContentFits'. -/
def contentFitsCard : Claim7 := { stood := { row := contentFitsRow, standIns := [], harness := (true, "8367913c26ba1b9a0807e6cbde1cac5bc8117bf0b80af60d7cc1e18d8e2ad89a"), looks := false }, kinds := [], alts := [], laidByText := true, laidKinds := [.listed, .data], laidTests := true, laidLooks := .later }
def ContentFitsCardSaid : Prop := Claim7.holds Tryz.pinned (.plain (OpenSpec.ofChange contentFitsSpec)) contentFitsCard

/-- THE TIED CARD OF 'pressmarklaw22.ContentBack'. -/
def contentBackCard : Claim7 := { stood := { row := contentBackRow, standIns := [], harness := (true, "8367913c26ba1b9a0807e6cbde1cac5bc8117bf0b80af60d7cc1e18d8e2ad89a"), looks := false }, kinds := [], alts := [], laidByText := true, laidKinds := [.listed, .data], laidTests := true, laidLooks := .later }
def ContentBackCardSaid : Prop := Claim7.holds Tryz.pinned (.plain (OpenSpec.ofChange contentBackSpec)) contentBackCard

/-- THE TIED CARD OF 'pressmarklaw22.ContentJoins'. -/
def contentJoinsCard : Claim7 := { stood := { row := contentJoinsRow, standIns := [], harness := (true, "8367913c26ba1b9a0807e6cbde1cac5bc8117bf0b80af60d7cc1e18d8e2ad89a"), looks := false }, kinds := [], alts := [], laidByText := true, laidKinds := [.listed, .data], laidTests := true, laidLooks := .later }
def ContentJoinsCardSaid : Prop := Claim7.holds Tryz.pinned (.plain (OpenSpec.ofChange contentJoinsSpec)) contentJoinsCard

/-- THE SECOND FORM's CARD OF 'pressmarklaw22.ContentKnown'. -/
def contentKnownUptoCard : Claim7 := { stood := { row := contentKnownUptoRow, standIns := [], harness := (true, "8367913c26ba1b9a0807e6cbde1cac5bc8117bf0b80af60d7cc1e18d8e2ad89a"), looks := false }, kinds := [], alts := [], laidByText := true, laidKinds := [.listed, .data], laidTests := true, laidLooks := .later }
def ContentKnownUptoCardSaid : Prop := Claim7.holds Tryz.pinned (.plain (OpenSpec.upto contentKnownSpec)) contentKnownUptoCard

/-- THE SECOND FORM's CARD OF 'pressmarklaw22.ContentReads'. -/
def contentReadsUptoCard : Claim7 := { stood := { row := contentReadsUptoRow, standIns := [], harness := (true, "8367913c26ba1b9a0807e6cbde1cac5bc8117bf0b80af60d7cc1e18d8e2ad89a"), looks := false }, kinds := [], alts := [], laidByText := true, laidKinds := [.listed, .data], laidTests := true, laidLooks := .later }
def ContentReadsUptoCardSaid : Prop := Claim7.holds Tryz.pinned (.plain (OpenSpec.upto contentReadsSpec)) contentReadsUptoCard

/-- THE SECOND FORM's CARD OF 'pressmarklaw22.ContentFits'. -/
def contentFitsUptoCard : Claim7 := { stood := { row := contentFitsUptoRow, standIns := [], harness := (true, "8367913c26ba1b9a0807e6cbde1cac5bc8117bf0b80af60d7cc1e18d8e2ad89a"), looks := false }, kinds := [], alts := [], laidByText := true, laidKinds := [.listed, .data], laidTests := true, laidLooks := .later }
def ContentFitsUptoCardSaid : Prop := Claim7.holds Tryz.pinned (.plain (OpenSpec.upto contentFitsSpec)) contentFitsUptoCard

/-- THE SECOND FORM's CARD OF 'pressmarklaw22.ContentBack'. -/
def contentBackUptoCard : Claim7 := { stood := { row := contentBackUptoRow, standIns := [], harness := (true, "8367913c26ba1b9a0807e6cbde1cac5bc8117bf0b80af60d7cc1e18d8e2ad89a"), looks := false }, kinds := [], alts := [], laidByText := true, laidKinds := [.listed, .data], laidTests := true, laidLooks := .later }
def ContentBackUptoCardSaid : Prop := Claim7.holds Tryz.pinned (.plain (OpenSpec.upto contentBackSpec)) contentBackUptoCard

/-- THE SECOND FORM's CARD OF 'pressmarklaw22.ContentJoins'. -/
def contentJoinsUptoCard : Claim7 := { stood := { row := contentJoinsUptoRow, standIns := [], harness := (true, "8367913c26ba1b9a0807e6cbde1cac5bc8117bf0b80af60d7cc1e18d8e2ad89a"), looks := false }, kinds := [], alts := [], laidByText := true, laidKinds := [.listed, .data], laidTests := true, laidLooks := .later }
def ContentJoinsUptoCardSaid : Prop := Claim7.holds Tryz.pinned (.plain (OpenSpec.upto contentJoinsSpec)) contentJoinsUptoCard
end Rows
end Go.Proofs.YtlmgklebikcbjaaGreatDoor
