/-
  The document's op: the next operator, by image's contract. Condition: the reader stands in its bytes, these are no more than 3600000.
-/
import Derived.Test.YtjkoiknjffldjaaGreatDoorKRrd
/-
  The document's op: the next operator, by image's contract. Condition: the reader stands in its bytes, these are no more than 3600000.
-/
namespace Go.Proofs.YtjkoiknjffldjaaGreatDoor
open Go.RowKit
set_option linter.unusedVariables false

end Go.Proofs.YtjkoiknjffldjaaGreatDoor
