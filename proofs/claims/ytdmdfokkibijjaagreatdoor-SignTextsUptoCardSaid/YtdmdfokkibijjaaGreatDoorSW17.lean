/-
  The walk of SameInts of the document's answer, at two lists that read alike.
-/
import Derived.Test.YtdmdfokkibijjaaGreatDoorSW16
import Derived.Test.YtdmdfokkibijjaaGreatDoorSW15
namespace Go.Proofs.YtdmdfokkibijjaaGreatDoor
open Go.RowKit
open Sgn
set_option linter.unusedVariables false
set_option linter.unusedSimpArgs false

end Go.Proofs.YtdmdfokkibijjaaGreatDoor
