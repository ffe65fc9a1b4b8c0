/-
  Drawn regions (Ord), and what the walks of the text bring. A call in a drawn region that brings a slice of integers.
-/
import Derived.Test.YtflhiohjikgedaaGreatDoorLHeavy
import Derived.Test.YtflhiohjikgedaaGreatDoorLRound
import Derived.Test.YtflhiohjikgedaaGreatDoorLWalk2
set_option linter.unusedSimpArgs false
set_option linter.unusedVariables false
set_option maxRecDepth 100000
set_option maxHeartbeats 32000000
namespace Go.Proofs.YtflhiohjikgedaaGreatDoor
open Go.RowKit
end Go.Proofs.YtflhiohjikgedaaGreatDoor
