/-
  Package motion: here, by Rows; desk.sign.
-/
import Derived.Test.YtkoakanpaehkmaaGreatDoorLType
import Derived.Test.YtkoakanpaehkmaaGreatDoorLWk4
import Derived.Test.YtkoakanpaehkmaaGreatDoorLHeavy
set_option linter.unusedSimpArgs false
set_option linter.unusedVariables false
set_option maxRecDepth 100000
set_option maxHeartbeats 32000000
namespace Go.Proofs.YtkoakanpaehkmaaGreatDoor
open Go.RowKit
end Go.Proofs.YtkoakanpaehkmaaGreatDoor
