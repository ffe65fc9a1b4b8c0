/-
  operate.Shift's act, walked through.
-/
import Derived.Test.YtgiihhikdoikgaaGreatLShift1
set_option linter.unusedSimpArgs false
set_option linter.unusedVariables false
set_option maxRecDepth 100000
set_option maxHeartbeats 32000000
namespace Go.Proofs.YtgiihhikdoikgaaGreat
open Go.RowKit
end Go.Proofs.YtgiihhikdoikgaaGreat
