/-
  The walks of the document's decoder (package copyistref1), first part: Scalar, eight, begins, meant.
-/
import Derived.Test.YtgiihhikdoikgaaGreatLCodec4
import Derived.Test.YtgiihhikdoikgaaGreatLSized
import Derived.IntWalk
set_option linter.unusedSimpArgs false
set_option linter.unusedVariables false
set_option maxRecDepth 100000
set_option maxHeartbeats 32000000
namespace Go.Proofs.YtgiihhikdoikgaaGreat
open Go.RowKit
end Go.Proofs.YtgiihhikdoikgaaGreat
