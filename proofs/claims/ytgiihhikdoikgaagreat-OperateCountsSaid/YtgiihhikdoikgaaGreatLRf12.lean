/-
  The document's lines: copyistref6.All and Native. The document's desk: copyistref6.Native, copyistref12.New.
-/
import Derived.Test.YtgiihhikdoikgaaGreatLSame
set_option linter.unusedSimpArgs false
set_option linter.unusedVariables false
set_option maxRecDepth 100000
set_option maxHeartbeats 32000000
namespace Go.Proofs.YtgiihhikdoikgaaGreat
open Go.RowKit
end Go.Proofs.YtgiihhikdoikgaaGreat
