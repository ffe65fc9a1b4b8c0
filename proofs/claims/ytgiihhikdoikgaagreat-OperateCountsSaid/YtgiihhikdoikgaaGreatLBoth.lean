/-
  Both desks as they begin: (*Both).text answers true.
-/
import Derived.Test.YtgiihhikdoikgaaGreatLRf12
import Derived.Test.YtgiihhikdoikgaaGreatLSame
import Derived.Test.YtgiihhikdoikgaaGreatLOfLaw
set_option linter.unusedSimpArgs false
set_option linter.unusedVariables false
set_option maxRecDepth 100000
set_option maxHeartbeats 32000000
namespace Go.Proofs.YtgiihhikdoikgaaGreat
open Go.RowKit
theorem cells3 {w : World} {g : Nat} {T : TypeId} {a0 a1 a2 : Value} (h : Blk w g T #[a0, a1, a2]) : w.cell? ⟨g, 0, none⟩ = some a0 /\ w.cell? ⟨g, 1, none⟩ = some a1 /\ w.cell? ⟨g, 2, none⟩ = some a2 := ⟨h.cell 0, h.cell 1, h.cell 2⟩
end Go.Proofs.YtgiihhikdoikgaaGreat
