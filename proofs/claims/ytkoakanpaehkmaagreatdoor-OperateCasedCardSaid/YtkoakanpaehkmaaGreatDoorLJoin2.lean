/-
  operate.Join's act, walked through.
-/
import Derived.Test.YtkoakanpaehkmaaGreatDoorLLawKit
set_option linter.unusedSimpArgs false
set_option linter.unusedVariables false
set_option maxRecDepth 100000
set_option maxHeartbeats 32000000
namespace Go.Proofs.YtkoakanpaehkmaaGreatDoor
open Go.RowKit
theorem edit_info : (Tryz.prog.info? 80).map (fun i => (i.zero, i.size, i.bytes)) = some (some (.agg #[.int .i64 0, .int .i64 0, .slice none 0 0]), 3, 40) := by kernel_rfl
theorem edit_row : ∃ i z, Tryz.prog.info? 80 = some i /\ i.zero = some z /\ i.size = 3 /\ i.bytes = 40 /\ z.cells.size = 3 := by
 obtain ⟨i, h1, h2, h3, h4⟩ := info_parts edit_info
 exact ⟨i, _, h1, h2, h3, h4, rfl⟩
theorem edit_one (a b : Int) (A : Option Addr) (n c : Nat) : ∀ u ∈ [Value.int .i64 a, .int .i64 b, .slice A n c], u.oneCell' = true := by
 intro u hu
 simp at hu
 rcases hu with rfl | rfl | rfl <;> rfl
end Go.Proofs.YtkoakanpaehkmaaGreatDoor
