/-
  DERIVED. GIVEN WITH THE SEED: THE PROGRAM's TIES (one call each: nine closed facts by the kernel) AND EACH ROW's TIE, after the 31st guide's Derived/Test/Toyas{Tie, Card}.lean. No idea stands in it: it is a product of the set-up. Laid BY PROGRAM, IN A SANDBOX (cutbox-door.mjs). By AI agents, Wed Nov 11 2026. No macro, syntax, notation, axiom, sorry.
-/
import Derived.Test.YtkoakanpaehkmaaGreatDoorRows
import Derived.LaidByTextLater
import Derived.SevenTiedAt
import Derived.LaidSub
import Derived.LaidOnce
namespace Go.Proofs.YtkoakanpaehkmaaGreatDoor
open Go
set_option maxRecDepth 100000
theorem seatTie1 : Tryz.prog.laidByTextLater [("copyist/glyph.distances", Rows.laid_copyist_glyph_distances), ("copyist/glyph.pairs", Rows.laid_copyist_glyph_pairs), ("copyist/glyph.oneWay", Rows.laid_copyist_glyph_oneWay)] [.data, .data, .data] true :=
  Program.laidByTextLater_by_one 71 8 58 (by kernel_rfl) (by kernel_rfl) (by kernel_rfl) (by kernel_rfl) (by kernel_rfl) (by kernel_rfl) (fun _ _ => by kernel_rfl)
theorem noOwnUnsafe : Tryz.pinned.checked.prog.headLifts.contains "ownunsafe" = false := by kernel_rfl
theorem tie : Tryz.prog.laidByTextLater [("copyist/glyph.distances", Rows.laid_copyist_glyph_distances), ("copyist/glyph.pairs", Rows.laid_copyist_glyph_pairs), ("copyist/glyph.oneWay", Rows.laid_copyist_glyph_oneWay)] [.data, .data, .data] true :=
  Program.laidByTextLater.sub seatTie1 ["copyist/glyph.distances", "copyist/glyph.pairs", "copyist/glyph.oneWay"] (by kernel_rfl) (by kernel_rfl)
theorem operateCased_row_tie : Rows.operateCasedRow.laidByTextAt .later Tryz.pinned [.data, .data, .data] true :=
  OpenClaim.laidByTextAt_later rfl rfl tie noOwnUnsafe
theorem operateUntouched_row_tie : Rows.operateUntouchedRow.laidByTextAt .later Tryz.pinned [.data, .data, .data] true :=
  OpenClaim.laidByTextAt_later rfl rfl tie noOwnUnsafe
theorem operatePlaced_row_tie : Rows.operatePlacedRow.laidByTextAt .later Tryz.pinned [.data, .data, .data] true :=
  OpenClaim.laidByTextAt_later rfl rfl tie noOwnUnsafe
theorem operateUndone_row_tie : Rows.operateUndoneRow.laidByTextAt .later Tryz.pinned [.data, .data, .data] true :=
  OpenClaim.laidByTextAt_later rfl rfl tie noOwnUnsafe
theorem operateCasedUpto_row_tie : Rows.operateCasedUptoRow.laidByTextAt .later Tryz.pinned [.data, .data, .data] true :=
  OpenClaim.laidByTextAt_later rfl rfl tie noOwnUnsafe
theorem operateUntouchedUpto_row_tie : Rows.operateUntouchedUptoRow.laidByTextAt .later Tryz.pinned [.data, .data, .data] true :=
  OpenClaim.laidByTextAt_later rfl rfl tie noOwnUnsafe
theorem operatePlacedUpto_row_tie : Rows.operatePlacedUptoRow.laidByTextAt .later Tryz.pinned [.data, .data, .data] true :=
  OpenClaim.laidByTextAt_later rfl rfl tie noOwnUnsafe
theorem operateUndoneUpto_row_tie : Rows.operateUndoneUptoRow.laidByTextAt .later Tryz.pinned [.data, .data, .data] true :=
  OpenClaim.laidByTextAt_later rfl rfl tie noOwnUnsafe
end Go.Proofs.YtkoakanpaehkmaaGreatDoor
