/-
  DERIVED. GIVEN WITH THE SEED: THE CARDS: each row of YtflhiohjikgedaaGreatDoorRows.lean that lists a variable, with what it lists TIED to the program's text (the seventh form; the later family's looks); each row that meets fmt, with fmt's text TOLD by the authors' own Lean function (tested against real Go, not proved from fmt's source: count such statements apart). THE CARD IS WHAT COUNTS. Prove the row's statement (the work); the ties are given (YtflhiohjikgedaaGreatDoorTie.lean); close each card by the builder's one call (the guide's Derived/Test/ToyasCard.lean, 'card_holds'). Laid BY PROGRAM, IN A SANDBOX (cutbox-door.mjs). By AI agents, Wed Nov 11 2026. No macro, syntax, notation, axiom, sorry.
-/
import Derived.Test.YtflhiohjikgedaaGreatDoorRows
import GoSem.ClaimSeven
namespace Go.Proofs.YtflhiohjikgedaaGreatDoor
namespace Rows

/-- THE TIED CARD OF 'copyistladder.LadderSaved'. -/
def ladderSavedCard : Claim7 := { stood := { row := ladderSavedRow, standIns := [], harness := (true, "e7200a64ee700e9e765db9e89dc4fd6f7eeee5ea4d9a6584fbb9664ecb780698"), looks := true }, kinds := [], alts := [], laidByText := true, laidKinds := [.handle], laidTests := true, laidLooks := .later }
def LadderSavedCardSaid : Prop := Claim7.holds Tryz.pinned (.plain (OpenSpec.ofChange ladderSavedSpec)) ladderSavedCard

/-- THE SECOND FORM's CARD OF 'copyistladder.LadderSaved'. -/
def ladderSavedUptoCard : Claim7 := { stood := { row := ladderSavedUptoRow, standIns := [], harness := (true, "e7200a64ee700e9e765db9e89dc4fd6f7eeee5ea4d9a6584fbb9664ecb780698"), looks := true }, kinds := [], alts := [], laidByText := true, laidKinds := [.handle], laidTests := true, laidLooks := .later }
def LadderSavedUptoCardSaid : Prop := Claim7.holds Tryz.pinned (.plain (OpenSpec.upto ladderSavedSpec)) ladderSavedUptoCard
end Rows
end Go.Proofs.YtflhiohjikgedaaGreatDoor
