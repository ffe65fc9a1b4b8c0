/-
  DERIVED. GIVEN WITH THE SEED: THE CARDS: each row of YtkoakanpaehkmaaGreatDoorRows.lean that lists a variable, with what it lists TIED to the program's text (the seventh form; the later family's looks); each row that meets fmt, with fmt's text TOLD by the authors' own Lean function (tested against real Go, not proved from fmt's source: count such statements apart). THE CARD IS WHAT COUNTS. Prove the row's statement (the work); the ties are given (YtkoakanpaehkmaaGreatDoorTie.lean); close each card by the builder's one call (the guide's Derived/Test/ToyasCard.lean, 'card_holds'). Laid BY PROGRAM, IN A SANDBOX (cutbox-door.mjs). By AI agents, Wed Nov 11 2026. No macro, syntax, notation, axiom, sorry.
-/
import Derived.Test.YtkoakanpaehkmaaGreatDoorRows
import GoSem.ClaimSeven
namespace Go.Proofs.YtkoakanpaehkmaaGreatDoor
namespace Rows

/-- THE TIED CARD OF 'copyistlaw12.OperateCased'. -/
def operateCasedCard : Claim7 := { stood := { row := operateCasedRow, standIns := [], harness := (true, "15dc43a909fa67bd9759d3753267bb26198e0be94684a7c3177ed211721adf4d"), looks := true }, kinds := [], alts := [], laidByText := true, laidKinds := [.data, .data, .data], laidTests := true, laidLooks := .later }
def OperateCasedCardSaid : Prop := Claim7.holds Tryz.pinned (.plain (OpenSpec.ofChange operateCasedSpec)) operateCasedCard

/-- THE TIED CARD OF 'copyistlaw12.OperateUntouched'. -/
def operateUntouchedCard : Claim7 := { stood := { row := operateUntouchedRow, standIns := [], harness := (true, "15dc43a909fa67bd9759d3753267bb26198e0be94684a7c3177ed211721adf4d"), looks := true }, kinds := [], alts := [], laidByText := true, laidKinds := [.data, .data, .data], laidTests := true, laidLooks := .later }
def OperateUntouchedCardSaid : Prop := Claim7.holds Tryz.pinned (.plain (OpenSpec.ofChange operateUntouchedSpec)) operateUntouchedCard

/-- THE TIED CARD OF 'copyistlaw12.OperatePlaced'. -/
def operatePlacedCard : Claim7 := { stood := { row := operatePlacedRow, standIns := [], harness := (true, "15dc43a909fa67bd9759d3753267bb26198e0be94684a7c3177ed211721adf4d"), looks := true }, kinds := [], alts := [], laidByText := true, laidKinds := [.data, .data, .data], laidTests := true, laidLooks := .later }
def OperatePlacedCardSaid : Prop := Claim7.holds Tryz.pinned (.plain (OpenSpec.ofChange operatePlacedSpec)) operatePlacedCard

/-- THE TIED CARD OF 'copyistlaw12.OperateUndone'. -/
def operateUndoneCard : Claim7 := { stood := { row := operateUndoneRow, standIns := [], harness := (true, "15dc43a909fa67bd9759d3753267bb26198e0be94684a7c3177ed211721adf4d"), looks := true }, kinds := [], alts := [], laidByText := true, laidKinds := [.data, .data, .data], laidTests := true, laidLooks := .later }
def OperateUndoneCardSaid : Prop := Claim7.holds Tryz.pinned (.plain (OpenSpec.ofChange operateUndoneSpec)) operateUndoneCard

/-- THE SECOND FORM's CARD OF 'copyistlaw12.OperateCased'. -/
def operateCasedUptoCard : Claim7 := { stood := { row := operateCasedUptoRow, standIns := [], harness := (true, "15dc43a909fa67bd9759d3753267bb26198e0be94684a7c3177ed211721adf4d"), looks := true }, kinds := [], alts := [], laidByText := true, laidKinds := [.data, .data, .data], laidTests := true, laidLooks := .later }
def OperateCasedUptoCardSaid : Prop := Claim7.holds Tryz.pinned (.plain (OpenSpec.upto operateCasedSpec)) operateCasedUptoCard

/-- THE SECOND FORM's CARD OF 'copyistlaw12.OperateUntouched'. -/
def operateUntouchedUptoCard : Claim7 := { stood := { row := operateUntouchedUptoRow, standIns := [], harness := (true, "15dc43a909fa67bd9759d3753267bb26198e0be94684a7c3177ed211721adf4d"), looks := true }, kinds := [], alts := [], laidByText := true, laidKinds := [.data, .data, .data], laidTests := true, laidLooks := .later }
def OperateUntouchedUptoCardSaid : Prop := Claim7.holds Tryz.pinned (.plain (OpenSpec.upto operateUntouchedSpec)) operateUntouchedUptoCard

/-- THE SECOND FORM's CARD OF 'copyistlaw12.OperatePlaced'. -/
def operatePlacedUptoCard : Claim7 := { stood := { row := operatePlacedUptoRow, standIns := [], harness := (true, "15dc43a909fa67bd9759d3753267bb26198e0be94684a7c3177ed211721adf4d"), looks := true }, kinds := [], alts := [], laidByText := true, laidKinds := [.data, .data, .data], laidTests := true, laidLooks := .later }
def OperatePlacedUptoCardSaid : Prop := Claim7.holds Tryz.pinned (.plain (OpenSpec.upto operatePlacedSpec)) operatePlacedUptoCard

/-- THE SECOND FORM's CARD OF 'copyistlaw12.OperateUndone'. -/
def operateUndoneUptoCard : Claim7 := { stood := { row := operateUndoneUptoRow, standIns := [], harness := (true, "15dc43a909fa67bd9759d3753267bb26198e0be94684a7c3177ed211721adf4d"), looks := true }, kinds := [], alts := [], laidByText := true, laidKinds := [.data, .data, .data], laidTests := true, laidLooks := .later }
def OperateUndoneUptoCardSaid : Prop := Claim7.holds Tryz.pinned (.plain (OpenSpec.upto operateUndoneSpec)) operateUndoneUptoCard
end Rows
end Go.Proofs.YtkoakanpaehkmaaGreatDoor
