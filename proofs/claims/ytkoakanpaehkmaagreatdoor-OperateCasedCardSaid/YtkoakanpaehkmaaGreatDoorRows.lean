/-
  NARROWER THAN 'FOR EVERY INPUT', by the rows' own cells (each row's printed sentence says how): OperateCased: laid · OperateUntouched: laid · OperatePlaced: laid · OperateUndone: laid.
  DERIVED. THE GIVEN ROWS OF THIS SEAT. 4 by the template 'for every input the law returns true; each argument reads behind the call as it read before'; 0 by the template 'total and deterministic' (their statements: YtkoakanpaehkmaaGreatDoorTotals.lean).
  GIVEN WITH THE SEED: the statements are not yours to turn. If you find one false, say at which input.
  Laid BY PROGRAM, IN A SANDBOX (cutbox-rows.mjs): the forced cells as the released guide's own fill.sh prints them over the translation 60f89c4d9efd4fae… (all of the seat's roots in one cut). By AI agents, Wed Nov 11 2026. No macro, syntax, notation, axiom, sorry.
-/
import Derived.Test.YtkoakanpaehkmaaGreatDoorChecked
import GoSem.Claim
import GoSem.ClaimJoined
import GoSem.ClaimMapViews
import Derived.JoinedTies
import Derived.KernelRfl
namespace Go.Proofs.YtkoakanpaehkmaaGreatDoor
/- THE CELL 'sum', in the pinned program and in every row, IS THE sha256 OF THE DUMP (.gsa) THAT YtkoakanpaehkmaaGreatDoorProg.lean LOADS. Nothing in Lean hashes anything: it is a label: what it is worth is what the hold of that sum in a sandbox is worth. -/
noncomputable def Tryz.pinned : Pinned := { name := "ytkoakanpaehkmaagreatdoor", sum := "60f89c4d9efd4fae77284903fb61c1556af9cb18c6503d49032e6579c22b3e85", checked := Tryz.checked }
namespace Rows
def none {H : Type} : Left H := { results := [], args := [] }

/- WHAT THE LISTED PACKAGE-LEVEL VARIABLES READ AS WHEN THE CALL BEGINS. Each datum BY PROGRAM (the guide's laid-datum.mjs) off the statement by which the dump's own 'gosem.cut.vars' lays the variable. In a bare row this is a premise. The card (YtkoakanpaehkmaaGreatDoorCards.lean) ties it to the program's text. -/
def laid_copyist_glyph_distances {H : Type} : DataW H := .agg [.agg [.lit (.int .i64 65), .lit (.int .i64 90), .lit (.int .i64 32)], .agg [.lit (.int .i64 192), .lit (.int .i64 214), .lit (.int .i64 32)], .agg [.lit (.int .i64 216), .lit (.int .i64 222), .lit (.int .i64 32)], .agg [.lit (.int .i64 904), .lit (.int .i64 906), .lit (.int .i64 37)], .agg [.lit (.int .i64 913), .lit (.int .i64 929), .lit (.int .i64 32)], .agg [.lit (.int .i64 931), .lit (.int .i64 939), .lit (.int .i64 32)], .agg [.lit (.int .i64 1024), .lit (.int .i64 1039), .lit (.int .i64 80)], .agg [.lit (.int .i64 1040), .lit (.int .i64 1071), .lit (.int .i64 32)], .agg [.lit (.int .i64 1329), .lit (.int .i64 1366), .lit (.int .i64 48)], .agg [.lit (.int .i64 8544), .lit (.int .i64 8559), .lit (.int .i64 16)], .agg [.lit (.int .i64 9398), .lit (.int .i64 9423), .lit (.int .i64 26)], .agg [.lit (.int .i64 65313), .lit (.int .i64 65338), .lit (.int .i64 32)], .agg [.lit (.int .i64 66560), .lit (.int .i64 66599), .lit (.int .i64 40)], .agg [.lit (.int .i64 376), .lit (.int .i64 376), .lit (.int .i64 (-121))], .agg [.lit (.int .i64 902), .lit (.int .i64 902), .lit (.int .i64 38)], .agg [.lit (.int .i64 908), .lit (.int .i64 908), .lit (.int .i64 64)], .agg [.lit (.int .i64 910), .lit (.int .i64 911), .lit (.int .i64 63)], .agg [.lit (.int .i64 975), .lit (.int .i64 975), .lit (.int .i64 8)], .agg [.lit (.int .i64 1216), .lit (.int .i64 1216), .lit (.int .i64 15)]]
def laid_copyist_glyph_pairs {H : Type} : DataW H := .agg [.agg [.lit (.int .i64 256), .lit (.int .i64 303)], .agg [.lit (.int .i64 306), .lit (.int .i64 311)], .agg [.lit (.int .i64 313), .lit (.int .i64 328)], .agg [.lit (.int .i64 330), .lit (.int .i64 375)], .agg [.lit (.int .i64 377), .lit (.int .i64 382)], .agg [.lit (.int .i64 461), .lit (.int .i64 476)], .agg [.lit (.int .i64 478), .lit (.int .i64 495)], .agg [.lit (.int .i64 504), .lit (.int .i64 543)], .agg [.lit (.int .i64 546), .lit (.int .i64 563)], .agg [.lit (.int .i64 582), .lit (.int .i64 591)], .agg [.lit (.int .i64 880), .lit (.int .i64 883)], .agg [.lit (.int .i64 886), .lit (.int .i64 887)], .agg [.lit (.int .i64 984), .lit (.int .i64 1007)], .agg [.lit (.int .i64 1120), .lit (.int .i64 1153)], .agg [.lit (.int .i64 1162), .lit (.int .i64 1215)], .agg [.lit (.int .i64 1217), .lit (.int .i64 1230)], .agg [.lit (.int .i64 1232), .lit (.int .i64 1327)], .agg [.lit (.int .i64 7680), .lit (.int .i64 7829)], .agg [.lit (.int .i64 7840), .lit (.int .i64 7935)]]
def laid_copyist_glyph_oneWay {H : Type} : DataW H := .agg [.agg [.lit (.int .i64 181), .lit (.int .i64 924), .lit (.int .i64 181)], .agg [.lit (.int .i64 305), .lit (.int .i64 73), .lit (.int .i64 305)], .agg [.lit (.int .i64 383), .lit (.int .i64 83), .lit (.int .i64 383)], .agg [.lit (.int .i64 962), .lit (.int .i64 931), .lit (.int .i64 962)], .agg [.lit (.int .i64 304), .lit (.int .i64 304), .lit (.int .i64 105)], .agg [.lit (.int .i64 7838), .lit (.int .i64 7838), .lit (.int .i64 223)], .agg [.lit (.int .i64 8486), .lit (.int .i64 8486), .lit (.int .i64 969)], .agg [.lit (.int .i64 8490), .lit (.int .i64 8490), .lit (.int .i64 107)], .agg [.lit (.int .i64 8491), .lit (.int .i64 8491), .lit (.int .i64 229)]]

/-- 'copyistlaw12.OperateCased': WHATEVER THE INPUT: true; the input reads as it did. -/
def operateCasedSpec : ChangeSpec := { name := "operateCased", fn := fun _ => fun
  | [d1, d2, d3] => { results := [.lit (.bool true)], args := [d1, d2, d3] }
  | _ => none }
def operateCasedRow : OpenClaim := { program := "ytkoakanpaehkmaagreatdoor", sum := "60f89c4d9efd4fae77284903fb61c1556af9cb18c6503d49032e6579c22b3e85", func := "copyist/copyistlaw12.OperateCased", spec := "operateCased", unfollowed := true, recurses := true, named := ["copyist/glyph.oneWay", "copyist/glyph.distances", "copyist/glyph.pairs"], apart := false, laid := [("copyist/glyph.distances", laid_copyist_glyph_distances), ("copyist/glyph.pairs", laid_copyist_glyph_pairs), ("copyist/glyph.oneWay", laid_copyist_glyph_oneWay)] }
def OperateCasedSaid : Prop := operateCasedRow.holds Tryz.pinned (OpenSpec.ofChange operateCasedSpec)

/-- ITS FALSE NEIGHBOUR: 'it returns false'. Refute it at one input. -/
def operateCasedWrong : ChangeSpec := { name := "operateCased", fn := fun _ => fun
  | [d1, d2, d3] => { results := [.lit (.bool false)], args := [d1, d2, d3] }
  | _ => none }
def OperateCasedWrongFalsely : Prop := operateCasedRow.holds Tryz.pinned (OpenSpec.ofChange operateCasedWrong)

/-- 'copyistlaw12.OperateUntouched': WHATEVER THE INPUT: true; the input reads as it did. -/
def operateUntouchedSpec : ChangeSpec := { name := "operateUntouched", fn := fun _ => fun
  | [d1, d2] => { results := [.lit (.bool true)], args := [d1, d2] }
  | _ => none }
def operateUntouchedRow : OpenClaim := { program := "ytkoakanpaehkmaagreatdoor", sum := "60f89c4d9efd4fae77284903fb61c1556af9cb18c6503d49032e6579c22b3e85", func := "copyist/copyistlaw12.OperateUntouched", spec := "operateUntouched", unfollowed := true, recurses := true, named := ["copyist/glyph.oneWay", "copyist/glyph.distances", "copyist/glyph.pairs"], apart := false, laid := [("copyist/glyph.distances", laid_copyist_glyph_distances), ("copyist/glyph.pairs", laid_copyist_glyph_pairs), ("copyist/glyph.oneWay", laid_copyist_glyph_oneWay)] }
def OperateUntouchedSaid : Prop := operateUntouchedRow.holds Tryz.pinned (OpenSpec.ofChange operateUntouchedSpec)

/-- ITS FALSE NEIGHBOUR: 'it returns false'. Refute it at one input. -/
def operateUntouchedWrong : ChangeSpec := { name := "operateUntouched", fn := fun _ => fun
  | [d1, d2] => { results := [.lit (.bool false)], args := [d1, d2] }
  | _ => none }
def OperateUntouchedWrongFalsely : Prop := operateUntouchedRow.holds Tryz.pinned (OpenSpec.ofChange operateUntouchedWrong)

/-- 'copyistlaw12.OperatePlaced': WHATEVER THE INPUT: true; the input reads as it did. -/
def operatePlacedSpec : ChangeSpec := { name := "operatePlaced", fn := fun _ => fun
  | [d1, d2] => { results := [.lit (.bool true)], args := [d1, d2] }
  | _ => none }
def operatePlacedRow : OpenClaim := { program := "ytkoakanpaehkmaagreatdoor", sum := "60f89c4d9efd4fae77284903fb61c1556af9cb18c6503d49032e6579c22b3e85", func := "copyist/copyistlaw12.OperatePlaced", spec := "operatePlaced", unfollowed := true, recurses := true, named := ["copyist/glyph.oneWay", "copyist/glyph.distances", "copyist/glyph.pairs"], apart := false, laid := [("copyist/glyph.distances", laid_copyist_glyph_distances), ("copyist/glyph.pairs", laid_copyist_glyph_pairs), ("copyist/glyph.oneWay", laid_copyist_glyph_oneWay)] }
def OperatePlacedSaid : Prop := operatePlacedRow.holds Tryz.pinned (OpenSpec.ofChange operatePlacedSpec)

/-- ITS FALSE NEIGHBOUR: 'it returns false'. Refute it at one input. -/
def operatePlacedWrong : ChangeSpec := { name := "operatePlaced", fn := fun _ => fun
  | [d1, d2] => { results := [.lit (.bool false)], args := [d1, d2] }
  | _ => none }
def OperatePlacedWrongFalsely : Prop := operatePlacedRow.holds Tryz.pinned (OpenSpec.ofChange operatePlacedWrong)

/-- 'copyistlaw12.OperateUndone': WHATEVER THE INPUT: true; the input reads as it did. -/
def operateUndoneSpec : ChangeSpec := { name := "operateUndone", fn := fun _ => fun
  | [d1, d2] => { results := [.lit (.bool true)], args := [d1, d2] }
  | _ => none }
def operateUndoneRow : OpenClaim := { program := "ytkoakanpaehkmaagreatdoor", sum := "60f89c4d9efd4fae77284903fb61c1556af9cb18c6503d49032e6579c22b3e85", func := "copyist/copyistlaw12.OperateUndone", spec := "operateUndone", unfollowed := true, recurses := true, named := ["copyist/glyph.oneWay", "copyist/glyph.distances", "copyist/glyph.pairs"], apart := false, laid := [("copyist/glyph.distances", laid_copyist_glyph_distances), ("copyist/glyph.pairs", laid_copyist_glyph_pairs), ("copyist/glyph.oneWay", laid_copyist_glyph_oneWay)] }
def OperateUndoneSaid : Prop := operateUndoneRow.holds Tryz.pinned (OpenSpec.ofChange operateUndoneSpec)

/-- ITS FALSE NEIGHBOUR: 'it returns false'. Refute it at one input. -/
def operateUndoneWrong : ChangeSpec := { name := "operateUndone", fn := fun _ => fun
  | [d1, d2] => { results := [.lit (.bool false)], args := [d1, d2] }
  | _ => none }
def OperateUndoneWrongFalsely : Prop := operateUndoneRow.holds Tryz.pinned (OpenSpec.ofChange operateUndoneWrong)

/- THE SECOND FORM. 'bulk': how many values and letters a reading holds, each counted each time it is reached (what is shared counts as often as it is met; a slice's spare places count too). A statement '..UptoSaid' is the law's where the arguments, and the package variables that the reading takes, are together of bulk at most 1048576: NARROWER than '..Said'. Prove '..Said' where nothing that the law and all that it calls make is longer than what came in: it says more and counts as full. Else prove '..UptoSaid'. A law counts once. -/
mutual
def uptoBulk {H : Type} : DataW H → Nat
  | .lit (.string bytes) => bytes.length + 1
  | .lit _ => 1
  | .nil => 1
  | .ptr d => uptoBulk d + 1
  | .slice elems spare => uptoBulkAll elems + uptoBulkAll spare + 1
  | .agg parts => uptoBulkAll parts + 1
  | .iface _ d => uptoBulk d + 1
  | .map entries => uptoBulkEntries entries + 1
  | .held _ => 1
def uptoBulkAll {H : Type} : List (DataW H) → Nat
  | [] => 0
  | d :: r => uptoBulk d + uptoBulkAll r
def uptoBulkEntries {H : Type} : List (Lit × DataW H) → Nat
  | [] => 0
  | x :: r => uptoBulkEntry x + uptoBulkEntries r
def uptoBulkEntry {H : Type} : Lit × DataW H → Nat
  | (.string bytes, d) => bytes.length + uptoBulk d + 1
  | (_, d) => uptoBulk d + 1
 end
def uptoSmall : (H : Type) → List (DataW H) → Bool := fun _ ds => decide (uptoBulkAll ds ≤ 1048576)
def OpenSpec.upto (s : _root_.Go.ChangeSpec) : _root_.Go.OpenSpec := { _root_.Go.OpenSpec.ofChange s with cond := some uptoSmall }

/-- 'copyistlaw12.OperateCased', WHERE WHAT IT READS IS OF BULK AT MOST 1048576: true; the input reads as it did. -/
def operateCasedUptoRow : OpenClaim := { program := "ytkoakanpaehkmaagreatdoor", sum := "60f89c4d9efd4fae77284903fb61c1556af9cb18c6503d49032e6579c22b3e85", func := "copyist/copyistlaw12.OperateCased", spec := "operateCased", unfollowed := true, recurses := true, named := ["copyist/glyph.oneWay", "copyist/glyph.distances", "copyist/glyph.pairs"], apart := false, laid := [("copyist/glyph.distances", laid_copyist_glyph_distances), ("copyist/glyph.pairs", laid_copyist_glyph_pairs), ("copyist/glyph.oneWay", laid_copyist_glyph_oneWay)], narrowed := true }
def OperateCasedUptoSaid : Prop := operateCasedUptoRow.holds Tryz.pinned (OpenSpec.upto operateCasedSpec)

/-- 'copyistlaw12.OperateUntouched', WHERE WHAT IT READS IS OF BULK AT MOST 1048576: true; the input reads as it did. -/
def operateUntouchedUptoRow : OpenClaim := { program := "ytkoakanpaehkmaagreatdoor", sum := "60f89c4d9efd4fae77284903fb61c1556af9cb18c6503d49032e6579c22b3e85", func := "copyist/copyistlaw12.OperateUntouched", spec := "operateUntouched", unfollowed := true, recurses := true, named := ["copyist/glyph.oneWay", "copyist/glyph.distances", "copyist/glyph.pairs"], apart := false, laid := [("copyist/glyph.distances", laid_copyist_glyph_distances), ("copyist/glyph.pairs", laid_copyist_glyph_pairs), ("copyist/glyph.oneWay", laid_copyist_glyph_oneWay)], narrowed := true }
def OperateUntouchedUptoSaid : Prop := operateUntouchedUptoRow.holds Tryz.pinned (OpenSpec.upto operateUntouchedSpec)

/-- 'copyistlaw12.OperatePlaced', WHERE WHAT IT READS IS OF BULK AT MOST 1048576: true; the input reads as it did. -/
def operatePlacedUptoRow : OpenClaim := { program := "ytkoakanpaehkmaagreatdoor", sum := "60f89c4d9efd4fae77284903fb61c1556af9cb18c6503d49032e6579c22b3e85", func := "copyist/copyistlaw12.OperatePlaced", spec := "operatePlaced", unfollowed := true, recurses := true, named := ["copyist/glyph.oneWay", "copyist/glyph.distances", "copyist/glyph.pairs"], apart := false, laid := [("copyist/glyph.distances", laid_copyist_glyph_distances), ("copyist/glyph.pairs", laid_copyist_glyph_pairs), ("copyist/glyph.oneWay", laid_copyist_glyph_oneWay)], narrowed := true }
def OperatePlacedUptoSaid : Prop := operatePlacedUptoRow.holds Tryz.pinned (OpenSpec.upto operatePlacedSpec)

/-- 'copyistlaw12.OperateUndone', WHERE WHAT IT READS IS OF BULK AT MOST 1048576: true; the input reads as it did. -/
def operateUndoneUptoRow : OpenClaim := { program := "ytkoakanpaehkmaagreatdoor", sum := "60f89c4d9efd4fae77284903fb61c1556af9cb18c6503d49032e6579c22b3e85", func := "copyist/copyistlaw12.OperateUndone", spec := "operateUndone", unfollowed := true, recurses := true, named := ["copyist/glyph.oneWay", "copyist/glyph.distances", "copyist/glyph.pairs"], apart := false, laid := [("copyist/glyph.distances", laid_copyist_glyph_distances), ("copyist/glyph.pairs", laid_copyist_glyph_pairs), ("copyist/glyph.oneWay", laid_copyist_glyph_oneWay)], narrowed := true }
def OperateUndoneUptoSaid : Prop := operateUndoneUptoRow.holds Tryz.pinned (OpenSpec.upto operateUndoneSpec)

end Rows
end Go.Proofs.YtkoakanpaehkmaaGreatDoor
