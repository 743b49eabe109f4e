/-
  DERIVED. GIVEN WITH THE SEED: THE CARDS: each row of YtihjmnhamaicpaaGreatDoorRows.lean that lists a variable, with what it lists TIED to the program's text (the seventh form; the later family's looks); each row that meets fmt, with fmt's text TOLD by the authors' own Lean function (tested against real Go, not proved from fmt's source: count such statements apart). THE CARD IS WHAT COUNTS. Prove the row's statement (the work); the ties are given (YtihjmnhamaicpaaGreatDoorTie.lean); close each card by the builder's one call (the guide's Derived/Test/ToyasCard.lean, 'card_holds'). Laid BY PROGRAM, IN A SANDBOX (cutbox-door.mjs). By AI agents, Wed Nov 11 2026. No macro, syntax, notation, axiom, sorry.
-/
import Derived.Test.YtihjmnhamaicpaaGreatDoorRows
import GoSem.ClaimSeven
namespace Go.Proofs.YtihjmnhamaicpaaGreatDoor
namespace Rows

/-- THE TIED CARD OF 'archivumlaw05.CodeOrders'. -/
def codeOrdersCard : Claim7 := { stood := { row := codeOrdersRow, standIns := [], harness := (true, "5676f532b5b5e4609c3a9ff3d6823a405f3f1b1e58d78498e2ca57a467fb0bef"), looks := true }, kinds := [], alts := [], laidByText := true, laidKinds := [.data, .data, .data, .data, .sentinel, .sentinel, .listed, .data, .pinned], laidTests := true, laidLooks := .later }
def CodeOrdersCardSaid : Prop := Claim7.holds Tryz.pinned (.plain (OpenSpec.ofChange codeOrdersSpec)) codeOrdersCard

/-- THE TIED CARD OF 'archivumlaw05.CodeTree'. -/
def codeTreeCard : Claim7 := { stood := { row := codeTreeRow, standIns := [], harness := (true, "5676f532b5b5e4609c3a9ff3d6823a405f3f1b1e58d78498e2ca57a467fb0bef"), looks := true }, kinds := [], alts := [], laidByText := true, laidKinds := [.data, .data, .data, .data, .sentinel, .sentinel, .listed, .data, .pinned], laidTests := true, laidLooks := .later }
def CodeTreeCardSaid : Prop := Claim7.holds Tryz.pinned (.plain (OpenSpec.ofChange codeTreeSpec)) codeTreeCard

/-- THE TIED CARD OF 'archivumlaw05.CodeTotal'. -/
def codeTotalCard : Claim7 := { stood := { row := codeTotalRow, standIns := [], harness := (true, "5676f532b5b5e4609c3a9ff3d6823a405f3f1b1e58d78498e2ca57a467fb0bef"), looks := true }, kinds := [], alts := [], laidByText := true, laidKinds := [.data, .data, .data, .data, .sentinel, .sentinel, .listed, .data, .pinned], laidTests := true, laidLooks := .later }
def CodeTotalCardSaid : Prop := Claim7.holds Tryz.pinned (.plain (OpenSpec.ofChange codeTotalSpec)) codeTotalCard

/-- THE TIED CARD OF 'archivumlaw05.CodeReads'. -/
def codeReadsCard : Claim7 := { stood := { row := codeReadsRow, standIns := [], harness := (true, "5676f532b5b5e4609c3a9ff3d6823a405f3f1b1e58d78498e2ca57a467fb0bef"), looks := true }, kinds := [], alts := [], laidByText := true, laidKinds := [.data, .data, .data, .data, .sentinel, .sentinel, .listed, .data, .pinned], laidTests := true, laidLooks := .later }
def CodeReadsCardSaid : Prop := Claim7.holds Tryz.pinned (.plain (OpenSpec.ofChange codeReadsSpec)) codeReadsCard

/-- THE TIED CARD OF 'archivumlaw05.CodeBack'. -/
def codeBackCard : Claim7 := { stood := { row := codeBackRow, standIns := [], harness := (true, "5676f532b5b5e4609c3a9ff3d6823a405f3f1b1e58d78498e2ca57a467fb0bef"), looks := true }, kinds := [], alts := [], laidByText := true, laidKinds := [.data, .data, .data, .data, .sentinel, .sentinel, .listed, .data, .pinned], laidTests := true, laidLooks := .later }
def CodeBackCardSaid : Prop := Claim7.holds Tryz.pinned (.plain (OpenSpec.ofChange codeBackSpec)) codeBackCard

/-- THE TIED CARD OF 'archivumlaw05.CodeFree'. -/
def codeFreeCard : Claim7 := { stood := { row := codeFreeRow, standIns := [], harness := (true, "5676f532b5b5e4609c3a9ff3d6823a405f3f1b1e58d78498e2ca57a467fb0bef"), looks := true }, kinds := [], alts := [], laidByText := true, laidKinds := [.data, .data, .data, .data, .sentinel, .sentinel, .listed, .data, .pinned], laidTests := true, laidLooks := .later }
def CodeFreeCardSaid : Prop := Claim7.holds Tryz.pinned (.plain (OpenSpec.ofChange codeFreeSpec)) codeFreeCard

/-- THE TIED CARD OF 'archivumlaw05.CodeNames'. -/
def codeNamesCard : Claim7 := { stood := { row := codeNamesRow, standIns := [], harness := (true, "5676f532b5b5e4609c3a9ff3d6823a405f3f1b1e58d78498e2ca57a467fb0bef"), looks := true }, kinds := [], alts := [], laidByText := true, laidKinds := [.data, .data, .data, .data, .sentinel, .sentinel, .listed, .data, .pinned], laidTests := true, laidLooks := .later }
def CodeNamesCardSaid : Prop := Claim7.holds Tryz.pinned (.plain (OpenSpec.ofChange codeNamesSpec)) codeNamesCard

/-- THE TIED CARD OF 'archivumlaw05.CodeNatural'. -/
def codeNaturalCard : Claim7 := { stood := { row := codeNaturalRow, standIns := [], harness := (true, "5676f532b5b5e4609c3a9ff3d6823a405f3f1b1e58d78498e2ca57a467fb0bef"), looks := true }, kinds := [], alts := [], laidByText := true, laidKinds := [.data, .data, .data, .data, .sentinel, .sentinel, .listed, .data, .pinned], laidTests := true, laidLooks := .later }
def CodeNaturalCardSaid : Prop := Claim7.holds Tryz.pinned (.plain (OpenSpec.ofChange codeNaturalSpec)) codeNaturalCard

/-- THE SECOND FORM's CARD OF 'archivumlaw05.CodeOrders'. -/
def codeOrdersUptoCard : Claim7 := { stood := { row := codeOrdersUptoRow, standIns := [], harness := (true, "5676f532b5b5e4609c3a9ff3d6823a405f3f1b1e58d78498e2ca57a467fb0bef"), looks := true }, kinds := [], alts := [], laidByText := true, laidKinds := [.data, .data, .data, .data, .sentinel, .sentinel, .listed, .data, .pinned], laidTests := true, laidLooks := .later }
def CodeOrdersUptoCardSaid : Prop := Claim7.holds Tryz.pinned (.plain (OpenSpec.upto codeOrdersSpec)) codeOrdersUptoCard

/-- THE SECOND FORM's CARD OF 'archivumlaw05.CodeTree'. -/
def codeTreeUptoCard : Claim7 := { stood := { row := codeTreeUptoRow, standIns := [], harness := (true, "5676f532b5b5e4609c3a9ff3d6823a405f3f1b1e58d78498e2ca57a467fb0bef"), looks := true }, kinds := [], alts := [], laidByText := true, laidKinds := [.data, .data, .data, .data, .sentinel, .sentinel, .listed, .data, .pinned], laidTests := true, laidLooks := .later }
def CodeTreeUptoCardSaid : Prop := Claim7.holds Tryz.pinned (.plain (OpenSpec.upto codeTreeSpec)) codeTreeUptoCard

/-- THE SECOND FORM's CARD OF 'archivumlaw05.CodeTotal'. -/
def codeTotalUptoCard : Claim7 := { stood := { row := codeTotalUptoRow, standIns := [], harness := (true, "5676f532b5b5e4609c3a9ff3d6823a405f3f1b1e58d78498e2ca57a467fb0bef"), looks := true }, kinds := [], alts := [], laidByText := true, laidKinds := [.data, .data, .data, .data, .sentinel, .sentinel, .listed, .data, .pinned], laidTests := true, laidLooks := .later }
def CodeTotalUptoCardSaid : Prop := Claim7.holds Tryz.pinned (.plain (OpenSpec.upto codeTotalSpec)) codeTotalUptoCard

/-- THE SECOND FORM's CARD OF 'archivumlaw05.CodeReads'. -/
def codeReadsUptoCard : Claim7 := { stood := { row := codeReadsUptoRow, standIns := [], harness := (true, "5676f532b5b5e4609c3a9ff3d6823a405f3f1b1e58d78498e2ca57a467fb0bef"), looks := true }, kinds := [], alts := [], laidByText := true, laidKinds := [.data, .data, .data, .data, .sentinel, .sentinel, .listed, .data, .pinned], laidTests := true, laidLooks := .later }
def CodeReadsUptoCardSaid : Prop := Claim7.holds Tryz.pinned (.plain (OpenSpec.upto codeReadsSpec)) codeReadsUptoCard

/-- THE SECOND FORM's CARD OF 'archivumlaw05.CodeBack'. -/
def codeBackUptoCard : Claim7 := { stood := { row := codeBackUptoRow, standIns := [], harness := (true, "5676f532b5b5e4609c3a9ff3d6823a405f3f1b1e58d78498e2ca57a467fb0bef"), looks := true }, kinds := [], alts := [], laidByText := true, laidKinds := [.data, .data, .data, .data, .sentinel, .sentinel, .listed, .data, .pinned], laidTests := true, laidLooks := .later }
def CodeBackUptoCardSaid : Prop := Claim7.holds Tryz.pinned (.plain (OpenSpec.upto codeBackSpec)) codeBackUptoCard

/-- THE SECOND FORM's CARD OF 'archivumlaw05.CodeFree'. -/
def codeFreeUptoCard : Claim7 := { stood := { row := codeFreeUptoRow, standIns := [], harness := (true, "5676f532b5b5e4609c3a9ff3d6823a405f3f1b1e58d78498e2ca57a467fb0bef"), looks := true }, kinds := [], alts := [], laidByText := true, laidKinds := [.data, .data, .data, .data, .sentinel, .sentinel, .listed, .data, .pinned], laidTests := true, laidLooks := .later }
def CodeFreeUptoCardSaid : Prop := Claim7.holds Tryz.pinned (.plain (OpenSpec.upto codeFreeSpec)) codeFreeUptoCard

/-- THE SECOND FORM's CARD OF 'archivumlaw05.CodeNames'. -/
def codeNamesUptoCard : Claim7 := { stood := { row := codeNamesUptoRow, standIns := [], harness := (true, "5676f532b5b5e4609c3a9ff3d6823a405f3f1b1e58d78498e2ca57a467fb0bef"), looks := true }, kinds := [], alts := [], laidByText := true, laidKinds := [.data, .data, .data, .data, .sentinel, .sentinel, .listed, .data, .pinned], laidTests := true, laidLooks := .later }
def CodeNamesUptoCardSaid : Prop := Claim7.holds Tryz.pinned (.plain (OpenSpec.upto codeNamesSpec)) codeNamesUptoCard

/-- THE SECOND FORM's CARD OF 'archivumlaw05.CodeNatural'. -/
def codeNaturalUptoCard : Claim7 := { stood := { row := codeNaturalUptoRow, standIns := [], harness := (true, "5676f532b5b5e4609c3a9ff3d6823a405f3f1b1e58d78498e2ca57a467fb0bef"), looks := true }, kinds := [], alts := [], laidByText := true, laidKinds := [.data, .data, .data, .data, .sentinel, .sentinel, .listed, .data, .pinned], laidTests := true, laidLooks := .later }
def CodeNaturalUptoCardSaid : Prop := Claim7.holds Tryz.pinned (.plain (OpenSpec.upto codeNaturalSpec)) codeNaturalUptoCard
end Rows
end Go.Proofs.YtihjmnhamaicpaaGreatDoor
