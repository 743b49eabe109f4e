/-
  DERIVED. GIVEN WITH THE SEED: THE CARDS: each row of YtibiibjbmhckgaaGreatDoorRows.lean that lists a variable, with what it lists TIED to the program's text (the seventh form; the later family's looks); each row that meets fmt, with fmt's text TOLD by the authors' own Lean function (tested against real Go, not proved from fmt's source: count such statements apart). THE CARD IS WHAT COUNTS. Prove the row's statement (the work); the ties are given (YtibiibjbmhckgaaGreatDoorTie.lean); close each card by the builder's one call (the guide's Derived/Test/ToyasCard.lean, 'card_holds'). Laid BY PROGRAM, IN A SANDBOX (cutbox-door.mjs). By AI agents, Wed Nov 11 2026. No macro, syntax, notation, axiom, sorry.
-/
import Derived.Test.YtibiibjbmhckgaaGreatDoorRows
import GoSem.ClaimSeven
namespace Go.Proofs.YtibiibjbmhckgaaGreatDoor
namespace Rows

/-- THE TIED CARD OF 'archivumtop.TopUndone'. -/
def topUndoneCard : Claim7 := { stood := { row := topUndoneRow, standIns := [], harness := (true, "b670e124cbc50160d80d64ade31dc2e6ae259da4a08e3532536c6e06af99bf43"), looks := false }, kinds := [], alts := [], laidByText := true, laidKinds := [.data, .data, .data, .data, .pinned], laidTests := true, laidLooks := .later }
def TopUndoneCardSaid : Prop := Claim7.holds Tryz.pinned (.plain (OpenSpec.ofChange topUndoneSpec)) topUndoneCard

/-- THE TIED CARD OF 'archivumtop.TopMarksUnique'. -/
def topMarksUniqueCard : Claim7 := { stood := { row := topMarksUniqueRow, standIns := [], harness := (true, "b670e124cbc50160d80d64ade31dc2e6ae259da4a08e3532536c6e06af99bf43"), looks := false }, kinds := [], alts := [], laidByText := true, laidKinds := [.data, .data, .data, .data, .pinned], laidTests := true, laidLooks := .later }
def TopMarksUniqueCardSaid : Prop := Claim7.holds Tryz.pinned (.plain (OpenSpec.ofChange topMarksUniqueSpec)) topMarksUniqueCard

/-- THE SECOND FORM's CARD OF 'archivumtop.TopUndone'. -/
def topUndoneUptoCard : Claim7 := { stood := { row := topUndoneUptoRow, standIns := [], harness := (true, "b670e124cbc50160d80d64ade31dc2e6ae259da4a08e3532536c6e06af99bf43"), looks := false }, kinds := [], alts := [], laidByText := true, laidKinds := [.data, .data, .data, .data, .pinned], laidTests := true, laidLooks := .later }
def TopUndoneUptoCardSaid : Prop := Claim7.holds Tryz.pinned (.plain (OpenSpec.upto topUndoneSpec)) topUndoneUptoCard

/-- THE SECOND FORM's CARD OF 'archivumtop.TopMarksUnique'. -/
def topMarksUniqueUptoCard : Claim7 := { stood := { row := topMarksUniqueUptoRow, standIns := [], harness := (true, "b670e124cbc50160d80d64ade31dc2e6ae259da4a08e3532536c6e06af99bf43"), looks := false }, kinds := [], alts := [], laidByText := true, laidKinds := [.data, .data, .data, .data, .pinned], laidTests := true, laidLooks := .later }
def TopMarksUniqueUptoCardSaid : Prop := Claim7.holds Tryz.pinned (.plain (OpenSpec.upto topMarksUniqueSpec)) topMarksUniqueUptoCard
end Rows
end Go.Proofs.YtibiibjbmhckgaaGreatDoor
