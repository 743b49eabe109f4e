/-
  DERIVED. GIVEN WITH THE SEED: THE CARDS: each row of YtmdhahfminiilaaGreatDoorRows.lean that lists a variable, with what it lists TIED to the program's text (the seventh form; the later family's looks); each row that meets fmt, with fmt's text TOLD by the authors' own Lean function (tested against real Go, not proved from fmt's source: count such statements apart). THE CARD IS WHAT COUNTS. Prove the row's statement (the work); the ties are given (YtmdhahfminiilaaGreatDoorTie.lean); close each card by the builder's one call (the guide's Derived/Test/ToyasCard.lean, 'card_holds'). Laid BY PROGRAM, IN A SANDBOX (cutbox-door.mjs). By AI agents, Wed Nov 11 2026. No macro, syntax, notation, axiom, sorry.
-/
import Derived.Test.YtmdhahfminiilaaGreatDoorRows
import GoSem.ClaimSeven
namespace Go.Proofs.YtmdhahfminiilaaGreatDoor
namespace Rows

/-- THE TIED CARD OF 'archivumlaw50.CitationVersions'. -/
def citationVersionsCard : Claim7 := { stood := { row := citationVersionsRow, standIns := [], harness := (true, "867eef7d83acfc6c78745558a7cbcad494688b69093d3834f8955788156e7327"), looks := true }, kinds := [], alts := [], laidByText := true, laidKinds := [.data, .data, .data, .data, .sentinel, .sentinel, .pinned], laidTests := true, laidLooks := .later }
def CitationVersionsCardSaid : Prop := Claim7.holds Tryz.pinned (.plain (OpenSpec.ofChange citationVersionsSpec)) citationVersionsCard

/-- THE TIED CARD OF 'archivumlaw50.CitationResolves'. -/
def citationResolvesCard : Claim7 := { stood := { row := citationResolvesRow, standIns := [], harness := (true, "867eef7d83acfc6c78745558a7cbcad494688b69093d3834f8955788156e7327"), looks := true }, kinds := [], alts := [], laidByText := true, laidKinds := [.data, .data, .data, .data, .sentinel, .sentinel, .pinned], laidTests := true, laidLooks := .later }
def CitationResolvesCardSaid : Prop := Claim7.holds Tryz.pinned (.plain (OpenSpec.ofChange citationResolvesSpec)) citationResolvesCard

/-- THE SECOND FORM's CARD OF 'archivumlaw50.CitationVersions'. -/
def citationVersionsUptoCard : Claim7 := { stood := { row := citationVersionsUptoRow, standIns := [], harness := (true, "867eef7d83acfc6c78745558a7cbcad494688b69093d3834f8955788156e7327"), looks := true }, kinds := [], alts := [], laidByText := true, laidKinds := [.data, .data, .data, .data, .sentinel, .sentinel, .pinned], laidTests := true, laidLooks := .later }
def CitationVersionsUptoCardSaid : Prop := Claim7.holds Tryz.pinned (.plain (OpenSpec.upto citationVersionsSpec)) citationVersionsUptoCard

/-- THE SECOND FORM's CARD OF 'archivumlaw50.CitationResolves'. -/
def citationResolvesUptoCard : Claim7 := { stood := { row := citationResolvesUptoRow, standIns := [], harness := (true, "867eef7d83acfc6c78745558a7cbcad494688b69093d3834f8955788156e7327"), looks := true }, kinds := [], alts := [], laidByText := true, laidKinds := [.data, .data, .data, .data, .sentinel, .sentinel, .pinned], laidTests := true, laidLooks := .later }
def CitationResolvesUptoCardSaid : Prop := Claim7.holds Tryz.pinned (.plain (OpenSpec.upto citationResolvesSpec)) citationResolvesUptoCard
end Rows
end Go.Proofs.YtmdhahfminiilaaGreatDoor
