/-
  DERIVED. GIVEN WITH THE SEED: THE CARDS: each row of YtmdhahfminiilaaDoorRows.lean that lists a variable, with what it lists TIED to the program's text (the seventh form; the later family's looks); each row that meets fmt, with fmt's text TOLD by the authors' own Lean function (tested against real Go, not proved from fmt's source: count such statements apart). THE CARD IS WHAT COUNTS. Prove the row's statement (the work); the ties are given (YtmdhahfminiilaaDoorTie.lean); close each card by the builder's one call (the guide's Derived/Test/ToyasCard.lean, 'card_holds'). Laid BY PROGRAM, IN A SANDBOX (cutbox-door.mjs). By AI agents, Wed Nov 11 2026. No macro, syntax, notation, axiom, sorry.
-/
import Derived.Test.YtmdhahfminiilaaDoorRows
import GoSem.ClaimSeven
namespace Go.Proofs.YtmdhahfminiilaaDoor
namespace Rows

/-- THE TIED CARD OF 'archivumlaw50.CitationCodes'. -/
def citationCodesCard : Claim7 := { stood := { row := citationCodesRow, standIns := [], harness := (true, "b7d575bc5206071ae1a493c3cafae44c29ce2bae498a4fc225973af7fd5842a1"), looks := true }, kinds := [], alts := [], laidByText := true, laidKinds := [.data, .data, .data, .data, .sentinel, .sentinel, .pinned], laidTests := true, laidLooks := .later }
def CitationCodesCardSaid : Prop := Claim7.holds Tryd.pinned (.plain (OpenSpec.ofChange citationCodesSpec)) citationCodesCard

/-- THE TIED CARD OF 'archivumlaw50.CitationEver'. -/
def citationEverCard : Claim7 := { stood := { row := citationEverRow, standIns := [], harness := (true, "b7d575bc5206071ae1a493c3cafae44c29ce2bae498a4fc225973af7fd5842a1"), looks := true }, kinds := [], alts := [], laidByText := true, laidKinds := [.data, .data, .data, .data, .sentinel, .sentinel, .pinned], laidTests := true, laidLooks := .later }
def CitationEverCardSaid : Prop := Claim7.holds Tryd.pinned (.plain (OpenSpec.ofChange citationEverSpec)) citationEverCard

/-- THE TIED CARD OF 'archivumlaw50.CitationDigits'. -/
def citationDigitsCard : Claim7 := { stood := { row := citationDigitsRow, standIns := [], harness := (true, "b7d575bc5206071ae1a493c3cafae44c29ce2bae498a4fc225973af7fd5842a1"), looks := true }, kinds := [], alts := [], laidByText := true, laidKinds := [.data, .data, .data, .data, .sentinel, .sentinel, .pinned], laidTests := true, laidLooks := .later }
def CitationDigitsCardSaid : Prop := Claim7.holds Tryd.pinned (.plain (OpenSpec.ofChange citationDigitsSpec)) citationDigitsCard

/-- THE TIED CARD OF 'archivumlaw50.CitationTombs'. -/
def citationTombsCard : Claim7 := { stood := { row := citationTombsRow, standIns := [], harness := (true, "b7d575bc5206071ae1a493c3cafae44c29ce2bae498a4fc225973af7fd5842a1"), looks := true }, kinds := [], alts := [], laidByText := true, laidKinds := [.data, .data, .data, .data, .sentinel, .sentinel, .pinned], laidTests := true, laidLooks := .later }
def CitationTombsCardSaid : Prop := Claim7.holds Tryd.pinned (.plain (OpenSpec.ofChange citationTombsSpec)) citationTombsCard

/-- THE TIED CARD OF 'archivumlaw50.CitationNumbers'. -/
def citationNumbersCard : Claim7 := { stood := { row := citationNumbersRow, standIns := [], harness := (true, "b7d575bc5206071ae1a493c3cafae44c29ce2bae498a4fc225973af7fd5842a1"), looks := true }, kinds := [], alts := [], laidByText := true, laidKinds := [.data, .data, .data, .data, .sentinel, .sentinel, .pinned], laidTests := true, laidLooks := .later }
def CitationNumbersCardSaid : Prop := Claim7.holds Tryd.pinned (.plain (OpenSpec.ofChange citationNumbersSpec)) citationNumbersCard

/-- THE SECOND FORM's CARD OF 'archivumlaw50.CitationCodes'. -/
def citationCodesUptoCard : Claim7 := { stood := { row := citationCodesUptoRow, standIns := [], harness := (true, "b7d575bc5206071ae1a493c3cafae44c29ce2bae498a4fc225973af7fd5842a1"), looks := true }, kinds := [], alts := [], laidByText := true, laidKinds := [.data, .data, .data, .data, .sentinel, .sentinel, .pinned], laidTests := true, laidLooks := .later }
def CitationCodesUptoCardSaid : Prop := Claim7.holds Tryd.pinned (.plain (OpenSpec.upto citationCodesSpec)) citationCodesUptoCard

/-- THE SECOND FORM's CARD OF 'archivumlaw50.CitationEver'. -/
def citationEverUptoCard : Claim7 := { stood := { row := citationEverUptoRow, standIns := [], harness := (true, "b7d575bc5206071ae1a493c3cafae44c29ce2bae498a4fc225973af7fd5842a1"), looks := true }, kinds := [], alts := [], laidByText := true, laidKinds := [.data, .data, .data, .data, .sentinel, .sentinel, .pinned], laidTests := true, laidLooks := .later }
def CitationEverUptoCardSaid : Prop := Claim7.holds Tryd.pinned (.plain (OpenSpec.upto citationEverSpec)) citationEverUptoCard

/-- THE SECOND FORM's CARD OF 'archivumlaw50.CitationDigits'. -/
def citationDigitsUptoCard : Claim7 := { stood := { row := citationDigitsUptoRow, standIns := [], harness := (true, "b7d575bc5206071ae1a493c3cafae44c29ce2bae498a4fc225973af7fd5842a1"), looks := true }, kinds := [], alts := [], laidByText := true, laidKinds := [.data, .data, .data, .data, .sentinel, .sentinel, .pinned], laidTests := true, laidLooks := .later }
def CitationDigitsUptoCardSaid : Prop := Claim7.holds Tryd.pinned (.plain (OpenSpec.upto citationDigitsSpec)) citationDigitsUptoCard

/-- THE SECOND FORM's CARD OF 'archivumlaw50.CitationTombs'. -/
def citationTombsUptoCard : Claim7 := { stood := { row := citationTombsUptoRow, standIns := [], harness := (true, "b7d575bc5206071ae1a493c3cafae44c29ce2bae498a4fc225973af7fd5842a1"), looks := true }, kinds := [], alts := [], laidByText := true, laidKinds := [.data, .data, .data, .data, .sentinel, .sentinel, .pinned], laidTests := true, laidLooks := .later }
def CitationTombsUptoCardSaid : Prop := Claim7.holds Tryd.pinned (.plain (OpenSpec.upto citationTombsSpec)) citationTombsUptoCard

/-- THE SECOND FORM's CARD OF 'archivumlaw50.CitationNumbers'. -/
def citationNumbersUptoCard : Claim7 := { stood := { row := citationNumbersUptoRow, standIns := [], harness := (true, "b7d575bc5206071ae1a493c3cafae44c29ce2bae498a4fc225973af7fd5842a1"), looks := true }, kinds := [], alts := [], laidByText := true, laidKinds := [.data, .data, .data, .data, .sentinel, .sentinel, .pinned], laidTests := true, laidLooks := .later }
def CitationNumbersUptoCardSaid : Prop := Claim7.holds Tryd.pinned (.plain (OpenSpec.upto citationNumbersSpec)) citationNumbersUptoCard
end Rows
end Go.Proofs.YtmdhahfminiilaaDoor
