/-
  DERIVED. GIVEN WITH THE SEED: THE CARDS: each row of YtmcolhhmlpicaaaDoorRows.lean that lists a variable, with what it lists TIED to the program's text (the seventh form; the later family's looks); each row that meets fmt, with fmt's text TOLD by the authors' own Lean function (tested against real Go, not proved from fmt's source: count such statements apart). THE CARD IS WHAT COUNTS. Prove the row's statement (the work); the ties are given (YtmcolhhmlpicaaaDoorTie.lean); close each card by the builder's one call (the guide's Derived/Test/ToyasCard.lean, 'card_holds'). Laid BY PROGRAM, IN A SANDBOX (cutbox-door.mjs). By AI agents, Wed Nov 11 2026. No macro, syntax, notation, axiom, sorry.
-/
import Derived.Test.YtmcolhhmlpicaaaDoorRows
import GoSem.ClaimSeven
namespace Go.Proofs.YtmcolhhmlpicaaaDoor
namespace Rows

/-- THE TIED CARD OF 'archivumlaw06.OfficeChains'. -/
def officeChainsCard : Claim7 := { stood := { row := officeChainsRow, standIns := [], harness := (true, "e7d8fea9de2acf85b36acfb60e411cc5e8f643a101692d0134c22c37bbce6cac"), looks := false }, kinds := [], alts := [], laidByText := true, laidKinds := [.data, .listed, .data, .pinned], laidTests := true, laidLooks := .later }
def OfficeChainsCardSaid : Prop := Claim7.holds Tryd.pinned (.plain (OpenSpec.ofChange officeChainsSpec)) officeChainsCard

/-- THE TIED CARD OF 'archivumlaw06.OfficeReaches'. -/
def officeReachesCard : Claim7 := { stood := { row := officeReachesRow, standIns := [], harness := (true, "e7d8fea9de2acf85b36acfb60e411cc5e8f643a101692d0134c22c37bbce6cac"), looks := false }, kinds := [], alts := [], laidByText := true, laidKinds := [.data, .listed, .data, .pinned], laidTests := true, laidLooks := .later }
def OfficeReachesCardSaid : Prop := Claim7.holds Tryd.pinned (.plain (OpenSpec.ofChange officeReachesSpec)) officeReachesCard

/-- THE TIED CARD OF 'archivumlaw06.OfficeUnbroken'. -/
def officeUnbrokenCard : Claim7 := { stood := { row := officeUnbrokenRow, standIns := [], harness := (true, "e7d8fea9de2acf85b36acfb60e411cc5e8f643a101692d0134c22c37bbce6cac"), looks := false }, kinds := [], alts := [], laidByText := true, laidKinds := [.data, .listed, .data, .pinned], laidTests := true, laidLooks := .later }
def OfficeUnbrokenCardSaid : Prop := Claim7.holds Tryd.pinned (.plain (OpenSpec.ofChange officeUnbrokenSpec)) officeUnbrokenCard

/-- THE TIED CARD OF 'archivumlaw06.OfficeOnce'. -/
def officeOnceCard : Claim7 := { stood := { row := officeOnceRow, standIns := [], harness := (true, "e7d8fea9de2acf85b36acfb60e411cc5e8f643a101692d0134c22c37bbce6cac"), looks := false }, kinds := [], alts := [], laidByText := true, laidKinds := [.data, .listed, .data, .pinned], laidTests := true, laidLooks := .later }
def OfficeOnceCardSaid : Prop := Claim7.holds Tryd.pinned (.plain (OpenSpec.ofChange officeOnceSpec)) officeOnceCard

/-- THE TIED CARD OF 'archivumlaw06.OfficeEnds'. -/
def officeEndsCard : Claim7 := { stood := { row := officeEndsRow, standIns := [], harness := (true, "e7d8fea9de2acf85b36acfb60e411cc5e8f643a101692d0134c22c37bbce6cac"), looks := false }, kinds := [], alts := [], laidByText := true, laidKinds := [.data, .listed, .data, .pinned], laidTests := true, laidLooks := .later }
def OfficeEndsCardSaid : Prop := Claim7.holds Tryd.pinned (.plain (OpenSpec.ofChange officeEndsSpec)) officeEndsCard

/-- THE TIED CARD OF 'archivumlaw06.OfficeBefore'. -/
def officeBeforeCard : Claim7 := { stood := { row := officeBeforeRow, standIns := [], harness := (true, "e7d8fea9de2acf85b36acfb60e411cc5e8f643a101692d0134c22c37bbce6cac"), looks := false }, kinds := [], alts := [], laidByText := true, laidKinds := [.data, .listed, .data, .pinned], laidTests := true, laidLooks := .later }
def OfficeBeforeCardSaid : Prop := Claim7.holds Tryd.pinned (.plain (OpenSpec.ofChange officeBeforeSpec)) officeBeforeCard

/-- THE SECOND FORM's CARD OF 'archivumlaw06.OfficeChains'. -/
def officeChainsUptoCard : Claim7 := { stood := { row := officeChainsUptoRow, standIns := [], harness := (true, "e7d8fea9de2acf85b36acfb60e411cc5e8f643a101692d0134c22c37bbce6cac"), looks := false }, kinds := [], alts := [], laidByText := true, laidKinds := [.data, .listed, .data, .pinned], laidTests := true, laidLooks := .later }
def OfficeChainsUptoCardSaid : Prop := Claim7.holds Tryd.pinned (.plain (OpenSpec.upto officeChainsSpec)) officeChainsUptoCard

/-- THE SECOND FORM's CARD OF 'archivumlaw06.OfficeReaches'. -/
def officeReachesUptoCard : Claim7 := { stood := { row := officeReachesUptoRow, standIns := [], harness := (true, "e7d8fea9de2acf85b36acfb60e411cc5e8f643a101692d0134c22c37bbce6cac"), looks := false }, kinds := [], alts := [], laidByText := true, laidKinds := [.data, .listed, .data, .pinned], laidTests := true, laidLooks := .later }
def OfficeReachesUptoCardSaid : Prop := Claim7.holds Tryd.pinned (.plain (OpenSpec.upto officeReachesSpec)) officeReachesUptoCard

/-- THE SECOND FORM's CARD OF 'archivumlaw06.OfficeUnbroken'. -/
def officeUnbrokenUptoCard : Claim7 := { stood := { row := officeUnbrokenUptoRow, standIns := [], harness := (true, "e7d8fea9de2acf85b36acfb60e411cc5e8f643a101692d0134c22c37bbce6cac"), looks := false }, kinds := [], alts := [], laidByText := true, laidKinds := [.data, .listed, .data, .pinned], laidTests := true, laidLooks := .later }
def OfficeUnbrokenUptoCardSaid : Prop := Claim7.holds Tryd.pinned (.plain (OpenSpec.upto officeUnbrokenSpec)) officeUnbrokenUptoCard

/-- THE SECOND FORM's CARD OF 'archivumlaw06.OfficeOnce'. -/
def officeOnceUptoCard : Claim7 := { stood := { row := officeOnceUptoRow, standIns := [], harness := (true, "e7d8fea9de2acf85b36acfb60e411cc5e8f643a101692d0134c22c37bbce6cac"), looks := false }, kinds := [], alts := [], laidByText := true, laidKinds := [.data, .listed, .data, .pinned], laidTests := true, laidLooks := .later }
def OfficeOnceUptoCardSaid : Prop := Claim7.holds Tryd.pinned (.plain (OpenSpec.upto officeOnceSpec)) officeOnceUptoCard

/-- THE SECOND FORM's CARD OF 'archivumlaw06.OfficeEnds'. -/
def officeEndsUptoCard : Claim7 := { stood := { row := officeEndsUptoRow, standIns := [], harness := (true, "e7d8fea9de2acf85b36acfb60e411cc5e8f643a101692d0134c22c37bbce6cac"), looks := false }, kinds := [], alts := [], laidByText := true, laidKinds := [.data, .listed, .data, .pinned], laidTests := true, laidLooks := .later }
def OfficeEndsUptoCardSaid : Prop := Claim7.holds Tryd.pinned (.plain (OpenSpec.upto officeEndsSpec)) officeEndsUptoCard

/-- THE SECOND FORM's CARD OF 'archivumlaw06.OfficeBefore'. -/
def officeBeforeUptoCard : Claim7 := { stood := { row := officeBeforeUptoRow, standIns := [], harness := (true, "e7d8fea9de2acf85b36acfb60e411cc5e8f643a101692d0134c22c37bbce6cac"), looks := false }, kinds := [], alts := [], laidByText := true, laidKinds := [.data, .listed, .data, .pinned], laidTests := true, laidLooks := .later }
def OfficeBeforeUptoCardSaid : Prop := Claim7.holds Tryd.pinned (.plain (OpenSpec.upto officeBeforeSpec)) officeBeforeUptoCard
end Rows
end Go.Proofs.YtmcolhhmlpicaaaDoor
