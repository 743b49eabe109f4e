/-
  DERIVED. GIVEN WITH THE SEED: THE CARDS: each row of YtgpojnenbmlcbaaDoorRows.lean that lists a variable, with what it lists TIED to the program's text (the seventh form; the later family's looks); each row that meets fmt, with fmt's text TOLD by the authors' own Lean function (tested against real Go, not proved from fmt's source: count such statements apart). THE CARD IS WHAT COUNTS. Prove the row's statement (the work); the ties are given (YtgpojnenbmlcbaaDoorTie.lean); close each card by the builder's one call (the guide's Derived/Test/ToyasCard.lean, 'card_holds'). Laid BY PROGRAM, IN A SANDBOX (cutbox-door.mjs). By AI agents, Wed Nov 11 2026. No macro, syntax, notation, axiom, sorry.
-/
import Derived.Test.YtgpojnenbmlcbaaDoorRows
import GoSem.ClaimSeven
namespace Go.Proofs.YtgpojnenbmlcbaaDoor
namespace Rows

/-- THE TIED CARD OF 'archivumlaw23.AuthorityChecks'. -/
def authorityChecksCard : Claim7 := { stood := { row := authorityChecksRow, standIns := [], harness := (true, "8369e46dc5daa0dec3308f47b1887184df263ec2aeb1c3ada5273318f0fbb2ea"), looks := false }, kinds := [], alts := [], laidByText := true, laidKinds := [.data, .data, .data], laidTests := true, laidLooks := .later }
def AuthorityChecksCardSaid : Prop := Claim7.holds Tryd.pinned (.plain (OpenSpec.ofChange authorityChecksSpec)) authorityChecksCard

/-- THE TIED CARD OF 'archivumlaw23.AuthorityNames'. -/
def authorityNamesCard : Claim7 := { stood := { row := authorityNamesRow, standIns := [], harness := (true, "8369e46dc5daa0dec3308f47b1887184df263ec2aeb1c3ada5273318f0fbb2ea"), looks := false }, kinds := [], alts := [], laidByText := true, laidKinds := [.data, .data, .data], laidTests := true, laidLooks := .later }
def AuthorityNamesCardSaid : Prop := Claim7.holds Tryd.pinned (.plain (OpenSpec.ofChange authorityNamesSpec)) authorityNamesCard

/-- THE TIED CARD OF 'archivumlaw23.AuthorityChanges'. -/
def authorityChangesCard : Claim7 := { stood := { row := authorityChangesRow, standIns := [], harness := (true, "8369e46dc5daa0dec3308f47b1887184df263ec2aeb1c3ada5273318f0fbb2ea"), looks := false }, kinds := [], alts := [], laidByText := true, laidKinds := [.data, .data, .data], laidTests := true, laidLooks := .later }
def AuthorityChangesCardSaid : Prop := Claim7.holds Tryd.pinned (.plain (OpenSpec.ofChange authorityChangesSpec)) authorityChangesCard

/-- THE TIED CARD OF 'archivumlaw23.AuthorityRenames'. -/
def authorityRenamesCard : Claim7 := { stood := { row := authorityRenamesRow, standIns := [], harness := (true, "8369e46dc5daa0dec3308f47b1887184df263ec2aeb1c3ada5273318f0fbb2ea"), looks := false }, kinds := [], alts := [], laidByText := true, laidKinds := [.data, .data, .data], laidTests := true, laidLooks := .later }
def AuthorityRenamesCardSaid : Prop := Claim7.holds Tryd.pinned (.plain (OpenSpec.ofChange authorityRenamesSpec)) authorityRenamesCard

/-- THE TIED CARD OF 'archivumlaw23.AuthorityEnds'. -/
def authorityEndsCard : Claim7 := { stood := { row := authorityEndsRow, standIns := [], harness := (true, "8369e46dc5daa0dec3308f47b1887184df263ec2aeb1c3ada5273318f0fbb2ea"), looks := false }, kinds := [], alts := [], laidByText := true, laidKinds := [.data, .data, .data], laidTests := true, laidLooks := .later }
def AuthorityEndsCardSaid : Prop := Claim7.holds Tryd.pinned (.plain (OpenSpec.ofChange authorityEndsSpec)) authorityEndsCard

/-- THE TIED CARD OF 'archivumlaw23.AuthorityOne'. -/
def authorityOneCard : Claim7 := { stood := { row := authorityOneRow, standIns := [], harness := (true, "8369e46dc5daa0dec3308f47b1887184df263ec2aeb1c3ada5273318f0fbb2ea"), looks := false }, kinds := [], alts := [], laidByText := true, laidKinds := [.data, .data, .data], laidTests := true, laidLooks := .later }
def AuthorityOneCardSaid : Prop := Claim7.holds Tryd.pinned (.plain (OpenSpec.ofChange authorityOneSpec)) authorityOneCard

/-- THE TIED CARD OF 'archivumlaw23.AuthorityLists'. -/
def authorityListsCard : Claim7 := { stood := { row := authorityListsRow, standIns := [], harness := (true, "8369e46dc5daa0dec3308f47b1887184df263ec2aeb1c3ada5273318f0fbb2ea"), looks := false }, kinds := [], alts := [], laidByText := true, laidKinds := [.data, .data, .data, .data, .listed, .data, .pinned], laidTests := true, laidLooks := .later }
def AuthorityListsCardSaid : Prop := Claim7.holds Tryd.pinned (.plain (OpenSpec.ofChange authorityListsSpec)) authorityListsCard

/-- THE SECOND FORM's CARD OF 'archivumlaw23.AuthorityChecks'. -/
def authorityChecksUptoCard : Claim7 := { stood := { row := authorityChecksUptoRow, standIns := [], harness := (true, "8369e46dc5daa0dec3308f47b1887184df263ec2aeb1c3ada5273318f0fbb2ea"), looks := false }, kinds := [], alts := [], laidByText := true, laidKinds := [.data, .data, .data], laidTests := true, laidLooks := .later }
def AuthorityChecksUptoCardSaid : Prop := Claim7.holds Tryd.pinned (.plain (OpenSpec.upto authorityChecksSpec)) authorityChecksUptoCard

/-- THE SECOND FORM's CARD OF 'archivumlaw23.AuthorityNames'. -/
def authorityNamesUptoCard : Claim7 := { stood := { row := authorityNamesUptoRow, standIns := [], harness := (true, "8369e46dc5daa0dec3308f47b1887184df263ec2aeb1c3ada5273318f0fbb2ea"), looks := false }, kinds := [], alts := [], laidByText := true, laidKinds := [.data, .data, .data], laidTests := true, laidLooks := .later }
def AuthorityNamesUptoCardSaid : Prop := Claim7.holds Tryd.pinned (.plain (OpenSpec.upto authorityNamesSpec)) authorityNamesUptoCard

/-- THE SECOND FORM's CARD OF 'archivumlaw23.AuthorityChanges'. -/
def authorityChangesUptoCard : Claim7 := { stood := { row := authorityChangesUptoRow, standIns := [], harness := (true, "8369e46dc5daa0dec3308f47b1887184df263ec2aeb1c3ada5273318f0fbb2ea"), looks := false }, kinds := [], alts := [], laidByText := true, laidKinds := [.data, .data, .data], laidTests := true, laidLooks := .later }
def AuthorityChangesUptoCardSaid : Prop := Claim7.holds Tryd.pinned (.plain (OpenSpec.upto authorityChangesSpec)) authorityChangesUptoCard

/-- THE SECOND FORM's CARD OF 'archivumlaw23.AuthorityRenames'. -/
def authorityRenamesUptoCard : Claim7 := { stood := { row := authorityRenamesUptoRow, standIns := [], harness := (true, "8369e46dc5daa0dec3308f47b1887184df263ec2aeb1c3ada5273318f0fbb2ea"), looks := false }, kinds := [], alts := [], laidByText := true, laidKinds := [.data, .data, .data], laidTests := true, laidLooks := .later }
def AuthorityRenamesUptoCardSaid : Prop := Claim7.holds Tryd.pinned (.plain (OpenSpec.upto authorityRenamesSpec)) authorityRenamesUptoCard

/-- THE SECOND FORM's CARD OF 'archivumlaw23.AuthorityEnds'. -/
def authorityEndsUptoCard : Claim7 := { stood := { row := authorityEndsUptoRow, standIns := [], harness := (true, "8369e46dc5daa0dec3308f47b1887184df263ec2aeb1c3ada5273318f0fbb2ea"), looks := false }, kinds := [], alts := [], laidByText := true, laidKinds := [.data, .data, .data], laidTests := true, laidLooks := .later }
def AuthorityEndsUptoCardSaid : Prop := Claim7.holds Tryd.pinned (.plain (OpenSpec.upto authorityEndsSpec)) authorityEndsUptoCard

/-- THE SECOND FORM's CARD OF 'archivumlaw23.AuthorityOne'. -/
def authorityOneUptoCard : Claim7 := { stood := { row := authorityOneUptoRow, standIns := [], harness := (true, "8369e46dc5daa0dec3308f47b1887184df263ec2aeb1c3ada5273318f0fbb2ea"), looks := false }, kinds := [], alts := [], laidByText := true, laidKinds := [.data, .data, .data], laidTests := true, laidLooks := .later }
def AuthorityOneUptoCardSaid : Prop := Claim7.holds Tryd.pinned (.plain (OpenSpec.upto authorityOneSpec)) authorityOneUptoCard

/-- THE SECOND FORM's CARD OF 'archivumlaw23.AuthorityLists'. -/
def authorityListsUptoCard : Claim7 := { stood := { row := authorityListsUptoRow, standIns := [], harness := (true, "8369e46dc5daa0dec3308f47b1887184df263ec2aeb1c3ada5273318f0fbb2ea"), looks := false }, kinds := [], alts := [], laidByText := true, laidKinds := [.data, .data, .data, .data, .listed, .data, .pinned], laidTests := true, laidLooks := .later }
def AuthorityListsUptoCardSaid : Prop := Claim7.holds Tryd.pinned (.plain (OpenSpec.upto authorityListsSpec)) authorityListsUptoCard
end Rows
end Go.Proofs.YtgpojnenbmlcbaaDoor
