/-
  DERIVED. GIVEN WITH THE SEED: THE CARDS: each row of YtjoacimgcepjdaaGreatDoorRows.lean that lists a variable, with what it lists TIED to the program's text (the seventh form; the later family's looks); each row that meets fmt, with fmt's text TOLD by the authors' own Lean function (tested against real Go, not proved from fmt's source: count such statements apart). THE CARD IS WHAT COUNTS. Prove the row's statement (the work); the ties are given (YtjoacimgcepjdaaGreatDoorTie.lean); close each card by the builder's one call (the guide's Derived/Test/ToyasCard.lean, 'card_holds'). Laid BY PROGRAM, IN A SANDBOX (cutbox-door.mjs). By AI agents, Wed Nov 11 2026. No macro, syntax, notation, axiom, sorry.
-/
import Derived.Test.YtjoacimgcepjdaaGreatDoorRows
import GoSem.ClaimSeven
namespace Go.Proofs.YtjoacimgcepjdaaGreatDoor
namespace Rows

/-- THE TIED CARD OF 'archivumlaw09.RuleBack'. -/
def ruleBackCard : Claim7 := { stood := { row := ruleBackRow, standIns := [], harness := (true, "1c1bd7ab4d16c7c395d6e08cd23c61b2f4493d277ad03286af6efb4aeffae3d3"), looks := true }, kinds := [], alts := [], laidByText := true, laidKinds := [.data, .data, .data, .data, .sentinel, .sentinel, .listed, .data, .pinned], laidTests := true, laidLooks := .later }
def RuleBackCardSaid : Prop := Claim7.holds Tryz.pinned (.plain (OpenSpec.ofChange ruleBackSpec)) ruleBackCard

/-- THE TIED CARD OF 'archivumlaw09.RuleLater'. -/
def ruleLaterCard : Claim7 := { stood := { row := ruleLaterRow, standIns := [], harness := (true, "1c1bd7ab4d16c7c395d6e08cd23c61b2f4493d277ad03286af6efb4aeffae3d3"), looks := true }, kinds := [], alts := [], laidByText := true, laidKinds := [.data, .data, .data, .data, .sentinel, .sentinel, .listed, .data, .pinned], laidTests := true, laidLooks := .later }
def RuleLaterCardSaid : Prop := Claim7.holds Tryz.pinned (.plain (OpenSpec.ofChange ruleLaterSpec)) ruleLaterCard

/-- THE TIED CARD OF 'archivumlaw09.RuleChecks'. -/
def ruleChecksCard : Claim7 := { stood := { row := ruleChecksRow, standIns := [], harness := (true, "1c1bd7ab4d16c7c395d6e08cd23c61b2f4493d277ad03286af6efb4aeffae3d3"), looks := true }, kinds := [], alts := [], laidByText := true, laidKinds := [.data, .data, .data, .data, .sentinel, .sentinel, .listed, .data, .pinned], laidTests := true, laidLooks := .later }
def RuleChecksCardSaid : Prop := Claim7.holds Tryz.pinned (.plain (OpenSpec.ofChange ruleChecksSpec)) ruleChecksCard

/-- THE TIED CARD OF 'archivumlaw09.RuleLongest'. -/
def ruleLongestCard : Claim7 := { stood := { row := ruleLongestRow, standIns := [], harness := (true, "1c1bd7ab4d16c7c395d6e08cd23c61b2f4493d277ad03286af6efb4aeffae3d3"), looks := true }, kinds := [], alts := [], laidByText := true, laidKinds := [.data, .data, .data, .data, .sentinel, .sentinel, .listed, .data, .pinned], laidTests := true, laidLooks := .later }
def RuleLongestCardSaid : Prop := Claim7.holds Tryz.pinned (.plain (OpenSpec.ofChange ruleLongestSpec)) ruleLongestCard

/-- THE TIED CARD OF 'archivumlaw09.RuleApplies'. -/
def ruleAppliesCard : Claim7 := { stood := { row := ruleAppliesRow, standIns := [], harness := (true, "1c1bd7ab4d16c7c395d6e08cd23c61b2f4493d277ad03286af6efb4aeffae3d3"), looks := true }, kinds := [], alts := [], laidByText := true, laidKinds := [.data, .data, .data, .data, .sentinel, .sentinel, .listed, .data, .pinned], laidTests := true, laidLooks := .later }
def RuleAppliesCardSaid : Prop := Claim7.holds Tryz.pinned (.plain (OpenSpec.ofChange ruleAppliesSpec)) ruleAppliesCard

/-- THE TIED CARD OF 'archivumlaw09.RuleEnds'. -/
def ruleEndsCard : Claim7 := { stood := { row := ruleEndsRow, standIns := [], harness := (true, "1c1bd7ab4d16c7c395d6e08cd23c61b2f4493d277ad03286af6efb4aeffae3d3"), looks := true }, kinds := [], alts := [], laidByText := true, laidKinds := [.data, .data, .data, .data, .sentinel, .sentinel, .listed, .data, .pinned], laidTests := true, laidLooks := .later }
def RuleEndsCardSaid : Prop := Claim7.holds Tryz.pinned (.plain (OpenSpec.ofChange ruleEndsSpec)) ruleEndsCard

/-- THE SECOND FORM's CARD OF 'archivumlaw09.RuleBack'. -/
def ruleBackUptoCard : Claim7 := { stood := { row := ruleBackUptoRow, standIns := [], harness := (true, "1c1bd7ab4d16c7c395d6e08cd23c61b2f4493d277ad03286af6efb4aeffae3d3"), looks := true }, kinds := [], alts := [], laidByText := true, laidKinds := [.data, .data, .data, .data, .sentinel, .sentinel, .listed, .data, .pinned], laidTests := true, laidLooks := .later }
def RuleBackUptoCardSaid : Prop := Claim7.holds Tryz.pinned (.plain (OpenSpec.upto ruleBackSpec)) ruleBackUptoCard

/-- THE SECOND FORM's CARD OF 'archivumlaw09.RuleLater'. -/
def ruleLaterUptoCard : Claim7 := { stood := { row := ruleLaterUptoRow, standIns := [], harness := (true, "1c1bd7ab4d16c7c395d6e08cd23c61b2f4493d277ad03286af6efb4aeffae3d3"), looks := true }, kinds := [], alts := [], laidByText := true, laidKinds := [.data, .data, .data, .data, .sentinel, .sentinel, .listed, .data, .pinned], laidTests := true, laidLooks := .later }
def RuleLaterUptoCardSaid : Prop := Claim7.holds Tryz.pinned (.plain (OpenSpec.upto ruleLaterSpec)) ruleLaterUptoCard

/-- THE SECOND FORM's CARD OF 'archivumlaw09.RuleChecks'. -/
def ruleChecksUptoCard : Claim7 := { stood := { row := ruleChecksUptoRow, standIns := [], harness := (true, "1c1bd7ab4d16c7c395d6e08cd23c61b2f4493d277ad03286af6efb4aeffae3d3"), looks := true }, kinds := [], alts := [], laidByText := true, laidKinds := [.data, .data, .data, .data, .sentinel, .sentinel, .listed, .data, .pinned], laidTests := true, laidLooks := .later }
def RuleChecksUptoCardSaid : Prop := Claim7.holds Tryz.pinned (.plain (OpenSpec.upto ruleChecksSpec)) ruleChecksUptoCard

/-- THE SECOND FORM's CARD OF 'archivumlaw09.RuleLongest'. -/
def ruleLongestUptoCard : Claim7 := { stood := { row := ruleLongestUptoRow, standIns := [], harness := (true, "1c1bd7ab4d16c7c395d6e08cd23c61b2f4493d277ad03286af6efb4aeffae3d3"), looks := true }, kinds := [], alts := [], laidByText := true, laidKinds := [.data, .data, .data, .data, .sentinel, .sentinel, .listed, .data, .pinned], laidTests := true, laidLooks := .later }
def RuleLongestUptoCardSaid : Prop := Claim7.holds Tryz.pinned (.plain (OpenSpec.upto ruleLongestSpec)) ruleLongestUptoCard

/-- THE SECOND FORM's CARD OF 'archivumlaw09.RuleApplies'. -/
def ruleAppliesUptoCard : Claim7 := { stood := { row := ruleAppliesUptoRow, standIns := [], harness := (true, "1c1bd7ab4d16c7c395d6e08cd23c61b2f4493d277ad03286af6efb4aeffae3d3"), looks := true }, kinds := [], alts := [], laidByText := true, laidKinds := [.data, .data, .data, .data, .sentinel, .sentinel, .listed, .data, .pinned], laidTests := true, laidLooks := .later }
def RuleAppliesUptoCardSaid : Prop := Claim7.holds Tryz.pinned (.plain (OpenSpec.upto ruleAppliesSpec)) ruleAppliesUptoCard

/-- THE SECOND FORM's CARD OF 'archivumlaw09.RuleEnds'. -/
def ruleEndsUptoCard : Claim7 := { stood := { row := ruleEndsUptoRow, standIns := [], harness := (true, "1c1bd7ab4d16c7c395d6e08cd23c61b2f4493d277ad03286af6efb4aeffae3d3"), looks := true }, kinds := [], alts := [], laidByText := true, laidKinds := [.data, .data, .data, .data, .sentinel, .sentinel, .listed, .data, .pinned], laidTests := true, laidLooks := .later }
def RuleEndsUptoCardSaid : Prop := Claim7.holds Tryz.pinned (.plain (OpenSpec.upto ruleEndsSpec)) ruleEndsUptoCard
end Rows
end Go.Proofs.YtjoacimgcepjdaaGreatDoor
