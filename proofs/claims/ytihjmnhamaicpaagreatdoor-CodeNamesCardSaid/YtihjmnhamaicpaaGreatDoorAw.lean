/- The awake check answers true. -/
import Derived.Test.YtihjmnhamaicpaaGreatDoorLFree
set_option linter.unusedSimpArgs false
set_option linter.unusedVariables false
namespace Go.Proofs.YtihjmnhamaicpaaGreatDoor
open Go Go.Abs
theorem aw_nat : pNatural_S ([65, 32, 57] : Str) ([65, 32, 49, 48] : Str) = some (-1) := by decide +kernel
theorem aw_name : pName_S ([65, 32, 57] : Str) = some true := by decide +kernel
theorem aw_code : codeV ([51, 46, 49, 50, 46, 49] : Str) = some [3, 12, 1] ∧ codeV ([51, 46, 50, 46, 57] : Str) = some [3, 2, 9] ∧ codeV ([51, 46, 49] : Str) = some [3, 1] ∧ codeV ([51] : Str) = some [3] := by decide +kernel
theorem aw_free : freeF ([([51, 46, 49] : Str), ([51, 46, 51] : Str)] : List Str) ([51] : Str) = ([51, 46, 50], 0) := by decide +kernel
theorem awake_true : lawake_S = some true := by
  unfold lawake_S lawake_F
  rw [pParse_eq (by decide), pParent_eq (by decide), pCompare_eq (by decide) (by decide), pFree_eq (by decide) (by decide) (by decide), aw_free, pWithin_eq (by decide) (by decide), aw_nat, aw_name, aw_code.1, aw_code.2.1, aw_code.2.2.1, aw_code.2.2.2]
  simp only [Option.bind_some]
  rw [slEqual_eq (by decide)]
  decide +kernel
end Go.Proofs.YtihjmnhamaicpaaGreatDoor
