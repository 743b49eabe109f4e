/- The first kind of sort: a sorted list of the same strings. -/
import Derived.Test.YtihjmnhamaicpaaGreatDoorLStab2
import Derived.Test.YtihjmnhamaicpaaGreatDoorLFree
set_option linter.unusedVariables false
set_option linter.unusedSimpArgs false
namespace Go.Proofs.YtihjmnhamaicpaaGreatDoor
open Go Go.Abs
theorem pSort_eq {l : List Str} (h : l.length ≤ 30) (hz : ∀ z ∈ l, z.length ≤ 800) : ∃ t, pSort_S l = some t ∧ t.Perm l ∧ NSorted t := by
  obtain ⟨t, h1, h2, h3⟩ := stable_eq h hz
  refine ⟨t, ?_, h2, h3⟩
  simp only [pSort_S, pSort_F, psort_XS, psort_F, cloneS_eq (l := l) (by omega), Option.bind_some, slSortStable_XS, slSortStable_F, List.length_map, h1]
end Go.Proofs.YtihjmnhamaicpaaGreatDoor
