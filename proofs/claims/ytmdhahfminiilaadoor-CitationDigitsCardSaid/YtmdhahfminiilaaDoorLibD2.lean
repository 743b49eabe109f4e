/- ParseUint at 10 and 40, Trim at the digits. -/
import Derived.Test.YtmdhahfminiilaaDoorGU
import Derived.Test.YtmdhahfminiilaaDoorGT
set_option linter.unusedVariables false
namespace Go.Proofs.YtmdhahfminiilaaDoor
open Go Go.Abs
def parseUint_S (s : Str) (base bits : Int) : Option (Int × Bool) := bif decide (base = 10) && decide (bits = 40) then parseUintC_S s else none
theorem parseUint_h {s : Str} {base bits : Int} {r : Int × Bool} (h : parseUint_S s base bits = some r) : Holds Tryd.prog Gw 35 [S s, I base, I bits] (.tup [.v (.int .u64 r.1), errC r.2]) := by
  refine gpos h fun hl h => ?_
  simp only [Bool.and_eq_true, decide_eq_true_eq] at hl
  obtain ⟨rfl, rfl⟩ := hl
  exact parseUintC_h h
def sTrim_S (s cut : Str) : Option Str := bif cut == digs then sTrimC_S s else none
theorem sTrim_h {s cut r : Str} (h : sTrim_S s cut = some r) : Holds Tryd.prog Gw 36 [S s, S cut] (S r) := by
  refine gpos h fun hl h => ?_
  obtain rfl := eq_of_beq hl
  exact sTrimC_h h
end Go.Proofs.YtmdhahfminiilaaDoor
