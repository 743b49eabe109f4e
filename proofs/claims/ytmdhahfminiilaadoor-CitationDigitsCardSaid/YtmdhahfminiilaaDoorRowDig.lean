/- Arguments of type uint32 and uint8, opened. -/
import Derived.Test.YtmdhahfminiilaaDoorRowTy
import Derived.Test.YtmdhahfminiilaaDoorLDig
namespace Go.Proofs.YtmdhahfminiilaaDoor.citationDigits
open Go Go.Abs Go.RowKit Go.ChangeShapes Go.WideShapes Go.ChangeAt
theorem okU8_of {n : Int} (h : (Lit.int .u8 n).wf = true) : okU8 n := by
  simp only [Lit.wf, Bool.and_eq_true, decide_eq_true_eq] at h
  exact h
theorem okU32_of {n : Int} (h : (Lit.int .u32 n).wf = true) : okU32 n := by
  simp only [Lit.wf, Bool.and_eq_true, decide_eq_true_eq] at h
  exact h
theorem rdU8 {H : Type} {enc : TypeId × Value → H} {w : World} : Reads enc Tryd.prog w 5 (fun n : Int => [.v (.int .u8 n)]) okU8 := reads_map id (fun _ => rfl) (fun _ => okU8_of) (reads_int (show Tryd.prog.underlying 5 = some (.int .u8) from Tryd.underlying5))
theorem rdU32 {H : Type} {enc : TypeId × Value → H} {w : World} : Reads enc Tryd.prog w 48 (fun n : Int => [.v (.int .u32 n)]) okU32 := reads_map id (fun _ => rfl) (fun _ => okU32_of) (reads_int (show Tryd.prog.underlying 48 = some (.int .u32) from Tryd.underlying48))
end Go.Proofs.YtmdhahfminiilaaDoor.citationDigits
