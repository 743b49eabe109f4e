/- A uint16 argument, opened. -/
import Derived.Test.YtihjmnhamaicpaaGreatDoorRowTy
import Derived.Test.YtihjmnhamaicpaaGreatDoorLFreeL
namespace Go.Proofs.YtihjmnhamaicpaaGreatDoor
open Go Go.Abs Go.RowKit Go.ChangeShapes Go.WideShapes Go.ChangeAt
theorem okU16_of {n : Int} (h : (Lit.int .u16 n).wf = true) : okU16 n := by
  simp only [Lit.wf, Bool.and_eq_true, decide_eq_true_eq] at h
  exact h
theorem rdU16 {H : Type} {enc : TypeId × Value → H} {w : World} : Reads enc Tryz.prog w 41 (fun n : Int => [.v (.int .u16 n)]) okU16 := reads_map id (fun _ => rfl) (fun _ => okU16_of) (reads_int (show Tryz.prog.underlying 41 = some (.int .u16) from Tryz.underlying41))
end Go.Proofs.YtihjmnhamaicpaaGreatDoor
