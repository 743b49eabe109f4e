/- The example of the chapter. -/
import Derived.Test.YtmdhahfminiilaaGreatDoorGC
import Derived.KernelRfl
namespace Go.Proofs.YtmdhahfminiilaaGreatDoor
open Go Go.Abs
theorem awake_true : lawake_S = some true := by kernel_rfl
end Go.Proofs.YtmdhahfminiilaaGreatDoor
