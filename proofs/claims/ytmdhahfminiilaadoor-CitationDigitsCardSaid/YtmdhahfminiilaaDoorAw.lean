/- The example of the chapter. -/
import Derived.Test.YtmdhahfminiilaaDoorGC
import Derived.KernelRfl
namespace Go.Proofs.YtmdhahfminiilaaDoor
open Go Go.Abs
theorem awake_true : lawake_S = some true := by kernel_rfl
end Go.Proofs.YtmdhahfminiilaaDoor
