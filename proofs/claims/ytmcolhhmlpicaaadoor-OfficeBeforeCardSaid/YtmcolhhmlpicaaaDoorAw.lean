/- The example of the chapter is as it should be. -/
import Derived.Test.YtmcolhhmlpicaaaDoorGC
import Derived.KernelRfl
namespace Go.Proofs.YtmcolhhmlpicaaaDoor
open Go Go.Abs
theorem awake_true : lawake_S = some true := by kernel_rfl
end Go.Proofs.YtmcolhhmlpicaaaDoor
