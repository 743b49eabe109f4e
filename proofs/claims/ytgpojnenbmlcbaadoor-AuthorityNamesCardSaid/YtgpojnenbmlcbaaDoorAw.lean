import Derived.Test.YtgpojnenbmlcbaaDoorGC
import Derived.KernelRfl
namespace Go.Proofs.YtgpojnenbmlcbaaDoor
open Go Go.Abs
theorem awake_true : lawake_S = some true := by kernel_rfl
end Go.Proofs.YtgpojnenbmlcbaaDoor
