import Derived.Test.YtgpojnenbmlcbaaDoorGC
import Derived.KernelRfl
namespace Go.Proofs.YtgpojnenbmlcbaaDoor
open Go Go.Abs
#eval lawake_S
#eval (lexample_S).map fun l => (pCheck_S l)
theorem awake_true : lawake_S = some true := by kernel_rfl
end Go.Proofs.YtgpojnenbmlcbaaDoor
