/- The example. -/
import Derived.Test.YtdoldlbcjcfmdaaGreatGW
import Derived.KernelRfl
namespace Go.Proofs.YtdoldlbcjcfmdaaGreat
open Go Go.Abs
theorem awake_true : lawake_S = some true := by kernel_rfl
end Go.Proofs.YtdoldlbcjcfmdaaGreat
