/- The example. -/
import Derived.Test.YtdoldlbcjcfmdaaGW
import Derived.KernelRfl
namespace Go.Proofs.Ytdoldlbcjcfmdaa
open Go Go.Abs
theorem awake_true : lawake_S = some true := by kernel_rfl
end Go.Proofs.Ytdoldlbcjcfmdaa
