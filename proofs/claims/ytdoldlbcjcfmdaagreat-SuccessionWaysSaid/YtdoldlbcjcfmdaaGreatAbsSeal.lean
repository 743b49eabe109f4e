/-
  A call that hands a slice of its own over and gets back a slice that may share its memory: the slice is its own no more.
-/
import Derived.Test.YtdoldlbcjcfmdaaGreatAbsOpG
namespace Go.Abs
open Go Go.RowKit
section
variable {P : Program} {G : World → Prop}
end
end Go.Abs
