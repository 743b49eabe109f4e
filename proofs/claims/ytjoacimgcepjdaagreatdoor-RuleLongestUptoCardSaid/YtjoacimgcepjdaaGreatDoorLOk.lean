/- What is known of the arguments. -/
import Derived.Test.YtjoacimgcepjdaaGreatDoorLApply
namespace Go.Proofs.YtjoacimgcepjdaaGreatDoor
open Go Go.Abs
def okB (_ : Bool) : Prop := True
def okU8 (n : Int) : Prop := 0 ≤ n ∧ n ≤ 255
def okSpan (x : Span) : Prop := okI x.From ∧ okI x.Until
def okRule (x : Rule) : Prop := okI x.ID ∧ okS x.Class ∧ okS x.Trigger ∧ okI x.Years ∧ okB x.YearEnd ∧ okI x.Action ∧ okSpan x.In
def okRules (l : List Rule) : Prop := l.length ≤ 9223372036854775807 ∧ ∀ x ∈ l, okRule x
def okDating (x : Dating) : Prop := okI x.First ∧ okI x.Last
end Go.Proofs.YtjoacimgcepjdaaGreatDoor
