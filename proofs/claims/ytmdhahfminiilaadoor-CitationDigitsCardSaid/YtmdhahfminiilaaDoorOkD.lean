/- What is known of the arguments. -/
import Derived.Test.YtmdhahfminiilaaDoorL50A
namespace Go.Proofs.YtmdhahfminiilaaDoor
open Go Go.Abs
def okStanding (x : Standing) : Prop := okI x.Unit ∧ okI x.Parent ∧ okI x.Level ∧ okS x.Mark ∧ okS x.Title
def okStandings (l : List Standing) : Prop := l.length ≤ 9223372036854775807 ∧ ∀ x ∈ l, okStanding x
def okShot (x : Shot) : Prop := okI x.Day ∧ okStandings x.Units
def okShots (l : List Shot) : Prop := l.length ≤ 9223372036854775807 ∧ ∀ x ∈ l, okShot x
end Go.Proofs.YtmdhahfminiilaaDoor
