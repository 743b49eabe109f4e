/- A function picked out of a list of functions. -/
import Derived.Test.YtdoldlbcjcfmdaaGreatGA
namespace Go.Proofs.YtdoldlbcjcfmdaaGreat
open Go Go.Abs
def pdisp (f : FuncId) (l : List Aut) (i : Int) : Option Int := bif Nat.beq f 73 then palone_S l i else bif Nat.beq f 74 then psuccessors_S l i else none
theorem pdisp_h {f : FuncId} {l : List Aut} {i : Int} {r : Int} (h : pdisp f l i = some r) : Holds Tryz.prog Gw f [.sl 6 (l.map cAut), I i] (I r) := by
  unfold pdisp at h
  cases h1 : Nat.beq f 73 with
  | true => rw [h1] at h; rw [Nat.eq_of_beq_eq_true h1]; exact palone_h h
  | false =>
    rw [h1] at h
    cases h2 : Nat.beq f 74 with
    | true => rw [h2] at h; rw [Nat.eq_of_beq_eq_true h2]; exact psuccessors_h h
    | false => rw [h2] at h; exact nomatch h
end Go.Proofs.YtdoldlbcjcfmdaaGreat
