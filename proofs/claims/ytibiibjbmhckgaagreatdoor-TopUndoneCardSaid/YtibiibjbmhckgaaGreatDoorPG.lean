/- Closed facts of the rows that the kernel does not hold in one piece. -/
import Derived.OpenShut
import Derived.ProofKit
import Derived.Test.YtibiibjbmhckgaaGreatDoorCards
import Derived.Test.YtibiibjbmhckgaaGreatDoorTie
set_option maxRecDepth 100000
namespace Go.Proofs.YtibiibjbmhckgaaGreatDoor
open Go
def goesK (P : Program) (lo n : Nat) : Bool := (List.range n).all fun i => !((P.funcs[lo + i]?).any Func.goes)
theorem noGoA : ∀ i : Nat, (Tryz.prog.funcs[i]?).any Func.goes = false := fun i => by
  have h1 : goesK Tryz.prog 0 200 = true := by as_aux_lemma => kernel_rfl
  have h2 : goesK Tryz.prog 200 200 = true := by as_aux_lemma => kernel_rfl
  have h3 : goesK Tryz.prog 400 128 = true := by as_aux_lemma => kernel_rfl
  have hs : Tryz.prog.funcs.size = 528 := by kernel_rfl
  have key : ∀ lo n, goesK Tryz.prog lo n = true → lo ≤ i → i < lo + n → (Tryz.prog.funcs[i]?).any Func.goes = false := fun lo n h a b => by
    have := List.all_eq_true.1 h (i - lo) (List.mem_range.2 (by omega))
    rw [show lo + (i - lo) = i by omega] at this
    simpa using this
  by_cases a : i < 200
  · exact key 0 200 h1 (by omega) (by omega)
  by_cases b : i < 400
  · exact key 200 200 h2 (by omega) (by omega)
  by_cases c : i < 528
  · exact key 400 128 h3 (by omega) (by omega)
  rw [Array.getElem?_eq_none (by omega)]; rfl
theorem noGoesA (f : FuncId) : Tryz.prog.goes f = false := by
  unfold Program.goes
  have h1 : Tryz.prog.funcs.any Func.goes = false := by
    rw [Array.any_eq_false]
    intro i hi
    have := noGoA i
    rw [Array.getElem?_eq_getElem hi] at this
    simpa using this
  have h2 : ((Tryz.prog.closure f).any fun g => (Tryz.prog.funcs[g]?).any Func.goes) = false := by
    simp only [noGoA]
    simp
  rw [h1, h2, Bool.and_false]; rfl
theorem dK1 {c : OpenClaim} (h : c.start = .entering) : false = c.goesBy Tryz.prog := by
  unfold OpenClaim.goesBy Program.goesAt Program.goesFrom
  rw [h]
  cases Tryz.prog.funcNamed c.func with
  | none => rfl
  | some f => simp [noGoesA f]
end Go.Proofs.YtibiibjbmhckgaaGreatDoor
