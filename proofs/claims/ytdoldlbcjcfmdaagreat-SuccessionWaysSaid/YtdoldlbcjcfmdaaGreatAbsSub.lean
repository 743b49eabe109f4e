/-
  Parts of a slice of the call's own: what lies behind some elements; a copy from one part to another.
-/
import Derived.Test.YtdoldlbcjcfmdaaGreatAbsOpG
import Derived.Test.YtdoldlbcjcfmdaaGreatAbsSort
import Derived.Laws.CopyRow
namespace Go.Abs
open Go Go.RowKit
section
variable {P : Program} {G : World → Prop}
theorem subg {α : Type} {lo : Int} {l : List α} (h : (decide (0 ≤ lo ∧ lo ≤ (l.length : Int)) && !l.isEmpty) = true) : 0 ≤ lo ∧ lo ≤ (l.length : Int) ∧ l ≠ [] := by
  rw [Bool.and_eq_true, decide_eq_true_eq] at h
  refine ⟨h.1.1, h.1.2, ?_⟩
  rintro rfl
  exact absurd h.2 (by simp)
theorem subm {α β : Type} {cf : α → β} {lo : Int} {l : List α} (h : (decide (0 ≤ lo ∧ lo ≤ (l.length : Int)) && !l.isEmpty) = true) : lo ≤ ((l.map cf).length : Int) ∧ l.map cf ≠ [] := by
  obtain ⟨_, h2, h3⟩ := subg h
  exact ⟨by rw [List.length_map]; exact h2, fun e => h3 (List.map_eq_nil_iff.1 e)⟩
end
end Go.Abs
