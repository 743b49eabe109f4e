/- Two lists that are parted and sorted by halves are merged. -/
import Derived.Test.YtihjmnhamaicpaaGreatDoorLMrg4
set_option linter.unusedVariables false
set_option linter.unusedSimpArgs false
namespace Go.Proofs.YtihjmnhamaicpaaGreatDoor
open Go Go.Abs
theorem parted {x1 x2 y1 y2 t1 t2 : List Str} (hx : NSorted (x1 ++ x2)) (hy : NSorted (y1 ++ y2)) (h1 : ∀ u ∈ x1, ∀ w ∈ y2, natV u w ≤ 0) (h2 : ∀ u ∈ y1, ∀ w ∈ x2, natV u w ≤ 0)
    (p1 : t1.Perm (x1 ++ y1)) (s1 : NSorted t1) (p2 : t2.Perm (x2 ++ y2)) (s2 : NSorted t2) : (t1 ++ t2).Perm ((x1 ++ x2) ++ (y1 ++ y2)) ∧ NSorted (t1 ++ t2) := by
  obtain ⟨-, -, a3⟩ := List.pairwise_append.1 hx
  obtain ⟨-, -, b3⟩ := List.pairwise_append.1 hy
  refine ⟨?_, List.pairwise_append.2 ⟨s1, s2, fun u hu w hw => ?_⟩⟩
  · refine (p1.append p2).trans ?_
    have e : (x1 ++ y1 ++ (x2 ++ y2)).Perm (x1 ++ (x2 ++ (y1 ++ y2))) := by
      rw [List.append_assoc]
      refine List.Perm.append_left x1 ?_
      rw [← List.append_assoc, ← List.append_assoc]
      exact (List.perm_append_comm (l₁ := y1) (l₂ := x2)).append_right y2
    rw [List.append_assoc x1 x2]
    exact e
  · have hu := p1.mem_iff.1 hu
    have hw := p2.mem_iff.1 hw
    rcases List.mem_append.1 hu with hu | hu <;> rcases List.mem_append.1 hw with hw | hw
    · exact a3 u hu w hw
    · exact h1 u hu w hw
    · exact h2 u hu w hw
    · exact b3 u hu w hw
/-- The halves: what the two calls behind the search do, whichever of them are made. -/
theorem half {self_ : List Str → Int → Int → Int → Option (List Str)} {p x y q : List Str} {a m b : Int} (hx : NSorted x) (hy : NSorted y)
    (ih : x ≠ [] → y ≠ [] → ∃ t, self_ (p ++ (x ++ (y ++ q))) a m b = some (p ++ (t ++ q)) ∧ t.Perm (x ++ y) ∧ NSorted t) :
    ∃ t, t.Perm (x ++ y) ∧ NSorted t ∧ (x ≠ [] → y ≠ [] → self_ (p ++ (x ++ (y ++ q))) a m b = some (p ++ (t ++ q))) ∧ ((x = [] ∨ y = []) → t = x ++ y) := by
  by_cases h : x = [] ∨ y = []
  · refine ⟨x ++ y, List.Perm.refl _, ?_, fun h1 h2 => absurd h (by simp [h1, h2]), fun _ => rfl⟩
    rcases h with rfl | rfl
    · simpa using hy
    · simpa using hx
  · have h1 : x ≠ [] := fun e => h (.inl e)
    have h2 : y ≠ [] := fun e => h (.inr e)
    obtain ⟨t, t1, t2, t3⟩ := ih h1 h2
    exact ⟨t, t2, t3, fun _ _ => t1, fun e => absurd e h⟩
end Go.Proofs.YtihjmnhamaicpaaGreatDoor
