/- symMerge where both lists have more than one element. -/
import Derived.Test.YtihjmnhamaicpaaGreatDoorLMrg6
set_option linter.unusedVariables false
set_option linter.unusedSimpArgs false
namespace Go.Proofs.YtihjmnhamaicpaaGreatDoor
open Go Go.Abs
def rowD (x y : List Str) (a c : Nat) : Str := ((x ++ y)[c - a]?).getD []
theorem rowD_left {x y : List Str} {a c : Nat} (h : a ≤ c) (hc : c - a < x.length) : rowD x y a c = x[c - a] := by
  unfold rowD
  rw [List.getElem?_append_left hc, List.getElem?_eq_getElem hc]; rfl
theorem rowD_right {x y : List Str} {a c : Nat} (h : a + x.length ≤ c) (hc : c - a - x.length < y.length) : rowD x y a c = y[c - a - x.length] := by
  unfold rowD
  rw [List.getElem?_append_right (by omega), List.getElem?_eq_getElem hc]; rfl
theorem rows_of {p x y q : List Str} (hx : NSorted x) (hy : NSorted y) (nx : 1 ≤ x.length) (ny : 1 ≤ y.length) (h9 : p.length + x.length + y.length ≤ 900) (zx : ∀ z ∈ x, z.length ≤ 800) (zy : ∀ z ∈ y, z.length ≤ 800) :
    Rows2 (p ++ (x ++ (y ++ q))) (rowD x y p.length) p.length (p.length + x.length) (p.length + x.length + y.length) where
  at_ c h1 h2 := by
    rw [ix_at (by simp; omega)]
    congr 1
    rw [List.getElem_append_right h1]
    by_cases hc : c - p.length < x.length
    · rw [rowD_left h1 hc, List.getElem_append_left hc]
    · rw [rowD_right (by omega) (by omega), List.getElem_append_right (by omega), List.getElem_append_left (by omega)]
  small c h1 h2 := by
    by_cases hc : c - p.length < x.length
    · rw [rowD_left h1 hc]; exact zx _ (List.getElem_mem _)
    · rw [rowD_right (by omega) (by omega)]; exact zy _ (List.getElem_mem _)
  left c d h1 h2 h3 := by
    rw [rowD_left h1 (by omega), rowD_left (by omega) (by omega)]
    exact sorted_get hx (by omega) (by omega)
  right c d h1 h2 h3 := by
    rw [rowD_right h1 (by omega), rowD_right (by omega) (by omega)]
    exact sorted_get hy (by omega) (by omega)
  am := by omega
  mb := by omega
  b9 := h9
end Go.Proofs.YtihjmnhamaicpaaGreatDoor
