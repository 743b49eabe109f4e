/- What stands behind symMerge's search. -/
import Derived.Test.YtihjmnhamaicpaaGreatDoorLMrg5
set_option linter.unusedVariables false
set_option linter.unusedSimpArgs false
namespace Go.Proofs.YtihjmnhamaicpaaGreatDoor
open Go Go.Abs
theorem finish_L5 {p x1 x2 y1 y2 q t1 t2 : List Str} {a m b mid v e : Nat} {self_ : List Str → Int → Int → Int → Option (List Str)} (ha : a = p.length) (hv : v = a + x1.length) (hm : m = v + x2.length) (he : e = m + y1.length) (hb : b = e + y2.length)
    (hmid : mid = (a + b) / 2) (hme : mid + m = v + e) (hb9 : b ≤ 900)
    (c1 : x1 ≠ [] → y1 ≠ [] → self_ (p ++ (x1 ++ (y1 ++ (x2 ++ (y2 ++ q))))) (a : Int) (v : Int) (mid : Int) = some (p ++ (t1 ++ (x2 ++ (y2 ++ q))))) (e1 : (x1 = [] ∨ y1 = []) → t1 = x1 ++ y1)
    (c2 : x2 ≠ [] → y2 ≠ [] → self_ (p ++ (t1 ++ (x2 ++ (y2 ++ q)))) (mid : Int) (e : Int) (b : Int) = some (p ++ (t1 ++ (t2 ++ q)))) (e2 : (x2 = [] ∨ y2 = []) → t2 = x2 ++ y2) :
    slSymMerge_L5 (p ++ ((x1 ++ x2) ++ ((y1 ++ y2) ++ q))) (a : Int) (m : Int) (b : Int) self_ 1 (v : Int) (v : Int) = some (p ++ ((t1 ++ t2) ++ q)) := by
  have w1 := mid_eq (i := a) (j := b) (by omega) (by omega)
  rw [← hmid] at w1
  have w2 : IntKind.i64.wrap ((IntKind.i64.wrap ((mid : Int) + (m : Int))) - (v : Int)) = (e : Int) := by
    rw [wrap_id (n := (mid : Int) + m) (by unfold okI; omega), wrap_id (by unfold okI; omega)]; omega
  have pos : ∀ {l : List Str}, l ≠ [] → 1 ≤ l.length := fun {l} h => List.length_pos_iff.2 h
  rw [slSymMerge_L5, decide_eq_false (show ¬ (v : Int) < (v : Int) by omega), cond_false, w1, w2]
  have rot : x2 ≠ [] → y1 ≠ [] → slRotate_XS (p ++ ((x1 ++ x2) ++ ((y1 ++ y2) ++ q))) (v : Int) (m : Int) (e : Int) = some (p ++ (x1 ++ (y1 ++ (x2 ++ (y2 ++ q))))) := fun h1 h2 => by
    have := rot_eq (p := p ++ x1) (x := x2) (y := y1) (q := y2 ++ q) (a := (v : Int)) (m := (m : Int)) (b := (e : Int)) (by simp; omega) (by simp; omega) (by simp; omega) (pos h1) (pos h2) (by simp; omega)
    simpa using this
  have same : (x2 = [] ∨ y1 = []) → p ++ ((x1 ++ x2) ++ ((y1 ++ y2) ++ q)) = p ++ (x1 ++ (y1 ++ (x2 ++ (y2 ++ q)))) := fun h => by
    rcases h with rfl | rfl <;> simp
  have goal2 : p ++ ((t1 ++ t2) ++ q) = p ++ (t1 ++ (t2 ++ q)) := by simp
  rw [goal2]
  have T2 : (bif decide ((mid : Int) < (e : Int)) then (bif decide ((e : Int) < (b : Int)) then (Option.bind (self_ (p ++ (t1 ++ (x2 ++ (y2 ++ q)))) (mid : Int) (e : Int) (b : Int)) fun y => some y) else some (p ++ (t1 ++ (x2 ++ (y2 ++ q))))) else some (p ++ (t1 ++ (x2 ++ (y2 ++ q))))) = some (p ++ (t1 ++ (t2 ++ q))) := by
    by_cases h1 : x2 = []
    · have : ¬ (mid : Int) < (e : Int) := by rw [h1] at hm; simp at hm; omega
      rw [decide_eq_false this, cond_false, e2 (.inl h1)]; simp
    · have := pos h1
      rw [decide_eq_true (show (mid : Int) < (e : Int) by omega), cond_true]
      by_cases h2 : y2 = []
      · have : ¬ (e : Int) < (b : Int) := by rw [h2] at hb; simp at hb; omega
        rw [decide_eq_false this, cond_false, e2 (.inr h2)]; simp
      · have := pos h2
        rw [decide_eq_true (show (e : Int) < (b : Int) by omega), cond_true, c2 h1 h2]; rfl
  have T1 : ∀ o, o = p ++ (x1 ++ (y1 ++ (x2 ++ (y2 ++ q)))) → (bif decide ((a : Int) < (v : Int)) then (bif decide ((v : Int) < (mid : Int)) then (Option.bind (self_ o (a : Int) (v : Int) (mid : Int)) fun y58 => (bif decide ((mid : Int) < (e : Int)) then (bif decide ((e : Int) < (b : Int)) then (Option.bind (self_ y58 (mid : Int) (e : Int) (b : Int)) fun y => some y) else some y58) else some y58)) else (bif decide ((mid : Int) < (e : Int)) then (bif decide ((e : Int) < (b : Int)) then (Option.bind (self_ o (mid : Int) (e : Int) (b : Int)) fun y => some y) else some o) else some o)) else (bif decide ((mid : Int) < (e : Int)) then (bif decide ((e : Int) < (b : Int)) then (Option.bind (self_ o (mid : Int) (e : Int) (b : Int)) fun y => some y) else some o) else some o)) = some (p ++ (t1 ++ (t2 ++ q))) := by
    rintro o rfl
    by_cases h1 : x1 = []
    · have : ¬ (a : Int) < (v : Int) := by rw [h1] at hv; simp at hv; omega
      have et : x1 ++ (y1 ++ (x2 ++ (y2 ++ q))) = t1 ++ (x2 ++ (y2 ++ q)) := by rw [e1 (.inl h1)]; simp
      rw [decide_eq_false this, cond_false, et]
      exact T2
    · have := pos h1
      rw [decide_eq_true (show (a : Int) < (v : Int) by omega), cond_true]
      by_cases h2 : y1 = []
      · have : ¬ (v : Int) < (mid : Int) := by rw [h2] at he; simp at he; omega
        have et : x1 ++ (y1 ++ (x2 ++ (y2 ++ q))) = t1 ++ (x2 ++ (y2 ++ q)) := by rw [e1 (.inr h2)]; simp
        rw [decide_eq_false this, cond_false, et]
        exact T2
      · have := pos h2
        rw [decide_eq_true (show (v : Int) < (mid : Int) by omega), cond_true, c1 h1 h2, Option.bind_some]
        exact T2
  by_cases h1 : x2 = []
  · have : ¬ (v : Int) < (m : Int) := by rw [h1] at hm; simp at hm; omega
    rw [decide_eq_false this, cond_false]
    exact T1 _ (same (.inl h1))
  · have := pos h1
    rw [decide_eq_true (show (v : Int) < (m : Int) by omega), cond_true]
    by_cases h2 : y1 = []
    · have : ¬ (m : Int) < (e : Int) := by rw [h2] at he; simp at he; omega
      rw [decide_eq_false this, cond_false]
      exact T1 _ (same (.inr h2))
    · have := pos h2
      rw [decide_eq_true (show (m : Int) < (e : Int) by omega), cond_true, rot h1 h2, Option.bind_some]
      exact T1 _ rfl
theorem finish_L6 {p x1 x2 y1 y2 q t1 t2 : List Str} {a m b mid v e : Nat} {self_ : List Str → Int → Int → Int → Option (List Str)} (ha : a = p.length) (hv : v = a + x1.length) (hm : m = v + x2.length) (he : e = m + y1.length) (hb : b = e + y2.length)
    (hmid : mid = (a + b) / 2) (hme : mid + m = v + e) (hb9 : b ≤ 900)
    (c1 : x1 ≠ [] → y1 ≠ [] → self_ (p ++ (x1 ++ (y1 ++ (x2 ++ (y2 ++ q))))) (a : Int) (v : Int) (mid : Int) = some (p ++ (t1 ++ (x2 ++ (y2 ++ q))))) (e1 : (x1 = [] ∨ y1 = []) → t1 = x1 ++ y1)
    (c2 : x2 ≠ [] → y2 ≠ [] → self_ (p ++ (t1 ++ (x2 ++ (y2 ++ q)))) (mid : Int) (e : Int) (b : Int) = some (p ++ (t1 ++ (t2 ++ q)))) (e2 : (x2 = [] ∨ y2 = []) → t2 = x2 ++ y2) :
    slSymMerge_L6 (p ++ ((x1 ++ x2) ++ ((y1 ++ y2) ++ q))) (a : Int) (m : Int) (b : Int) self_ 1 (v : Int) (v : Int) = some (p ++ ((t1 ++ t2) ++ q)) := by
  have w1 := mid_eq (i := a) (j := b) (by omega) (by omega)
  rw [← hmid] at w1
  have w2 : IntKind.i64.wrap ((IntKind.i64.wrap ((mid : Int) + (m : Int))) - (v : Int)) = (e : Int) := by
    rw [wrap_id (n := (mid : Int) + m) (by unfold okI; omega), wrap_id (by unfold okI; omega)]; omega
  have pos : ∀ {l : List Str}, l ≠ [] → 1 ≤ l.length := fun {l} h => List.length_pos_iff.2 h
  rw [slSymMerge_L6, decide_eq_false (show ¬ (v : Int) < (v : Int) by omega), cond_false, w1, w2]
  have rot : x2 ≠ [] → y1 ≠ [] → slRotate_XS (p ++ ((x1 ++ x2) ++ ((y1 ++ y2) ++ q))) (v : Int) (m : Int) (e : Int) = some (p ++ (x1 ++ (y1 ++ (x2 ++ (y2 ++ q))))) := fun h1 h2 => by
    have := rot_eq (p := p ++ x1) (x := x2) (y := y1) (q := y2 ++ q) (a := (v : Int)) (m := (m : Int)) (b := (e : Int)) (by simp; omega) (by simp; omega) (by simp; omega) (pos h1) (pos h2) (by simp; omega)
    simpa using this
  have same : (x2 = [] ∨ y1 = []) → p ++ ((x1 ++ x2) ++ ((y1 ++ y2) ++ q)) = p ++ (x1 ++ (y1 ++ (x2 ++ (y2 ++ q)))) := fun h => by
    rcases h with rfl | rfl <;> simp
  have goal2 : p ++ ((t1 ++ t2) ++ q) = p ++ (t1 ++ (t2 ++ q)) := by simp
  rw [goal2]
  have T2 : (bif decide ((mid : Int) < (e : Int)) then (bif decide ((e : Int) < (b : Int)) then (Option.bind (self_ (p ++ (t1 ++ (x2 ++ (y2 ++ q)))) (mid : Int) (e : Int) (b : Int)) fun y => some y) else some (p ++ (t1 ++ (x2 ++ (y2 ++ q))))) else some (p ++ (t1 ++ (x2 ++ (y2 ++ q))))) = some (p ++ (t1 ++ (t2 ++ q))) := by
    by_cases h1 : x2 = []
    · have : ¬ (mid : Int) < (e : Int) := by rw [h1] at hm; simp at hm; omega
      rw [decide_eq_false this, cond_false, e2 (.inl h1)]; simp
    · have := pos h1
      rw [decide_eq_true (show (mid : Int) < (e : Int) by omega), cond_true]
      by_cases h2 : y2 = []
      · have : ¬ (e : Int) < (b : Int) := by rw [h2] at hb; simp at hb; omega
        rw [decide_eq_false this, cond_false, e2 (.inr h2)]; simp
      · have := pos h2
        rw [decide_eq_true (show (e : Int) < (b : Int) by omega), cond_true, c2 h1 h2]; rfl
  have T1 : ∀ o, o = p ++ (x1 ++ (y1 ++ (x2 ++ (y2 ++ q)))) → (bif decide ((a : Int) < (v : Int)) then (bif decide ((v : Int) < (mid : Int)) then (Option.bind (self_ o (a : Int) (v : Int) (mid : Int)) fun y58 => (bif decide ((mid : Int) < (e : Int)) then (bif decide ((e : Int) < (b : Int)) then (Option.bind (self_ y58 (mid : Int) (e : Int) (b : Int)) fun y => some y) else some y58) else some y58)) else (bif decide ((mid : Int) < (e : Int)) then (bif decide ((e : Int) < (b : Int)) then (Option.bind (self_ o (mid : Int) (e : Int) (b : Int)) fun y => some y) else some o) else some o)) else (bif decide ((mid : Int) < (e : Int)) then (bif decide ((e : Int) < (b : Int)) then (Option.bind (self_ o (mid : Int) (e : Int) (b : Int)) fun y => some y) else some o) else some o)) = some (p ++ (t1 ++ (t2 ++ q))) := by
    rintro o rfl
    by_cases h1 : x1 = []
    · have : ¬ (a : Int) < (v : Int) := by rw [h1] at hv; simp at hv; omega
      have et : x1 ++ (y1 ++ (x2 ++ (y2 ++ q))) = t1 ++ (x2 ++ (y2 ++ q)) := by rw [e1 (.inl h1)]; simp
      rw [decide_eq_false this, cond_false, et]
      exact T2
    · have := pos h1
      rw [decide_eq_true (show (a : Int) < (v : Int) by omega), cond_true]
      by_cases h2 : y1 = []
      · have : ¬ (v : Int) < (mid : Int) := by rw [h2] at he; simp at he; omega
        have et : x1 ++ (y1 ++ (x2 ++ (y2 ++ q))) = t1 ++ (x2 ++ (y2 ++ q)) := by rw [e1 (.inr h2)]; simp
        rw [decide_eq_false this, cond_false, et]
        exact T2
      · have := pos h2
        rw [decide_eq_true (show (v : Int) < (mid : Int) by omega), cond_true, c1 h1 h2, Option.bind_some]
        exact T2
  by_cases h1 : x2 = []
  · have : ¬ (v : Int) < (m : Int) := by rw [h1] at hm; simp at hm; omega
    rw [decide_eq_false this, cond_false]
    exact T1 _ (same (.inl h1))
  · have := pos h1
    rw [decide_eq_true (show (v : Int) < (m : Int) by omega), cond_true]
    by_cases h2 : y1 = []
    · have : ¬ (m : Int) < (e : Int) := by rw [h2] at he; simp at he; omega
      rw [decide_eq_false this, cond_false]
      exact T1 _ (same (.inr h2))
    · have := pos h2
      rw [decide_eq_true (show (m : Int) < (e : Int) by omega), cond_true, rot h1 h2, Option.bind_some]
      exact T1 _ rfl
end Go.Proofs.YtihjmnhamaicpaaGreatDoor
