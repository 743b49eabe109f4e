/- The stable sort of at most 30 strings. -/
import Derived.Test.YtihjmnhamaicpaaGreatDoorLMrg9
set_option linter.unusedVariables false
set_option linter.unusedSimpArgs false
namespace Go.Proofs.YtihjmnhamaicpaaGreatDoor
open Go Go.Abs
theorem stable_L2 {n N fu : Nat} {s : Nat} (hs : n ≤ s) (v : List Str) : slStable_L2 (n : Int) N (fu + 1) (s : Int) v = some v := by
  simp only [slStable_L2]
  rw [decide_eq_false (show ¬ (s : Int) < (n : Int) by omega), cond_false]
theorem stable_small {o : List Str} (h : o.length < 20) (hz : ∀ z ∈ o, z.length ≤ 800) (N fu gu : Nat) : ∃ t, slStable_L1 (o.length : Int) (N + 1) (fu + 1) 0 20 o = some t ∧ t.Perm o ∧ NSorted t := by
  obtain ⟨t, t1, t2, t3⟩ := insertion_eq (p := []) (s := o) (q := []) (a := 0) (b := o.length) rfl (by omega) (by omega) hz
  simp only [List.nil_append, List.append_nil] at t1
  refine ⟨t, ?_, t2, t3⟩
  simp only [slStable_L1]
  rw [decide_eq_false (show ¬ (20 : Int) ≤ (o.length : Int) by omega), cond_false, show (0 : Int) = ((0 : Nat) : Int) from rfl, t1, Option.bind_some]
  exact stable_L2 (s := 20) (by omega) t
theorem stable_big {o1 o2 : List Str} (h1 : o1.length = 20) (h2 : o2.length ≤ 10) (n2 : o2 ≠ []) (z1 : ∀ z ∈ o1, z.length ≤ 800) (z2 : ∀ z ∈ o2, z.length ≤ 800) (N fu : Nat) :
    ∃ t, slStable_L1 ((o1.length + o2.length : Nat) : Int) (N + 2) (fu + 2) 0 20 (o1 ++ o2) = some t ∧ t.Perm (o1 ++ o2) ∧ NSorted t := by
  have pos := List.length_pos_iff.2 n2
  obtain ⟨t1, a1, a2, a3⟩ := insertion_eq (p := []) (s := o1) (q := o2) (a := 0) (b := 20) rfl (by omega) (by omega) z1
  simp only [List.nil_append] at a1
  obtain ⟨t2, b1, b2, b3⟩ := insertion_eq (p := t1) (s := o2) (q := []) (a := 20) (b := o1.length + o2.length) (by rw [a2.length_eq]; omega) (by omega) (by omega) z2
  simp only [List.append_nil] at b1
  have l1 : t1.length = 20 := by rw [a2.length_eq]; omega
  have l2 : t2.length = o2.length := b2.length_eq
  obtain ⟨t, c1, c2, c3⟩ := sym_eq 1000 t1 t2 [] [] (by rintro rfl; simp at l1) (by rintro rfl; simp at l2; omega) (by omega) (by simp; omega) a3 b3 (fun z h => z1 z (a2.mem_iff.1 h)) (fun z h => z2 z (b2.mem_iff.1 h))
  simp only [List.nil_append, List.append_nil, List.length_nil, Nat.zero_add] at c1
  refine ⟨t, ?_, c2.trans (a2.append b2), c3⟩
  have w40 : IntKind.i64.wrap ((20 : Int) + 20) = 40 := by decide
  rw [slStable_L1, decide_eq_true (show (20 : Int) ≤ ((o1.length + o2.length : Nat) : Int) by omega), cond_true, show (0 : Int) = ((0 : Nat) : Int) from rfl, show (20 : Int) = ((20 : Nat) : Int) from rfl, a1, Option.bind_some]
  rw [slStable_L1, show IntKind.i64.wrap (((20 : Nat) : Int) + ((20 : Nat) : Int)) = 40 from w40, decide_eq_false (show ¬ (40 : Int) ≤ ((o1.length + o2.length : Nat) : Int) by omega), cond_false, b1, Option.bind_some]
  rw [slStable_L2]
  rw [decide_eq_true (show (20 : Int) < ((o1.length + o2.length : Nat) : Int) by omega), cond_true]
  rw [show IntKind.i64.wrap (2 * (20 : Int)) = 40 by decide]
  rw [slStable_L3]
  rw [decide_eq_false (show ¬ (40 : Int) ≤ ((o1.length + o2.length : Nat) : Int) by omega), cond_false, show IntKind.i64.wrap ((0 : Int) + (20 : Int)) = (20 : Int) by decide, decide_eq_true (show (20 : Int) < ((o1.length + o2.length : Nat) : Int) by omega), cond_true]
  have c1' : slSymMerge_XS (t1 ++ t2) (0 : Int) (20 : Int) ((o1.length + o2.length : Nat) : Int) = some t := by
    rw [l1, l2] at c1
    rw [h1]
    exact c1
  rw [c1', Option.bind_some, show IntKind.i64.wrap ((20 : Int) * 2) = ((40 : Nat) : Int) by decide]
  exact stable_L2 (s := 40) (by omega) t
end Go.Proofs.YtihjmnhamaicpaaGreatDoor
