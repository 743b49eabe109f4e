/- The stable sort of at most 30 strings, as a whole. -/
import Derived.Test.YtihjmnhamaicpaaGreatDoorLStab
set_option linter.unusedVariables false
set_option linter.unusedSimpArgs false
namespace Go.Proofs.YtihjmnhamaicpaaGreatDoor
open Go Go.Abs
theorem stable_20 {o : List Str} (h : o.length = 20) (hz : ∀ z ∈ o, z.length ≤ 800) (N fu gu : Nat) : ∃ t, slStable_L1 (o.length : Int) (N + 1) (fu + 2) 0 20 o = some t ∧ t.Perm o ∧ NSorted t := by
  obtain ⟨t, a1, a2, a3⟩ := insertion_eq (p := []) (s := o) (q := []) (a := 0) (b := 20) rfl (by omega) (by omega) hz
  obtain ⟨t', b1, b2, b3⟩ := insertion_eq (p := t) (s := []) (q := []) (a := 20) (b := 20) (by rw [a2.length_eq]; omega) (by simp) (by omega) (by simp)
  obtain rfl : t' = [] := b2.eq_nil
  simp only [List.nil_append, List.append_nil] at a1 b1
  refine ⟨t, ?_, a2, a3⟩
  have w40 : IntKind.i64.wrap ((20 : Int) + 20) = 40 := by decide
  rw [slStable_L1, decide_eq_true (show (20 : Int) ≤ (o.length : Int) by omega), cond_true, show (0 : Int) = ((0 : Nat) : Int) from rfl, show (20 : Int) = ((20 : Nat) : Int) from rfl, a1, Option.bind_some]
  rw [slStable_L1, show IntKind.i64.wrap (((20 : Nat) : Int) + ((20 : Nat) : Int)) = 40 from w40, decide_eq_false (show ¬ (40 : Int) ≤ (o.length : Int) by omega), cond_false, h, b1, Option.bind_some]
  exact stable_L2 (n := 20) (s := 20) (by omega) t
theorem stable_eq {o : List Str} (h : o.length ≤ 30) (hz : ∀ z ∈ o, z.length ≤ 800) : ∃ t, slStable_XS o (o.length : Int) = some t ∧ t.Perm o ∧ NSorted t := by
  simp only [slStable_XS, slStable_F]
  by_cases h1 : o.length < 20
  · exact stable_small h1 hz _ _ 0
  · by_cases h2 : o.length = 20
    · exact stable_20 h2 hz _ _ 0
    · have e : o = o.take 20 ++ o.drop 20 := (List.take_append_drop 20 o).symm
      have l1 : (o.take 20).length = 20 := by rw [List.length_take]; omega
      have l2 : (o.drop 20).length = o.length - 20 := List.length_drop
      have e3 : o.length = (o.take 20).length + (o.drop 20).length := by omega
      have := stable_big (o1 := o.take 20) (o2 := o.drop 20) l1 (by omega) (by intro x; rw [x] at l2; simp at l2; omega) (fun z m => hz z (List.mem_of_mem_take m)) (fun z m => hz z (List.mem_of_mem_drop m)) 998 998
      rw [← e, ← e3] at this
      exact this
theorem cloneS_eq {l : List Str} (h : l.length ≤ 100) : slCloneS_S l = some l := by
  simp only [slCloneS_S, slCloneS_F]
  have e : decide (([] : List Str).length + l.length ≤ 4294967296) = true := decide_eq_true (by simp; omega)
  rw [e]
  cases l <;> rfl
end Go.Proofs.YtihjmnhamaicpaaGreatDoor
