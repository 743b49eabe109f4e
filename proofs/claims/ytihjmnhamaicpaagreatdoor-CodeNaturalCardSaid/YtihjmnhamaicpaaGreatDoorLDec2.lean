/- Decimal: its digits and their value. -/
import Derived.Test.YtihjmnhamaicpaaGreatDoorLDec
set_option linter.unusedVariables false
set_option linter.unusedSimpArgs false
namespace Go.Proofs.YtihjmnhamaicpaaGreatDoor
open Go Go.Abs
theorem valS_snoc : ∀ (s : Str) (c : UInt8), valS (s ++ [c]) = valS s * 10 + (c.toNat - 48)
  | [], c => by simp [valS]
  | d :: r, c => by
    have ih := valS_snoc r c
    rw [List.cons_append, valS, valS, ih, List.length_append, List.length_singleton, Nat.pow_succ]
    rw [Nat.add_mul, Nat.mul_assoc]
    omega
theorem dig_slc : ∀ d : Fin 10, slc ([48, 49, 50, 51, 52, 53, 54, 55, 56, 57] : Str) (d.val : Int) (((d.val + 1 : Nat)) : Int) = some [UInt8.ofNat (48 + d.val)] ∧ d0 (UInt8.ofNat (48 + d.val)) = true ∧ (UInt8.ofNat (48 + d.val)).toNat = 48 + d.val := by decide
theorem dec_val : ∀ (N m : Nat), m < 10 ^ N → m ≤ 1000000 → 1 ≤ N → N ≤ 30 → ∃ s : Str, rDecimal_F N (m : Int) = some s ∧ s ≠ [] ∧ (∀ c ∈ s, d0 c = true) ∧ valS s = m ∧ s.length ≤ N
  | 0, m, _, _, h, _ => by omega
  | N + 1, m, hm, h6, _, h30 => by
    by_cases h : m < 10
    · obtain ⟨e1, e2, e3⟩ := dig_slc ⟨m, h⟩
      refine ⟨[UInt8.ofNat (48 + m)], ?_, by simp, fun c hc => by rw [List.mem_singleton.1 hc]; exact e2, ?_, by simp⟩
      · simp only [rDecimal_F]
        rw [decide_eq_true (show (m : Int) < 10 by omega), cond_true, wrap_id (by unfold okI; omega), show (m : Int) + 1 = ((m + 1 : Nat) : Int) by omega, e1]
        rfl
      · have e3' : (UInt8.ofNat (48 + m)).toNat = 48 + m := e3
        rw [valS, e3']; simp [valS]
    · have hN : 1 ≤ N := by
        rcases Nat.eq_zero_or_pos N with h0 | h0
        · subst h0; simp at hm; omega
        · exact h0
      have hdiv : m / 10 < 10 ^ N := by rw [Nat.pow_succ] at hm; omega
      obtain ⟨s, s1, s2, s3, s4, s5⟩ := dec_val N (m / 10) hdiv (by omega) hN (by omega)
      obtain ⟨e1, e2, e3⟩ := dig_slc ⟨m % 10, by omega⟩
      refine ⟨s ++ [UInt8.ofNat (48 + m % 10)], ?_, by simp, fun c hc => ?_, ?_, by simp; omega⟩
      · simp only [rDecimal_F]
        have t1 : IntKind.i64.wrap (Int.tdiv (m : Int) 10) = ((m / 10 : Nat) : Int) := by
          rw [Int.tdiv_eq_ediv_of_nonneg (by omega), wrap_id (by unfold okI; omega)]; omega
        have t2 : Int.tmod (m : Int) 10 = ((m % 10 : Nat) : Int) := by rw [Int.tmod_eq_emod_of_nonneg (by omega)]; omega
        have t3 : IntKind.i64.wrap (((m % 10 : Nat) : Int) + 1) = ((m % 10 + 1 : Nat) : Int) := by rw [wrap_id (by unfold okI; omega)]; omega
        rw [decide_eq_false (show ¬ (m : Int) < 10 by omega), cond_false, t1, s1, Option.bind_some, t2, t3, e1, Option.bind_some, decide_eq_true (by simp; omega), cond_true]
      · rcases List.mem_append.1 hc with hc | hc
        · exact s3 c hc
        · rw [List.mem_singleton.1 hc]; exact e2
      · have e3' : (UInt8.ofNat (48 + m % 10)).toNat = 48 + m % 10 := e3
        rw [valS_snoc, s4, e3']; omega
/-- Two names that end in numbers stand as the numbers do. -/
theorem names_order {x y : Nat} (hx : x ≤ 65535) (hy : y ≤ 65535) : ∃ s t : Str, rDecimal_S (x : Int) = some s ∧ rDecimal_S (y : Int) = some t ∧ s.length ≤ 30 ∧ t.length ≤ 30 ∧ pNatural_S ([78, 32] ++ s) ([78, 32] ++ t) = some (natV ([78, 32] ++ s) ([78, 32] ++ t)) ∧ decide (natV ([78, 32] ++ s) ([78, 32] ++ t) < 0) = decide (x < y) := by
  obtain ⟨s, s1, s2, s3, s4, s5⟩ := dec_val 30 x (by omega) (by omega) (by omega) (by omega)
  obtain ⟨t, t1, t2, t3, t4, t5⟩ := dec_val 30 y (by omega) (by omega) (by omega) (by omega)
  refine ⟨s, t, s1, t1, s5, t5, pNatural_eq (by simp; omega) (by simp; omega), ?_⟩
  rw [name_val s3 t3 s2 t2 (fun h => ?_), s4, t4]
  rw [s4, t4] at h
  subst h
  rw [s1] at t1
  exact Option.some.inj t1
end Go.Proofs.YtihjmnhamaicpaaGreatDoor
