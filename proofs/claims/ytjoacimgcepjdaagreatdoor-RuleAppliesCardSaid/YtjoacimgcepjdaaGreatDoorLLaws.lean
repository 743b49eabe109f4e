/- RuleChecks, RuleApplies: true for every input. -/
import Derived.Test.YtjoacimgcepjdaaGreatDoorLOk
set_option linter.unusedSimpArgs false
set_option linter.unusedVariables false
namespace Go.Proofs.YtjoacimgcepjdaaGreatDoor
open Go Go.Abs
theorem few_one {r : Rule} : few [r] = true → small r := fun h => (few_spec h).2 r (by simp)
end Go.Proofs.YtjoacimgcepjdaaGreatDoor
namespace Go.Proofs.YtjoacimgcepjdaaGreatDoor.ruleChecks
open Go Go.Abs
theorem law (l : List Rule) (id : Int) (hl : okRules l) (_ : okI id) : lRuleChecks_S l id = some true := by
  simp only [lRuleChecks_S, lRuleChecks_F, awake_true, Option.bind_some, Bool.not_true, cond_false, xFew_eq hl.1]
  cases hf : few l with
  | false => rfl
  | true =>
    obtain ⟨h1, h2⟩ := few_spec hf
    rw [Bool.not_true, cond_false, qCheck_eq hl.1 h2, xCheck_eq hl.1 h2, qFind_eq hl.1, xFind_eq hl.1]
    simp only [Option.bind_some, beq_self_eq_true, cond_true]
end Go.Proofs.YtjoacimgcepjdaaGreatDoor.ruleChecks
namespace Go.Proofs.YtjoacimgcepjdaaGreatDoor.ruleApplies
open Go Go.Abs
theorem end_len (l : List Rule) (id day : Int) : (endV l id day).1.length ≤ l.length := by
  unfold endV
  split
  · simp
  · split
    · simp
    · split
      · simp
      · split
        · simp
        · split <;> simp
theorem law (l : List Rule) (s : Str) (day : Int) (r : Rule) (x : Dating) (id : Int) (hl : okRules l) (_ : okS s) (_ : okI day) (_ : okRule r) (_ : okDating x) (_ : okI id) : lRuleApplies_S l s day r x id = some true := by
  simp only [lRuleApplies_S, lRuleApplies_F, awake_true, Option.bind_some, Bool.not_true, cond_false, xFew_eq hl.1, xFew_eq (l := [r]) (by simp)]
  cases hf : few l with
  | false => rfl
  | true =>
    obtain ⟨h1, h2⟩ := few_spec hf
    rw [Bool.not_true, cond_false]
    cases hr : few [r] with
    | false => rfl
    | true =>
      have hr2 := few_one hr
      rw [Bool.not_true, cond_false]
      by_cases hs : s.length ≤ 100
      · rw [decide_eq_false (show ¬ (s.length : Int) > 100 by omega), cond_false, qDue_eqB ⟨by have := hr2.1; omega, by have := hr2.2; omega⟩, xDue_eq hr2, qEnd_eq hl.1 h2, xEnd_eq hl.1 h2, qApply_eq (by omega) h2 hs, xApply_eq (by omega) h2 hs]
        have ha : (applyV l s day).length ≤ 1000 := by have := sel_len s day (longV s day l) l; unfold applyV; omega
        have he := end_len l id day
        simp only [Option.bind_some, rSameInts_eq ha, xSame_eq (show (endV l id day).1.length ≤ 9223372036854775807 by omega), beq_self_eq_true, cond_true]
      · rw [decide_eq_true (show (s.length : Int) > 100 by omega), cond_true]
end Go.Proofs.YtjoacimgcepjdaaGreatDoor.ruleApplies
