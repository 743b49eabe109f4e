/- CodeReads, CodeOrders, CodeBack: true for every input. -/
import Derived.Test.YtihjmnhamaicpaaGreatDoorAw
import Derived.Test.YtihjmnhamaicpaaGreatDoorGD
set_option linter.unusedSimpArgs false
set_option linter.unusedVariables false
namespace Go.Proofs.YtihjmnhamaicpaaGreatDoor
open Go Go.Abs
theorem parseF_len {s : Str} : (parseF (codeV s)).1.length ≤ 1000 := by
  cases hc : codeV s with
  | none => simp [parseF]
  | some l =>
    obtain ⟨-, -, h, -⟩ := codeV_spec hc
    simp [parseF, castL]; omega
end Go.Proofs.YtihjmnhamaicpaaGreatDoor
namespace Go.Proofs.YtihjmnhamaicpaaGreatDoor.codeReads
open Go Go.Abs
theorem law (s : Str) (l : List Int) (_ : okS s) (_ : okInts l) : lCodeReads_S s l = some true := by
  simp only [lCodeReads_S, lCodeReads_F, awake_true, Option.bind_some, Bool.not_true, cond_false, List.length_map]
  by_cases h1 : s.length ≤ 100
  · rw [decide_eq_false (show ¬ (s.length : Int) > 100 by omega), cond_false]
    by_cases h2 : l.length ≤ 12
    · rw [decide_eq_false (show ¬ (l.length : Int) > 12 by omega), cond_false]
      rw [pParse_eq h1, rParse_eq h1, pFormat_eq (show l.length ≤ 100 by omega), rFormat_eq, pParent_eq h1, rParent_eq h1]
      simp only [Option.bind_some, rSameInts_eq parseF_len, beq_self_eq_true, cond_true]
    · rw [decide_eq_true (show (l.length : Int) > 12 by omega), cond_true]
  · rw [decide_eq_true (show (s.length : Int) > 100 by omega), cond_true]
end Go.Proofs.YtihjmnhamaicpaaGreatDoor.codeReads
namespace Go.Proofs.YtihjmnhamaicpaaGreatDoor.codeOrders
open Go Go.Abs
theorem law (a b : Str) (taken : List Str) (_ : okS a) (_ : okS b) (ht : okStrs taken) : lCodeOrders_S a b taken = some true := by
  simp only [lCodeOrders_S, lCodeOrders_F, awake_true, Option.bind_some, Bool.not_true, cond_false]
  by_cases h1 : a.length ≤ 100
  · rw [decide_eq_false (show ¬ (a.length : Int) > 100 by omega), cond_false]
    by_cases h2 : b.length ≤ 100
    · rw [decide_eq_false (show ¬ (b.length : Int) > 100 by omega), cond_false, rFew_eq ht, Option.bind_some]
      cases hf : few taken with
      | false => rfl
      | true =>
        obtain ⟨h3, h4⟩ := few_spec hf
        rw [Bool.not_true, cond_false, pCompare_eq h1 h2, rCompare_eq h1 h2, pFree_eq ht.1 h4 h1, rFree_eq ht.1 h4 h1, pWithin_eq h1 h2, rWithin_eq h1 h2]
        simp only [Option.bind_some, beq_self_eq_true, cond_true]
    · rw [decide_eq_true (show (b.length : Int) > 100 by omega), cond_true]
  · rw [decide_eq_true (show (a.length : Int) > 100 by omega), cond_true]
end Go.Proofs.YtihjmnhamaicpaaGreatDoor.codeOrders
namespace Go.Proofs.YtihjmnhamaicpaaGreatDoor.codeBack
open Go Go.Abs
theorem fmt_back {l : List Int} (h : l.length ≤ 12) (K : Option Bool) (hK : K = bif ((formatF l).2 != 0) then some ((formatF l).1 == ([] : Str)) else (Option.bind (pParse_S (formatF l).1) fun y => bif (y.2 == 0) then (Option.bind (slEqual_S y.1 l) fun z => some z) else some false)) : K = some true := by
  rw [hK]
  by_cases hb : l.length < 1 ∨ l.length > 6 ∨ l.any badI = true
  · have : formatF l = ([], 2) := by unfold formatF; rw [if_pos hb]
    rw [this]; rfl
  · have hf : formatF l = (fmt (l.map Int.toNat), 0) := by unfold formatF; rw [if_neg hb]
    have h1 : 1 ≤ l.length := by omega
    have h6 : l.length ≤ 6 := by omega
    obtain ⟨hc, hg⟩ := good_cast (l := l) (by simpa using fun hq => hb (.inr (.inr hq)))
    have hlen : (fmt (l.map Int.toNat)).length ≤ 100 := by
      have := fmt_len (l := l.map Int.toNat) (fun n hn => (hg n hn).2)
      rw [List.length_map] at this; omega
    have hv := codeV_fmt (l := l.map Int.toNat) (by simpa using h1) (by simpa using h6) hg
    rw [hf]
    show (Option.bind (pParse_S (fmt (l.map Int.toNat))) _) = _
    rw [pParse_eq hlen, hv]
    show (Option.bind (slEqual_S (castL (l.map Int.toNat)) l) _) = _
    rw [← hc, slEqual_eq (by omega), beq_self_eq_true]
    rfl
theorem law (s : Str) (l : List Int) (_ : okS s) (_ : okInts l) : lCodeBack_S s l = some true := by
  simp only [lCodeBack_S, lCodeBack_F, awake_true, Option.bind_some, Bool.not_true, cond_false, List.length_map]
  by_cases h1 : s.length ≤ 100
  · rw [decide_eq_false (show ¬ (s.length : Int) > 100 by omega), cond_false]
    by_cases h2 : l.length ≤ 12
    · rw [decide_eq_false (show ¬ (l.length : Int) > 12 by omega), cond_false]
      rw [pParse_eq h1, pFormat_eq (show l.length ≤ 100 by omega), Option.bind_some, Option.bind_some]
      cases hc : codeV s with
      | none => exact fmt_back h2 _ rfl
      | some m =>
        obtain ⟨g1, g2, g3, g4⟩ := codeV_spec hc
        simp only [parseF]
        rw [show ((0 : Int) == 0) = true from rfl, cond_true, pFormat_eq (by simp; omega), formatF_good g2 g3 g4, Option.bind_some, ← g1]
        rw [show ((0 : Int) != 0) = false from rfl, cond_false, beq_self_eq_true, Bool.not_true, cond_false]
        exact fmt_back h2 _ rfl
    · rw [decide_eq_true (show (l.length : Int) > 12 by omega), cond_true]
  · rw [decide_eq_true (show (s.length : Int) > 100 by omega), cond_true]
end Go.Proofs.YtihjmnhamaicpaaGreatDoor.codeBack
