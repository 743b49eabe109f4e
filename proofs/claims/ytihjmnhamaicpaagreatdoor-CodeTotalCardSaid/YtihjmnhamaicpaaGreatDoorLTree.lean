/- CodeTotal, CodeTree: true for every input. -/
import Derived.Test.YtihjmnhamaicpaaGreatDoorLReads
set_option linter.unusedSimpArgs false
set_option linter.unusedVariables false
namespace Go.Proofs.YtihjmnhamaicpaaGreatDoor
open Go Go.Abs
theorem castL_inj {a b : List Nat} (h : castL a = castL b) : a = b := by
  have h2 : (castL a).map Int.toNat = (castL b).map Int.toNat := by rw [h]
  simpa [castL, Function.comp_def] using h2
theorem lexC_neg : ∀ (a b : List Int), lexC b a = - lexC a b
  | [], [] => rfl
  | [], _ :: _ => rfl
  | _ :: _, [] => rfl
  | x :: r, y :: t => by
    have := lexC_neg r t
    rw [lexC, lexC]
    by_cases h1 : x < y
    · rw [if_neg (by omega), if_pos (by omega), if_pos h1]; rfl
    · by_cases h2 : x > y
      · rw [if_pos (by omega), if_neg h1, if_pos h2]
      · rw [if_neg (by omega), if_neg (by omega), if_neg h1, if_neg h2, this]
theorem lexC_rng : ∀ (a b : List Int), -1 ≤ lexC a b ∧ lexC a b ≤ 1
  | [], [] => by simp [lexC]
  | [], _ :: _ => by simp [lexC]
  | _ :: _, [] => by simp [lexC]
  | x :: r, y :: t => by
    have := lexC_rng r t
    rw [lexC]
    split
    · omega
    · split <;> omega
theorem lexC_trans : ∀ {a b c : List Int}, lexC a b ≤ 0 → lexC b c ≤ 0 → lexC a c ≤ 0
  | [], _, [], _, _ => by simp [lexC]
  | [], _, _ :: _, _, _ => by simp [lexC]
  | _ :: _, [], _, h, _ => by simp [lexC] at h
  | _ :: _, _ :: _, [], _, h => by simp [lexC] at h
  | x :: r, y :: t, z :: u, h1, h2 => by
    rw [lexC] at h1 h2 ⊢
    split at h1
    · split at h2
      · rw [if_pos (by omega)]; omega
      · split at h2
        · omega
        · rw [if_pos (by omega)]; omega
    · split at h1
      · omega
      · split at h2
        · rw [if_pos (by omega)]; omega
        · split at h2
          · omega
          · rw [if_neg (by omega), if_neg (by omega)]; exact lexC_trans h1 h2
/-- What lies between a and a continuation of a continues a. -/
theorem lexC_between : ∀ {a b : List Int} (t : List Int), lexC a b ≤ 0 → lexC b (a ++ t) ≤ 0 → ∃ u, b = a ++ u
  | [], b, _, _, _ => ⟨b, rfl⟩
  | x :: r, [], t, h, _ => by simp [lexC] at h
  | x :: r, y :: b, t, h1, h2 => by
    rw [List.cons_append] at h2
    rw [lexC] at h1 h2
    split at h1
    · split at h2 <;> omega
    · split at h1
      · omega
      · split at h2
        · omega
        · obtain ⟨u, hu⟩ := lexC_between t h1 h2
          refine ⟨u, ?_⟩
          have : x = y := by omega
          rw [this, hu]; rfl
theorem lexC_prefix : ∀ {a t : List Int}, t ≠ [] → lexC a (a ++ t) = -1
  | [], [], h => absurd rfl h
  | [], _ :: _, _ => rfl
  | x :: a, t, h => by
    rw [List.cons_append, lexC, if_neg (by omega), if_neg (by omega)]; exact lexC_prefix h
theorem withinF_iff {x y : List Nat} : withinF (some x) (some y) = true ↔ ∃ t, castL x = castL y ++ t := by
  unfold withinF
  rw [Bool.and_eq_true, decide_eq_true_eq, beq_iff_eq]
  constructor
  · rintro ⟨_, h⟩
    exact ⟨(castL x).drop y.length, by rw [← h, List.take_append_drop]⟩
  · rintro ⟨t, h⟩
    have hl := congrArg List.length h
    simp only [castL, List.length_map, List.length_append] at hl
    refine ⟨by omega, ?_⟩
    rw [h]
    exact List.take_left' (by simp)
end Go.Proofs.YtihjmnhamaicpaaGreatDoor
namespace Go.Proofs.YtihjmnhamaicpaaGreatDoor.codeTotal
open Go Go.Abs
theorem law (a b c : Str) (_ : okS a) (_ : okS b) (_ : okS c) : lCodeTotal_S a b c = some true := by
  simp only [lCodeTotal_S, lCodeTotal_F, awake_true, Option.bind_some, Bool.not_true, cond_false]
  by_cases h1 : a.length ≤ 100
  · rw [decide_eq_false (show ¬ (a.length : Int) > 100 by omega), cond_false]
    by_cases h2 : b.length ≤ 100
    · rw [decide_eq_false (show ¬ (b.length : Int) > 100 by omega), cond_false]
      by_cases h3 : c.length ≤ 100
      · rw [decide_eq_false (show ¬ (c.length : Int) > 100 by omega), cond_false]
        simp only [pCompare_eq h1 h2, pCompare_eq h2 h1, pCompare_eq h2 h3, pCompare_eq h1 h3, pWithin_eq h3 h1, pWithin_eq h2 h1, Option.bind_some]
        cases ha : codeV a with
        | none => cases codeV b <;> cases codeV c <;> rfl
        | some x =>
          cases hb : codeV b with
          | none => cases codeV c <;> rfl
          | some y =>
            cases hc : codeV c with
            | none =>
              simp only [compareF]
              cases (lexC (castL x) (castL y) == 0) <;> rfl
            | some z =>
              have q1 : compareF (some x) (some y) = (lexC (castL x) (castL y), 0) := rfl
              have q2 : compareF (some y) (some x) = (lexC (castL y) (castL x), 0) := rfl
              have q3 : compareF (some y) (some z) = (lexC (castL y) (castL z), 0) := rfl
              have q4 : compareF (some x) (some z) = (lexC (castL x) (castL z), 0) := rfl
              rw [q1, q2, q3, q4]
              simp only [bne_self_eq_false, cond_false]
              have r1 := lexC_rng (castL x) (castL y)
              have n1 := lexC_neg (castL x) (castL y)
              have e1 : (lexC (castL x) (castL y) != IntKind.i64.wrap (0 - lexC (castL y) (castL x))) = false := by
                rw [wrap_id (by unfold okI; omega)]; simp; omega
              have e2 : decide (lexC (castL x) (castL y) < -1) = false := decide_eq_false (by omega)
              have e3 : decide (lexC (castL x) (castL y) > 1) = false := decide_eq_false (by omega)
              have e4 : ((lexC (castL x) (castL y) == 0) == (a == b)) = true := by
                rw [beq_iff_eq, Bool.eq_iff_iff, beq_iff_eq, beq_iff_eq, lexC_zero]
                constructor
                · intro h
                  rw [(codeV_spec ha).1, (codeV_spec hb).1, castL_inj h]
                · intro h
                  subst h
                  rw [ha] at hb
                  rw [Option.some.inj hb]
              rw [e1, e2, e3, e4]
              simp only [cond_false, Bool.not_true]
              by_cases g1 : lexC (castL x) (castL y) ≤ 0
              · rw [decide_eq_true g1]
                by_cases g2 : lexC (castL y) (castL z) ≤ 0
                · have g3 := lexC_trans g1 g2
                  rw [decide_eq_true g2, decide_eq_false (show ¬ lexC (castL x) (castL z) > 0 by omega)]
                  simp only [cond_true, cond_false]
                  cases hw : withinF (some z) (some x) with
                  | false => rfl
                  | true =>
                    obtain ⟨t, ht⟩ := withinF_iff.1 hw
                    rw [ht] at g2
                    rw [withinF_iff.2 (lexC_between t g1 g2)]
                    rfl
                · rw [decide_eq_false g2]; rfl
              · rw [decide_eq_false g1]; rfl
      · rw [decide_eq_true (show (c.length : Int) > 100 by omega), cond_true]
    · rw [decide_eq_true (show (b.length : Int) > 100 by omega), cond_true]
  · rw [decide_eq_true (show (a.length : Int) > 100 by omega), cond_true]
end Go.Proofs.YtihjmnhamaicpaaGreatDoor.codeTotal
namespace Go.Proofs.YtihjmnhamaicpaaGreatDoor.codeTree
open Go Go.Abs
/-- Some beginning of l, not empty and of at most k parts, is b. -/
def above (l : List Nat) (b : Str) : Nat → Bool
  | 0 => false
  | k + 1 => (fmt (l.take (k + 1)) == b) || above l b k
theorem above_within {l : List Nat} (hl : l.length ≤ 6) (hg : ∀ n ∈ l, 1 ≤ n ∧ n < 1000) {b : Str} : ∀ k, k ≤ l.length → (above l b k = true ↔ ∃ y, codeV b = some y ∧ y.length ≤ k ∧ ∃ t, l = y ++ t)
  | 0, _ => by
    simp only [above, Bool.false_eq_true, false_iff]
    rintro ⟨y, hy, h0, _⟩
    have := (codeV_spec hy).2.1
    omega
  | k + 1, hk => by
    have ih := above_within hl hg (b := b) k (by omega)
    rw [above, Bool.or_eq_true, ih, beq_iff_eq]
    constructor
    · rintro (h | ⟨y, h1, h2, h3⟩)
      · refine ⟨l.take (k + 1), ?_, by simp; omega, l.drop (k + 1), (List.take_append_drop _ _).symm⟩
        rw [← h]
        exact codeV_fmt (by simp; omega) (by simp; omega) (fun n hn => hg n (List.mem_of_mem_take hn))
      · exact ⟨y, h1, by omega, h3⟩
    · rintro ⟨y, h1, h2, t, h3⟩
      by_cases hy : y.length ≤ k
      · exact .inr ⟨y, h1, hy, t, h3⟩
      · refine .inl ?_
        have : l.take (k + 1) = y := by rw [h3]; exact List.take_left' (by omega)
        rw [this, ← (codeV_spec h1).1]
theorem above_eq {l : List Nat} (hl : l.length ≤ 6) (hg : ∀ n ∈ l, 1 ≤ n ∧ n < 1000) {b : Str} : above l b l.length = withinF (some l) (codeV b) := by
  rw [Bool.eq_iff_iff, above_within hl hg _ (Nat.le_refl _)]
  cases hb : codeV b with
  | none => simp [withinF]
  | some y =>
    rw [withinF_iff]
    constructor
    · rintro ⟨y', h1, _, t, h3⟩
      obtain rfl := Option.some.inj h1
      exact ⟨castL t, by rw [h3]; simp [castL]⟩
    · rintro ⟨t, ht⟩
      have hlen := congrArg List.length ht
      simp only [castL, List.length_map, List.length_append] at hlen
      refine ⟨y, rfl, by omega, l.drop y.length, ?_⟩
      have h5 : (castL l).take y.length = castL y := by rw [ht]; exact List.take_left' (by simp)
      have h6 : l.take y.length = y := castL_inj (by rw [← h5]; simp [castL, List.map_take])
      conv => lhs; rw [← List.take_append_drop y.length l, h6]
theorem stop {a b : Str} {fu i : Nat} {w : Bool} {c : Str} (hi : i < 8) (ha : a.length ≤ 100) (hb : b.length ≤ 100) : lCodeTree_L1 a b (fu + 1) w c false (i : Int) = some (withinF (codeV a) (codeV b) == w) := by
  simp only [lCodeTree_L1, decide_eq_true (show (i : Int) < 8 by omega), cond_true, Bool.not_false, pWithin_eq ha hb, Option.bind_some]
theorem loop {a b : Str} (ha : a.length ≤ 100) (hb : b.length ≤ 100) {l : List Nat} (hl : l.length ≤ 6) (hg : ∀ n ∈ l, 1 ≤ n ∧ n < 1000) : ∀ (k i fu : Nat) (w : Bool), k + 1 ≤ l.length → i + k + 1 ≤ 6 → k + 1 < fu →
    lCodeTree_L1 a b fu w (fmt (l.take (k + 1))) true (i : Int) = some (withinF (codeV a) (codeV b) == (w || above l b (k + 1)))
  | k, i, 0, _, _, _, h => by omega
  | k, i, fu + 1, w, hk, hi, hf => by
    have hg' : ∀ n ∈ l.take (k + 1), 1 ≤ n ∧ n < 1000 := fun n hn => hg n (List.mem_of_mem_take hn)
    have hlen : (fmt (l.take (k + 1))).length ≤ 100 := by
      have := fmt_len (l := l.take (k + 1)) (fun n hn => (hg' n hn).2)
      rw [List.length_take] at this; omega
    have hv : codeV (fmt (l.take (k + 1))) = some (l.take (k + 1)) := codeV_fmt (by simp; omega) (by simp; omega) hg'
    have hw : IntKind.i64.wrap ((i : Int) + 1) = ((i + 1 : Nat) : Int) := wrap_succ (n := 100) (by omega) (by omega)
    have hlt : (l.take (k + 1)).length = k + 1 := by simp; omega
    simp only [lCodeTree_L1, decide_eq_true (show (i : Int) < 8 by omega), cond_true, Bool.not_true, cond_false, pParent_eq hlen, hv, Option.bind_some, hw, parentF, hlt]
    cases k with
    | zero =>
      obtain ⟨fu, rfl⟩ : ∃ f, fu = f + 1 := ⟨fu - 1, by omega⟩
      simp only [Nat.zero_add, if_true, cond_false, above, Bool.or_false]
      rw [stop (by omega) ha hb, stop (by omega) ha hb]
      cases w <;> rfl
    | succ k =>
      rw [if_neg (by omega)]
      have ht : (l.take (k + 1 + 1)).take (k + 1 + 1 - 1) = l.take (k + 1) := by rw [List.take_take]; congr 1; omega
      have hg2 : ∀ n ∈ l.take (k + 1), 1 ≤ n ∧ n < 1000 := fun n hn => hg n (List.mem_of_mem_take hn)
      have hlen2 : (fmt (l.take (k + 1))).length ≤ 100 := by
        have := fmt_len (l := l.take (k + 1)) (fun n hn => (hg2 n hn).2)
        rw [List.length_take] at this; omega
      have hv2 : codeV (fmt (l.take (k + 1))) = some (l.take (k + 1)) := codeV_fmt (by simp; omega) (by simp; omega) hg2
      have hcmp : compareF (some (l.take (k + 1))) (some (l.take (k + 1 + 1))) = (-1, 0) := by
        have hk2 : k + 1 < l.length := by omega
        rw [show l.take (k + 1 + 1) = l.take (k + 1) ++ [l[k + 1]] from List.take_succ_eq_append_getElem hk2]
        show (lexC (castL (l.take (k + 1))) (castL (l.take (k + 1) ++ [l[k + 1]])), (0 : Int)) = _
        have : castL (l.take (k + 1) ++ [l[k + 1]]) = castL (l.take (k + 1)) ++ castL [l[k + 1]] := List.map_append
        rw [this, lexC_prefix (by simp [castL])]
      simp only [ht, cond_true, pCompare_eq hlen2 hlen, hv, hv2, hcmp, Option.bind_some, bne_self_eq_false, cond_false]
      have ih := fun w => loop ha hb hl hg k (i + 1) fu w (by omega) (by omega) (by omega)
      simp only [ih]
      rw [show above l b (k + 1 + 1) = ((fmt (l.take (k + 1 + 1)) == b) || above l b (k + 1)) from rfl]
      cases w <;> rfl
theorem law (a b : Str) (_ : okS a) (_ : okS b) : lCodeTree_S a b = some true := by
  simp only [lCodeTree_S, lCodeTree_F, awake_true, Option.bind_some, Bool.not_true, cond_false]
  by_cases h1 : a.length ≤ 100
  · rw [decide_eq_false (show ¬ (a.length : Int) > 100 by omega), cond_false]
    by_cases h2 : b.length ≤ 100
    · rw [decide_eq_false (show ¬ (b.length : Int) > 100 by omega), cond_false, pParse_eq h1, Option.bind_some]
      cases ha : codeV a with
      | none =>
        have := stop (a := a) (b := b) (fu := 9) (i := 0) (w := false) (c := a) (by omega) h1 h2
        rw [ha] at this
        exact this
      | some l =>
        obtain ⟨g1, g2, g3, g4⟩ := codeV_spec ha
        obtain ⟨k, hk⟩ : ∃ k, l.length = k + 1 := ⟨l.length - 1, by omega⟩
        have h5 := loop h1 h2 g3 g4 k 0 10 false (by omega) (by omega) (by omega)
        rw [← hk, List.take_length, ← g1, above_eq g3 g4, ha, Bool.false_or, beq_self_eq_true] at h5
        exact h5
    · rw [decide_eq_true (show (b.length : Int) > 100 by omega), cond_true]
  · rw [decide_eq_true (show (a.length : Int) > 100 by omega), cond_true]
end Go.Proofs.YtihjmnhamaicpaaGreatDoor.codeTree
