/- RuleLater, RuleEnds: true for every input. -/
import Derived.Test.YtjoacimgcepjdaaGreatDoorLOk
set_option linter.unusedSimpArgs false
set_option linter.unusedVariables false
namespace Go.Proofs.YtjoacimgcepjdaaGreatDoor
open Go Go.Abs
theorem check_one (r : Rule) : (checkV [r]).2 = ruleErr none r := by
  unfold checkV
  rw [if_neg (by simp)]
  simp only [checkL]
  by_cases h : ruleErr none r = 0
  · rw [h]; rfl
  · rw [show (ruleErr none r != 0) = true by simpa using h]; rfl
theorem due_cases (r : Rule) (x : Dating) : dueV r x = (0, 1) ∨ (dueV r x = (dueD r x, 0) ∧ ruleErr none r = 0 ∧ datV x = true) := by
  unfold dueV
  rw [check_one]
  by_cases h : ruleErr none r = 0
  · rw [h, show ((0 : Int) != 0) = false from rfl, cond_false]
    cases hd : datV x with
    | false => exact .inl rfl
    | true => exact .inr ⟨rfl, rfl, rfl⟩
  · rw [show (ruleErr none r != 0) = true by simpa using h]; exact .inl rfl
theorem dueD_mono {r q : Rule} {a b : Dating} (ha : goodD a.Last = true) (hb : goodD b.Last = true) (hab : a.Last ≤ b.Last) (hr : 0 ≤ r.Years) (hy : r.Years ≤ q.Years) (he : r.YearEnd = q.YearEnd) : dueD r a ≤ dueD q b := by
  obtain ⟨a0, a1⟩ := goodD_iff.1 ha
  obtain ⟨b0, b1⟩ := goodD_iff.1 hb
  have hm := years_mono (n := r.Years) (m := q.Years) a0 hab b1 hy
  unfold dueD
  rw [← he]
  cases r.YearEnd with
  | false => exact hm
  | true =>
    have h0 := years_ge a0 a1 hr
    exact yearEnd_mono (by omega) hm (yearsV_hi _ _)
theorem dueD_ge {r : Rule} {a : Dating} (ha : goodD a.Last = true) (hr : 0 ≤ r.Years) : a.Last ≤ dueD r a ∧ 0 ≤ dueD r a ∧ dueD r a ≤ 1048575 := by
  obtain ⟨a0, a1⟩ := goodD_iff.1 ha
  have h0 := years_ge a0 a1 hr
  have h1 := yearsV_hi a.Last r.Years
  unfold dueD
  cases r.YearEnd with
  | false => exact ⟨h0, Int.le_trans a0 h0, h1⟩
  | true =>
    obtain ⟨e1, e2, -, -⟩ := yearEnd_in (d := yearsV a.Last r.Years) (by omega) h1
    exact ⟨Int.le_trans h0 e1, by show 0 ≤ yearEndV (yearsV a.Last r.Years); omega, e2⟩
theorem dueD_end {r q : Rule} {a : Dating} (ha : goodD a.Last = true) (hr : 0 ≤ r.Years) (hy : q.Years = r.Years) (he : q.YearEnd = true) : dueD r a ≤ dueD q a ∧ dueD q a ≤ dueD r a + 365 := by
  obtain ⟨a0, a1⟩ := goodD_iff.1 ha
  have h0 := years_ge a0 a1 hr
  have h1 := yearsV_hi a.Last r.Years
  obtain ⟨e1, e2, e3, -⟩ := yearEnd_in (d := yearsV a.Last r.Years) (by omega) h1
  unfold dueD
  rw [he, hy]
  cases r.YearEnd with
  | false => exact ⟨e1, e3⟩
  | true => exact ⟨Int.le_refl _, by show yearEndV (yearsV a.Last r.Years) ≤ yearEndV (yearsV a.Last r.Years) + 365; omega⟩
theorem fault_zero {r : Rule} : faultV r = 0 ↔ ¬ r.ID < 1 ∧ ¬ r.ID > 1073741824 ∧ ¬ r.Years < 0 ∧ ¬ r.Years > 200 ∧ ¬ r.Action < 1 ∧ ¬ r.Action > 3 ∧ validV r.In = true := by
  unfold faultV
  by_cases h1 : r.ID < 1
  · rw [decide_eq_true h1]; exact ⟨fun h => absurd (show (2 : Int) = 0 from h) (by decide), fun h => absurd h1 h.1⟩
  by_cases h2 : r.ID > 1073741824
  · rw [decide_eq_false h1, decide_eq_true h2]; exact ⟨fun h => absurd (show (2 : Int) = 0 from h) (by decide), fun h => absurd h2 h.2.1⟩
  by_cases h3 : r.Years < 0
  · rw [decide_eq_false h1, decide_eq_false h2, decide_eq_true h3]; exact ⟨fun h => absurd (show (2 : Int) = 0 from h) (by decide), fun h => absurd h3 h.2.2.1⟩
  by_cases h4 : r.Years > 200
  · rw [decide_eq_false h1, decide_eq_false h2, decide_eq_false h3, decide_eq_true h4]; exact ⟨fun h => absurd (show (2 : Int) = 0 from h) (by decide), fun h => absurd h4 h.2.2.2.1⟩
  by_cases h5 : r.Action < 1
  · rw [decide_eq_false h1, decide_eq_false h2, decide_eq_false h3, decide_eq_false h4, decide_eq_true h5]; exact ⟨fun h => absurd (show (2 : Int) = 0 from h) (by decide), fun h => absurd h5 h.2.2.2.2.1⟩
  by_cases h6 : r.Action > 3
  · rw [decide_eq_false h1, decide_eq_false h2, decide_eq_false h3, decide_eq_false h4, decide_eq_false h5, decide_eq_true h6]; exact ⟨fun h => absurd (show (2 : Int) = 0 from h) (by decide), fun h => absurd h6 h.2.2.2.2.2.1⟩
  rw [decide_eq_false h1, decide_eq_false h2, decide_eq_false h3, decide_eq_false h4, decide_eq_false h5, decide_eq_false h6]
  cases hv : validV r.In with
  | false => exact ⟨fun h => absurd (show (2 : Int) = 0 from h) (by decide), fun h => absurd h.2.2.2.2.2.2 (by decide)⟩
  | true => exact ⟨fun _ => ⟨h1, h2, h3, h4, h5, h6, rfl⟩, fun _ => rfl⟩
theorem err_zero {p : Option Int} {r : Rule} : ruleErr p r = 0 ↔ faultV r = 0 ∧ ordV p r = false ∧ restV r = 0 := by
  unfold ruleErr
  rcases faultV_cases r with h | h
  · rw [h]; exact ⟨fun h => absurd (show (2 : Int) = 0 from h) (by decide), fun h => absurd h.1 (by decide)⟩
  · rw [h, show ((0 : Int) != 0) = false from rfl, cond_false]
    cases ordV p r with
    | true => exact ⟨fun h => absurd (show (5 : Int) = 0 from h) (by decide), fun h => absurd h.2.1 (by decide)⟩
    | false => exact ⟨fun h => ⟨rfl, rfl, h⟩, fun h => h.2.2⟩
theorem rest_same {r q : Rule} (h : restV r = 0) (h3 : r.Action ≠ 3) (hc : q.Class = r.Class) (ht : q.Trigger = r.Trigger) (ha : q.Action = r.Action) : restV q = 0 := by
  have e : (q.Action == 3) = false := by rw [ha]; simpa using h3
  have e' : (r.Action == 3) = false := by simpa using h3
  unfold restV at h ⊢
  rw [e] 
  rw [e'] at h
  rw [hc, ht]
  exact h
theorem err_more {r : Rule} {n : Int} {q : Rule} (h : ruleErr none r = 0) (h3 : r.Action ≠ 3) (hq : q = ⟨r.ID, r.Class, r.Trigger, n, q.YearEnd, r.Action, r.In⟩) (hn : 0 ≤ n ∧ n ≤ 200) : ruleErr none q = 0 := by
  obtain ⟨h1, h2, h4⟩ := err_zero.1 h
  obtain ⟨f1, f2, f3, f4, f5, f6, f7⟩ := fault_zero.1 h1
  have e1 : q.ID = r.ID := by rw [hq]
  have e2 : q.Years = n := by rw [hq]
  have e3 : q.Action = r.Action := by rw [hq]
  have e4 : q.In = r.In := by rw [hq]
  refine err_zero.2 ⟨fault_zero.2 ⟨by omega, by omega, by omega, by omega, by omega, by omega, by rw [e4]; exact f7⟩, rfl, rest_same h4 h3 (by rw [hq]) (by rw [hq]) e3⟩
end Go.Proofs.YtjoacimgcepjdaaGreatDoor
namespace Go.Proofs.YtjoacimgcepjdaaGreatDoor.ruleLater
open Go Go.Abs
theorem law (r : Rule) (a b : Dating) (more : Int) (hr : okRule r) (_ : okDating a) (_ : okDating b) (hm : okU8 more) : lRuleLater_S r a b more = some true := by
  obtain ⟨m0, m1⟩ := hm
  simp only [lRuleLater_S, lRuleLater_F, awake_true, Option.bind_some, Bool.not_true, cond_false]
  by_cases c1 : r.Class.length ≤ 100
  · rw [decide_eq_false (show ¬ (r.Class.length : Int) > 100 by omega), cond_false]
    by_cases c2 : r.Trigger.length ≤ 100
    · rw [decide_eq_false (show ¬ (r.Trigger.length : Int) > 100 by omega), cond_false]
      have hs : r.Class.length ≤ 4000000000 ∧ r.Trigger.length ≤ 4000000000 := ⟨by omega, by omega⟩
      rw [qDue_eqB hs, qDue_eqB hs, Option.bind_some, Option.bind_some]
      rcases due_cases r a with ha | ⟨ha, hc, hda⟩
      · rw [ha]
        rcases due_cases r b with hb | ⟨hb, -, -⟩
        · rw [hb]; rfl
        · rw [hb]; rfl
      · rcases due_cases r b with hb | ⟨hb, -, hdb⟩
        · rw [ha, hb]; rfl
        · obtain ⟨ga, a2, a3⟩ := datV_last hda
          obtain ⟨gb, b2, b3⟩ := datV_last hdb
          obtain ⟨f1, f2, f3, f4, f5, f6, f7⟩ := fault_zero.1 (err_zero.1 hc).1
          obtain ⟨d1, d2, d3⟩ := dueD_ge (r := r) ga (by omega)
          rw [ha, hb]
          simp only [show ((0 : Int) != 0) = false from rfl, cond_false, decide_eq_false (show ¬ dueD r a < a.Last by omega)]
          have hw : IntKind.i64.wrap (r.Years + IntKind.i64.wrap more) = r.Years + more := by
            rw [wrap_of (n := more) (by omega) (by omega), wrap_of (by omega) (by omega)]
          have fin : (bif (r.Action == 3) then some true else (Option.bind (qDue_S (⟨r.ID, r.Class, r.Trigger, (if 200 < (IntKind.i64.wrap (r.Years + (IntKind.i64.wrap more))) then 200 else (IntKind.i64.wrap (r.Years + (IntKind.i64.wrap more)))), r.YearEnd, r.Action, r.In⟩ : Rule) a) fun y24 => Option.bind (qDue_S (⟨r.ID, r.Class, r.Trigger, r.Years, true, r.Action, r.In⟩ : Rule) a) fun y26 => bif (y24.2 == 0) then (bif (y26.2 == 0) then (bif decide (y24.1 ≥ dueD r a) then (bif decide (y26.1 ≥ dueD r a) then some (decide (y26.1 ≤ (IntKind.i64.wrap (dueD r a + 365)))) else some false) else some false) else some false) else some false)) = some true := by
            by_cases h3 : r.Action = 3
            · rw [show (r.Action == 3) = true by simpa using h3]; rfl
            · rw [show (r.Action == 3) = false by simpa using h3, cond_false, hw]
              have hn : 0 ≤ (if 200 < r.Years + more then 200 else r.Years + more) ∧ (if 200 < r.Years + more then 200 else r.Years + more) ≤ 200 ∧ r.Years ≤ (if 200 < r.Years + more then 200 else r.Years + more) := by split <;> omega
              rw [qDue_eqB (r := ⟨r.ID, r.Class, r.Trigger, (if 200 < r.Years + more then 200 else r.Years + more), r.YearEnd, r.Action, r.In⟩) hs, qDue_eqB (r := ⟨r.ID, r.Class, r.Trigger, r.Years, true, r.Action, r.In⟩) hs, Option.bind_some, Option.bind_some]
              have q1 : dueV ⟨r.ID, r.Class, r.Trigger, (if 200 < r.Years + more then 200 else r.Years + more), r.YearEnd, r.Action, r.In⟩ a = (dueD ⟨r.ID, r.Class, r.Trigger, (if 200 < r.Years + more then 200 else r.Years + more), r.YearEnd, r.Action, r.In⟩ a, 0) := by
                unfold dueV
                rw [check_one, err_more hc h3 rfl ⟨hn.1, hn.2.1⟩, hda]; rfl
              have q2 : dueV ⟨r.ID, r.Class, r.Trigger, r.Years, true, r.Action, r.In⟩ a = (dueD ⟨r.ID, r.Class, r.Trigger, r.Years, true, r.Action, r.In⟩ a, 0) := by
                unfold dueV
                rw [check_one, err_more hc h3 rfl ⟨by omega, by omega⟩, hda]; rfl
              rw [q1, q2]
              have k1 := dueD_mono (r := r) (q := ⟨r.ID, r.Class, r.Trigger, (if 200 < r.Years + more then 200 else r.Years + more), r.YearEnd, r.Action, r.In⟩) ga ga (Int.le_refl _) (by omega) hn.2.2 rfl
              have k2 := dueD_end (r := r) (q := ⟨r.ID, r.Class, r.Trigger, r.Years, true, r.Action, r.In⟩) ga (by omega) rfl rfl
              simp only [show ((0 : Int) == 0) = true from rfl, cond_true]
              rw [decide_eq_true k1, decide_eq_true k2.1, cond_true, cond_true, wrap_of (by omega) (by omega), decide_eq_true k2.2]
          by_cases hab : a.Last ≤ b.Last
          · rw [decide_eq_true hab, cond_true, decide_eq_false (show ¬ dueD r a > dueD r b by
              have := dueD_mono (r := r) (q := r) ga gb hab (by omega) (Int.le_refl _) rfl
              omega), cond_false]
            exact fin
          · rw [decide_eq_false hab, cond_false]
            exact fin
    · rw [decide_eq_true (show (r.Trigger.length : Int) > 100 by omega), cond_true]
  · rw [decide_eq_true (show (r.Class.length : Int) > 100 by omega), cond_true]
end Go.Proofs.YtjoacimgcepjdaaGreatDoor.ruleLater
