/- Due days, ends, what applies: both ways. -/
import Derived.Test.YtjoacimgcepjdaaGreatDoorLLine
set_option linter.unusedSimpArgs false
set_option linter.unusedVariables false
namespace Go.Proofs.YtjoacimgcepjdaaGreatDoor
open Go Go.Abs
theorem len_fact : ∀ b b' : Bool, ∀ m : Nat, m < 13 → 1 ≤ m → ∀ d : Nat, d < lenV b m → (if m = 2 ∧ d + 1 = 29 ∧ b' = false then 28 else d + 1) = min (d + 1) (lenV b' m) ∧ lenV b' m ≥ 1 := by decide +kernel
theorem ofV_years {d n : Int} (hg : goodD d = true) (hn : 0 ≤ n ∧ n ≤ 200) : (if yearV d + n > 4470 then (1048575 : Int) else if (ofV (yearV d + n) (monV d).1 (min ((monV d).2 + 1) (lenV (leapV (yearV d + n)) (monV d).1) : Nat)).2 ≠ 0 then 1048575 else (ofV (yearV d + n) (monV d).1 (min ((monV d).2 + 1) (lenV (leapV (yearV d + n)) (monV d).1) : Nat)).1) = yearsV d n := by
  obtain ⟨h0, h1⟩ := goodD_iff.1 hg
  obtain ⟨yi, yl⟩ := yearV_is h0 h1
  obtain ⟨m1, m2, m3, m4⟩ := monV_spec h0 h1
  have ho := offV_lt h0 h1
  have hl := lenV_bd (leapV (yearV d + n)) (monV d).1
  have hs := shift_all (leapV (yearV d)) (leapV (yearV d + n)) (offV d) ho.1
  unfold yearsV
  by_cases hy : yearV d + n > 4470
  · rw [if_pos hy, if_pos hy]
  · rw [if_neg hy, if_neg hy]
    have e : ofV (yearV d + n) (monV d).1 (min ((monV d).2 + 1) (lenV (leapV (yearV d + n)) (monV d).1) : Nat) = ofEnd (begV (yearV d + n) + (shiftV (leapV (yearV d)) (leapV (yearV d + n)) (offV d) : Nat)) := by
      unfold ofV
      rw [if_pos ⟨by omega, by omega, m1, m2, by omega, by omega⟩]
      congr 1
      have : sumV (leapV (yearV d + n)) ((monV d).1 - 1) + min (monV d).2 (lenV (leapV (yearV d + n)) (monV d).1 - 1) = shiftV (leapV (yearV d)) (leapV (yearV d + n)) (offV d) := hs
      omega
    rw [e]
    show _ = (if begV (yearV d + n) + (shiftV (leapV (yearV d)) (leapV (yearV d + n)) (offV d) : Nat) > 1048575 then (1048575 : Int) else begV (yearV d + n) + (shiftV (leapV (yearV d)) (leapV (yearV d + n)) (offV d) : Nat))
    unfold ofEnd
    by_cases hq : begV (yearV d + n) + (shiftV (leapV (yearV d)) (leapV (yearV d + n)) (offV d) : Nat) > 1048575
    · rw [if_pos hq, if_pos hq]; rfl
    · rw [if_neg hq, if_neg hq]; rfl
theorem dYears_eq {d n : Int} (hg : goodD d = true) (hn : 0 ≤ n ∧ n ≤ 200) : dYears_S d n = some (yearsV d n, 0) := by
  obtain ⟨h0, h1⟩ := goodD_iff.1 hg
  obtain ⟨yi, yl⟩ := yearV_is h0 h1
  have yh := year_hi yi h1
  obtain ⟨m1, m2, m3, m4⟩ := monV_spec h0 h1
  rw [← ofV_years hg hn]
  simp only [dYears_S, dYears_F, dDate_eq, hg, if_true, Option.bind_some, dateV]
  rw [show ((0 : Int) != 0) = false from rfl, cond_false, decide_eq_false (show ¬ n < 0 by omega), cond_false, decide_eq_false (show ¬ n > 200 by omega), cond_false, wrap_of (by omega) (by omega)]
  by_cases hy : yearV d + n > 4470
  · rw [decide_eq_true hy, if_pos hy]; rfl
  · rw [decide_eq_false hy, cond_false, if_neg hy, dLength_eq (by omega) (by omega) m1 m2, Option.bind_some]
    have e : (if ((lenV (leapV (yearV d + n)) (monV d).1 : Nat) : Int) < (((monV d).2 + 1 : Nat) : Int) then ((lenV (leapV (yearV d + n)) (monV d).1 : Nat) : Int) else (((monV d).2 + 1 : Nat) : Int)) = ((min ((monV d).2 + 1) (lenV (leapV (yearV d + n)) (monV d).1) : Nat) : Int) := by
      split <;> omega
    rw [e, dOf_eq (by omega), Option.bind_some]
    by_cases hq : (ofV (yearV d + n) (monV d).1 (min ((monV d).2 + 1) (lenV (leapV (yearV d + n)) (monV d).1) : Nat)).2 = 0
    · rw [hq, if_neg (by simp)]; rfl
    · rw [if_pos hq, show ((ofV (yearV d + n) (monV d).1 (min ((monV d).2 + 1) (lenV (leapV (yearV d + n)) (monV d).1) : Nat)).2 != 0) = true by simpa using hq]; rfl
theorem eYears_eq {d n : Int} (hg : goodD d = true) (hn : 0 ≤ n ∧ n ≤ 200) : eYears_S d n = some (yearsV d n, 0) := by
  obtain ⟨h0, h1⟩ := goodD_iff.1 hg
  obtain ⟨yi, yl⟩ := yearV_is h0 h1
  have yh := year_hi yi h1
  obtain ⟨m1, m2, m3, m4⟩ := monV_spec h0 h1
  rw [← ofV_years hg hn]
  simp only [eYears_S, eYears_F, eGood_eq, hg, Option.bind_some]
  rw [Bool.not_true, cond_false, decide_eq_false (show ¬ n < 0 by omega), cond_false, decide_eq_false (show ¬ n > 200 by omega), cond_false, eDate_eq, hg, if_pos rfl, Option.bind_some]
  simp only [dateV]
  rw [wrap_of (n := yearV d + n) (by omega) (by omega)]
  obtain ⟨lf, l1⟩ := len_fact (leapV (yearV d)) (leapV (yearV d + n)) (monV d).1 (by omega) m1 (monV d).2 m3
  have fin : ∀ k : Nat, k = min ((monV d).2 + 1) (lenV (leapV (yearV d + n)) (monV d).1) → (Option.bind (eOf_S (yearV d + n) ((monV d).1 : Int) (k : Int)) fun y => bif (y.2 != 0) then some ((1048575 : Int), (0 : Int)) else some (y.1, 0)) = some ((if yearV d + n > 4470 then (1048575 : Int) else if (ofV (yearV d + n) (monV d).1 (min ((monV d).2 + 1) (lenV (leapV (yearV d + n)) (monV d).1) : Nat)).2 ≠ 0 then 1048575 else (ofV (yearV d + n) (monV d).1 (min ((monV d).2 + 1) (lenV (leapV (yearV d + n)) (monV d).1) : Nat)).1), 0) := by
    intro k hk
    rw [eOf_eq (by omega), Option.bind_some, ← hk]
    by_cases hy : yearV d + n > 4470
    · rw [if_pos hy]
      have : ofV (yearV d + n) (monV d).1 (k : Int) = (0, 2) := by unfold ofV; rw [if_neg (by omega)]
      rw [this]; rfl
    · rw [if_neg hy]
      by_cases hq : (ofV (yearV d + n) (monV d).1 (k : Int)).2 = 0
      · rw [hq, if_neg (by simp)]; rfl
      · rw [if_pos hq, show ((ofV (yearV d + n) (monV d).1 (k : Int)).2 != 0) = true by simpa using hq]; rfl
  by_cases hm2 : (monV d).1 = 2
  · rw [show (((monV d).1 : Int) == 2) = true by rw [hm2]; rfl, cond_true]
    by_cases h29 : (monV d).2 + 1 = 29
    · rw [show ((((monV d).2 + 1 : Nat) : Int) == 29) = true by rw [h29]; rfl, cond_true, eleap_eq (by omega), Option.bind_some]
      cases hb : leapV (yearV d + n) with
      | false =>
        rw [Bool.not_false, cond_true, ← hb]
        exact fin 28 (by rw [← lf, if_pos ⟨hm2, h29, hb⟩])
      | true =>
        rw [Bool.not_true, cond_false, ← hb]
        exact fin _ (by rw [← lf, if_neg (fun h => by rw [hb] at h; exact absurd h.2.2 (by decide))])
    · rw [show ((((monV d).2 + 1 : Nat) : Int) == 29) = false by rw [beq_eq_false_iff_ne]; omega, cond_false]
      exact fin _ (by rw [← lf, if_neg (fun h => h29 h.2.1)])
  · rw [show (((monV d).1 : Int) == 2) = false by rw [beq_eq_false_iff_ne]; omega, cond_false]
    exact fin _ (by rw [← lf, if_neg (fun h => hm2 h.1)])
theorem dYearEnd_eq {d : Int} (hg : goodD d = true) : dYearEnd_S d = some (yearEndV d, 0) := by
  obtain ⟨h0, h1⟩ := goodD_iff.1 hg
  obtain ⟨yi, yl⟩ := yearV_is h0 h1
  have yh := year_hi yi h1
  have hb := begV_bd (y := yearV d + 1) (by omega) (by omega)
  simp only [dYearEnd_S, dYearEnd_F, dDate_eq, hg, if_true, Option.bind_some, dateV]
  rw [show ((0 : Int) != 0) = false from rfl, cond_false, wrap_of (n := yearV d + 1) (by omega) (by omega), dbegin_eq (by omega) (by omega), Option.bind_some, wrap_of (by omega) (by omega)]
  rfl
theorem sum11 : ∀ b : Bool, sumV b 11 + 31 = lenY b ∧ lenV b 12 = 31 := by decide
theorem eYearEnd_eq {d : Int} (hg : goodD d = true) : eYearEnd_S d = some (yearEndV d, 0) := by
  obtain ⟨h0, h1⟩ := goodD_iff.1 hg
  obtain ⟨yi, yl⟩ := yearV_is h0 h1
  have yh := year_hi yi h1
  have hb := begV_len (yearV d)
  obtain ⟨s1, s2⟩ := sum11 (leapV (yearV d))
  have he := eOf_eq (y := yearV d) (m := 12) (d := 31) (by omega)
  simp only [eYearEnd_S, eYearEnd_F, eDate_eq, hg, if_true, Option.bind_some, dateV]
  rw [show ((0 : Int) != 0) = false from rfl, cond_false, show (12 : Int) = ((12 : Nat) : Int) from rfl, he, Option.bind_some]
  have e : ofV (yearV d) 12 31 = ofEnd (begV (yearV d + 1) - 1) := by
    unfold ofV
    rw [if_pos ⟨by omega, by omega, by omega, by omega, by omega, by omega⟩]
    congr 1
    show begV (yearV d) + 31 - 1 + ((sumV (leapV (yearV d)) 11 : Nat) : Int) = _
    omega
  rw [e]
  unfold ofEnd yearEndV
  by_cases hq : begV (yearV d + 1) - 1 > 1048575
  · rw [if_pos hq, if_pos hq]; rfl
  · rw [if_neg hq, if_neg hq]; rfl
def datV (x : Dating) : Bool := decide (0 ≤ x.First) && decide (x.First ≤ x.Last) && decide (x.Last ≤ 1048575)
theorem hCheck_eq (x : Dating) : hCheck_S x = some (bif datV x then 0 else 1) := by
  simp only [hCheck_S, hCheck_F, datV]
  by_cases h1 : 0 ≤ x.First
  · by_cases h2 : x.First ≤ x.Last
    · by_cases h3 : x.Last ≤ 1048575
      · rw [decide_eq_false (show ¬ x.First < 0 by omega), decide_eq_false (show ¬ x.First > x.Last by omega), decide_eq_false (show ¬ x.Last > 1048575 by omega), decide_eq_true h1, decide_eq_true h2, decide_eq_true h3]; rfl
      · rw [decide_eq_false (show ¬ x.First < 0 by omega), decide_eq_false (show ¬ x.First > x.Last by omega), decide_eq_true (show x.Last > 1048575 by omega), decide_eq_false h3, Bool.and_false]; rfl
    · rw [decide_eq_false (show ¬ x.First < 0 by omega), decide_eq_true (show x.First > x.Last by omega), decide_eq_false h2, Bool.and_false, Bool.false_and]; rfl
  · rw [decide_eq_true (show x.First < 0 by omega), decide_eq_false h1, Bool.false_and, Bool.false_and]; rfl
theorem fGood_eq (x : Dating) : fGood_S x = some (datV x) := by
  simp only [fGood_S, fGood_F, datV]
  cases decide (0 ≤ x.First) <;> cases decide (x.First ≤ x.Last) <;> rfl
theorem datV_last {x : Dating} (h : datV x = true) : goodD x.Last = true ∧ 0 ≤ x.First ∧ x.First ≤ x.Last := by
  unfold datV at h
  simp only [Bool.and_eq_true, decide_eq_true_eq] at h
  exact ⟨goodD_iff.2 ⟨by omega, h.2⟩, h.1.1, h.1.2⟩
def dueD (r : Rule) (x : Dating) : Int := bif r.YearEnd then yearEndV (yearsV x.Last r.Years) else yearsV x.Last r.Years
def dueV (r : Rule) (x : Dating) : Int × Int := bif ((checkV [r]).2 != 0) then (0, 1) else bif (!datV x) then (0, 1) else (dueD r x, 0)
theorem years_good {d n : Int} (hg : goodD d = true) (hn : 0 ≤ n) : goodD (yearsV d n) = true := by
  obtain ⟨h0, h1⟩ := goodD_iff.1 hg
  exact goodD_iff.2 ⟨Int.le_trans h0 (years_ge h0 h1 hn), yearsV_hi d n⟩
theorem qDue_eqB {r : Rule} {x : Dating} (hs : r.Class.length ≤ 4000000000 ∧ r.Trigger.length ≤ 4000000000) : qDue_S r x = some (dueV r x) := by
  simp only [qDue_S, qDue_F, qCheck_eqB (l := [r]) (by simp) (fun q hq => by rw [List.mem_singleton] at hq; subst hq; exact hs), Option.bind_some, hCheck_eq, dueV]
  by_cases h : (checkV [r]).2 = 0
  · rw [h, show ((0 : Int) != 0) = false from rfl, cond_false, cond_false]
    cases hd : datV x with
    | false => rfl
    | true =>
      obtain ⟨hl, -, -⟩ := datV_last hd
      obtain ⟨-, hg⟩ := checkV_ok h
      obtain ⟨g1, g2, g3, g4, g5, g6⟩ := hg r (by simp)
      rw [Bool.not_true, cond_false, cond_true, show ((0 : Int) != 0) = false from rfl, cond_false, dYears_eq hl ⟨g3, g4⟩, Option.bind_some]
      unfold dueD
      cases r.YearEnd with
      | false => rfl
      | true => rw [cond_true, dYearEnd_eq (years_good hl g3)]; rfl
  · rw [show ((checkV [r]).2 != 0) = true by simpa using h]; rfl
theorem xDue_eq {r : Rule} {x : Dating} (hs : small r) : xDue_S r x = some (dueV r x) := by
  simp only [xDue_S, xDue_F, xGood_S, xGood_F, xCheck_eq (l := [r]) (by simp) (fun q hq => by rw [List.mem_singleton] at hq; subst hq; exact hs), Option.bind_some, fGood_eq, dueV]
  by_cases h : (checkV [r]).2 = 0
  · rw [h, show ((0 : Int) == 0) = true from rfl, Bool.not_true, cond_false, show ((0 : Int) != 0) = false from rfl, cond_false]
    cases hd : datV x with
    | false => rfl
    | true =>
      obtain ⟨hl, -, -⟩ := datV_last hd
      obtain ⟨-, hg⟩ := checkV_ok h
      obtain ⟨g1, g2, g3, g4, g5, g6⟩ := hg r (by simp)
      rw [Bool.not_true, cond_false, cond_false, eYears_eq hl ⟨g3, g4⟩, Option.bind_some]
      unfold dueD
      cases r.YearEnd with
      | false => rfl
      | true => rw [cond_true, eYearEnd_eq (years_good hl g3)]; rfl
  · rw [show ((checkV [r]).2 != 0) = true by simpa using h, show ((checkV [r]).2 == 0) = false by simpa using h]; rfl
/- Ends. -/
theorem slCloneR_eq {l : List Rule} (h : l.length ≤ 1000) : slCloneR_S l = some l := by
  simp only [slCloneR_S, slCloneR_F]
  have e : decide (([] : List Rule).length + l.length ≤ 4294967296) = true := decide_eq_true (by simp; omega)
  rw [e, cond_true]
  cases l with
  | nil => decide
  | cons a b => rfl
def untilR (r : Rule) (day : Int) : Rule := ⟨r.ID, r.Class, r.Trigger, r.Years, r.YearEnd, r.Action, ⟨r.In.From, day⟩⟩
def endV (l : List Rule) (id day : Int) : List Rule × Int := if (checkV l).2 ≠ 0 then ([], 1) else match l.findIdx? (fun r => r.ID == id) with
  | none => ([], 7)
  | some k => match l[k]? with
    | none => ([], 7)
    | some r => if day ≤ r.In.From then ([], 2) else if day > r.In.Until then ([], 2) else (l.set k (untilR r day), 0)
theorem qEnd_eq {l : List Rule} {id day : Int} (hl : l.length ≤ 9223372036854775807) (hs : ∀ r ∈ l, small r) : qEnd_S l id day = some (endV l id day) := by
  simp only [qEnd_S, qEnd_F, qCheck_eq hl hs, Option.bind_some, endV]
  by_cases h : (checkV l).2 = 0
  · obtain ⟨h64, -⟩ := checkV_ok h
    rw [h, show ((0 : Int) != 0) = false from rfl, cond_false, if_neg (by simp), qFind_eq hl, Option.bind_some]
    unfold findV idxOf
    cases hf : l.findIdx? (fun r => r.ID == id) with
    | none => rfl
    | some k =>
      obtain ⟨hk, -, -⟩ := List.findIdx?_eq_some_iff_getElem.1 hf
      simp only [decide_eq_false (show ¬ (k : Int) < 0 by omega), cond_false, ix_at hk, Option.bind_some, List.getElem?_eq_getElem hk]
      by_cases h1 : day ≤ l[k].In.From
      · rw [decide_eq_true h1, if_pos h1]; rfl
      · rw [decide_eq_false h1, cond_false, if_neg h1]
        by_cases h2 : day > l[k].In.Until
        · rw [decide_eq_true h2, if_pos h2]; rfl
        · rw [decide_eq_false h2, cond_false, if_neg h2, slCloneR_eq (by omega), Option.bind_some, ix_at hk, Option.bind_some, Int.toNat_natCast]; rfl
  · rw [show ((checkV l).2 != 0) = true by simpa using h, if_pos h]; rfl
theorem xEnd_eq {l : List Rule} {id day : Int} (hl : l.length ≤ 9223372036854775807) (hs : ∀ r ∈ l, small r) : xEnd_S l id day = some (endV l id day) := by
  simp only [xEnd_S, xEnd_F, xGood_S, xGood_F, xCheck_eq hl hs, Option.bind_some, endV]
  by_cases h : (checkV l).2 = 0
  · obtain ⟨h64, -⟩ := checkV_ok h
    rw [h, show ((0 : Int) == 0) = true from rfl, Bool.not_true, cond_false, if_neg (by simp), xFind_eq hl, Option.bind_some]
    unfold findV idxOf
    cases hf : l.findIdx? (fun r => r.ID == id) with
    | none => rfl
    | some k =>
      obtain ⟨hk, -, -⟩ := List.findIdx?_eq_some_iff_getElem.1 hf
      simp only [decide_eq_false (show ¬ (k : Int) < 0 by omega), cond_false, ix_at hk, Option.bind_some, List.getElem?_eq_getElem hk]
      by_cases h1 : day ≤ l[k].In.From
      · rw [decide_eq_true h1, if_pos h1]; rfl
      · rw [decide_eq_false h1, cond_false, if_neg h1]
        by_cases h2 : day > l[k].In.Until
        · rw [decide_eq_true h2, if_pos h2]; rfl
        · rw [decide_eq_false h2, cond_false, if_neg h2, decide_eq_true (by simp; omega), cond_true, List.nil_append, ix_at hk, Option.bind_some, Int.toNat_natCast]; rfl
  · rw [show ((checkV l).2 == 0) = false by simpa using h, if_pos h]; rfl
end Go.Proofs.YtjoacimgcepjdaaGreatDoor
