/- Days and dates: both ways of reckoning. -/
import Derived.Test.YtjoacimgcepjdaaGreatDoorLDayM
set_option linter.unusedSimpArgs false
set_option linter.unusedVariables false
namespace Go.Proofs.YtjoacimgcepjdaaGreatDoor
open Go Go.Abs
theorem wrap_of {n : Int} (h1 : -9223372036854775808 ≤ n) (h2 : n ≤ 9223372036854775807) : IntKind.i64.wrap n = n := wrap_id ⟨h1, h2⟩
theorem tdiv_of {a b : Int} (h : 0 ≤ a) : Int.tdiv a b = a / b := Int.tdiv_eq_ediv_of_nonneg h
theorem tmod_of {a b : Int} (h : 0 ≤ a) : Int.tmod a b = a % b := Int.tmod_eq_emod_of_nonneg h
theorem leapV_b (y : Int) : leapV y = (decide (y % 4 = 0) && (!decide (y % 100 = 0) || decide (y % 400 = 0))) := by
  unfold leapV; rw [show decide (y % 100 ≠ 0) = !decide (y % 100 = 0) from decide_not]
theorem dleap_eq {y : Int} (h : 0 ≤ y) : dleap_S y = some (leapV y) := by
  simp only [dleap_S, dleap_F, tmod_of h, leapV_b]
  show (bif decide (y % 4 = 0) then (bif !decide (y % 100 = 0) then some true else some (decide (y % 400 = 0))) else some false) = _
  cases decide (y % 4 = 0) <;> cases decide (y % 100 = 0) <;> cases decide (y % 400 = 0) <;> rfl
theorem eleap_eq {y : Int} (h : 0 ≤ y) : eleap_S y = some (leapV y) := by
  simp only [eleap_S, eleap_F, tmod_of h, leapV_b]
  have h4 : decide (y % 4 = 0) = false → decide (y % 400 = 0) = false := fun h => decide_eq_false (by have := of_decide_eq_false h; omega)
  show (bif decide (y % 4 = 0) then (bif !decide (y % 100 = 0) then some true else some (decide (y % 400 = 0))) else some (decide (y % 400 = 0))) = _
  revert h4
  cases decide (y % 4 = 0) <;> cases decide (y % 100 = 0) <;> cases decide (y % 400 = 0) <;> intro h4 <;> first | rfl | exact absurd (h4 rfl) (by decide)
theorem len_ixA : ∀ m : Nat, m < 13 → 1 ≤ m → ixA 12 monthC (IntKind.i64.wrap ((m : Int) - 1)) = some ((lenV false m : Nat) : Int) := by decide +kernel
theorem lenV_ne {b : Bool} {m : Nat} (h : m ≠ 2) : lenV false m = lenV b m := by unfold lenV; rw [if_neg h, if_neg h]
theorem dLength_eq {y : Int} {m : Nat} (h1 : 1600 ≤ y) (h2 : y ≤ 4470) (h3 : 1 ≤ m) (h4 : m ≤ 12) : dLength_S y (m : Int) = some ((lenV (leapV y) m : Nat) : Int) := by
  have hx := len_ixA m (by omega) h3
  simp only [dLength_S, dLength_F, decide_eq_false (show ¬ y < 1600 by omega), decide_eq_false (show ¬ y > 4470 by omega), decide_eq_false (show ¬ (m : Int) < 1 by omega), decide_eq_false (show ¬ (m : Int) > 12 by omega), cond_false, dleap_eq (show 0 ≤ y by omega), dlengths_S, hx, Option.bind_some]
  by_cases h : m = 2
  · subst h
    rw [show (((2 : Nat) : Int) == 2) = true from rfl, cond_true]
    cases leapV y <;> rfl
  · rw [show ((m : Int) == 2) = false from by simp; omega, cond_false, lenV_ne h]
theorem eLength_eq {y : Int} {m : Nat} (h1 : 1600 ≤ y) (h2 : y ≤ 4470) (h3 : 1 ≤ m) (h4 : m ≤ 12) : eLength_S y (m : Int) = some ((lenV (leapV y) m : Nat) : Int) := by
  have hx := len_ixA m (by omega) h3
  simp only [eLength_S, eLength_F, decide_eq_false (show ¬ y < 1600 by omega), decide_eq_false (show ¬ y > 4470 by omega), decide_eq_false (show ¬ (m : Int) < 1 by omega), decide_eq_false (show ¬ (m : Int) > 12 by omega), cond_false, eleap_eq (show 0 ≤ y by omega), hx, Option.bind_some]
  by_cases h : m = 2
  · subst h
    rw [show (((2 : Nat) : Int) == 2) = true from rfl, cond_true]
    cases leapV y <;> rfl
  · rw [show ((m : Int) == 2) = false from by simp; omega, cond_false, lenV_ne h]
theorem dLength_out {y m : Int} (h : y < 1600 ∨ y > 4470 ∨ m < 1 ∨ m > 12) : dLength_S y m = some 0 := by
  simp only [dLength_S, dLength_F]
  by_cases h1 : y < 1600
  · rw [decide_eq_true h1]; rfl
  · rw [decide_eq_false h1, cond_false]
    by_cases h2 : y > 4470
    · rw [decide_eq_true h2]; rfl
    · rw [decide_eq_false h2, cond_false]
      by_cases h3 : m < 1
      · rw [decide_eq_true h3]; rfl
      · rw [decide_eq_false h3, cond_false, decide_eq_true (show m > 12 by omega)]; rfl
theorem eLength_out {y m : Int} (h : y < 1600 ∨ y > 4470 ∨ m < 1 ∨ m > 12) : eLength_S y m = some 0 := by
  simp only [eLength_S, eLength_F]
  by_cases h1 : y < 1600
  · rw [decide_eq_true h1]; rfl
  · rw [decide_eq_false h1, cond_false]
    by_cases h2 : y > 4470
    · rw [decide_eq_true h2]; rfl
    · rw [decide_eq_false h2, cond_false]
      by_cases h3 : m < 1
      · rw [decide_eq_true h3]; rfl
      · rw [decide_eq_false h3, cond_false, decide_eq_true (show m > 12 by omega)]; rfl
theorem dbegin_eq {y : Int} (h1 : 1600 ≤ y) (h2 : y ≤ 10000) : dbegin_S y = some (begV y) := by
  simp (disch := omega) only [dbegin_S, dbegin_F, wrap_of, tdiv_of, begV]
theorem ebefore_eq {y : Int} (h1 : 1600 ≤ y) (h2 : y ≤ 10000) : ebefore_S y = some (begV y) := by
  simp only [ebefore_S, ebefore_F]
  by_cases h : y = 1600
  · subst h; decide
  · have h0 : (IntKind.i64.wrap (y - 1600) == 0) = false := by rw [wrap_of (by omega) (by omega)]; simp; omega
    rw [h0, cond_false]
    simp (disch := omega) only [wrap_of, tdiv_of, begV, Option.some.injEq]
    omega
theorem begV_bd {y : Int} (h1 : 1600 ≤ y) (h2 : y ≤ 10000) : 0 ≤ begV y ∧ begV y ≤ 4000000 := by unfold begV; omega
theorem lenV_bd (b : Bool) (m : Nat) : 28 ≤ lenV b m ∧ lenV b m ≤ 31 := by unfold lenV; (repeat' split) <;> omega
theorem sumV_bd (b : Bool) : ∀ m : Nat, sumV b m ≤ 31 * m
  | 0 => Nat.le_refl _
  | m + 1 => by have := sumV_bd b m; have := (lenV_bd b (m + 1)).2; rw [sumV]; omega
def ofEnd (o : Int) : Int × Int := if o > 1048575 then (0, 2) else (o, 0)
theorem dOf_loop {y : Int} {m : Nat} (h1 : 1600 ≤ y) (h2 : y ≤ 4470) (h4 : m ≤ 12) (c : Int) (hc : 0 ≤ c ∧ c ≤ 5000000) : ∀ (n k fu : Nat), m - k = n → 1 ≤ k → k ≤ m → n < fu →
    dOf_L1 y (m : Int) fu (c + (sumV (leapV y) (k - 1) : Nat)) (k : Int) = some (ofEnd (c + (sumV (leapV y) (m - 1) : Nat)))
  | n, k, 0, _, _, _, h => by omega
  | 0, k, fu + 1, h, hk, hkm, _ => by
    have : k = m := by omega
    subst this
    simp only [dOf_L1, decide_eq_false (show ¬ (k : Int) < (k : Int) by omega), cond_false, ofEnd]
    by_cases hq : c + (sumV (leapV y) (k - 1) : Nat) > 1048575
    · rw [decide_eq_true hq, if_pos hq]; rfl
    · rw [decide_eq_false hq, if_neg hq]; rfl
  | n + 1, k, fu + 1, h, hk, hkm, hf => by
    have e : sumV (leapV y) (k - 1 + 1) = sumV (leapV y) (k - 1) + lenV (leapV y) (k - 1 + 1) := rfl
    rw [show k - 1 + 1 = k by omega] at e
    have b1 := sumV_bd (leapV y) (k - 1)
    have b2 := (lenV_bd (leapV y) k).2
    simp only [dOf_L1, decide_eq_true (show (k : Int) < (m : Int) by omega), cond_true, dLength_eq h1 h2 hk (show k ≤ 12 by omega), Option.bind_some]
    rw [wrap_of (by omega) (by omega), wrap_of (n := (k : Int) + 1) (by omega) (by omega)]
    have := dOf_loop h1 h2 h4 c hc n (k + 1) fu (by omega) (by omega) (by omega) (by omega)
    rw [Nat.add_sub_cancel, e] at this
    rw [← this]
    congr 1
    omega
theorem eOf_loop {y : Int} {m : Nat} (h1 : 1600 ≤ y) (h2 : y ≤ 4470) (h4 : m ≤ 12) (c : Int) (hc : 0 ≤ c ∧ c ≤ 5000000) : ∀ (n k fu : Nat), m - k = n → 1 ≤ k → k ≤ m → n < fu →
    eOf_L1 y (m : Int) fu (c + (sumV (leapV y) (k - 1) : Nat)) (k : Int) = some (ofEnd (c + (sumV (leapV y) (m - 1) : Nat)))
  | n, k, 0, _, _, _, h => by omega
  | 0, k, fu + 1, h, hk, hkm, _ => by
    have : k = m := by omega
    subst this
    simp only [eOf_L1, decide_eq_false (show ¬ (k : Int) < (k : Int) by omega), cond_false, ofEnd]
    by_cases hq : c + (sumV (leapV y) (k - 1) : Nat) > 1048575
    · rw [decide_eq_true hq, if_pos hq]; rfl
    · rw [decide_eq_false hq, if_neg hq]; rfl
  | n + 1, k, fu + 1, h, hk, hkm, hf => by
    have e : sumV (leapV y) (k - 1 + 1) = sumV (leapV y) (k - 1) + lenV (leapV y) (k - 1 + 1) := rfl
    rw [show k - 1 + 1 = k by omega] at e
    have b1 := sumV_bd (leapV y) (k - 1)
    have b2 := (lenV_bd (leapV y) k).2
    simp only [eOf_L1, decide_eq_true (show (k : Int) < (m : Int) by omega), cond_true, eLength_eq h1 h2 hk (show k ≤ 12 by omega), Option.bind_some]
    rw [wrap_of (by omega) (by omega), wrap_of (n := (k : Int) + 1) (by omega) (by omega)]
    have := eOf_loop h1 h2 h4 c hc n (k + 1) fu (by omega) (by omega) (by omega) (by omega)
    rw [Nat.add_sub_cancel, e] at this
    rw [← this]
    congr 1
    omega
def ofV (y : Int) (m : Nat) (d : Int) : Int × Int := if 1600 ≤ y ∧ y ≤ 4470 ∧ 1 ≤ m ∧ m ≤ 12 ∧ 1 ≤ d ∧ d ≤ (lenV (leapV y) m : Nat) then ofEnd (begV y + d - 1 + (sumV (leapV y) (m - 1) : Nat)) else (0, 2)
theorem dOf_eq {y : Int} {m : Nat} {d : Int} (hm : m ≤ 10000) : dOf_S y (m : Int) d = some (ofV y m d) := by
  simp only [dOf_S, dOf_F, ofV]
  by_cases hr : 1600 ≤ y ∧ y ≤ 4470 ∧ 1 ≤ m ∧ m ≤ 12
  · obtain ⟨h1, h2, h3, h4⟩ := hr
    rw [dLength_eq h1 h2 h3 h4, Option.bind_some]
    by_cases h5 : d < 1
    · rw [decide_eq_true h5, cond_true, if_neg (by omega)]
    · rw [decide_eq_false h5, cond_false]
      by_cases h6 : d > ((lenV (leapV y) m : Nat) : Int)
      · rw [decide_eq_true h6, cond_true, if_neg (by omega)]
      · rw [decide_eq_false h6, cond_false, dbegin_eq h1 (by omega), Option.bind_some, if_pos (by omega)]
        have b1 := begV_bd h1 (show y ≤ 10000 by omega)
        have b2 := lenV_bd (leapV y) m
        rw [wrap_of (n := begV y + d) (by omega) (by omega), wrap_of (by omega) (by omega)]
        have := dOf_loop (m := m) h1 h2 h4 (begV y + d - 1) (by omega) (m - 1) 1 2000 rfl (by omega) h3 (by omega)
        simpa [sumV] using this
  · rw [if_neg (fun h => hr ⟨h.1, h.2.1, h.2.2.1, h.2.2.2.1⟩), dLength_out (by omega), Option.bind_some]
    by_cases h5 : d < 1
    · rw [decide_eq_true h5]; rfl
    · rw [decide_eq_false h5, cond_false, decide_eq_true (show d > 0 by omega)]; rfl
theorem eOf_eq {y : Int} {m : Nat} {d : Int} (hm : m ≤ 10000) : eOf_S y (m : Int) d = some (ofV y m d) := by
  simp only [eOf_S, eOf_F, ofV]
  by_cases h5 : d < 1
  · rw [decide_eq_true h5, cond_true, if_neg (by omega)]
  · rw [decide_eq_false h5, cond_false]
    by_cases hr : 1600 ≤ y ∧ y ≤ 4470 ∧ 1 ≤ m ∧ m ≤ 12
    · obtain ⟨h1, h2, h3, h4⟩ := hr
      rw [eLength_eq h1 h2 h3 h4, Option.bind_some]
      by_cases h6 : d > ((lenV (leapV y) m : Nat) : Int)
      · rw [decide_eq_true h6, cond_true, if_neg (by omega)]
      · rw [decide_eq_false h6, cond_false, ebefore_eq h1 (by omega), Option.bind_some, if_pos (by omega)]
        have b1 := begV_bd h1 (show y ≤ 10000 by omega)
        have b2 := lenV_bd (leapV y) m
        rw [wrap_of (n := begV y + d) (by omega) (by omega), wrap_of (by omega) (by omega)]
        have := eOf_loop (m := m) h1 h2 h4 (begV y + d - 1) (by omega) (m - 1) 1 2000 rfl (by omega) h3 (by omega)
        simpa [sumV] using this
    · rw [if_neg (fun h => hr ⟨h.1, h.2.1, h.2.2.1, h.2.2.2.1⟩), eLength_out (by omega), Option.bind_some, decide_eq_true (show d > 0 by omega)]; rfl
theorem monGo_ge (b : Bool) : ∀ (n m d : Nat), m ≤ (monGo b n m d).1
  | 0, m, d => Nat.le_refl _
  | n + 1, m, d => by
    rw [monGo]
    split
    · exact Nat.le_refl _
    · have := monGo_ge b n (m + 1) (d - lenV b m); omega
theorem dDate_mon {y : Int} (h1 : 1600 ≤ y) (h2 : y ≤ 4470) : ∀ (n m d fu : Nat), 1 ≤ m → (monGo (leapV y) n m d).1 ≤ 12 → (monGo (leapV y) n m d).2 < lenV (leapV y) (monGo (leapV y) n m d).1 → n < fu → d ≤ 1000 →
    dDate_L2 y fu (d : Int) (m : Int) = some (y, ((monGo (leapV y) n m d).1 : Int), (((monGo (leapV y) n m d).2 + 1 : Nat) : Int), 0)
  | n, m, d, 0, _, _, _, h, _ => by omega
  | 0, m, d, fu + 1, hm, h12, hl, _, hd => by
    simp only [monGo] at h12 hl ⊢
    simp only [dDate_L2, dLength_eq h1 h2 hm h12, Option.bind_some, decide_eq_false (show ¬ (d : Int) ≥ ((lenV (leapV y) m : Nat) : Int) by omega), cond_false]
    rw [wrap_of (by omega) (by omega)]
    rfl
  | n + 1, m, d, fu + 1, hm, h12, hl, hf, hd => by
    have hmm : m ≤ 12 := Nat.le_trans (monGo_ge _ _ _ _) h12
    have hb := lenV_bd (leapV y) m
    rw [monGo] at h12 hl ⊢
    simp only [dDate_L2, dLength_eq h1 h2 hm hmm, Option.bind_some]
    by_cases hq : d < lenV (leapV y) m
    · rw [if_pos hq] at h12 hl ⊢
      rw [decide_eq_false (show ¬ (d : Int) ≥ ((lenV (leapV y) m : Nat) : Int) by omega), cond_false, wrap_of (by omega) (by omega)]
      rfl
    · rw [if_neg hq] at h12 hl ⊢
      rw [decide_eq_true (show (d : Int) ≥ ((lenV (leapV y) m : Nat) : Int) by omega), cond_true, wrap_of (by omega) (by omega), wrap_of (n := (m : Int) + 1) (by omega) (by omega)]
      have := dDate_mon h1 h2 n (m + 1) (d - lenV (leapV y) m) fu (by omega) h12 hl (by omega) (by omega)
      rw [← this]
      congr 1
      omega
theorem eDate_mon {y : Int} (h1 : 1600 ≤ y) (h2 : y ≤ 4470) : ∀ (n m d fu : Nat), 1 ≤ m → (monGo (leapV y) n m d).1 ≤ 12 → (monGo (leapV y) n m d).2 < lenV (leapV y) (monGo (leapV y) n m d).1 → n < fu → d ≤ 1000 →
    eDate_L2 y fu (d : Int) (m : Int) = some (y, ((monGo (leapV y) n m d).1 : Int), (((monGo (leapV y) n m d).2 + 1 : Nat) : Int), 0)
  | n, m, d, 0, _, _, _, h, _ => by omega
  | 0, m, d, fu + 1, hm, h12, hl, _, hd => by
    simp only [monGo] at h12 hl ⊢
    simp only [eDate_L2, eLength_eq h1 h2 hm h12, Option.bind_some, decide_eq_false (show ¬ (d : Int) ≥ ((lenV (leapV y) m : Nat) : Int) by omega), cond_false]
    rw [wrap_of (by omega) (by omega)]
    rfl
  | n + 1, m, d, fu + 1, hm, h12, hl, hf, hd => by
    have hmm : m ≤ 12 := Nat.le_trans (monGo_ge _ _ _ _) h12
    have hb := lenV_bd (leapV y) m
    rw [monGo] at h12 hl ⊢
    simp only [eDate_L2, eLength_eq h1 h2 hm hmm, Option.bind_some]
    by_cases hq : d < lenV (leapV y) m
    · rw [if_pos hq] at h12 hl ⊢
      rw [decide_eq_false (show ¬ (d : Int) ≥ ((lenV (leapV y) m : Nat) : Int) by omega), cond_false, wrap_of (by omega) (by omega)]
      rfl
    · rw [if_neg hq] at h12 hl ⊢
      rw [decide_eq_true (show (d : Int) ≥ ((lenV (leapV y) m : Nat) : Int) by omega), cond_true, wrap_of (by omega) (by omega), wrap_of (n := (m : Int) + 1) (by omega) (by omega)]
      have := eDate_mon h1 h2 n (m + 1) (d - lenV (leapV y) m) fu (by omega) h12 hl (by omega) (by omega)
      rw [← this]
      congr 1
      omega
def offV (d : Int) : Nat := (d - begV (yearV d)).toNat
def monV (d : Int) : Nat × Nat := monGo (leapV (yearV d)) 12 1 (offV d)
theorem offV_lt {d : Int} (h0 : 0 ≤ d) (h1 : d ≤ 1048575) : offV d < lenY (leapV (yearV d)) ∧ ((offV d : Nat) : Int) = d - begV (yearV d) := year_k (yearV_is h0 h1).1
theorem monV_spec {d : Int} (h0 : 0 ≤ d) (h1 : d ≤ 1048575) : 1 ≤ (monV d).1 ∧ (monV d).1 ≤ 12 ∧ (monV d).2 < lenV (leapV (yearV d)) (monV d).1 ∧ sumV (leapV (yearV d)) ((monV d).1 - 1) + (monV d).2 = offV d := go_all _ _ (offV_lt h0 h1).1
def dateV (d : Int) : Int × Int × Int × Int := (yearV d, ((monV d).1 : Int), (((monV d).2 + 1 : Nat) : Int), 0)
theorem dDate_tail {d : Int} (h0 : 0 ≤ d) (h1 : d ≤ 1048575) : (Option.bind (dbegin_S (yearV d)) fun y8 => dDate_L2 (yearV d) 4000 (IntKind.i64.wrap (d - y8)) 1) = some (dateV d) := by
  obtain ⟨yi, yl⟩ := yearV_is h0 h1
  have yh := year_hi yi h1
  obtain ⟨k1, k2⟩ := offV_lt h0 h1
  obtain ⟨m1, m2, m3, -⟩ := monV_spec h0 h1
  have hl : lenY (leapV (yearV d)) ≤ 366 := by unfold lenY; split <;> omega
  rw [dbegin_eq yl (by omega), Option.bind_some, ← k2, wrap_of (by omega) (by omega)]
  exact dDate_mon yl yh 12 1 (offV d) 4000 (by omega) m2 m3 (by omega) (by omega)
theorem eDate_tail {d : Int} (h0 : 0 ≤ d) (h1 : d ≤ 1048575) : (Option.bind (ebefore_S (yearV d)) fun y8 => eDate_L2 (yearV d) 4000 (IntKind.i64.wrap (d - y8)) 1) = some (dateV d) := by
  obtain ⟨yi, yl⟩ := yearV_is h0 h1
  have yh := year_hi yi h1
  obtain ⟨k1, k2⟩ := offV_lt h0 h1
  obtain ⟨m1, m2, m3, -⟩ := monV_spec h0 h1
  have hl : lenY (leapV (yearV d)) ≤ 366 := by unfold lenY; split <;> omega
  rw [ebefore_eq yl (by omega), Option.bind_some, ← k2, wrap_of (by omega) (by omega)]
  exact eDate_mon yl yh 12 1 (offV d) 4000 (by omega) m2 m3 (by omega) (by omega)
theorem dDate_years {d : Int} (h0 : 0 ≤ d) (h1 : d ≤ 1048575) : ∀ (n fu : Nat) (y : Int), 1600 ≤ y → begV y ≤ d → (4471 - y).toNat ≤ n → n < fu → dDate_L1 d 4000 fu y = some (dateV d)
  | n, 0, _, _, _, _, h => by omega
  | n, fu + 1, y, hy, hb, hn, hf => by
    have hy2 : y ≤ 4470 := by
      refine Int.not_lt.1 fun hl => ?_
      have := begV_mono (show 4471 ≤ y by omega); have := begV_hi; omega
    simp only [dDate_L1]
    rw [wrap_of (by omega) (by omega), dbegin_eq (by omega) (by omega), Option.bind_some]
    by_cases hq : begV (y + 1) ≤ d
    · rw [decide_eq_true hq, cond_true]
      match n, hn, hf with
      | 0, hn, _ => omega
      | n + 1, hn, hf => exact dDate_years h0 h1 n fu (y + 1) (by omega) hq (by omega) (by omega)
    · rw [decide_eq_false hq, cond_false]
      have : y = yearV d := year_uniq ⟨hb, by omega⟩ (yearV_is h0 h1).1
      rw [this]
      exact dDate_tail h0 h1
theorem eDate_years {d : Int} (h0 : 0 ≤ d) (h1 : d ≤ 1048575) : ∀ (n fu : Nat) (y : Int), 1600 ≤ y → begV y ≤ d → (4471 - y).toNat ≤ n → n < fu → eDate_L1 d 4000 fu y = some (dateV d)
  | n, 0, _, _, _, _, h => by omega
  | n, fu + 1, y, hy, hb, hn, hf => by
    have hy2 : y ≤ 4470 := by
      refine Int.not_lt.1 fun hl => ?_
      have := begV_mono (show 4471 ≤ y by omega); have := begV_hi; omega
    simp only [eDate_L1]
    rw [wrap_of (by omega) (by omega), ebefore_eq (by omega) (by omega), Option.bind_some]
    by_cases hq : begV (y + 1) ≤ d
    · rw [decide_eq_true hq, cond_true]
      match n, hn, hf with
      | 0, hn, _ => omega
      | n + 1, hn, hf => exact eDate_years h0 h1 n fu (y + 1) (by omega) hq (by omega) (by omega)
    · rw [decide_eq_false hq, cond_false]
      have : y = yearV d := year_uniq ⟨hb, by omega⟩ (yearV_is h0 h1).1
      rw [this]
      exact eDate_tail h0 h1
def goodD (d : Int) : Bool := decide (0 ≤ d) && decide (d ≤ 1048575)
theorem goodD_iff {d : Int} : goodD d = true ↔ 0 ≤ d ∧ d ≤ 1048575 := by simp [goodD]
theorem dis_eq (d : Int) : dis_S d = some (goodD d) := by
  simp only [dis_S, dis_F, goodD, ge_iff_le]
  cases decide (0 ≤ d) <;> rfl
theorem eGood_eq (d : Int) : eGood_S d = some (goodD d) := by
  simp only [eGood_S, eGood_F, goodD, ge_iff_le]
  cases decide (0 ≤ d) <;> rfl
theorem dDate_eq (d : Int) : dDate_S d = some (if goodD d = true then dateV d else (0, 0, 0, 2)) := by
  simp only [dDate_S, dDate_F, dis_eq, Option.bind_some]
  cases hg : goodD d with
  | false => rw [Bool.not_false, cond_true, if_neg (by decide)]
  | true =>
    obtain ⟨h0, h1⟩ := goodD_iff.1 hg
    rw [Bool.not_true, cond_false, if_pos rfl]
    have hb := begV_lo4 h0
    simp (disch := omega) only [tmod_of, tdiv_of]
    simp (disch := omega) only [wrap_of]
    exact dDate_years h0 h1 2871 4000 _ (by omega) hb (by omega) (by omega)
theorem eDate_eq (d : Int) : eDate_S d = some (if goodD d = true then dateV d else (0, 0, 0, 2)) := by
  simp only [eDate_S, eDate_F, eGood_eq, Option.bind_some]
  cases hg : goodD d with
  | false => rw [Bool.not_false, cond_true, if_neg (by decide)]
  | true =>
    obtain ⟨h0, h1⟩ := goodD_iff.1 hg
    rw [Bool.not_true, cond_false, if_pos rfl]
    have hb := begV_lo h0
    simp (disch := omega) only [tmod_of, tdiv_of]
    simp (disch := omega) only [wrap_of]
    exact eDate_years h0 h1 2871 4000 _ (by omega) hb (by omega) (by omega)
end Go.Proofs.YtjoacimgcepjdaaGreatDoor
