/- Check digits; Format. -/
import Derived.Test.YtmdhahfminiilaaDoorL50C
set_option linter.unusedSimpArgs false
set_option linter.unusedVariables false
namespace Go.Proofs.YtmdhahfminiilaaDoor
open Go Go.Abs
theorem dec_len : ∀ (k u : Nat), 1 ≤ k → u < 10 ^ k → (Lib.decDigits u).length ≤ k
  | 0, _, h, _ => by omega
  | k + 1, u, _, h => by
    by_cases hu : u < 10
    · rw [dec_small hu, List.length_singleton]; omega
    · rw [dec_big hu, List.length_append, List.length_singleton]
      have hk : 1 ≤ k := by
        rcases Nat.eq_zero_or_pos k with rfl | h'
        · simp at h; omega
        · exact h'
      have := dec_len k (u / 10) hk (by rw [Nat.pow_succ] at h; omega)
      omega
theorem dec_two {v : Nat} (h : ¬ v < 10) (h2 : v < 100) : Lib.decDigits v = [UInt8.ofNat (48 + v / 10), UInt8.ofNat (48 + v % 10)] := by
  rw [dec_big h, dec_small (by omega)]; rfl
/-- The number whose rest gives the check digits. -/
def chkN (u v : Nat) : Nat := if v < 10 then 10 * u + v else 100 * u + v
def chkC (u v : Nat) : Nat := 98 - (100 * chkN u v) % 97
def chk (u v : Nat) : Str := [UInt8.ofNat (48 + chkC u v / 10), UInt8.ofNat (48 + chkC u v % 10)]
def okUV (u v : Nat) : Prop := 1 ≤ u ∧ u ≤ 1073741824 ∧ 1 ≤ v ∧ v ≤ 64
theorem chkC_b (u v : Nat) : 2 ≤ chkC u v ∧ chkC u v ≤ 98 := by unfold chkC; omega
theorem canon_all {s : Str} (h : canon s = true) : s.all d0 = true := by
  unfold canon at h; rw [Bool.and_eq_true] at h; exact h.1
theorem num_both {u v : Nat} (h : okUV u v) : valS (Lib.decDigits u ++ Lib.decDigits v) = chkN u v := by
  obtain ⟨h1, h2, h3, h4⟩ := h
  have hu := (dec_spec u h1).2
  have hv := (dec_spec v h3).2
  unfold valS at hu hv ⊢
  rw [valA_app, hu, valA_pow, hv, chkN]
  by_cases hs : v < 10
  · rw [if_pos hs, dec_small hs, List.length_singleton, Nat.pow_one]; omega
  · rw [if_neg hs, dec_two hs (by omega), List.length_cons, List.length_singleton]; omega
theorem chkN_b {u v : Nat} (h : okUV u v) : chkN u v ≤ 107374182464 := by
  obtain ⟨h1, h2, h3, h4⟩ := h
  unfold chkN; split <;> omega
theorem tmod_nat (a b : Nat) : Int.tmod (a : Int) (b : Int) = ((a % b : Nat) : Int) := rfl
theorem tdiv_nat (a b : Nat) : Int.tdiv (a : Int) (b : Int) = ((a / b : Nat) : Int) := rfl
theorem rest_eq {u v : Nat} (h : okUV u v) : IntKind.i64.wrap (98 - Int.tmod (IntKind.i64.wrap (100 * ((chkN u v : Nat) : Int))) 97) = ((chkC u v : Nat) : Int) := by
  have hb := chkN_b h
  rw [wrap_id (n := 100 * ((chkN u v : Nat) : Int)) (by unfold okI; omega), show (100 * ((chkN u v : Nat) : Int)) = ((100 * chkN u v : Nat) : Int) by omega, show (97 : Int) = ((97 : Nat) : Int) from rfl, tmod_nat, wrap_id (by unfold okI; omega)]
  unfold chkC; omega
theorem pcheck_eq {u v : Nat} (h : okUV u v) : pcheck_S (u : Int) (v : Int) = some (chk u v) := by
  have hb := chkN_b h
  have hc := chkC_b u v
  have h' := h
  obtain ⟨h1, h2, h3, h4⟩ := h'
  have lu := dec_len 10 u (by omega) (by omega)
  have lv := dec_len 2 v (by omega) (by omega)
  have hall : (Lib.decDigits u ++ Lib.decDigits v).all d0 = true := by
    rw [List.all_append, canon_all (dec_spec u h1).1, canon_all (dec_spec v h3).1]; rfl
  have hne : Lib.decDigits u ++ Lib.decDigits v ≠ [] := by
    intro e
    have := (dec_spec u h1).1
    rw [List.append_eq_nil_iff] at e
    rw [e.1] at this; simp [canon] at this
  simp only [pcheck_S, pcheck_F, itoa_eq (show u ≤ 9223372036854775807 by omega), itoa_eq (show v ≤ 9223372036854775807 by omega), Option.bind_some]
  rw [decide_eq_true (by omega), cond_true, atoi_eq (by rw [List.length_append]; omega) hne hall (by rw [num_both h]; omega), Option.bind_some]
  simp only [num_both h, rest_eq h]
  rw [show (10 : Int) = ((10 : Nat) : Int) from rfl, tdiv_nat, tmod_nat, wrap_id (n := ((chkC u v / 10 : Nat) : Int)) (by unfold okI; omega), wrap_id (n := 48 + ((chkC u v / 10 : Nat) : Int)) (by unfold okI; omega), wrap_id (n := 48 + ((chkC u v % 10 : Nat) : Int)) (by unfold okI; omega), u8w (by omega) (by omega), u8w (by omega) (by omega)]
  unfold chk b2s
  simp only [List.map_cons, List.map_nil]
  rw [show (48 + ((chkC u v / 10 : Nat) : Int)).toNat = 48 + chkC u v / 10 by omega, show (48 + ((chkC u v % 10 : Nat) : Int)).toNat = 48 + chkC u v % 10 by omega]
theorem rdigits_eq {u v : Nat} (h : okUV u v) : rdigits_S (u : Int) (v : Int) = some (chk u v) := by
  have hb := chkN_b h
  have hc := chkC_b u v
  have h' := h
  obtain ⟨h1, h2, h3, h4⟩ := h'
  have hend : (bif decide (((chkC u v : Nat) : Int) < 10) then (Option.bind (itoa_S ((chkC u v : Nat) : Int)) fun y3 => bif decide (([48] : Str).length + y3.length ≤ 9223372036854775807) then some ((([48] : Str) ++ y3)) else none) else (Option.bind (itoa_S ((chkC u v : Nat) : Int)) fun y6 => some (y6))) = some (chk u v) := by
    rw [itoa_eq (by omega), Option.bind_some, Option.bind_some]
    by_cases hs : chkC u v < 10
    · rw [decide_eq_true (by omega), cond_true, dec_small hs, decide_eq_true (by simp), cond_true]
      unfold chk
      rw [show chkC u v / 10 = 0 by omega, show chkC u v % 10 = chkC u v by omega]; rfl
    · rw [decide_eq_false (by omega), cond_false, dec_two hs (by omega)]; rfl
  simp only [rdigits_S, rdigits_F]
  by_cases hv : v < 10
  · have e1 : IntKind.i64.wrap (IntKind.i64.wrap (10 * (u : Int)) + (v : Int)) = ((chkN u v : Nat) : Int) := by
      rw [wrap_id (n := 10 * (u : Int)) (by unfold okI; omega), wrap_id (by unfold okI; omega), chkN, if_pos hv]; omega
    rw [decide_eq_false (show ¬ (v : Int) ≥ 10 by omega), cond_false, e1, rest_eq h]
    exact hend
  · have e1 : IntKind.i64.wrap (IntKind.i64.wrap (10 * IntKind.i64.wrap (10 * (u : Int))) + (v : Int)) = ((chkN u v : Nat) : Int) := by
      rw [wrap_id (n := 10 * (u : Int)) (by unfold okI; omega), wrap_id (n := 10 * (10 * (u : Int))) (by unfold okI; omega), wrap_id (by unfold okI; omega), chkN, if_neg hv]; omega
    rw [decide_eq_true (show (v : Int) ≥ 10 by omega), cond_true, e1, rest_eq h]
    exact hend
def ranged (u v : Int) : Bool := decide (1 ≤ u) && decide (u ≤ 1073741824) && decide (1 ≤ v) && decide (v ≤ 64)
theorem pranged_eq (u v : Int) : pranged_S u v = some (ranged u v) := by
  simp only [pranged_S, pranged_F, ranged, ge_iff_le]
  cases decide (1 ≤ u) <;> cases decide (u ≤ 1073741824) <;> cases decide (1 ≤ v) <;> rfl
theorem rranged_eq (u v : Int) : rranged_S u v = some (ranged u v) := pranged_eq u v
theorem ranged_nat {u v : Int} (h : ranged u v = true) : ∃ a b : Nat, u = a ∧ v = b ∧ okUV a b := by
  simp only [ranged, Bool.and_eq_true, decide_eq_true_eq] at h
  exact ⟨u.toNat, v.toNat, by omega, by omega, by omega, by omega, by omega, by omega⟩
def fmtUV (u v : Nat) : Str := Lib.decDigits u ++ [45] ++ Lib.decDigits v ++ [45] ++ chk u v
theorem chk_len (u v : Nat) : (chk u v).length = 2 := rfl
theorem pFormat_nat {u v : Nat} (h : okUV u v) (hr : ranged (u : Int) (v : Int) = true) : pFormat_S (u : Int) (v : Int) = some (fmtUV u v, 0) := by
  have h' := h
  obtain ⟨h1, h2, h3, h4⟩ := h'
  have lu := dec_len 10 u (by omega) (by omega)
  have lv := dec_len 2 v (by omega) (by omega)
  have lc := chk_len u v
  simp only [pFormat_S, pFormat_F, pranged_eq, hr, Option.bind_some, Bool.not_true, cond_false, itoa_eq (show u ≤ 9223372036854775807 by omega), itoa_eq (show v ≤ 9223372036854775807 by omega), pcheck_eq h, List.length_append, List.length_singleton]
  rw [decide_eq_true (by omega), cond_true, decide_eq_true (by omega), cond_true, decide_eq_true (by omega), cond_true, decide_eq_true (by omega), cond_true]
  rfl
theorem rFormat_nat {u v : Nat} (h : okUV u v) (hr : ranged (u : Int) (v : Int) = true) : rFormat_S (u : Int) (v : Int) = some (fmtUV u v, 0) := by
  have h' := h
  obtain ⟨h1, h2, h3, h4⟩ := h'
  have lu := dec_len 10 u (by omega) (by omega)
  have lv := dec_len 2 v (by omega) (by omega)
  have lc := chk_len u v
  simp only [rFormat_S, rFormat_F, rranged_eq, hr, Option.bind_some, Bool.not_true, cond_false, itoa_eq (show u ≤ 9223372036854775807 by omega), itoa_eq (show v ≤ 9223372036854775807 by omega), rdigits_eq h, List.length_append, List.length_singleton]
  rw [decide_eq_true (by omega), cond_true, decide_eq_true (by omega), cond_true, decide_eq_true (by omega), cond_true, decide_eq_true (by omega), cond_true]
  rfl
theorem format_no {u v : Int} (hr : ranged u v = false) : pFormat_S u v = some ([], 2) ∧ rFormat_S u v = some ([], 2) := by
  simp only [pFormat_S, pFormat_F, rFormat_S, rFormat_F, pranged_eq, rranged_eq, hr, Option.bind_some, Bool.not_false, cond_true, and_self]
end Go.Proofs.YtmdhahfminiilaaDoor
