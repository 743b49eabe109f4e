/- Parse as it is specified. -/
import Derived.Test.YtmdhahfminiilaaDoorL50E
set_option linter.unusedSimpArgs false
set_option linter.unusedVariables false
namespace Go.Proofs.YtmdhahfminiilaaDoor
open Go Go.Abs
theorem wrap10 {n : Nat} (h : n ≤ 1000000000000) : IntKind.i64.wrap (10 * (n : Int)) = ((10 * n : Nat) : Int) := by rw [wrap_id (by unfold okI; omega)]; omega
theorem num_step {s : Str} (hs : s.length ≤ 1000) {m fu n i : Nat} (hi : i < s.length) (hd : d0 s[i] = true) (hn : n ≤ 1073741824) :
    rnumber_L1 s (m : Int) (fu + 1) (n : Int) (i : Int) = if n * 10 + (s[i].toNat - 48) = 0 then some (0, 0) else if n * 10 + (s[i].toNat - 48) > m then some (0, 0) else rnumber_L1 s (m : Int) fu ((n * 10 + (s[i].toNat - 48) : Nat) : Int) ((i + 1 : Nat) : Int) := by
  obtain ⟨h1, h2⟩ := d0_iff.1 hd
  have hw : IntKind.u8.wrap (((s[i].toNat : Nat) : Int) - 48) = ((s[i].toNat - 48 : Nat) : Int) := by rw [u8w (by omega) (by omega)]; omega
  have hw2 : IntKind.i64.wrap ((s[i].toNat - 48 : Nat) : Int) = ((s[i].toNat - 48 : Nat) : Int) := wrap_id (by unfold okI; omega)
  have hsum : IntKind.i64.wrap (((10 * n : Nat) : Int) + ((s[i].toNat - 48 : Nat) : Int)) = ((n * 10 + (s[i].toNat - 48) : Nat) : Int) := by rw [wrap_id (by unfold okI; omega)]; omega
  simp only [rnumber_L1, decide_eq_true (show (i : Int) < (s.length : Int) by omega), cond_true, ix_at hi, Option.bind_some, decide_eq_true (show ((s[i].toNat : Nat) : Int) ≥ 48 by omega), decide_eq_true (show ((s[i].toNat : Nat) : Int) ≤ 57 by omega), hw, hw2, wrap10 (show n ≤ 1000000000000 by omega), hsum, wrap_succ (n := s.length) (by omega) hi]
  by_cases h0 : n * 10 + (s[i].toNat - 48) = 0
  · rw [if_pos h0, h0]; rfl
  · rw [if_neg h0, show (((n * 10 + (s[i].toNat - 48) : Nat) : Int) == 0) = false by rw [beq_eq_false_iff_ne]; omega, cond_false]
    by_cases hm : n * 10 + (s[i].toNat - 48) > m
    · rw [if_pos hm, decide_eq_true (by omega), cond_true]
    · rw [if_neg hm, decide_eq_false (by omega), cond_false]
theorem num_stop {s : Str} {m : Int} {fu i : Nat} {n : Int} (hi : i < s.length) (hd : d0 s[i] = false) : rnumber_L1 s m (fu + 1) n (i : Int) = some (n, (i : Int)) := by
  have hnot : ¬ (48 ≤ s[i].toNat ∧ s[i].toNat ≤ 57) := fun h => by rw [d0_iff.2 h] at hd; cases hd
  simp only [rnumber_L1, decide_eq_true (show (i : Int) < (s.length : Int) by omega), cond_true, ix_at hi, Option.bind_some]
  by_cases h1 : 48 ≤ s[i].toNat
  · rw [decide_eq_true (show ((s[i].toNat : Nat) : Int) ≥ 48 by omega), cond_true, decide_eq_false (show ¬ ((s[i].toNat : Nat) : Int) ≤ 57 by omega), cond_false]
  · rw [decide_eq_false (show ¬ ((s[i].toNat : Nat) : Int) ≥ 48 by omega), cond_false]
theorem num_end {s : Str} {m : Int} {fu : Nat} {n : Int} : rnumber_L1 s m (fu + 1) n (s.length : Int) = some (n, (s.length : Int)) := by
  simp only [rnumber_L1, decide_eq_false (show ¬ (s.length : Int) < (s.length : Int) by omega), cond_false]
/-- The digits at the beginning, and what follows. -/
def pre (s : Str) : Str := s.takeWhile d0
def post (s : Str) : Str := s.dropWhile d0
theorem pre_post (s : Str) : pre s ++ post s = s := List.takeWhile_append_dropWhile
theorem num_rest {s : Str} (hs : s.length ≤ 1000) {m : Nat} (hm : m ≤ 1073741824) : ∀ (k i fu n : Nat), s.length - i = k → i ≤ s.length → k < fu → 1 ≤ n → n ≤ m →
    rnumber_L1 s (m : Int) fu (n : Int) (i : Int) = if valA n (pre (s.drop i)) ≤ m then some (((valA n (pre (s.drop i)) : Nat) : Int), ((i + (pre (s.drop i)).length : Nat) : Int)) else some (0, 0)
  | k, i, 0, n, _, _, h, _, _ => by omega
  | 0, i, fu + 1, n, h, hi, _, h1, h2 => by
    have : i = s.length := by omega
    subst this
    rw [num_end, List.drop_length, show pre ([] : Str) = [] from rfl, valA_nil, if_pos h2]; rfl
  | k + 1, i, fu + 1, n, h, _, hf, h1, h2 => by
    have hi : i < s.length := by omega
    rw [List.drop_eq_getElem_cons hi]
    cases hd : d0 s[i] with
    | false =>
      have : pre (s[i] :: s.drop (i + 1)) = [] := by unfold pre; rw [List.takeWhile_cons, hd]; rfl
      rw [num_stop hi hd, this, valA_nil, if_pos h2]; rfl
    | true =>
      have hp : pre (s[i] :: s.drop (i + 1)) = s[i] :: pre (s.drop (i + 1)) := by unfold pre; rw [List.takeWhile_cons, hd]; rfl
      rw [num_step hs hi hd (by omega), if_neg (by omega), hp, valA_cons]
      have hmono := valA_mono (pre (s.drop (i + 1))) (n * 10 + (s[i].toNat - 48))
      by_cases hc : n * 10 + (s[i].toNat - 48) > m
      · rw [if_pos hc, if_neg (by omega)]
      · rw [if_neg hc, num_rest hs hm k (i + 1) fu _ (by omega) (by omega) (by omega) (by omega) (by omega), List.length_cons, show i + 1 + (pre (s.drop (i + 1))).length = i + ((pre (s.drop (i + 1))).length + 1) by omega]
theorem number_eq {s : Str} (hs : s.length ≤ 1000) {m : Nat} (hm : m ≤ 1073741824) (h1m : 9 ≤ m) :
    rnumber_S s (m : Int) = if okN (pre s) m = true then some (((valS (pre s) : Nat) : Int), (((pre s).length : Nat) : Int)) else some (0, 0) := by
  show rnumber_L1 s (m : Int) 2000 ((0 : Nat) : Int) ((0 : Nat) : Int) = _
  cases s with
  | nil =>
    have : okN (pre []) m = false := rfl
    rw [this, if_neg (by simp)]
    exact num_end (s := []) (fu := 1999)
  | cons c r =>
    have hi : 0 < (c :: r).length := by simp
    cases hd : d0 c with
    | false =>
      have : pre (c :: r) = [] := by unfold pre; rw [List.takeWhile_cons, hd]; rfl
      rw [this, show okN [] m = false from rfl, if_neg (by simp)]
      exact num_stop (s := c :: r) (fu := 1999) (i := 0) hi hd
    | true =>
      obtain ⟨q1, q2⟩ := d0_iff.1 hd
      have hp : pre (c :: r) = c :: pre r := by unfold pre; rw [List.takeWhile_cons, hd]; rfl
      have hall : (pre (c :: r)).all d0 = true := by
        rw [List.all_eq_true]
        intro x hx
        have := List.all_takeWhile (p := d0) (l := c :: r)
        exact List.all_eq_true.1 this x hx
      have hcan : canon (pre (c :: r)) = (c != 48) := by
        unfold canon
        rw [hall, Bool.true_and, hp]
      rw [num_step (s := c :: r) hs (fu := 1999) (n := 0) (i := 0) hi hd (by omega)]
      show (if 0 * 10 + (c.toNat - 48) = 0 then _ else _) = _
      by_cases h0 : 0 * 10 + (c.toNat - 48) = 0
      · have hc : c = 48 := by rw [← ofNat_eq (show 48 = c.toNat by omega)]; rfl
        have : okN (pre (c :: r)) m = false := by unfold okN; rw [hcan, hc]; rfl
        rw [if_pos h0, this, if_neg (by simp)]
      · have hc : (c != 48) = true := by rw [bne_iff_ne]; rintro rfl; exact h0 rfl
        show (if 0 * 10 + (c.toNat - 48) = 0 then _ else if 0 * 10 + (c.toNat - 48) > m then _ else rnumber_L1 (c :: r) (m : Int) 1999 ((0 * 10 + (c.toNat - 48) : Nat) : Int) ((0 + 1 : Nat) : Int)) = _
        rw [if_neg h0, if_neg (by omega), num_rest hs hm r.length 1 1999 _ (by simp) (by simp) (by simp at hs; omega) (by omega) (by omega)]
        have hv : valS (pre (c :: r)) = valA (0 * 10 + (c.toNat - 48)) (pre r) := by rw [hp]; unfold valS; rw [valA_cons]
        simp only [List.drop_succ_cons, List.drop_zero]
        unfold okN
        rw [hcan, hc, Bool.true_and, hv, hp, List.length_cons, Nat.add_comm 1]
        by_cases hle : valA (0 * 10 + (c.toNat - 48)) (pre r) ≤ m
        · rw [if_pos hle, if_pos (decide_eq_true hle)]
        · rw [if_neg hle, if_neg (by simpa using hle)]
end Go.Proofs.YtmdhahfminiilaaDoor
