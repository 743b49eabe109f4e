/- Natural, continued: the parts of a string, and the order as a whole. -/
import Derived.Test.YtihjmnhamaicpaaGreatDoorLNat
set_option linter.unusedVariables false
set_option linter.unusedSimpArgs false
namespace Go.Proofs.YtihjmnhamaicpaaGreatDoor
open Go Go.Abs
def runD : Str → Nat
  | [] => 0
  | c :: r => if d0 c = true then runD r + 1 else 0
def runL : Str → Nat
  | [] => 0
  | c :: r => if d0 c = true then runD r + 1 else 1
def partsN : Nat → Str → List Str
  | 0, _ => []
  | _ + 1, [] => []
  | n + 1, c :: r => (c :: r).take (runL (c :: r)) :: partsN n ((c :: r).drop (runL (c :: r)))
def partsF (s : Str) : List Str := partsN s.length s
theorem runD_le : ∀ s : Str, runD s ≤ s.length
  | [] => Nat.le_refl _
  | c :: r => by
    have := runD_le r
    rw [runD]; split <;> simp <;> omega
theorem runD_in : ∀ {s : Str} {i : Nat} (h : i < runD s) (hl : i < s.length), d0 s[i] = true
  | [], i, h, _ => by simp [runD] at h
  | c :: r, i, h, hl => by
    rw [runD] at h
    split at h
    · rename_i hc
      cases i with
      | zero => exact hc
      | succ i => exact runD_in (s := r) (by omega) (by simpa using hl)
    · omega
theorem runD_out : ∀ {s : Str} (hl : runD s < s.length), d0 s[runD s] = false
  | [], hl => by simp at hl
  | c :: r, hl => by
    by_cases hc : d0 c = true
    · have e : runD (c :: r) = runD r + 1 := by rw [runD, if_pos hc]
      have hl' : runD r < r.length := by rw [e] at hl; simpa using hl
      have := runD_out (s := r) hl'
      simp only [e, List.getElem_cons_succ]
      exact this
    · have e : runD (c :: r) = 0 := by rw [runD, if_neg hc]
      simp only [e, List.getElem_cons_zero]
      simpa using hc
theorem runL_pos {s : Str} (h : s ≠ []) : 1 ≤ runL s ∧ runL s ≤ s.length := by
  cases s with
  | nil => exact absurd rfl h
  | cons c r =>
    have := runD_le r
    show 1 ≤ (if d0 c = true then runD r + 1 else 1) ∧ (if d0 c = true then runD r + 1 else 1) ≤ (c :: r).length
    rw [List.length_cons]
    split <;> constructor <;> omega
theorem R0_eq {o : List Str} (h : o.length ≤ 1000) (a : Str) : slAppendSeq_R0_XS o a = some (o ++ [a]) := by
  simp only [slAppendSeq_R0_XS, slAppendSeq_R0_F]
  rw [decide_eq_true (show o.length + ([a] : List Str).length ≤ 4294967296 by simp; omega)]; rfl
theorem slc_all {s : Str} {n : Nat} (h : n ≤ s.length) : slc s (n : Int) (s.length : Int) = some (s.drop n) := by
  rw [slc_cut h (Nat.le_refl _), List.take_of_length_le (by simp)]
theorem slc_zero {s : Str} {n : Nat} (h : n ≤ s.length) : slc s 0 (n : Int) = some (s.take n) := by
  have := slc_cut (s := s) (v := 0) (i := n) (by omega) h
  simpa using this
theorem parts_L2 {c : UInt8} {r : Str} {o : List Str} (ho : o.length ≤ 1000) (hs : (c :: r).length ≤ 900) {k : Str → List Str → Option (List Str × Str)} :
    ∀ (m n fu : Nat), runL (c :: r) - n = m → 1 ≤ n → n ≤ runL (c :: r) → m < fu → pparts_1_L2 (c :: r) o k fu (n : Int) = k ((c :: r).drop (runL (c :: r))) (o ++ [(c :: r).take (runL (c :: r))])
  | m, n, 0, _, _, _, h => by omega
  | m, n, fu + 1, hm, h1, h2, hf => by
    have hlen := (runL_pos (s := c :: r) (by simp)).2
    have e0 : ix (c :: r) 0 = some c := rfl
    simp only [pparts_1_L2, e0, Option.bind_some, pdigit_eq]
    cases hc : d0 c with
    | false =>
      have hr : runL (c :: r) = 1 := by show (if d0 c = true then runD r + 1 else 1) = 1; rw [hc]; rfl
      have hn : n = 1 := by omega
      subst hn
      rw [cond_false, slc_zero (n := 1) (by omega), Option.bind_some, R0_eq ho, Option.bind_some, slc_all (n := 1) (by omega), Option.bind_some, hr]
    | true =>
      have hr : runL (c :: r) = runD r + 1 := by show (if d0 c = true then runD r + 1 else 1) = _; rw [hc]; rfl
      rw [cond_true]
      by_cases hlt : n < (c :: r).length
      · rw [decide_eq_true (show (n : Int) < ((c :: r).length : Int) by omega), cond_true, ix_at hlt]
        simp only [Option.bind_some, pdigit_eq]
        have hg : (c :: r)[n] = r[n - 1]'(by simp at hlt; omega) := by
          obtain ⟨q, rfl⟩ : ∃ q, n = q + 1 := ⟨n - 1, by omega⟩
          simp
        by_cases hin : n < runL (c :: r)
        · rw [hg, runD_in (s := r) (i := n - 1) (by omega) (by simp at hlt; omega), cond_true]
          have hw : IntKind.i64.wrap ((n : Int) + 1) = ((n + 1 : Nat) : Int) := wrap_succ (n := (c :: r).length) (by omega) hlt
          rw [hw]
          exact parts_L2 ho hs (m - 1) (n + 1) fu (by omega) (by omega) (by omega) (by omega)
        · have hn : n = runD r + 1 := by omega
          subst hn
          have hout : d0 ((c :: r)[runD r + 1]) = false := by
            have := runD_out (s := r) (by simp at hlt; omega)
            simpa using this
          rw [hout, cond_false, slc_zero (by omega), Option.bind_some, R0_eq ho, Option.bind_some, slc_all (by omega), Option.bind_some, hr]
      · have hn : n = runL (c :: r) := by omega
        rw [decide_eq_false (show ¬ (n : Int) < ((c :: r).length : Int) by omega), cond_false, slc_zero (by omega), Option.bind_some, R0_eq ho, Option.bind_some, slc_all (by omega), Option.bind_some, hn]
theorem partsN_two : ∀ (k j : Nat) (t : Str), t.length ≤ k → t.length ≤ j → partsN k t = partsN j t
  | 0, j, t, h, _ => by
    have : t = [] := List.length_eq_zero_iff.1 (Nat.le_zero.1 h)
    subst this
    cases j <;> rfl
  | k + 1, 0, t, _, h => by
    have : t = [] := List.length_eq_zero_iff.1 (Nat.le_zero.1 h)
    subst this
    rfl
  | k + 1, j + 1, t, h1, h2 => by
    cases t with
    | nil => rfl
    | cons a b =>
      have hp := (runL_pos (s := a :: b) (by simp)).1
      rw [partsN, partsN, partsN_two k j _ (by simp only [List.length_drop]; omega) (by simp only [List.length_drop]; omega)]
theorem partsN_fuel (k : Nat) (t : Str) (h : t.length ≤ k) : partsN k t = partsN t.length t := partsN_two k _ t h (Nat.le_refl _)
theorem parts_L1 : ∀ (n fu : Nat) (s : Str) (o : List Str), s.length = n → n < fu → s.length + o.length ≤ 900 → pparts_1_L1 1000 fu s o = some (o ++ partsN n s, [])
  | n, 0, _, _, _, h, _ => by omega
  | n, fu + 1, s, o, hn, hf, hl => by
    cases s with
    | nil =>
      subst hn
      simp only [pparts_1_L1]
      show some (o, ([] : Str)) = some (o ++ [], [])
      rw [List.append_nil]
    | cons c r =>
      simp only [pparts_1_L1]
      have e : (c :: r == ([] : Str)) = false := rfl
      obtain ⟨p1, p2⟩ := runL_pos (s := c :: r) (by simp)
      rw [e, Bool.not_false, cond_true, show (1 : Int) = ((1 : Nat) : Int) from rfl, parts_L2 (by omega) (by omega) (runL (c :: r) - 1) 1 1000 rfl (by omega) p1 (by omega)]
      obtain ⟨m, rfl⟩ : ∃ m, n = m + 1 := ⟨n - 1, by simp at hn; omega⟩
      rw [partsN]
      have hd : ((c :: r).drop (runL (c :: r))).length < m + 1 := by simp only [List.length_drop]; omega
      rw [parts_L1 _ fu _ _ rfl (by omega) (by simp only [List.length_drop, List.length_append, List.length_singleton]; omega)]
      rw [List.append_assoc]
      rw [partsN_fuel m _ (by omega)]
      rfl
end Go.Proofs.YtihjmnhamaicpaaGreatDoor
