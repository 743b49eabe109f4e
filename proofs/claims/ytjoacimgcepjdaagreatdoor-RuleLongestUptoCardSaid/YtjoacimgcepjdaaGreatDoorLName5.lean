/- Name, as the program has it and as it is specified. -/
import Derived.Test.YtjoacimgcepjdaaGreatDoorLGen
import Derived.Lib.IndexMore
set_option linter.unusedVariables false
set_option linter.unusedSimpArgs false
namespace Go.Proofs.YtjoacimgcepjdaaGreatDoor
open Go Go.Abs
def pr1 (c : UInt8) : Bool := decide (32 ≤ c.toNat) && decide (c.toNat ≤ 126)
/-- Printable, and no two blanks side by side. -/
def chkN : Option UInt8 → Str → Bool
  | _, [] => true
  | p, c :: r => pr1 c && !(c == 32 && p == some 32) && chkN (some c) r
def prevC (s : Str) : Nat → Option UInt8
  | 0 => none
  | j + 1 => s[j]?
theorem c32 (c : UInt8) : ((c.toNat : Int) == 32) = (c == 32) := by
  by_cases h : c = 32
  · subst h; rfl
  · rw [beq_eq_false_iff_ne.2 h, beq_eq_false_iff_ne]
    intro e
    exact h (UInt8.toNat_inj.1 (by show c.toNat = 32; omega))
theorem rName_loop {s : Str} (h : s.length ≤ 1000) : ∀ (n i fu : Nat), s.length - i = n → i ≤ s.length → n < fu → rName_L1 s fu (i : Int) = some (chkN (prevC s i) (s.drop i))
  | n, i, 0, _, _, h => by omega
  | 0, i, fu + 1, h1, hi, _ => by
    have : i = s.length := by omega
    subst this
    simp only [rName_L1, decide_eq_false (show ¬ (s.length : Int) < (s.length : Int) by omega), cond_false, List.drop_length, chkN]
  | n + 1, i, fu + 1, h1, _, hf => by
    have hi : i < s.length := by omega
    have ih := rName_loop h n (i + 1) fu (by omega) (by omega) (by omega)
    have hp : prevC s (i + 1) = some s[i] := by rw [prevC, List.getElem?_eq_getElem hi]
    rw [hp] at ih
    rw [List.drop_eq_getElem_cons hi, chkN]
    simp only [rName_L1, decide_eq_true (show (i : Int) < (s.length : Int) by omega), cond_true, ix_at hi, Option.bind_some, wrap_succ (n := s.length) (by omega) hi, ih, c32, pr1]
    by_cases a1 : 32 ≤ s[i].toNat
    · rw [decide_eq_false (show ¬ (s[i].toNat : Int) < 32 by omega), cond_false, decide_eq_true a1, Bool.true_and]
      by_cases a2 : s[i].toNat ≤ 126
      · rw [decide_eq_false (show ¬ (s[i].toNat : Int) > 126 by omega), cond_false, decide_eq_true a2, Bool.true_and]
        cases i with
        | zero =>
          rw [decide_eq_false (by decide), cond_false, prevC]
          cases s[0] == 32 <;> rfl
        | succ j =>
          have hj : j < s.length := by omega
          rw [decide_eq_true (by omega), cond_true, prevC, List.getElem?_eq_getElem hj, wrap_id (by unfold okI; omega), show (((j + 1 : Nat) : Int) - 1) = (j : Int) by omega, ix_at hj, Option.bind_some]
          have e : (some s[j] == some (32 : UInt8)) = (s[j] == 32) := rfl
          rw [e]
          cases s[j + 1] == 32 <;> cases s[j] == 32 <;> rfl
      · rw [decide_eq_true (show (s[i].toNat : Int) > 126 by omega), cond_true, decide_eq_false a2, Bool.false_and, Bool.false_and]
    · rw [decide_eq_true (show (s[i].toNat : Int) < 32 by omega), cond_true, decide_eq_false a1, Bool.false_and, Bool.false_and, Bool.false_and]
theorem pName_loop {s : Str} (h : s.length ≤ 1000) : ∀ (n i fu : Nat), s.length - i = n → i ≤ s.length → n < fu → pName_L1 s fu (i : Int) = some ((s.drop i).all pr1)
  | n, i, 0, _, _, h => by omega
  | 0, i, fu + 1, h1, hi, _ => by
    have : i = s.length := by omega
    subst this
    simp only [pName_L1, decide_eq_false (show ¬ (s.length : Int) < (s.length : Int) by omega), cond_false, List.drop_length, List.all_nil]
  | n + 1, i, fu + 1, h1, _, hf => by
    have hi : i < s.length := by omega
    have ih := pName_loop h n (i + 1) fu (by omega) (by omega) (by omega)
    rw [List.drop_eq_getElem_cons hi, List.all_cons]
    simp only [pName_L1, decide_eq_true (show (i : Int) < (s.length : Int) by omega), cond_true, ix_at hi, Option.bind_some, wrap_succ (n := s.length) (by omega) hi, ih, pr1]
    by_cases a1 : 32 ≤ s[i].toNat
    · rw [decide_eq_false (show ¬ (s[i].toNat : Int) < 32 by omega), cond_false, decide_eq_true a1, Bool.true_and]
      by_cases a2 : s[i].toNat ≤ 126
      · rw [decide_eq_false (show ¬ (s[i].toNat : Int) > 126 by omega), cond_false, decide_eq_true a2, Bool.true_and]
      · rw [decide_eq_true (show (s[i].toNat : Int) > 126 by omega), cond_true, decide_eq_false a2, Bool.false_and]
    · rw [decide_eq_true (show (s[i].toNat : Int) < 32 by omega), cond_true, decide_eq_false a1, Bool.false_and, Bool.false_and]
/-- Two blanks side by side. -/
def dbl : Str → Bool
  | [] => false
  | c :: r => (c == 32 && r.head? == some 32) || dbl r
theorem pre_two (c : UInt8) (r : Str) : ([32, 32] : Str).isPrefixOf (c :: r) = (c == 32 && r.head? == some 32) := by
  have sw : ∀ a : UInt8, ((32 : UInt8) == a) = (a == 32) := fun a => by
    by_cases h : a = 32
    · rw [h]
    · rw [beq_eq_false_iff_ne.2 h, beq_eq_false_iff_ne.2 (fun e => h e.symm)]
  cases r with
  | nil => show ((32 : UInt8) == c && false) = (c == 32 && false); simp
  | cons d r =>
    show ((32 : UInt8) == c && ((32 : UInt8) == d && true)) = (c == 32 && (d == 32))
    rw [sw, sw, Bool.and_true]
theorem dbl_eq : ∀ s : Str, Lib.contains s [32, 32] = dbl s
  | [] => rfl
  | c :: r => by
    have ih := dbl_eq r
    have hge := Lib.index_ge r [32, 32]
    unfold Lib.contains at ih ⊢
    rw [dbl, ← ih, Lib.index, pre_two]
    cases (c == 32 && r.head? == some 32) with
    | true => rfl
    | false =>
      rw [if_neg (by simp), Bool.false_or]
      by_cases hi : Lib.index r [32, 32] = -1
      · rw [hi]; rfl
      · rw [if_neg (by simpa using hi)]
        exact decide_eq_decide.2 (by omega)
theorem chk_dbl : ∀ (s : Str) (p : Option UInt8), s.all pr1 = true → chkN p s = (!(s.head? == some 32 && p == some 32) && !dbl s)
  | [], p, _ => by cases p <;> rfl
  | c :: r, p, h => by
    rw [List.all_cons, Bool.and_eq_true] at h
    rw [chkN, h.1, Bool.true_and, chk_dbl r (some c) h.2, dbl]
    have e1 : ((c :: r).head? == some (32 : UInt8)) = (c == 32) := rfl
    have e2 : (some c == some (32 : UInt8)) = (c == 32) := rfl
    rw [e1, e2]
    cases (c == 32) <;> cases (p == some 32) <;> cases (r.head? == some 32) <;> cases dbl r <;> rfl
theorem chk_all : ∀ (s : Str) (p : Option UInt8), s.all pr1 = false → chkN p s = false
  | [], p, h => by cases h
  | c :: r, p, h => by
    rw [chkN]
    rw [List.all_cons] at h
    cases hc : pr1 c with
    | false => rfl
    | true =>
      rw [hc, Bool.true_and] at h
      rw [chk_all r (some c) h, Bool.and_false]
theorem sp_all : ∀ i : Fin 256, pr1 (UInt8.ofNat i.val) = true → Lib.isSp (UInt8.ofNat i.val) = (UInt8.ofNat i.val == 32) := by decide +kernel
theorem sp_pr {c : UInt8} (h : pr1 c = true) : Lib.isSp c = (c == 32) := by
  have e : UInt8.ofNat (⟨c.toNat, c.toNat_lt⟩ : Fin 256).val = c := by simp
  have := sp_all ⟨c.toNat, c.toNat_lt⟩
  rw [e] at this
  exact this h
theorem pr_lt {c : UInt8} (h : pr1 c = true) : c.toNat < 128 := by
  unfold pr1 at h
  rw [Bool.and_eq_true, decide_eq_true_eq, decide_eq_true_eq] at h
  omega
theorem trimL_len : ∀ (f : Nat) (l : Str), (Lib.trimLeftD f l).length ≤ l.length
  | 0, l => Nat.le_refl _
  | f + 1, l => by
    unfold Lib.trimLeftD
    split
    · simp
    · split
      · exact Nat.le_trans (trimL_len f _) (by rw [List.length_drop]; omega)
      · exact Nat.le_refl _
theorem trimR_len : ∀ (f : Nat) (l : Str), (Lib.trimRightD f l).length ≤ l.length
  | 0, l => Nat.le_refl _
  | f + 1, l => by
    unfold Lib.trimRightD
    split
    · simp
    · split
      · exact Nat.le_trans (trimR_len f _) (by rw [List.length_take]; omega)
      · exact Nat.le_refl _
/-- A printable text is as it is trimmed, if it neither begins nor ends with a blank. -/
theorem trim_pr {s : Str} (h : s.all pr1 = true) (hn : s ≠ []) : (Lib.trimSpaceD s == s) = (!(s.head? == some 32) && !(s.getLast? == some 32)) := by
  have hlen : ∀ t : Str, t.length < s.length → (t == s) = false := fun t ht => beq_eq_false_iff_ne.2 fun e => by rw [e] at ht; omega
  unfold Lib.trimSpaceD
  cases s with
  | nil => exact absurd rfl hn
  | cons c r =>
    have hc : pr1 c = true := by rw [List.all_cons, Bool.and_eq_true] at h; exact h.1
    have e1 : ((c :: r).head? == some (32 : UInt8)) = (c == 32) := rfl
    rw [e1]
    cases h32 : c == 32 with
    | true =>
      rw [show (c :: r).length = r.length + 1 from rfl, Lib.left_step _ c r (by rw [sp_pr hc, h32])]
      rw [hlen _ (Nat.lt_of_le_of_lt (Nat.le_trans (trimR_len _ _) (trimL_len _ _)) (by simp))]
      rfl
    | false =>
      rw [show (c :: r).length = r.length + 1 from rfl, Lib.left_stop _ c r (by rw [sp_pr hc, h32]) (pr_lt hc)]
      obtain ⟨t, d, ht⟩ : ∃ t d, c :: r = t ++ [d] := ⟨(c :: r).dropLast, (c :: r).getLast hn, (List.dropLast_concat_getLast hn).symm⟩
      have hd : pr1 d = true := by
        rw [ht, List.all_append, Bool.and_eq_true, List.all_cons, Bool.and_eq_true] at h; exact h.2.1
      have hl : (c :: r).getLast? = some d := by rw [ht]; simp
      rw [hl]
      have e2 : (some d == some (32 : UInt8)) = (d == 32) := rfl
      rw [e2, ht]
      cases hd32 : d == 32 with
      | true =>
        rw [Lib.right_step _ t d (by rw [sp_pr hd, hd32])]
        rw [← ht, hlen _ (Nat.lt_of_le_of_lt (trimR_len _ _) (by rw [ht]; simp))]
        rfl
      | false =>
        rw [Lib.right_stop _ t d (by rw [sp_pr hd, hd32]) (pr_lt hd), beq_self_eq_true]
        rfl
def nameV (s : Str) : Bool := decide (1 ≤ s.length) && decide (s.length ≤ 64) && !(s.head? == some 32) && !(s.getLast? == some 32) && chkN none s
theorem rName_eq {s : Str} (h : s.length ≤ 100) : rName_S s = some (nameV s) := by
  simp only [rName_S, rName_F, nameV]
  by_cases h1 : 1 ≤ s.length
  · rw [decide_eq_false (show ¬ (s.length : Int) < 1 by omega), cond_false, decide_eq_true h1, Bool.true_and]
    by_cases h2 : s.length ≤ 64
    · rw [decide_eq_false (show ¬ (s.length : Int) > 64 by omega), cond_false, decide_eq_true h2, Bool.true_and]
      have i0 : ix s 0 = some (s[0]'(by omega)) := ix_at (i := 0) (by omega)
      have il : ix s (IntKind.i64.wrap ((s.length : Int) - 1)) = some (s[s.length - 1]'(by omega)) := by
        rw [wrap_id (by unfold okI; omega), show (s.length : Int) - 1 = ((s.length - 1 : Nat) : Int) by omega]
        exact ix_at (by omega)
      have hh : s.head? = some (s[0]'(by omega)) := by rw [List.head?_eq_getElem?, List.getElem?_eq_getElem]
      have hla : s.getLast? = some (s[s.length - 1]'(by omega)) := by rw [List.getLast?_eq_getElem?, List.getElem?_eq_getElem]
      have hl : rName_L1 s (s.length + 1) 0 = some (chkN none s) := rName_loop (by omega) s.length 0 (s.length + 1) (by omega) (by omega) (by omega)
      rw [i0, il, hh, hla, Option.bind_some, Option.bind_some, c32, c32, hl]
      have e : ∀ a : UInt8, (some a == some (32 : UInt8)) = (a == 32) := fun _ => rfl
      rw [e, e]
      cases s[0]'(by omega) == 32 <;> cases s[s.length - 1]'(by omega) == 32 <;> rfl
    · rw [decide_eq_true (show (s.length : Int) > 64 by omega), cond_true, decide_eq_false h2]; rfl
  · rw [decide_eq_true (show (s.length : Int) < 1 by omega), cond_true, decide_eq_false h1]; rfl
theorem pName_eqB {s : Str} (h : s.length ≤ 9223372036854775807) : pName_S s = some (nameV s) := by
  simp only [pName_S, pName_F, nameV]
  by_cases h1 : 1 ≤ s.length
  · rw [decide_eq_false (show ¬ (s.length : Int) < 1 by omega), cond_false, decide_eq_true h1, Bool.true_and]
    by_cases h2 : s.length ≤ 64
    · rw [decide_eq_false (show ¬ (s.length : Int) > 64 by omega), cond_false, decide_eq_true h2, Bool.true_and]
      have hT : sTrimSpace_S s = some (Lib.trimSpaceD s) := by unfold sTrimSpace_S; rw [decide_eq_true (by omega), cond_true]
      have hC : sContains_S s [32, 32] = some (dbl s) := by unfold sContains_S; rw [decide_eq_true (by omega), cond_true, dbl_eq]
      have hl : pName_L1 s (s.length + 1) 0 = some (s.all pr1) := pName_loop (by omega) s.length 0 (s.length + 1) (by omega) (by omega) (by omega)
      rw [hT, Option.bind_some, hC, hl, Option.bind_some]
      cases hall : s.all pr1 with
      | false =>
        rw [chk_all s none hall, Bool.and_false]
        cases (Lib.trimSpaceD s == s) <;> cases dbl s <;> rfl
      | true =>
        rw [trim_pr hall (by rintro rfl; simp at h1), chk_dbl s none hall]
        have e : ((none : Option UInt8) == some 32) = false := rfl
        rw [e, Bool.and_false]
        cases (s.head? == some 32) <;> cases (s.getLast? == some 32) <;> cases dbl s <;> rfl
    · rw [decide_eq_true (show (s.length : Int) > 64 by omega), cond_true, decide_eq_false h2]; rfl
  · rw [decide_eq_true (show (s.length : Int) < 1 by omega), cond_true, decide_eq_false h1]; rfl
theorem pName_eq5 {s : Str} (h : s.length ≤ 100) : pName_S s = some (nameV s) := pName_eqB (by omega)
end Go.Proofs.YtjoacimgcepjdaaGreatDoor
