/- The natural order as it is specified. -/
import Derived.Test.YtihjmnhamaicpaaGreatDoorLNat3
set_option linter.unusedVariables false
set_option linter.unusedSimpArgs false
namespace Go.Proofs.YtihjmnhamaicpaaGreatDoor
open Go Go.Abs
theorem rdigit_eq5 (c : UInt8) : rdigit_S ((c.toNat : Nat) : Int) = some (d0 c) := by
  simp only [rdigit_S, rdigit_F, d0]
  by_cases h : 48 ≤ c.toNat
  · rw [decide_eq_true (show ((c.toNat : Nat) : Int) ≥ 48 by omega), cond_true, decide_eq_true h, Bool.true_and]
    exact congrArg some (decide_eq_decide.2 (by omega))
  · rw [decide_eq_false (show ¬ ((c.toNat : Nat) : Int) ≥ 48 by omega), cond_false, decide_eq_false h, Bool.false_and]
theorem runD_nil : runD [] = 0 := rfl
theorem runD_cons (c : UInt8) (r : Str) : runD (c :: r) = if d0 c = true then runD r + 1 else 0 := rfl
theorem run_loop {s : Str} (h : s.length ≤ 900) : ∀ (n i fu : Nat), s.length - i = n → i ≤ s.length → n < fu → rrun_L1 s fu (i : Int) = some ((i + runD (s.drop i) : Nat) : Int)
  | n, i, 0, _, _, h => by omega
  | 0, i, fu + 1, h1, hi, _ => by
    have : i = s.length := by omega
    subst this
    simp only [rrun_L1, decide_eq_false (show ¬ (s.length : Int) < (s.length : Int) by omega), cond_false, List.drop_length, runD_nil, Nat.add_zero]
  | n + 1, i, fu + 1, h1, _, hf => by
    have hi : i < s.length := by omega
    have ih := run_loop h n (i + 1) fu (by omega) (by omega) (by omega)
    rw [List.drop_eq_getElem_cons hi, runD_cons]
    simp only [rrun_L1, decide_eq_true (show (i : Int) < (s.length : Int) by omega), cond_true, ix_at hi, Option.bind_some, rdigit_eq5, wrap_succ (n := s.length) (by omega) hi, ih]
    cases d0 s[i] with
    | false => rfl
    | true => rw [cond_true, if_pos rfl]; congr 2; omega
theorem rrun_eq {s : Str} (h : s.length ≤ 900) {i : Nat} (hi : i < s.length) : rrun_S s (i : Int) = some ((i + runL (s.drop i) : Nat) : Int) := by
  have hl := run_loop h (s.length - i) i (s.length + 1) rfl (by omega) (by omega)
  simp only [rrun_S, rrun_F, ix_at hi, Option.bind_some, rdigit_eq5, hl]
  rw [List.drop_eq_getElem_cons hi, runD_cons]
  show _ = some ((i + (if d0 s[i] = true then runD (s.drop (i + 1)) + 1 else 1) : Nat) : Int)
  cases d0 s[i] with
  | false => rw [Bool.not_false, cond_true, wrap_id (by unfold okI; omega)]; rfl
  | true => rfl
theorem strip_loop : ∀ (s : Str) (fu : Nat), s.length < fu → s.length ≤ 900 → rstrip_L1 fu s = some (Lib.trimLeftB s 48)
  | s, 0, h, _ => by omega
  | [], fu + 1, _, _ => rfl
  | c :: r, fu + 1, h, hl => by
    have i0 : ix (c :: r) 0 = some c := ix_at (l := c :: r) (i := 0) (by simp)
    have hs : slc (c :: r) 1 (((c :: r).length : Nat) : Int) = some r := by
      have := slc_all (s := c :: r) (n := 1) (by simp)
      simpa using this
    have hc : (((c.toNat : Nat) : Int) == 48) = (c == 48) := by
      by_cases h : c = 48
      · subst h; rfl
      · rw [beq_eq_false_iff_ne.2 h, beq_eq_false_iff_ne]
        intro e
        exact h (UInt8.toNat_inj.1 (by show c.toNat = 48; omega))
    have hpos : decide ((((c :: r).length : Nat) : Int) > 0) = true := decide_eq_true (by simp)
    simp only [rstrip_L1, i0, Option.bind_some, hc, hs, hpos, cond_true]
    have hd : Lib.trimLeftB (c :: r) 48 = if (c == 48) = true then Lib.trimLeftB r 48 else c :: r := by
      unfold Lib.trimLeftB
      rw [List.dropWhile_cons]
    rw [hd]
    cases hb : c == 48 with
    | true => rw [cond_true, strip_loop r fu (by simp at h; omega) (by simp at hl; omega), if_pos rfl]
    | false => rw [cond_false, if_neg (by simp)]
theorem rstrip_eq {s : Str} (h : s.length ≤ 900) : rstrip_S s = some (Lib.trimLeftB s 48) := strip_loop s (s.length + 1) (by omega) h
theorem rorder_eq (a b : Str) : rorder_S a b = some (byteC a b) := by
  simp only [rorder_S, rorder_F, less_byteC]
  have h1 := byteC_tot.lo a b
  have h2 := byteC_tot.hi a b
  by_cases hl : byteC a b < 0
  · rw [decide_eq_true hl, cond_true]; congr 1; omega
  · rw [decide_eq_false hl, cond_false, Bool.false_or]
    by_cases he : a = b
    · rw [he, beq_self_eq_true, Bool.not_true, cond_false, byteC_zero.2 rfl]
    · have : byteC a b ≠ 0 := fun e => he (byteC_zero.1 e)
      rw [beq_eq_false_iff_ne.2 he, Bool.not_false, cond_true]; congr 1; omega
theorem rparts_eq {a b : Str} (ha : a ≠ []) (hb : b ≠ []) (la : a.length ≤ 900) (lb : b.length ≤ 900) : rparts_S a b = some (partC a b) := by
  obtain ⟨x, r, rfl⟩ : ∃ x r, a = x :: r := by cases a with | nil => exact absurd rfl ha | cons x r => exact ⟨x, r, rfl⟩
  obtain ⟨y, t, rfl⟩ : ∃ y t, b = y :: t := by cases b with | nil => exact absurd rfl hb | cons y t => exact ⟨y, t, rfl⟩
  have ix0 : ix (x :: r) 0 = some x := ix_at (l := x :: r) (i := 0) (by simp)
  have iy0 : ix (y :: t) 0 = some y := ix_at (l := y :: t) (i := 0) (by simp)
  have dx : digP (x :: r) = d0 x := rfl
  have dy : digP (y :: t) = d0 y := rfl
  simp only [rparts_S, rparts_F, ix0, iy0, Option.bind_some, rdigit_eq5, rstrip_eq la, rstrip_eq lb, rorder_eq, partC, kindP, lenP, bytesP, dx, dy]
  cases d0 x with
  | true =>
    cases d0 y with
    | true =>
      simp only [cond_true, if_true]
      rw [if_pos (show natC 0 0 = 0 by decide)]
      by_cases hl : (Lib.trimLeftB (x :: r) 48).length = (Lib.trimLeftB (y :: t) 48).length
      · rw [hl, bne_self_eq_false, cond_false, if_pos (show natC (Lib.trimLeftB (y :: t) 48).length (Lib.trimLeftB (y :: t) 48).length = 0 by unfold natC; rw [if_neg (by omega), if_neg (by omega)])]
      · rw [show ((((Lib.trimLeftB (x :: r) 48).length : Nat) : Int) != (((Lib.trimLeftB (y :: t) 48).length : Nat) : Int)) = true by rw [bne_iff_ne]; omega, cond_true]
        by_cases hlt : (Lib.trimLeftB (x :: r) 48).length < (Lib.trimLeftB (y :: t) 48).length
        · have hn : natC (Lib.trimLeftB (x :: r) 48).length (Lib.trimLeftB (y :: t) 48).length = -1 := by unfold natC; rw [if_pos hlt]
          rw [decide_eq_true (by omega), cond_true, hn, if_neg (by decide)]
        · have hn : natC (Lib.trimLeftB (x :: r) 48).length (Lib.trimLeftB (y :: t) 48).length = 1 := by unfold natC; rw [if_neg hlt, if_pos (by omega)]
          rw [decide_eq_false (by omega), cond_false, hn, if_neg (by decide)]
    | false => rfl
  | false =>
    cases d0 y with
    | true => rfl
    | false => rfl
theorem partsF_nil : partsF [] = [] := rfl
theorem partsF_ne {s : Str} (h : s ≠ []) : partsF s = s.take (runL s) :: partsF (s.drop (runL s)) := by
  obtain ⟨c, r, rfl⟩ : ∃ c r, s = c :: r := by cases s with | nil => exact absurd rfl h | cons c r => exact ⟨c, r, rfl⟩
  have hp := (runL_pos h).1
  unfold partsF
  rw [List.length_cons, partsN]
  congr 1
  exact partsN_fuel _ _ (by rw [List.length_drop, List.length_cons]; omega)
theorem nat_loop {a b : Str} (ha : a.length ≤ 800) (hb : b.length ≤ 800) : ∀ (n i k fu : Nat), a.length - i ≤ n → i ≤ a.length → k ≤ b.length → n < fu → rNatural_L1 a b fu (i : Int) (k : Int) = some (if lexL partC (partsF (a.drop i)) (partsF (b.drop k)) = 0 then byteC a b else lexL partC (partsF (a.drop i)) (partsF (b.drop k)))
  | n, i, k, 0, _, _, _, h => by omega
  | n, i, k, fu + 1, hn, hi, hk, hf => by
    by_cases hia : i < a.length
    · have na : a.drop i ≠ [] := by intro e; have := congrArg List.length e; rw [List.length_drop] at this; simp at this; omega
      by_cases hkb : k < b.length
      · have nb : b.drop k ≠ [] := by intro e; have := congrArg List.length e; rw [List.length_drop] at this; simp at this; omega
        obtain ⟨pa1, pa2⟩ := runL_pos na
        obtain ⟨pb1, pb2⟩ := runL_pos nb
        rw [List.length_drop] at pa2 pb2
        have sa : slc a (i : Int) ((i + runL (a.drop i) : Nat) : Int) = some ((a.drop i).take (runL (a.drop i))) := by
          rw [slc_cut (by omega) (by omega)]; congr 2; omega
        have sb : slc b (k : Int) ((k + runL (b.drop k) : Nat) : Int) = some ((b.drop k).take (runL (b.drop k))) := by
          rw [slc_cut (by omega) (by omega)]; congr 2; omega
        have ta : (a.drop i).take (runL (a.drop i)) ≠ [] := by intro e; have := congrArg List.length e; rw [List.length_take, List.length_drop] at this; simp at this; omega
        have tb : (b.drop k).take (runL (b.drop k)) ≠ [] := by intro e; have := congrArg List.length e; rw [List.length_take, List.length_drop] at this; simp at this; omega
        obtain ⟨m, rfl⟩ : ∃ m, n = m + 1 := ⟨n - 1, by omega⟩
        have ih := nat_loop ha hb m (i + runL (a.drop i)) (k + runL (b.drop k)) fu (by omega) (by omega) (by omega) (by omega)
        rw [← List.drop_drop, ← List.drop_drop] at ih
        rw [partsF_ne na, partsF_ne nb, lexL]
        simp only [rNatural_L1, decide_eq_true (show (i : Int) < (a.length : Int) by omega), decide_eq_true (show (k : Int) < (b.length : Int) by omega), cond_true, rrun_eq (show a.length ≤ 900 by omega) hia, rrun_eq (show b.length ≤ 900 by omega) hkb, Option.bind_some, sa, sb, rparts_eq ta tb (by rw [List.length_take, List.length_drop]; omega) (by rw [List.length_take, List.length_drop]; omega), ih]
        by_cases hz : partC ((a.drop i).take (runL (a.drop i))) ((b.drop k).take (runL (b.drop k))) = 0
        · rw [hz, bne_self_eq_false, cond_false, if_pos rfl]
        · rw [show (partC ((a.drop i).take (runL (a.drop i))) ((b.drop k).take (runL (b.drop k))) != 0) = true by rw [bne_iff_ne]; exact hz, cond_true, if_neg hz, if_neg hz]
      · have : k = b.length := by omega
        subst this
        rw [partsF_ne na, List.drop_length, partsF_nil, lexL, if_neg (by decide)]
        simp only [rNatural_L1, decide_eq_true (show (i : Int) < (a.length : Int) by omega), decide_eq_false (show ¬ (b.length : Int) < (b.length : Int) by omega), cond_true, cond_false]
    · have : i = a.length := by omega
      subst this
      rw [List.drop_length, partsF_nil]
      by_cases hkb : k < b.length
      · have nb : b.drop k ≠ [] := by intro e; have := congrArg List.length e; rw [List.length_drop] at this; simp at this; omega
        rw [partsF_ne nb, lexL, if_neg (by decide)]
        simp only [rNatural_L1, decide_eq_false (show ¬ (a.length : Int) < (a.length : Int) by omega), decide_eq_true (show (k : Int) < (b.length : Int) by omega), cond_true, cond_false]
      · have : k = b.length := by omega
        subst this
        rw [List.drop_length, partsF_nil, lexL, if_pos rfl]
        simp only [rNatural_L1, decide_eq_false (show ¬ (a.length : Int) < (a.length : Int) by omega), decide_eq_false (show ¬ (b.length : Int) < (b.length : Int) by omega), cond_false, rorder_eq, Option.bind_some]
theorem rNatural_eq {a b : Str} (ha : a.length ≤ 800) (hb : b.length ≤ 800) : rNatural_S a b = some (natV a b) := by
  have := nat_loop ha hb a.length 0 0 (a.length + 1) (by omega) (by omega) (by omega) (by omega)
  rw [List.drop_zero, List.drop_zero] at this
  exact this
end Go.Proofs.YtihjmnhamaicpaaGreatDoor
