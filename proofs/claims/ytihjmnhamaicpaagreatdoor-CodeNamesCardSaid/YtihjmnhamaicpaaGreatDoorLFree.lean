/- Free and Few: both ways. -/
import Derived.Test.YtihjmnhamaicpaaGreatDoorLForm
set_option linter.unusedSimpArgs false
set_option linter.unusedVariables false
namespace Go.Proofs.YtihjmnhamaicpaaGreatDoor
open Go Go.Abs

theorem any_eqc (l : List Str) (v : Str) : l.any (fun x => x == v) = l.contains v := by
  induction l with
  | nil => rfl
  | cons x r ih => rw [List.any_cons, ih, List.contains_cons, BEq.comm]
theorem slContainsS_eq {l : List Str} {v : Str} (h : l.length ≤ 9223372036854775807) : slContainsS_S l v = some (l.contains v) := by
  have h1 := loop_scanP (slIndexS_L1 l v) l (fun i x => bif (x == v) then some (i : Int) else none) (-1) h (fun fu i hi => by
      have h0 : decide ((i : Int) < (l.length : Int)) = true := decide_eq_true (by omega)
      simp only [slIndexS_L1, List.length_map, ix_at hi, Option.bind_some, h0, cond_true, wrap_succ h hi, BEq.comm (a := v)]
      cases l[i] == v <;> rfl)
    (fun fu => by
      have h0 : decide ((l.length : Int) < (l.length : Int)) = false := decide_eq_false (by omega)
      simp only [slIndexS_L1, List.length_map, h0, cond_false]) l.length 0 (l.length + 1) (by omega) (by omega) (by omega)
  have h2 : slIndexS_S l v = some (idxOf (fun x => x == v) l) := by
    show slIndexS_L1 l v (l.length + 1) 0 = _
    rw [show (0 : Int) = ((0 : Nat) : Int) from rfl, h1, List.drop_zero, scanP_find]
    unfold idxOf
    cases l.findIdx? (fun x => x == v) <;> simp
  simp only [slContainsS_S, slContainsS_F, h2, Option.bind_some, idxOf_nn, any_eqc]
theorem rhas_eq {l : List Str} {v : Str} (h : l.length ≤ 9223372036854775807) : rhas_S l v = some (l.contains v) := by
  have h1 := loop_scanP (rhas_L1 l v) l (fun _ x => bif (x == v) then some true else none) false h (fun fu i hi => by
      have h0 : decide ((i : Int) < (l.length : Int)) = true := decide_eq_true (by omega)
      simp only [rhas_L1, List.length_map, ix_at hi, Option.bind_some, h0, cond_true, wrap_succ h hi]
      cases l[i] == v <;> rfl)
    (fun fu => by
      have h0 : decide ((l.length : Int) < (l.length : Int)) = false := decide_eq_false (by omega)
      simp only [rhas_L1, List.length_map, h0, cond_false]) l.length 0 (l.length + 1) (by omega) (by omega) (by omega)
  show rhas_L1 l v (l.length + 1) ((0 : Nat) : Int) = _
  rw [h1, List.drop_zero, scanP_any, any_eqc]
  cases l.contains v <;> rfl
def few (l : List Str) : Bool := (decide (l.length ≤ 30) || decide (1024 < l.length) && decide (l.length ≤ 1034)) && l.all (fun x => decide (x.length ≤ 100))
theorem rFew_eq {l : List Str} (h : okStrs l) : rFew_S l = some (few l) := by
  have hl : ∀ x ∈ l, (bif decide ((x.length : Int) > 100) then some false else (none : Option Bool)) = bif decide (x.length ≤ 100) then none else some false := by
    intro x _
    by_cases hx : x.length ≤ 100
    · rw [decide_eq_false (show ¬ (x.length : Int) > 100 by omega), decide_eq_true hx]; rfl
    · rw [decide_eq_true (show (x.length : Int) > 100 by omega), decide_eq_false hx]; rfl
  have h1 := loop_scanP (rFew_L1 l) l (fun _ x => bif decide (x.length ≤ 100) then none else some false) true h.1 (fun fu i hi => by
      have h0 : decide ((i : Int) < (l.length : Int)) = true := decide_eq_true (by omega)
      have := hl _ (List.getElem_mem hi)
      simp only [rFew_L1, List.length_map, ix_at hi, Option.bind_some, h0, cond_true, wrap_succ h.1 hi, ← this]
      cases decide ((l[i].length : Int) > 100) <;> rfl)
    (fun fu => by
      have h0 : decide ((l.length : Int) < (l.length : Int)) = false := decide_eq_false (by omega)
      simp only [rFew_L1, List.length_map, h0, cond_false]) l.length 0 (l.length + 1) (by omega) (by omega) (by omega)
  have h2 := loop_scanP (rFew_L2 l) l (fun _ x => bif decide (x.length ≤ 100) then none else some false) true h.1 (fun fu i hi => by
      have h0 : decide ((i : Int) < (l.length : Int)) = true := decide_eq_true (by omega)
      have := hl _ (List.getElem_mem hi)
      simp only [rFew_L2, List.length_map, ix_at hi, Option.bind_some, h0, cond_true, wrap_succ h.1 hi, ← this]
      cases decide ((l[i].length : Int) > 100) <;> rfl)
    (fun fu => by
      have h0 : decide ((l.length : Int) < (l.length : Int)) = false := decide_eq_false (by omega)
      simp only [rFew_L2, List.length_map, h0, cond_false]) l.length 0 (l.length + 1) (by omega) (by omega) (by omega)
  rw [List.drop_zero, scanP_all (fun x : Str => decide (x.length ≤ 100)), Bool.and_true] at h1 h2
  simp only [rFew_S, rFew_F, few, List.length_map]
  rw [show (0 : Int) = ((0 : Nat) : Int) from rfl, h1, h2]
  by_cases e1 : l.length ≤ 30
  · rw [decide_eq_false (show ¬ (l.length : Int) > 30 by omega), decide_eq_false (show ¬ (l.length : Int) > 1034 by omega), decide_eq_true e1]; rfl
  · rw [decide_eq_true (show (l.length : Int) > 30 by omega), decide_eq_false e1, cond_true]
    by_cases e2 : l.length ≤ 1024
    · rw [decide_eq_true (show (l.length : Int) ≤ 1024 by omega), decide_eq_false (show ¬ 1024 < l.length by omega)]; rfl
    · rw [decide_eq_false (show ¬ (l.length : Int) ≤ 1024 by omega), decide_eq_true (show 1024 < l.length by omega), cond_false]
      by_cases e3 : l.length ≤ 1034
      · rw [decide_eq_false (show ¬ (l.length : Int) > 1034 by omega), decide_eq_true e3]; rfl
      · rw [decide_eq_true (show (l.length : Int) > 1034 by omega), decide_eq_false e3]; rfl
theorem few_spec {l : List Str} (h : few l = true) : l.length ≤ 1034 ∧ ∀ x ∈ l, x.length ≤ 100 := by
  unfold few at h
  simp only [Bool.and_eq_true, Bool.or_eq_true, decide_eq_true_eq, List.all_eq_true] at h
  exact ⟨by omega, h.2⟩

/-- The first text of the numbers from n on, k at most, that is not taken. -/
def firstF (t : Nat → Str) (taken : List Str) : Nat → Nat → Str × Int
  | 0, _ => ([], 12)
  | k + 1, n => if taken.contains (t n) = true then firstF t taken k (n + 1) else (t n, 0)
def textF (above : Str) (n : Nat) : Str := if above = [] then digs n else (above ++ [46]) ++ digs n
def freeF (taken : List Str) (above : Str) : Str × Int :=
  if taken.length > 1024 then ([], 8) else if taken.any (fun x => (codeV x).isNone) = true then ([], 3)
  else if above ≠ [] ∧ codeV above = none then ([], 3) else if ((codeV above).getD []).length = 6 then ([], 12)
  else firstF (textF above) taken 999 1
theorem fmt_snoc : ∀ {l : List Nat} (n : Nat), l ≠ [] → fmt (l ++ [n]) = (fmt l ++ [46]) ++ digs n
  | [], _, h => absurd rfl h
  | [m], n, _ => by simp [fmt]
  | m :: k :: r, n, _ => by
    have := fmt_snoc (l := k :: r) n (by simp)
    rw [List.cons_append, List.cons_append, fmt, ← List.cons_append, this, fmt]
    simp
theorem codeV_nil : codeV [] = none := by decide
theorem clone_eq {l : List Int} (h : l.length ≤ 100) : slCloneI_S l = some l := by
  simp only [slCloneI_S, slCloneI_F]
  have e : decide (([] : List Int).length + l.length ≤ 4294967296) = true := decide_eq_true (by simp; omega)
  rw [e]
  cases l <;> rfl
theorem pText {l : List Nat} (hl : l.length ≤ 5) (h : ∀ n ∈ l, n < 1000) {above : Str} (ha : textF above = fun n => fmt (l ++ [n])) {n : Nat} (hn : n < 1000) : pformat_S (castL l ++ [(n : Int)]) = some (textF above n) := by
  rw [ha]
  have := pformat_eq (l := l ++ [n]) (by simp; omega) (fun m hm => by
    rcases List.mem_append.1 hm with hm | hm
    · exact h m hm
    · rw [List.mem_singleton.1 hm]; exact hn)
  simpa [castL] using this
theorem pFree_loop1 {taken : List Str} (ht : taken.length ≤ 9223372036854775807) {l : List Nat} (hl : l.length ≤ 5) (h : ∀ n ∈ l, n < 1000) {above : Str} (ha : textF above = fun n => fmt (l ++ [n])) (y : List Int × Int) (hy : y.1 = castL l) :
    ∀ (k v fu : Nat), v + k = 999 → k < fu → pFree_L1 taken y fu (v : Int) = some (firstF (textF above) taken k (v + 1))
  | k, v, 0, _, hf => by omega
  | 0, v, fu + 1, hv, _ => by
    have : decide ((v : Int) < 999) = false := decide_eq_false (by omega)
    simp only [pFree_L1, this, cond_false]; rfl
  | k + 1, v, fu + 1, hv, hf => by
    have e : decide ((v : Int) < 999) = true := decide_eq_true (by omega)
    have hw : IntKind.i64.wrap ((v : Int) + 1) = ((v + 1 : Nat) : Int) := wrap_succ (n := 999) (by omega) (by omega)
    have e3 : decide ((castL l).length + ([((v + 1 : Nat) : Int)] : List Int).length ≤ 4294967296) = true := decide_eq_true (by simp; omega)
    simp only [pFree_L1, e, cond_true, hy, clone_eq (l := castL l) (by simp; omega), Option.bind_some, hw, e3, pText hl h ha (n := v + 1) (by omega), slContainsS_eq ht, firstF]
    cases taken.contains (textF above (v + 1)) with
    | true => simpa using pFree_loop1 ht hl h ha y hy k (v + 1) fu (by omega) (by omega)
    | false => simp
theorem pFree_loop2 {taken : List Str} (ht : taken.length ≤ 9223372036854775807) {l : List Nat} (hl : l.length ≤ 5) (h : ∀ n ∈ l, n < 1000) {above : Str} (ha : textF above = fun n => fmt (l ++ [n])) (y : List Int × Int) (hy : y.1 = castL l) :
    ∀ (k v fu : Nat), v + k = 999 → k < fu → pFree_L2 taken y fu (v : Int) = some (firstF (textF above) taken k (v + 1))
  | k, v, 0, _, hf => by omega
  | 0, v, fu + 1, hv, _ => by
    have : decide ((v : Int) < 999) = false := decide_eq_false (by omega)
    simp only [pFree_L2, this, cond_false]; rfl
  | k + 1, v, fu + 1, hv, hf => by
    have e : decide ((v : Int) < 999) = true := decide_eq_true (by omega)
    have hw : IntKind.i64.wrap ((v : Int) + 1) = ((v + 1 : Nat) : Int) := wrap_succ (n := 999) (by omega) (by omega)
    have e3 : decide ((castL l).length + ([((v + 1 : Nat) : Int)] : List Int).length ≤ 4294967296) = true := decide_eq_true (by simp; omega)
    simp only [pFree_L2, e, cond_true, hy, clone_eq (l := castL l) (by simp; omega), Option.bind_some, hw, e3, pText hl h ha (n := v + 1) (by omega), slContainsS_eq ht, firstF]
    cases taken.contains (textF above (v + 1)) with
    | true => simpa using pFree_loop2 ht hl h ha y hy k (v + 1) fu (by omega) (by omega)
    | false => simp
theorem text_nil : textF [] = fun n => fmt (([] : List Nat) ++ [n]) := by
  funext n; simp [textF, fmt]
theorem text_code {s : Str} {l : List Nat} (h : codeV s = some l) : textF s = fun n => fmt (l ++ [n]) := by
  obtain ⟨h1, h2, -, -⟩ := codeV_spec h
  funext n
  have hne : l ≠ [] := by rintro rfl; simp at h2
  have hs : s ≠ [] := by rintro rfl; rw [codeV_nil] at h; cases h
  rw [textF, if_neg hs, fmt_snoc n hne, ← h1]
theorem pFree_1_eq {s : Str} (h : s.length ≤ 100) : pFree_1_S s = some (codeV s).isNone := by
  simp only [pFree_1_S, pFree_1_F, pParse_eq h, Option.bind_some]
  cases codeV s <;> rfl
theorem pFree_gen {N : Nat} (hN : 999 < N) {taken : List Str} {above : Str} (ht : taken.length ≤ 9223372036854775807) (hs : ∀ x ∈ taken, x.length ≤ 100) (ha : above.length ≤ 100) : pFree_F N taken above = some (freeF taken above) := by
  simp only [pFree_F, freeF, List.length_map]
  by_cases h1 : taken.length > 1024
  · rw [decide_eq_true (show (taken.length : Int) > 1024 by omega), cond_true, if_pos h1]
  · rw [decide_eq_false (show ¬ (taken.length : Int) > 1024 by omega), cond_false, if_neg h1, slContainsFuncS_eq (p := fun x => (codeV x).isNone) (by omega) (fun x hx => pFree_1_eq (hs x hx)), Option.bind_some]
    cases hb : taken.any (fun x => (codeV x).isNone) with
    | true => rfl
    | false =>
      rw [cond_false, if_neg (by decide), pParse_eq ha]
      by_cases hn : above = []
      · subst hn
        rw [codeV_nil, if_neg (by simp)]
        have := pFree_loop2 (taken := taken) (by omega) (l := []) (by simp) (by simp) text_nil ([], 3) rfl 999 0 N (by omega) hN
        rw [show ((0 : Nat) : Int) = 0 from rfl, Nat.zero_add] at this
        simp only [parseF, Option.bind_some, beq_self_eq_true, Bool.not_true, cond_false, List.length_map, List.map_nil, List.length_nil, Option.getD_none]
        rw [this]
        rfl
      · rw [show (above == []) = false by simpa using hn]
        simp only [Bool.not_false, cond_true, pFree_1_eq ha, Option.bind_some]
        cases hc : codeV above with
        | none => rw [if_pos ⟨hn, rfl⟩]; rfl
        | some l =>
          obtain ⟨g1, g2, g3, g4⟩ := codeV_spec hc
          rw [if_neg (by simp)]
          simp only [Option.isNone_some, cond_false, parseF, List.length_map, Option.getD_some]
          by_cases h6 : l.length = 6
          · rw [show ((l.length : Int) == 6) = true by simp; omega, if_pos h6]; rfl
          · rw [show ((l.length : Int) == 6) = false by simp; omega, if_neg h6, cond_false]
            have := pFree_loop1 (taken := taken) (by omega) (by omega) (fun n hn => (g4 n hn).2) (text_code hc) (castL l, 0) rfl 999 0 N (by omega) hN
            rw [show ((0 : Nat) : Int) = 0 from rfl, Nat.zero_add] at this
            exact this
theorem pFree_eq {taken : List Str} {above : Str} (ht : taken.length ≤ 9223372036854775807) (hs : ∀ x ∈ taken, x.length ≤ 100) (ha : above.length ≤ 100) : pFree_S taken above = some (freeF taken above) := pFree_gen (by omega) ht hs ha

theorem rtext {above : Str} (h : above ≠ []) (n : Nat) : (above ++ [46]) ++ digs n = textF above n := by rw [textF, if_neg h]
theorem rtext0 (n : Nat) : ([] : Str) ++ digs n = textF [] n := rfl
theorem rFree_loop2 {taken : List Str} (ht : taken.length ≤ 9223372036854775807) {above : Str} (ha : above ≠ []) (hl : above.length ≤ 100) : ∀ (k n fu : Nat), n + k = 1000 → k < fu → rFree_L2 taken above fu (n : Int) = some (firstF (textF above) taken k n)
  | k, n, 0, _, hf => by omega
  | 0, n, fu + 1, hv, _ => by
    have : decide ((n : Int) ≤ 999) = false := decide_eq_false (by omega)
    simp only [rFree_L2, this, cond_false]; rfl
  | k + 1, n, fu + 1, hv, hf => by
    have e : decide ((n : Int) ≤ 999) = true := decide_eq_true (by omega)
    have hw : IntKind.i64.wrap ((n : Int) + 1) = ((n + 1 : Nat) : Int) := wrap_succ (n := 1000) (by omega) (by omega)
    have e3 : decide ((above ++ ([46] : Str)).length + (digs n).length ≤ 9223372036854775807) = true := decide_eq_true (by have := (digs_nodot n (by omega)).2.2; simp; omega)
    simp only [rFree_L2, e, cond_true, dec_digs n (by omega), Option.bind_some, hw, e3, rtext ha, rhas_eq ht, firstF]
    cases taken.contains (textF above n) with
    | true => simpa using rFree_loop2 ht ha hl k (n + 1) fu (by omega) (by omega)
    | false => simp
theorem rFree_loop5 {taken : List Str} (ht : taken.length ≤ 9223372036854775807) : ∀ (k n fu : Nat), n + k = 1000 → k < fu → rFree_L5 taken fu (n : Int) = some (firstF (textF []) taken k n)
  | k, n, 0, _, hf => by omega
  | 0, n, fu + 1, hv, _ => by
    have : decide ((n : Int) ≤ 999) = false := decide_eq_false (by omega)
    simp only [rFree_L5, this, cond_false]; rfl
  | k + 1, n, fu + 1, hv, hf => by
    have e : decide ((n : Int) ≤ 999) = true := decide_eq_true (by omega)
    have hw : IntKind.i64.wrap ((n : Int) + 1) = ((n + 1 : Nat) : Int) := wrap_succ (n := 1000) (by omega) (by omega)
    have e3 : decide (([] : Str).length + (digs n).length ≤ 9223372036854775807) = true := decide_eq_true (by have := (digs_nodot n (by omega)).2.2; simp; omega)
    simp only [rFree_L5, e, cond_true, dec_digs n (by omega), Option.bind_some, hw, e3, rtext0, rhas_eq ht, firstF]
    cases taken.contains (textF [] n) with
    | true => simpa using rFree_loop5 ht k (n + 1) fu (by omega) (by omega)
    | false => simp
theorem rGood_eq {s : Str} (h : s.length ≤ 100) : rGood_S s = some (codeV s).isSome := by
  simp only [rGood_S, rGood_F, rParse_eq h, Option.bind_some]
  cases codeV s <;> rfl
theorem rFree_gen {N : Nat} (hN : 1024 < N) {taken : List Str} {above : Str} (ht : taken.length ≤ 9223372036854775807) (hs : ∀ x ∈ taken, x.length ≤ 100) (ha : above.length ≤ 100) : rFree_F N taken above = some (freeF taken above) := by
  simp only [rFree_F, freeF, List.length_map]
  by_cases h1 : taken.length > 1024
  · rw [decide_eq_true (show (taken.length : Int) > 1024 by omega), cond_true, if_pos h1]
  · rw [decide_eq_false (show ¬ (taken.length : Int) > 1024 by omega), cond_false, if_neg h1]
    have h2 := loop_scanP (rFree_L1 taken above N) taken (fun _ x => bif (codeV x).isNone then some (([] : Str), (3 : Int)) else none)
      (if above ≠ [] ∧ codeV above = none then ([], 3) else if ((codeV above).getD []).length = 6 then ([], 12) else firstF (textF above) taken 999 1) ht (fun fu i hi => by
        have h0 : decide ((i : Int) < (taken.length : Int)) = true := decide_eq_true (by omega)
        simp only [rFree_L1, List.length_map, ix_at hi, Option.bind_some, h0, cond_true, wrap_succ ht hi, rGood_eq (hs _ (List.getElem_mem hi))]
        cases codeV taken[i] <;> rfl)
      (fun fu => by
        have h0 : decide ((taken.length : Int) < (taken.length : Int)) = false := decide_eq_false (by omega)
        simp only [rFree_L1, List.length_map, h0, cond_false, rParse_eq ha, Option.bind_some]
        by_cases hn : above = []
        · subst hn
          rw [codeV_nil, if_neg (by simp)]
          have := rFree_loop5 ht 999 1 N (by omega) (by omega)
          rw [show ((1 : Nat) : Int) = 1 from rfl] at this
          simp only [parseF, beq_self_eq_true, Bool.not_true, cond_false, List.length_map, List.map_nil, List.length_nil, Option.getD_none]
          rw [this]
          rfl
        · rw [show (above == []) = false by simpa using hn]
          simp only [Bool.not_false, cond_true]
          cases hc : codeV above with
          | none => rw [if_pos ⟨hn, rfl⟩]; rfl
          | some l =>
            obtain ⟨g1, g2, g3, g4⟩ := codeV_spec hc
            rw [if_neg (by simp)]
            simp only [parseF, List.length_map, Option.getD_some]
            rw [show ((0 : Int) != 0) = false from rfl, cond_false]
            by_cases h6 : l.length = 6
            · rw [decide_eq_true (show (l.length : Int) ≥ 6 by omega), if_pos h6]; rfl
            · rw [decide_eq_false (show ¬ (l.length : Int) ≥ 6 by omega), if_neg h6, cond_false, decide_eq_true (show above.length + ([46] : Str).length ≤ 9223372036854775807 by simp; omega), cond_true]
              have := rFree_loop2 ht hn ha 999 1 N (by omega) (by omega)
              rw [show ((1 : Nat) : Int) = 1 from rfl] at this
              exact this) taken.length 0 N (by omega) (by omega) (by omega)
    rw [show (0 : Int) = ((0 : Nat) : Int) from rfl, h2, List.drop_zero, scanP_any]
    cases taken.any (fun x => (codeV x).isNone) <;> rfl
theorem rFree_eq {taken : List Str} {above : Str} (ht : taken.length ≤ 9223372036854775807) (hs : ∀ x ∈ taken, x.length ≤ 100) (ha : above.length ≤ 100) : rFree_S taken above = some (freeF taken above) := rFree_gen (by omega) ht hs ha
end Go.Proofs.YtihjmnhamaicpaaGreatDoor
