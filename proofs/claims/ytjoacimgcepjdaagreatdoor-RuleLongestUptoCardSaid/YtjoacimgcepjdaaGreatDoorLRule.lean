/- Rules: their faults, both ways; finding one; small lists. -/
import Derived.Test.YtjoacimgcepjdaaGreatDoorLForm
import Derived.Test.YtjoacimgcepjdaaGreatDoorLName5
import Derived.Test.YtjoacimgcepjdaaGreatDoorLDay
set_option linter.unusedSimpArgs false
set_option linter.unusedVariables false
namespace Go.Proofs.YtjoacimgcepjdaaGreatDoor
open Go Go.Abs
theorem bif_some {α : Type} (c : Bool) (a b : α) : (bif c then some a else some b) = some (bif c then a else b) := by cases c <;> rfl
def validV (s : Span) : Bool := bif decide (0 ≤ s.From) then (bif decide (s.From < s.Until) then decide (s.Until ≤ 1048576) else false) else false
theorem qvalid_eq (s : Span) : qvalid_S s = some (validV s) := by
  simp only [qvalid_S, qvalid_F, ge_iff_le, bif_some]; rfl
theorem gGood_eq (s : Span) : gGood_S s = some (validV s) := by
  simp only [gGood_S, gGood_F, bif_some]; rfl
def inV (s : Span) (day : Int) : Bool := bif decide (s.From ≤ day) then decide (day < s.Until) else false
theorem gIn_eq (s : Span) (day : Int) : gIn_S s day = some (inV s day) := by
  simp only [gIn_S, gIn_F, bif_some]; rfl
theorem contains_one (c : UInt8) : ∀ s : Str, Lib.contains s [c] = s.any (· == c)
  | [] => by simp [Lib.contains, Lib.index]
  | b :: l => by
    have ih := contains_one c l
    unfold Lib.contains at ih ⊢
    rw [Lib.index_one] at ih ⊢
    rw [List.any_cons, ← ih, Lib.indexByte]
    have hg := Lib.indexByte_ge l c
    cases hb : b == c with
    | true => rw [if_pos rfl]; rfl
    | false =>
      rw [if_neg (by decide), Bool.false_or]
      by_cases h : Lib.indexByte l c = -1
      · rw [h]; decide
      · rw [if_neg (by simpa using h), decide_eq_decide]; omega
def quo (s : Str) : Bool := s.any (· == 34)
theorem sContains_quo {s : Str} (h : s.length ≤ 1000) : sContains_S s [34] = some (quo s) := by
  unfold sContains_S
  rw [decide_eq_true (show s.length < 4294967281 by omega), cond_true, contains_one]; rfl
theorem xquoted_eq {s : Str} (h : s.length ≤ 1000) : xquoted_S s = some (quo s) := by
  have h1 := loop_scanP (xquoted_L1 s) s (fun i x => bif (x == 34) then some true else none) false (by omega) (fun fu i hi => by
      have h0 : decide ((i : Int) < (s.length : Int)) = true := decide_eq_true (by omega)
      have e : (((s[i].toNat : Int)) == 34) = (s[i] == 34) := by
        rw [Bool.eq_iff_iff, beq_iff_eq, beq_iff_eq]
        constructor
        · intro h; exact UInt8.toNat_inj.1 (by have : ((34 : UInt8).toNat : Int) = 34 := rfl; omega)
        · intro h; rw [h]; rfl
      simp only [xquoted_L1, ix_at hi, Option.bind_some, h0, cond_true, wrap_succ (n := s.length) (by omega) hi, e]
      cases s[i] == 34 <;> rfl)
    (fun fu => by
      have h0 : decide ((s.length : Int) < (s.length : Int)) = false := decide_eq_false (by omega)
      simp only [xquoted_L1, h0, cond_false]) s.length 0 (s.length + 1) (by omega) (by omega) (by omega)
  show xquoted_L1 s (s.length + 1) 0 = _
  rw [show (0 : Int) = ((0 : Nat) : Int) from rfl, h1, List.drop_zero, scanP_any]
  unfold quo
  cases s.any (· == 34) <;> rfl
def opened : Str := [111, 112, 101, 110, 101, 100]
def faultV (r : Rule) : Int := bif decide (r.ID < 1) then 2 else bif decide (r.ID > 1073741824) then 2 else bif decide (r.Years < 0) then 2 else bif decide (r.Years > 200) then 2 else bif decide (r.Action < 1) then 2 else bif decide (r.Action > 3) then 2 else bif (!validV r.In) then 2 else 0
def restV (r : Rule) : Int := bif ((parseF (codeV r.Class)).2 != 0) then 3 else bif (!nameV r.Trigger) then 4 else bif quo r.Trigger then 4 else bif (r.Action == 3) then (bif (!(r.Trigger == opened)) then 1 else bif (r.Years != 0) then 1 else bif r.YearEnd then 1 else 0) else 0
def ordV (p : Option Int) (r : Rule) : Bool := match p with | some q => decide (q ≥ r.ID) | none => false
def ruleErr (p : Option Int) (r : Rule) : Int := bif (faultV r != 0) then 2 else bif ordV p r then 5 else restV r
theorem faultV_cases (r : Rule) : faultV r = 2 ∨ faultV r = 0 := by
  unfold faultV
  cases decide (r.ID < 1) <;> cases decide (r.ID > 1073741824) <;> cases decide (r.Years < 0) <;> cases decide (r.Years > 200) <;> cases decide (r.Action < 1) <;> cases decide (r.Action > 3) <;> cases validV r.In <;> simp
def small (r : Rule) : Prop := r.Class.length ≤ 100 ∧ r.Trigger.length ≤ 100
def prevId (l : List Rule) (i : Nat) : Option Int := if i = 0 then none else (l[i - 1]?).map Rule.ID
theorem prevId_succ {l : List Rule} {i : Nat} (h : i < l.length) : prevId l (i + 1) = some l[i].ID := by simp [prevId, h]
theorem prevId_at {l : List Rule} {i : Nat} (h0 : i ≠ 0) (h : i < l.length) : prevId l i = some (l[i - 1]'(by omega)).ID := by simp [prevId, h0, show i - 1 < l.length by omega]
theorem qcheck_eq {l : List Rule} {i : Nat} (hl : l.length ≤ 1000) (hi : i < l.length) (hc : l[i].Class.length ≤ 4000000000) (ht : l[i].Trigger.length ≤ 4000000000) (hn : pName_S l[i].Trigger = some (nameV l[i].Trigger)) (hq : nameV l[i].Trigger = true → sContains_S l[i].Trigger [34] = some (quo l[i].Trigger)) : qcheck_S l (i : Int) = some (ruleErr (prevId l i) l[i]) := by
  simp only [qcheck_S, qcheck_F, ix_at hi, Option.bind_some, pParse_eqB hc, qvalid_eq, hn]
  have hr : (bif (!nameV l[i].Trigger) then some 4 else (Option.bind (sContains_S l[i].Trigger ([34] : Str)) fun y22 => bif y22 then some (4 : Int) else (bif (l[i].Action == 3) then (bif (!(l[i].Trigger == ([111, 112, 101, 110, 101, 100] : Str))) then some 1 else (bif (l[i].Years != 0) then some 1 else (bif l[i].YearEnd then some 1 else some 0))) else some 0))) = some (bif (!nameV l[i].Trigger) then 4 else bif quo l[i].Trigger then 4 else bif (l[i].Action == 3) then (bif (!(l[i].Trigger == opened)) then 1 else bif (l[i].Years != 0) then 1 else bif l[i].YearEnd then 1 else 0) else 0) := by
    cases hv : nameV l[i].Trigger with
    | false => rfl
    | true =>
      rw [hq hv]
      simp only [Bool.not_true, cond_false, Option.bind_some, bif_some]; rfl
  rw [hr]
  have hord : (bif decide ((i : Int) > 0) then (Option.bind (ix l (IntKind.i64.wrap ((i : Int) - 1))) fun x15 => bif decide (x15.ID ≥ l[i].ID) then some (5 : Int) else (bif ((parseF (codeV l[i].Class)).2 != 0) then some 3 else some (bif (!nameV l[i].Trigger) then 4 else bif quo l[i].Trigger then 4 else bif (l[i].Action == 3) then (bif (!(l[i].Trigger == opened)) then 1 else bif (l[i].Years != 0) then 1 else bif l[i].YearEnd then 1 else 0) else 0)))
      else (bif ((parseF (codeV l[i].Class)).2 != 0) then some 3 else some (bif (!nameV l[i].Trigger) then 4 else bif quo l[i].Trigger then 4 else bif (l[i].Action == 3) then (bif (!(l[i].Trigger == opened)) then 1 else bif (l[i].Years != 0) then 1 else bif l[i].YearEnd then 1 else 0) else 0))) = some (bif ordV (prevId l i) l[i] then 5 else restV l[i]) := by
    simp only [bif_some]
    by_cases h0 : i = 0
    · subst h0; rfl
    · rw [decide_eq_true (show (i : Int) > 0 by omega), cond_true, wrap_pred (n := l.length) (by omega) hi, ix_pred hi (by omega), Option.bind_some, prevId_at h0 hi]; rfl
  rw [hord]
  simp only [bif_some, Option.some.injEq, ruleErr, faultV]
  cases decide (l[i].ID < 1) <;> cases decide (l[i].ID > 1073741824) <;> cases decide (l[i].Years < 0) <;> cases decide (l[i].Years > 200) <;> cases decide (l[i].Action < 1) <;> cases decide (l[i].Action > 3) <;> cases validV l[i].In <;> rfl
def checkL : Option Int → Nat → List Rule → Int × Int
  | _, _, [] => (-1, 0)
  | p, i, r :: l => bif (ruleErr p r != 0) then ((i : Int), ruleErr p r) else checkL (some r.ID) (i + 1) l
def checkV (l : List Rule) : Int × Int := if l.length > 64 then (-1, 8) else checkL none 0 l
theorem qCheck_loop {l : List Rule} (hl : l.length ≤ 1000) (hq : ∀ (i : Nat) (hi : i < l.length), qcheck_S l (i : Int) = some (ruleErr (prevId l i) l[i])) : ∀ (n i fu : Nat), l.length - i = n → i ≤ l.length → n < fu → qCheck_L1 l fu (i : Int) = some (checkL (prevId l i) i (l.drop i))
  | n, i, 0, _, _, h => by omega
  | 0, i, fu + 1, h, hi, _ => by
    have : i = l.length := by omega
    subst this
    simp only [qCheck_L1, List.length_map, decide_eq_false (show ¬ (l.length : Int) < (l.length : Int) by omega), cond_false, List.drop_length, checkL]
  | n + 1, i, fu + 1, h, _, hf => by
    have hi : i < l.length := by omega
    simp only [qCheck_L1, List.length_map, decide_eq_true (show (i : Int) < (l.length : Int) by omega), cond_true, hq i hi, Option.bind_some, wrap_succ (n := l.length) (by omega) hi]
    rw [List.drop_eq_getElem_cons hi]
    simp only [checkL]
    cases ruleErr (prevId l i) l[i] != 0 with
    | true => rfl
    | false => rw [cond_false, cond_false, qCheck_loop hl hq n (i + 1) fu (by omega) (by omega) (by omega), prevId_succ hi]
theorem qCheck_eqG {l : List Rule} (hl : l.length ≤ 9223372036854775807) (hq : l.length ≤ 64 → ∀ (i : Nat) (hi : i < l.length), qcheck_S l (i : Int) = some (ruleErr (prevId l i) l[i])) : qCheck_S l = some (checkV l) := by
  simp only [qCheck_S, qCheck_F, List.length_map, checkV]
  by_cases h : l.length > 64
  · rw [decide_eq_true (show (l.length : Int) > 64 by omega), cond_true, if_pos h]
  · rw [decide_eq_false (show ¬ (l.length : Int) > 64 by omega), cond_false, if_neg h]
    exact qCheck_loop (l := l) (by omega) (hq (by omega)) l.length 0 (l.length + 1) (by omega) (by omega) (by omega)
theorem qCheck_eq {l : List Rule} (hl : l.length ≤ 9223372036854775807) (hs : ∀ r ∈ l, small r) : qCheck_S l = some (checkV l) :=
  qCheck_eqG hl fun h64 i hi => by
    have h := hs _ (List.getElem_mem hi)
    exact qcheck_eq (by omega) hi (by have := h.1; omega) (by have := h.2; omega) (pName_eq5 h.2) fun _ => sContains_quo (by have := h.2; omega)
theorem xfault_eq (r : Rule) : xfault_S r = some (faultV r) := by
  simp only [xfault_S, xfault_F, gGood_eq, Option.bind_some, bif_some]; rfl
theorem rGood_eq {s : Str} (h : s.length ≤ 100) : rGood_S s = some ((parseF (codeV s)).2 == 0) := by
  simp only [rGood_S, rGood_F, rParse_eq h, Option.bind_some]
theorem xrest_eq {r : Rule} (h : small r) : xrest_S r = some (restV r) := by
  simp only [xrest_S, xrest_F, rGood_eq h.1, rName_eq h.2, xquoted_eq (show r.Trigger.length ≤ 1000 by have := h.2; omega), Option.bind_some, bif_some]; rfl
theorem xCheck_loop {l : List Rule} (hl : l.length ≤ 1000) (hs : ∀ r ∈ l, small r) : ∀ (n i fu : Nat), l.length - i = n → i ≤ l.length → n < fu → xCheck_L1 l fu (i : Int) = some (checkL (prevId l i) i (l.drop i))
  | n, i, 0, _, _, h => by omega
  | 0, i, fu + 1, h, hi, _ => by
    have : i = l.length := by omega
    subst this
    simp only [xCheck_L1, List.length_map, decide_eq_false (show ¬ (l.length : Int) < (l.length : Int) by omega), cond_false, List.drop_length, checkL]
  | n + 1, i, fu + 1, h, _, hf => by
    have hi : i < l.length := by omega
    have ih := xCheck_loop hl hs n (i + 1) fu (by omega) (by omega) (by omega)
    rw [prevId_succ hi] at ih
    rw [List.drop_eq_getElem_cons hi]
    simp only [xCheck_L1, List.length_map, decide_eq_true (show (i : Int) < (l.length : Int) by omega), cond_true, ix_at hi, Option.bind_some, wrap_succ (n := l.length) (by omega) hi, xfault_eq, xrest_eq (hs _ (List.getElem_mem hi)), checkL, ruleErr, ih]
    rcases faultV_cases l[i] with h2 | h2
    · rw [h2]; rfl
    · simp only [h2, show ((0 : Int) == 0) = true from rfl, cond_true, show ((0 : Int) != 0) = false from rfl, cond_false, bif_some]
      by_cases h0 : i = 0
      · subst h0
        simp only [prevId, if_true, ordV, cond_false]
        rfl
      · rw [decide_eq_true (show (i : Int) > 0 by omega), cond_true, wrap_pred (n := l.length) (by omega) hi, ix_pred hi (by omega), Option.bind_some, prevId_at h0 hi]
        simp only [ordV, ge_iff_le, bif_some]
        cases decide (l[i].ID ≤ (l[i - 1]'(by omega)).ID) <;> rfl
theorem xCheck_eq {l : List Rule} (hl : l.length ≤ 9223372036854775807) (hs : ∀ r ∈ l, small r) : xCheck_S l = some (checkV l) := by
  simp only [xCheck_S, xCheck_F, List.length_map, checkV]
  by_cases h : l.length > 64
  · rw [decide_eq_true (show (l.length : Int) > 64 by omega), cond_true, if_pos h]
  · rw [decide_eq_false (show ¬ (l.length : Int) > 64 by omega), cond_false, if_neg h]
    exact xCheck_loop (l := l) (by omega) hs l.length 0 (l.length + 1) (by omega) (by omega) (by omega)
def findV (l : List Rule) (id : Int) : Int := idxOf (fun r => r.ID == id) l
theorem qFind_eq {l : List Rule} {id : Int} (h : l.length ≤ 9223372036854775807) : qFind_S l id = some (findV l id) := by
  have h1 := loop_scanP (slIndexFuncR_L1 l fun z0 => qFind_1_S z0 id) l (fun i x => bif (x.ID == id) then some (i : Int) else none) (-1) h (fun fu i hi => by
      have h0 : decide ((i : Int) < (l.length : Int)) = true := decide_eq_true (by omega)
      simp only [slIndexFuncR_L1, List.length_map, ix_at hi, Option.bind_some, h0, cond_true, wrap_succ h hi, qFind_1_S, qFind_1_F]
      cases l[i].ID == id <;> rfl)
    (fun fu => by
      have h0 : decide ((l.length : Int) < (l.length : Int)) = false := decide_eq_false (by omega)
      simp only [slIndexFuncR_L1, List.length_map, h0, cond_false]) l.length 0 (l.length + 1) (by omega) (by omega) (by omega)
  simp only [qFind_S, qFind_F]
  show Option.bind (slIndexFuncR_L1 l _ (l.length + 1) 0) _ = _
  rw [show (0 : Int) = ((0 : Nat) : Int) from rfl, h1, List.drop_zero, scanP_find]
  unfold findV idxOf
  cases l.findIdx? _ <;> simp
theorem xFind_eq {l : List Rule} {id : Int} (h : l.length ≤ 9223372036854775807) : xFind_S l id = some (findV l id) := by
  have h1 := loop_scanP (xFind_L1 l id) l (fun i x => bif (x.ID == id) then some (i : Int) else none) (-1) h (fun fu i hi => by
      have h0 : decide ((i : Int) < (l.length : Int)) = true := decide_eq_true (by omega)
      simp only [xFind_L1, List.length_map, ix_at hi, Option.bind_some, h0, cond_true, wrap_succ h hi]
      cases l[i].ID == id <;> rfl)
    (fun fu => by
      have h0 : decide ((l.length : Int) < (l.length : Int)) = false := decide_eq_false (by omega)
      simp only [xFind_L1, List.length_map, h0, cond_false]) l.length 0 (l.length + 1) (by omega) (by omega) (by omega)
  show xFind_L1 l id (l.length + 1) 0 = _
  rw [show (0 : Int) = ((0 : Nat) : Int) from rfl, h1, List.drop_zero, scanP_find]
  unfold findV idxOf
  cases l.findIdx? _ <;> simp
def fewS (l : List Rule) : Bool := l.all fun r => decide (r.Class.length ≤ 100) && decide (r.Trigger.length ≤ 100)
def few (l : List Rule) : Bool := (decide (l.length ≤ 12) || decide (64 < l.length) && decide (l.length ≤ 69)) && fewS l
theorem xFew_L1_eq {l : List Rule} (h : l.length ≤ 1000) : xFew_L1 l (l.length + 1) 0 = some (fewS l) := by
  have h1 := loop_scanP (xFew_L1 l) l (fun _ x => bif (decide (x.Class.length ≤ 100) && decide (x.Trigger.length ≤ 100)) then none else some false) true (by omega) (fun fu i hi => by
      have h0 : decide ((i : Int) < (l.length : Int)) = true := decide_eq_true (by omega)
      simp only [xFew_L1, List.length_map, ix_at hi, Option.bind_some, h0, cond_true, wrap_succ (n := l.length) (by omega) hi]
      by_cases c1 : l[i].Class.length ≤ 100
      · rw [decide_eq_false (show ¬ (l[i].Class.length : Int) > 100 by omega), decide_eq_true c1, cond_false, Bool.true_and]
        by_cases c2 : l[i].Trigger.length ≤ 100
        · rw [decide_eq_false (show ¬ (l[i].Trigger.length : Int) > 100 by omega), decide_eq_true c2]; rfl
        · rw [decide_eq_true (show (l[i].Trigger.length : Int) > 100 by omega), decide_eq_false c2]; rfl
      · rw [decide_eq_true (show (l[i].Class.length : Int) > 100 by omega), decide_eq_false c1]; rfl)
    (fun fu => by
      have h0 : decide ((l.length : Int) < (l.length : Int)) = false := decide_eq_false (by omega)
      simp only [xFew_L1, List.length_map, h0, cond_false]) l.length 0 (l.length + 1) (by omega) (by omega) (by omega)
  rw [show (0 : Int) = ((0 : Nat) : Int) from rfl, h1, List.drop_zero, scanP_all, Bool.and_true]; rfl
theorem xFew_L2_eq {l : List Rule} : xFew_L2 l = xFew_L1 l := by
  funext fu i
  induction fu generalizing i with
  | zero => rfl
  | succ fu ih => simp only [xFew_L1, xFew_L2, ih]
theorem xFew_eq {l : List Rule} (h : l.length ≤ 9223372036854775807) : xFew_S l = some (few l) := by
  simp only [xFew_S, xFew_F, List.length_map, few, xFew_L2_eq]
  by_cases h1 : l.length ≤ 12
  · rw [decide_eq_false (show ¬ (l.length : Int) > 12 by omega), cond_false, decide_eq_false (show ¬ (l.length : Int) > 69 by omega), cond_false, decide_eq_true h1, xFew_L1_eq (by omega)]; rfl
  · rw [decide_eq_true (show (l.length : Int) > 12 by omega), cond_true, decide_eq_false h1, Bool.false_or]
    by_cases h2 : l.length ≤ 64
    · rw [decide_eq_true (show (l.length : Int) ≤ 64 by omega), cond_true, decide_eq_false (show ¬ 64 < l.length by omega)]; rfl
    · rw [decide_eq_false (show ¬ (l.length : Int) ≤ 64 by omega), cond_false, decide_eq_true (show 64 < l.length by omega)]
      by_cases h3 : l.length ≤ 69
      · rw [decide_eq_false (show ¬ (l.length : Int) > 69 by omega), cond_false, decide_eq_true h3, xFew_L1_eq (by omega)]; rfl
      · rw [decide_eq_true (show (l.length : Int) > 69 by omega), decide_eq_false h3]; rfl
theorem few_spec {l : List Rule} (h : few l = true) : (l.length ≤ 12 ∨ 64 < l.length ∧ l.length ≤ 69) ∧ ∀ r ∈ l, small r := by
  unfold few fewS at h
  simp only [Bool.and_eq_true, Bool.or_eq_true, decide_eq_true_eq, List.all_eq_true] at h
  exact ⟨h.1, fun r hr => h.2 r hr⟩
end Go.Proofs.YtjoacimgcepjdaaGreatDoor
