/- What applies, both ways; equal lists; the check of the example. -/
import Derived.Test.YtjoacimgcepjdaaGreatDoorLDue
set_option linter.unusedSimpArgs false
set_option linter.unusedVariables false
namespace Go.Proofs.YtjoacimgcepjdaaGreatDoor
open Go Go.Abs
def clen (r : Rule) : Int := ((parseF (codeV r.Class)).1.length : Int)
def fitsV (s : Str) (day : Int) (r : Rule) : Bool := inV r.In day && withinF (codeV s) (codeV r.Class)
def longV (s : Str) (day : Int) (l : List Rule) : Int := l.foldl (fun m r => if fitsV s day r = true then (if m < clen r then clen r else m) else m) 0
def selV (s : Str) (day : Int) (m : Int) (l : List Rule) : List Int := (l.filter fun r => fitsV s day r && clen r == m).map Rule.ID
def applyV (l : List Rule) (s : Str) (day : Int) : List Int := selV s day (longV s day l) l
theorem long_app (s : Str) (day : Int) (l : List Rule) (r : Rule) : longV s day (l ++ [r]) = if fitsV s day r = true then (if longV s day l < clen r then clen r else longV s day l) else longV s day l := by
  unfold longV; rw [List.foldl_append]; rfl
theorem sel_app (s : Str) (day m : Int) (l : List Rule) (r : Rule) : selV s day m (l ++ [r]) = selV s day m l ++ (if fitsV s day r && clen r == m then [r.ID] else []) := by
  unfold selV
  rw [List.filter_append, List.map_append]
  congr 1
  cases h : fitsV s day r && clen r == m
  · simp [List.filter, h]
  · simp [List.filter, h]
theorem long_take {s : Str} {day : Int} {l : List Rule} {i : Nat} (hi : i < l.length) : longV s day (l.take (i + 1)) = if fitsV s day l[i] = true then (if longV s day (l.take i) < clen l[i] then clen l[i] else longV s day (l.take i)) else longV s day (l.take i) := by
  rw [List.take_succ_eq_append_getElem hi, long_app]
theorem sel_take {s : Str} {day m : Int} {l : List Rule} {i : Nat} (hi : i < l.length) : selV s day m (l.take (i + 1)) = selV s day m (l.take i) ++ (if fitsV s day l[i] && clen l[i] == m then [l[i].ID] else []) := by
  rw [List.take_succ_eq_append_getElem hi, sel_app]
theorem long_mono (s : Str) (day : Int) : ∀ (l : List Rule) (m : Int), m ≤ l.foldl (fun m r => if fitsV s day r = true then (if m < clen r then clen r else m) else m) m
  | [], m => Int.le_refl _
  | r :: l, m => by
    rw [List.foldl_cons]
    refine Int.le_trans ?_ (long_mono s day l _)
    split
    · split <;> omega
    · exact Int.le_refl _
theorem long_ge (s : Str) (day : Int) : ∀ (l : List Rule) (m : Int), ∀ r ∈ l, fitsV s day r = true → clen r ≤ l.foldl (fun m r => if fitsV s day r = true then (if m < clen r then clen r else m) else m) m
  | [], _, _, hr, _ => by simp at hr
  | x :: l, m, r, hr, hf => by
    rw [List.foldl_cons]
    rcases List.mem_cons.1 hr with rfl | hr
    · refine Int.le_trans ?_ (long_mono s day l _)
      rw [if_pos hf]
      split <;> omega
    · exact long_ge s day l _ r hr hf
theorem sel_none {s : Str} {day m : Int} {l : List Rule} (h : longV s day l < m) : selV s day m l = [] := by
  unfold selV
  rw [List.map_eq_nil_iff, List.filter_eq_nil_iff]
  intro r hr hq
  simp only [Bool.and_eq_true, beq_iff_eq] at hq
  have : clen r ≤ longV s day l := long_ge s day l 0 r hr hq.1
  omega
theorem sel_len (s : Str) (day m : Int) (l : List Rule) : (selV s day m l).length ≤ l.length := by
  unfold selV; rw [List.length_map]; exact List.length_filter_le _ _
theorem qApply_loop {l : List Rule} {s : Str} {day : Int} (hl : l.length ≤ 1000) (hs : ∀ r ∈ l, small r) (h100 : s.length ≤ 100) : ∀ (n i fu : Nat), l.length - i = n → i ≤ l.length → n < fu →
    qApply_L1 l s day fu (longV s day (l.take i)) (selV s day (longV s day (l.take i)) (l.take i)) (i : Int) = some (applyV l s day)
  | n, i, 0, _, _, h => by omega
  | 0, i, fu + 1, h, hi, _ => by
    have : i = l.length := by omega
    subst this
    simp only [qApply_L1, List.length_map, decide_eq_false (show ¬ (l.length : Int) < (l.length : Int) by omega), cond_false, List.take_length]
    rfl
  | n + 1, i, fu + 1, h, _, hf => by
    have hi : i < l.length := by omega
    obtain ⟨c1, c2⟩ := hs _ (List.getElem_mem hi)
    have ih := qApply_loop (day := day) hl hs h100 n (i + 1) fu (by omega) (by omega) (by omega)
    rw [long_take hi, sel_take hi] at ih
    have hsl := sel_len s day (longV s day (l.take i)) (l.take i)
    rw [List.length_take] at hsl
    simp only [qApply_L1, List.length_map, decide_eq_true (show (i : Int) < (l.length : Int) by omega), cond_true, ix_at hi, Option.bind_some, wrap_succ (n := l.length) (by omega) hi, pWithin_eq h100 c1, pParse_eq c1]
    have nofit : fitsV s day l[i] = false → qApply_L1 l s day fu (longV s day (l.take i)) (selV s day (longV s day (l.take i)) (l.take i)) ((i + 1 : Nat) : Int) = some (applyV l s day) := by
      intro hq
      rw [if_neg (by rw [hq]; decide), hq, Bool.false_and, if_neg (by decide), List.append_nil] at ih
      exact ih
    by_cases h1 : l[i].In.From > day
    · rw [decide_eq_true h1, cond_true]
      exact nofit (by unfold fitsV inV; rw [decide_eq_false (by omega)]; rfl)
    · rw [decide_eq_false h1, cond_false]
      by_cases h2 : day ≥ l[i].In.Until
      · rw [decide_eq_true h2, cond_true]
        exact nofit (by unfold fitsV inV; rw [decide_eq_true (by omega), decide_eq_false (by omega)]; rfl)
      · rw [decide_eq_false h2, cond_false]
        have hin : inV l[i].In day = true := by unfold inV; rw [decide_eq_true (by omega), decide_eq_true (by omega)]; rfl
        cases hw : withinF (codeV s) (codeV l[i].Class) with
        | false => rw [Bool.not_false, cond_true]; exact nofit (by unfold fitsV; rw [hin, hw]; rfl)
        | true =>
          have hq : fitsV s day l[i] = true := by unfold fitsV; rw [hin, hw]; rfl
          rw [Bool.not_true, cond_false]
          rw [hq, if_pos rfl, Bool.true_and] at ih
          show (bif decide (clen l[i] > longV s day (l.take i)) then (bif (clen l[i] == clen l[i]) then (bif decide (([] : List Int).length + ([l[i].ID] : List Int).length ≤ 4294967296) then qApply_L1 l s day fu (clen l[i]) (([] : List Int) ++ ([l[i].ID] : List Int)) ((i + 1 : Nat) : Int) else none) else qApply_L1 l s day fu (clen l[i]) ([] : List Int) ((i + 1 : Nat) : Int)) else (bif (clen l[i] == longV s day (l.take i)) then (bif decide ((selV s day (longV s day (l.take i)) (l.take i)).length + ([l[i].ID] : List Int).length ≤ 4294967296) then qApply_L1 l s day fu (longV s day (l.take i)) (selV s day (longV s day (l.take i)) (l.take i) ++ ([l[i].ID] : List Int)) ((i + 1 : Nat) : Int) else none) else qApply_L1 l s day fu (longV s day (l.take i)) (selV s day (longV s day (l.take i)) (l.take i)) ((i + 1 : Nat) : Int))) = _
          by_cases h3 : clen l[i] > longV s day (l.take i)
          · rw [if_pos (show longV s day (l.take i) < clen l[i] from h3), beq_self_eq_true, if_pos rfl, sel_none h3] at ih
            rw [decide_eq_true h3, cond_true, beq_self_eq_true, cond_true, show decide (([] : List Int).length + ([l[i].ID] : List Int).length ≤ 4294967296) = true from rfl, cond_true]
            exact ih
          · rw [if_neg (show ¬ longV s day (l.take i) < clen l[i] from h3)] at ih
            rw [decide_eq_false h3, cond_false]
            cases he : clen l[i] == longV s day (l.take i) with
            | true =>
              rw [he, if_pos rfl] at ih
              rw [cond_true, decide_eq_true (by simp; omega), cond_true]
              exact ih
            | false =>
              rw [he, if_neg (by decide), List.append_nil] at ih
              rw [cond_false]
              exact ih
theorem qApply_eq {l : List Rule} {s : Str} {day : Int} (hl : l.length ≤ 1000) (hs : ∀ r ∈ l, small r) (h100 : s.length ≤ 100) : qApply_S l s day = some (applyV l s day) :=
  qApply_loop hl hs h100 l.length 0 (l.length + 1) (by omega) (by omega) (by omega)
theorem xApply_L2_eq {l : List Rule} {s : Str} {day m : Int} (hl : l.length ≤ 1000) (hs : ∀ r ∈ l, small r) (h100 : s.length ≤ 100) : ∀ (n i fu : Nat), l.length - i = n → i ≤ l.length → n < fu →
    xApply_L2 l s day m fu (selV s day m (l.take i)) (i : Int) = some (selV s day m l)
  | n, i, 0, _, _, h => by omega
  | 0, i, fu + 1, h, hi, _ => by
    have : i = l.length := by omega
    subst this
    simp only [xApply_L2, List.length_map, decide_eq_false (show ¬ (l.length : Int) < (l.length : Int) by omega), cond_false, List.take_length]
  | n + 1, i, fu + 1, h, _, hf => by
    have hi : i < l.length := by omega
    obtain ⟨c1, c2⟩ := hs _ (List.getElem_mem hi)
    have ih := xApply_L2_eq (m := m) (day := day) hl hs h100 n (i + 1) fu (by omega) (by omega) (by omega)
    rw [sel_take hi] at ih
    have hsl := sel_len s day m (l.take i)
    rw [List.length_take] at hsl
    simp only [xApply_L2, List.length_map, decide_eq_true (show (i : Int) < (l.length : Int) by omega), cond_true, ix_at hi, Option.bind_some, wrap_succ (n := l.length) (by omega) hi, rWithin_eq h100 c1, rParse_eq c1, gIn_eq]
    cases hin : inV l[i].In day with
    | false =>
      have hq : fitsV s day l[i] = false := by unfold fitsV; rw [hin]; rfl
      rw [hq, Bool.false_and, if_neg (by decide), List.append_nil] at ih
      exact ih
    | true =>
      cases hw : withinF (codeV s) (codeV l[i].Class) with
      | false =>
        have hq : fitsV s day l[i] = false := by unfold fitsV; rw [hin, hw]; rfl
        rw [hq, Bool.false_and, if_neg (by decide), List.append_nil] at ih
        exact ih
      | true =>
        have hq : fitsV s day l[i] = true := by unfold fitsV; rw [hin, hw]; rfl
        rw [hq, Bool.true_and] at ih
        rw [cond_true, cond_true]
        show (bif (clen l[i] == m) then (bif decide ((selV s day m (l.take i)).length + ([l[i].ID] : List Int).length ≤ 4294967296) then xApply_L2 l s day m fu (selV s day m (l.take i) ++ ([l[i].ID] : List Int)) ((i + 1 : Nat) : Int) else none) else xApply_L2 l s day m fu (selV s day m (l.take i)) ((i + 1 : Nat) : Int)) = _
        cases he : clen l[i] == m with
        | true =>
          rw [he, if_pos rfl] at ih
          rw [cond_true, decide_eq_true (by simp; omega), cond_true]
          exact ih
        | false =>
          rw [he, if_neg (by decide), List.append_nil] at ih
          exact ih
theorem xApply_L1_eq {l : List Rule} {s : Str} {day : Int} {N : Nat} (hN : l.length < N) (hl : l.length ≤ 1000) (hs : ∀ r ∈ l, small r) (h100 : s.length ≤ 100) : ∀ (n i fu : Nat), l.length - i = n → i ≤ l.length → n < fu →
    xApply_L1 l s day N fu (longV s day (l.take i)) (i : Int) = some (applyV l s day)
  | n, i, 0, _, _, h => by omega
  | 0, i, fu + 1, h, hi, _ => by
    have : i = l.length := by omega
    subst this
    simp only [xApply_L1, List.length_map, decide_eq_false (show ¬ (l.length : Int) < (l.length : Int) by omega), cond_false, List.take_length]
    exact xApply_L2_eq hl hs h100 l.length 0 N (by omega) (by omega) hN
  | n + 1, i, fu + 1, h, _, hf => by
    have hi : i < l.length := by omega
    obtain ⟨c1, c2⟩ := hs _ (List.getElem_mem hi)
    have ih := xApply_L1_eq (day := day) hN hl hs h100 n (i + 1) fu (by omega) (by omega) (by omega)
    rw [long_take hi] at ih
    simp only [xApply_L1, List.length_map, decide_eq_true (show (i : Int) < (l.length : Int) by omega), cond_true, ix_at hi, Option.bind_some, wrap_succ (n := l.length) (by omega) hi, rWithin_eq h100 c1, rParse_eq c1, gIn_eq]
    cases hin : inV l[i].In day with
    | false =>
      have hq : fitsV s day l[i] = false := by unfold fitsV; rw [hin]; rfl
      rw [if_neg (by rw [hq]; decide)] at ih
      exact ih
    | true =>
      cases hw : withinF (codeV s) (codeV l[i].Class) with
      | false =>
        have hq : fitsV s day l[i] = false := by unfold fitsV; rw [hin, hw]; rfl
        rw [if_neg (by rw [hq]; decide)] at ih
        exact ih
      | true =>
        have hq : fitsV s day l[i] = true := by unfold fitsV; rw [hin, hw]; rfl
        rw [if_pos hq] at ih
        exact ih
theorem xApply_eq {l : List Rule} {s : Str} {day : Int} (hl : l.length ≤ 1000) (hs : ∀ r ∈ l, small r) (h100 : s.length ≤ 100) : xApply_S l s day = some (applyV l s day) :=
  xApply_L1_eq (by omega) hl hs h100 l.length 0 (l.length + 1) (by omega) (by omega) (by omega)
/- Equal lists. -/
theorem eq_loop {α : Type} [BEq α] [LawfulBEq α] {a b : List α} (L : Nat → Int → Option Bool) (hl : a.length ≤ 9223372036854775807) (he : a.length = b.length)
    (hs : ∀ (fu i : Nat) (hi : i < a.length), L (fu + 1) (i : Int) = bif (!(a[i] == b[i]'(by omega))) then some false else L fu ((i + 1 : Nat) : Int)) (hd : ∀ fu, L (fu + 1) (a.length : Int) = some true) :
    ∀ (n i fu : Nat), a.length - i = n → i ≤ a.length → n < fu → L fu (i : Int) = some (a.drop i == b.drop i)
  | n, i, 0, _, _, h => by omega
  | 0, i, fu + 1, h, hi, _ => by
    have : i = a.length := by omega
    subst this
    rw [hd, List.drop_length, List.drop_of_length_le (by omega)]; rfl
  | n + 1, i, fu + 1, h, _, hf => by
    have hi : i < a.length := by omega
    rw [hs fu i hi, List.drop_eq_getElem_cons hi, List.drop_eq_getElem_cons (show i < b.length by omega), eq_loop L hl he hs hd n (i + 1) fu (by omega) (by omega) (by omega), List.cons_beq_cons]
    cases a[i] == b[i]'(by omega) <;> rfl
theorem len_ne {α : Type} [BEq α] [LawfulBEq α] {a b : List α} (he : a.length ≠ b.length) : (a == b) = false := by
  cases hq : a == b with
  | false => rfl
  | true => exact absurd (congrArg List.length (by simpa using hq)) he
theorem xSame_eq {a b : List Rule} (h : a.length ≤ 9223372036854775807) : xSame_S a b = some (a == b) := by
  simp only [xSame_S, xSame_F, List.length_map]
  by_cases he : a.length = b.length
  · rw [show ((a.length : Int) != (b.length : Int)) = false by simp; omega, cond_false]
    exact eq_loop (xSame_L1 a b) h he (fun fu i hi => by
        simp only [xSame_L1, List.length_map, decide_eq_true (show (i : Int) < (a.length : Int) by omega), cond_true, ix_at hi, ix_at (show i < b.length by omega), Option.bind_some, wrap_succ h hi])
      (fun fu => by simp only [xSame_L1, List.length_map, decide_eq_false (show ¬ (a.length : Int) < (a.length : Int) by omega), cond_false]) a.length 0 (a.length + 1) (by omega) (by omega) (by omega)
  · rw [show ((a.length : Int) != (b.length : Int)) = true by simp; omega, cond_true, len_ne he]
theorem slEqualR_eq {a b : List Rule} (h : a.length ≤ 9223372036854775807) : slEqualR_S a b = some (a == b) := by
  simp only [slEqualR_S, slEqualR_F, List.length_map]
  by_cases he : a.length = b.length
  · rw [show ((a.length : Int) != (b.length : Int)) = false by simp; omega, cond_false]
    exact eq_loop (slEqualR_L1 a b) h he (fun fu i hi => by
        simp only [slEqualR_L1, List.length_map, decide_eq_true (show (i : Int) < (a.length : Int) by omega), cond_true, ix_at hi, ix_at (show i < b.length by omega), Option.bind_some, wrap_succ h hi])
      (fun fu => by simp only [slEqualR_L1, List.length_map, decide_eq_false (show ¬ (a.length : Int) < (a.length : Int) by omega), cond_false]) a.length 0 (a.length + 1) (by omega) (by omega) (by omega)
  · rw [show ((a.length : Int) != (b.length : Int)) = true by simp; omega, cond_true, len_ne he]
/- The example. -/
def exR : Rule := ⟨12, [51, 46, 49], [99, 108, 111, 115, 101, 100], 10, true, 1, ⟨142445, 147924⟩⟩
def exT : Str := [114, 117, 108, 101, 32, 49, 50, 32, 99, 108, 97, 115, 115, 32, 51, 46, 49, 32, 97, 102, 116, 101, 114, 32, 34, 99, 108, 111, 115, 101, 100, 34, 32, 49, 48, 32, 121, 101, 97, 114, 115, 32, 101, 110, 100, 32, 100, 101, 115, 116, 114, 111, 121, 32, 102, 114, 111, 109, 32, 49, 57, 57, 48, 45, 48, 49, 45, 48, 49, 32, 117, 110, 116, 105, 108, 32, 50, 48, 48, 53, 45, 48, 49, 45, 48, 49, 10]
theorem ex_check : checkV [exR] = (-1, 0) := by decide +kernel
theorem ex_print : printV [exR] = exT := by decide +kernel
theorem ex_read : readV (exT.take 86) = (exR, true) := by decide +kernel
theorem ex_lines (fu : Nat) : linesV (fu + 2) exT [] = (true, [exR]) := by
  have h1 : breakV 10 exT = (exT.take 86, [10]) := by decide +kernel
  have h2 : (exT == []) = false := rfl
  rw [linesV, h1, ex_read, h2]
  rfl
theorem ex_parse : parseV exT = ([exR], -1, 0) := by
  unfold parseV
  rw [ex_lines 69998]
  simp only [cond_true]
  rw [ex_check]; rfl
theorem ex_due : dueV exR ⟨142935, 142935⟩ = (146827, 0) := by decide +kernel
theorem ex_apply : applyV [exR] [51, 46, 49, 46, 52] 142445 = [12] := by decide +kernel
theorem awake_true : lawake_S = some true := by
  have hs : ∀ r ∈ [exR], small r := fun r hr => by rw [List.mem_singleton] at hr; subst hr; exact ⟨by decide, by decide⟩
  have e1 : qPrint_S [exR] = some (exT, 0) := by
    rw [qPrint_eq (by simp) (fun r hr => ⟨by have := (hs r hr).1; omega, by have := (hs r hr).2; omega⟩), ex_check, ex_print]; rfl
  have e2 : qParse_S exT = some ([exR], -1, 0) := by rw [qParse_eq (by decide), ex_parse]
  have e3 : qDue_S exR ⟨142935, 142935⟩ = some (146827, 0) := by rw [qDue_eqB ⟨by decide, by decide⟩, ex_due]
  have e4 : qApply_S [exR] [51, 46, 49, 46, 52] 142445 = some [12] := by rw [qApply_eq (by simp) hs (by decide), ex_apply]
  unfold lawake_S lawake_F
  rw [show lexample_S = some (exR, exT) from rfl, Option.bind_some]
  simp only [e1, e2, e3, Option.bind_some]
  rw [beq_self_eq_true, beq_self_eq_true]
  simp only [show ((0 : Int) == 0) = true from rfl, show ((-1 : Int) == -1) = true from rfl, show ((([exR].map cRule).length : Int) == 1) = true from rfl, show ((146827 : Int) == 146827) = true from rfl, cond_true, show ix [exR] 0 = some exR from rfl, Option.bind_some, beq_self_eq_true]
  rw [e4, Option.bind_some, slEqual_eq (by simp)]
  rfl
end Go.Proofs.YtjoacimgcepjdaaGreatDoor
