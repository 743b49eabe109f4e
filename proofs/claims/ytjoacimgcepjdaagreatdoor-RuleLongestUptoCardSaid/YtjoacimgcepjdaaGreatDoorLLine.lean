/- Lines are printed; texts are read; the check of the example. -/
import Derived.Test.YtjoacimgcepjdaaGreatDoorLRead
set_option linter.unusedSimpArgs false
set_option linter.unusedVariables false
namespace Go.Proofs.YtjoacimgcepjdaaGreatDoor
open Go Go.Abs
def midV (r : Rule) : Str := bif (r.Action == 3) then tKeep else tAfter ++ r.Trigger ++ tQ ++ decS r.Years.toNat ++ tYears ++ (bif r.YearEnd then tEnd else []) ++ (bif (r.Action == 1) then tDestroy else tTransfer)
def spanS (s : Span) : Str := tFrom ++ dateS s.From ++ (bif (s.Until != 1048576) then tUntil ++ dateS s.Until else [])
def bodyV (r : Rule) : Str := tRule ++ decS r.ID.toNat ++ tClass ++ r.Class ++ midV r ++ spanS r.In
def lineV (r : Rule) : Str := bodyV r ++ [10]
theorem dlt {n : Nat} (h : n ≤ 9223372036854775807) : decide (n ≤ 9223372036854775807) = true := decide_eq_true h
def goodR (r : Rule) : Prop := 1 ≤ r.ID ∧ r.ID ≤ 1073741824 ∧ 0 ≤ r.Years ∧ r.Years ≤ 200 ∧ goodD r.In.From = true ∧ (r.In.Until = 1048576 ∨ goodD r.In.Until = true)
set_option maxHeartbeats 1000000 in
theorem qline_eq {r : Rule} (hg : goodR r) (hc : r.Class.length ≤ 100000) (ht : r.Trigger.length ≤ 100000) : qline_S r = some (lineV r) := by
  obtain ⟨g1, g2, g3, g4, g5, g6⟩ := hg
  have e1 := itoaS_eq (n := r.ID.toNat) (by omega)
  rw [show ((r.ID.toNat : Nat) : Int) = r.ID by omega] at e1
  have e2 := itoaS_eq (n := r.Years.toNat) (by omega)
  rw [show ((r.Years.toNat : Nat) : Int) = r.Years by omega] at e2
  have l1 : (decS r.ID.toNat).length ≤ 10 := decK_len _ _
  have l2 : (decS r.Years.toNat).length ≤ 10 := decK_len _ _
  have l3 := dateS_len r.In.From
  have l4 := dateS_len r.In.Until
  have e3 := qdate_eq g5
  simp only [qline_S, qline_F, e1, e2, e3, Option.bind_some]
  cases hU : (r.In.Until != 1048576) with
  | true =>
    have e4 := qdate_eq (g6.resolve_left (by simpa using hU))
    simp only [cond_true, e4, Option.bind_some]
    cases ha : r.Action == 3 <;> cases hy : r.YearEnd <;> cases hd : r.Action == 1 <;>
      simp (disch := (simp only [List.length_append, List.length_cons, List.length_nil]; omega)) only [dlt, cond_true, cond_false, lineV, bodyV, midV, spanS, ha, hy, hd, hU, List.append_assoc, List.append_nil, List.nil_append]
  | false =>
    simp only [cond_false]
    cases ha : r.Action == 3 <;> cases hy : r.YearEnd <;> cases hd : r.Action == 1 <;>
      simp (disch := (simp only [List.length_append, List.length_cons, List.length_nil]; omega)) only [dlt, cond_true, cond_false, lineV, bodyV, midV, spanS, ha, hy, hd, hU, List.append_assoc, List.append_nil, List.nil_append]
def printV : List Rule → Str
  | [] => []
  | r :: l => lineV r ++ printV l
theorem s2b_app (a b : Str) : s2b (a ++ b) = s2b a ++ s2b b := by simp [s2b]
theorem b2s_s2b : ∀ s : Str, b2s (s2b s) = s
  | [] => rfl
  | c :: r => by
    have := b2s_s2b r
    simp only [s2b, b2s, List.map_cons] at this ⊢
    rw [this]; simp
theorem s2b_len (s : Str) : (s2b s).length = s.length := by simp [s2b]
theorem lineV_len {r : Rule} (hg : goodR r) (hc : r.Class.length ≤ 100000) (ht : r.Trigger.length ≤ 100000) : (lineV r).length ≤ 300000 := by
  have l1 : (decS r.ID.toNat).length ≤ 10 := decK_len _ _
  have l2 : (decS r.Years.toNat).length ≤ 10 := decK_len _ _
  have l3 := dateS_len r.In.From
  have l4 := dateS_len r.In.Until
  unfold lineV bodyV midV spanS
  cases r.Action == 3 <;> cases r.YearEnd <;> cases r.Action == 1 <;> cases (r.In.Until != 1048576) <;> simp only [cond_true, cond_false, List.length_append, List.length_cons, List.length_nil] <;> omega
theorem qPrint_loop {l : List Rule} (hl : l.length ≤ 64) (hg : ∀ r ∈ l, goodR r ∧ r.Class.length ≤ 100000 ∧ r.Trigger.length ≤ 100000) : ∀ (n i fu : Nat) (q : Bool) (o : Str), l.length - i = n → i ≤ l.length → n < fu → o.length ≤ 300000 * i →
    qPrint_L1 l fu (i : Int) q (s2b o) = some (o ++ printV (l.drop i), 0)
  | n, i, 0, _, _, _, _, h, _ => by omega
  | 0, i, fu + 1, q, o, h, hi, _, _ => by
    have : i = l.length := by omega
    subst this
    simp only [qPrint_L1, List.length_map, decide_eq_false (show ¬ (l.length : Int) < (l.length : Int) by omega), cond_false, List.drop_length, printV, List.append_nil, bString_XS, b2s_s2b, beq_self_eq_true, cond_true, Option.bind_some]
  | n + 1, i, fu + 1, q, o, h, _, hf, ho => by
    have hi : i < l.length := by omega
    obtain ⟨g, gc, gt⟩ := hg _ (List.getElem_mem hi)
    have hll := lineV_len g gc gt
    simp only [qPrint_L1, List.length_map, decide_eq_true (show (i : Int) < (l.length : Int) by omega), cond_true, ix_at hi, Option.bind_some, qline_eq g gc gt, wrap_succ (n := l.length) (by omega) hi]
    have hw : bWrite_XS q (s2b o) (lineV l[i]) = some (((lineV l[i]).length : Int), false, s2b (o ++ lineV l[i])) := by
      simp only [bWrite_XS, bWrite_F, bCheck_XS, Option.bind_some]
      rw [s2b_len, decide_eq_true (by omega), cond_true, s2b_app]
    rw [hw, Option.bind_some, qPrint_loop hl hg n (i + 1) fu true (o ++ lineV l[i]) (by omega) (by omega) (by omega) (by rw [List.length_append]; omega)]
    rw [List.drop_eq_getElem_cons hi, printV, List.append_assoc]
theorem goodR_of {r : Rule} {p : Option Int} (h : ruleErr p r = 0) : goodR r := by
  unfold ruleErr at h
  rcases faultV_cases r with h2 | h2
  · rw [h2] at h; exact absurd (show (2 : Int) = 0 from h) (by decide)
  · unfold faultV at h2
    by_cases h1 : r.ID < 1
    · rw [decide_eq_true h1] at h2; exact absurd (show (2 : Int) = 0 from h2) (by decide)
    by_cases h3 : r.ID > 1073741824
    · rw [decide_eq_false h1, decide_eq_true h3] at h2; exact absurd (show (2 : Int) = 0 from h2) (by decide)
    by_cases h4 : r.Years < 0
    · rw [decide_eq_false h1, decide_eq_false h3, decide_eq_true h4] at h2; exact absurd (show (2 : Int) = 0 from h2) (by decide)
    by_cases h5 : r.Years > 200
    · rw [decide_eq_false h1, decide_eq_false h3, decide_eq_false h4, decide_eq_true h5] at h2; exact absurd (show (2 : Int) = 0 from h2) (by decide)
    by_cases h6 : r.Action < 1
    · rw [decide_eq_false h1, decide_eq_false h3, decide_eq_false h4, decide_eq_false h5, decide_eq_true h6] at h2; exact absurd (show (2 : Int) = 0 from h2) (by decide)
    by_cases h7 : r.Action > 3
    · rw [decide_eq_false h1, decide_eq_false h3, decide_eq_false h4, decide_eq_false h5, decide_eq_false h6, decide_eq_true h7] at h2; exact absurd (show (2 : Int) = 0 from h2) (by decide)
    rw [decide_eq_false h1, decide_eq_false h3, decide_eq_false h4, decide_eq_false h5, decide_eq_false h6, decide_eq_false h7] at h2
    simp only [cond_false] at h2
    cases hv : validV r.In with
    | false => rw [hv] at h2; exact absurd (show (2 : Int) = 0 from h2) (by decide)
    | true =>
      unfold validV at hv
      simp only [Bool.cond_eq_ite, Bool.ite_eq_true_distrib, decide_eq_true_eq] at hv
      have hv' : 0 ≤ r.In.From ∧ r.In.From < r.In.Until ∧ r.In.Until ≤ 1048576 := by
        revert hv; split
        · split
          · intro h; exact ⟨by assumption, by assumption, by simpa using h⟩
          · intro h; simp at h
        · intro h; simp at h
      refine ⟨by omega, by omega, by omega, by omega, goodD_iff.2 ⟨hv'.1, by omega⟩, ?_⟩
      by_cases hu : r.In.Until = 1048576
      · exact .inl hu
      · exact .inr (goodD_iff.2 ⟨by omega, by omega⟩)
theorem checkL_ok : ∀ {l : List Rule} {p : Option Int} {i : Nat}, (checkL p i l).2 = 0 → ∀ r ∈ l, ∃ q, ruleErr q r = 0
  | [], _, _, _, r, hr => by simp at hr
  | x :: l, p, i, h, r, hr => by
    rw [checkL] at h
    by_cases hx : ruleErr p x = 0
    · rw [hx, show ((0 : Int) != 0) = false from rfl, cond_false] at h
      rcases List.mem_cons.1 hr with rfl | hr
      · exact ⟨p, hx⟩
      · exact checkL_ok h r hr
    · rw [show (ruleErr p x != 0) = true by simpa using hx, cond_true] at h
      exact absurd h hx
theorem checkV_ok {l : List Rule} (h : (checkV l).2 = 0) : l.length ≤ 64 ∧ ∀ r ∈ l, goodR r := by
  unfold checkV at h
  by_cases hl : l.length > 64
  · rw [if_pos hl] at h; exact absurd h (by decide)
  · rw [if_neg hl] at h
    exact ⟨by omega, fun r hr => by obtain ⟨q, hq⟩ := checkL_ok h r hr; exact goodR_of hq⟩
theorem qCheck_eqB {l : List Rule} (hl : l.length ≤ 9223372036854775807) (hs : ∀ r ∈ l, r.Class.length ≤ 4000000000 ∧ r.Trigger.length ≤ 4000000000) : qCheck_S l = some (checkV l) :=
  qCheck_eqG hl fun h64 i hi => by
    have h := hs _ (List.getElem_mem hi)
    refine qcheck_eq (by omega) hi h.1 h.2 (pName_eqB (by have := h.2; omega)) fun hn => sContains_quo ?_
    unfold nameV at hn
    simp only [Bool.and_eq_true, decide_eq_true_eq] at hn
    omega
theorem qPrint_eq {l : List Rule} (hl : l.length ≤ 9223372036854775807) (hs : ∀ r ∈ l, r.Class.length ≤ 100000 ∧ r.Trigger.length ≤ 100000) : qPrint_S l = some (bif ((checkV l).2 != 0) then ([], 1) else (printV l, 0)) := by
  simp only [qPrint_S, qPrint_F, qCheck_eqB hl (fun r hr => ⟨by have := (hs r hr).1; omega, by have := (hs r hr).2; omega⟩), Option.bind_some]
  by_cases h : (checkV l).2 = 0
  · rw [h, show ((0 : Int) != 0) = false from rfl, cond_false, cond_false]
    obtain ⟨h1, h2⟩ := checkV_ok h
    exact qPrint_loop h1 (fun r hr => ⟨h2 r hr, hs r hr⟩) l.length 0 (l.length + 1) false [] (by omega) (by omega) (by omega) (by simp)
  · rw [show ((checkV l).2 != 0) = true by simpa using h]; rfl
/- Reading. -/
def linesV : Nat → Str → List Rule → Bool × List Rule
  | 0, _, o => (false, o)
  | f + 1, t, o => bif (t == []) then (true, o) else
    bif (!(readV (breakV 10 t).1).2) then (false, o) else bif ((breakV 10 t).2 == []) then (false, o) else linesV f ((breakV 10 t).2.drop 1) (o ++ [(readV (breakV 10 t).1).1])
theorem cut_break (t : Str) : Lib.cut t [10] = ((breakV 10 t).1, (breakV 10 t).2.drop 1, !((breakV 10 t).2 == [])) := by
  unfold Lib.cut
  rw [Lib.index_one]
  rcases indexByte_break 10 t with ⟨h1, h2⟩ | ⟨k, h1, h2, h3⟩
  · rw [h1, h2, if_neg (by decide)]; rfl
  · rw [h1, h3, if_pos (by omega), Int.toNat_natCast]
    have : (t.drop k == []) = false := by
      rw [beq_eq_false_iff_ne]; intro h; have := congrArg List.length h; simp at this; omega
    simp only [this, Bool.not_false, List.drop_drop, List.length_singleton]
theorem break_len (c : UInt8) (t : Str) : (breakV c t).1.length + (breakV c t).2.length = t.length := by
  have := congrArg List.length (break_app c t)
  rwa [List.length_append] at this
theorem lines_eq : ∀ (fu : Nat) (t : Str) (o : List Rule), t.length ≤ 65536 → o.length + t.length ≤ 65536 → t.length < fu →
    ∃ x, qlines_1_L1 fu [] 0 0 t o = some (bif (linesV fu t o).1 then (true, [], 0, 0, (linesV fu t o).2, x) else (false, [], ((linesV fu t o).2.length : Int), 3, (linesV fu t o).2, x))
  | 0, _, _, _, _, h => by omega
  | fu + 1, t, o, ht, ho, hf => by
    simp only [qlines_1_L1, linesV]
    cases h0 : t == [] with
    | true => exact ⟨t, rfl⟩
    | false =>
      have htp : 0 < t.length := by
        cases t with
        | nil => exact absurd h0 (by decide)
        | cons a b => simp
      have hb := break_len 10 t
      have hcut : sCut_S t [10] = some ((breakV 10 t).1, (breakV 10 t).2.drop 1, !((breakV 10 t).2 == [])) := by
        unfold sCut_S
        rw [decide_eq_true (by omega), cond_true, cut_break]
      rw [Bool.not_false, cond_true, cond_false, hcut, Option.bind_some]
      simp only [qParse_R0_XS, qParse_R0_F, qread_eq (show (breakV 10 t).1.length ≤ 70000 by omega), Option.bind_some, List.length_map]
      cases hr : (readV (breakV 10 t).1).2 with
      | false =>
        rw [Bool.not_false, cond_true, cond_true]
        exact ⟨t, rfl⟩
      | true =>
        rw [Bool.not_true, cond_false, cond_false]
        cases hw : (breakV 10 t).2 == [] with
        | true =>
          rw [Bool.not_true, Bool.not_false, cond_true, cond_true]
          exact ⟨t, rfl⟩
        | false =>
          have hw2 : 0 < (breakV 10 t).2.length := by
            cases hq : (breakV 10 t).2 with
            | nil => rw [hq] at hw; exact absurd hw (by decide)
            | cons a b => simp
          rw [Bool.not_false, Bool.not_true, cond_false, cond_false, decide_eq_true (by simp; omega), cond_true, Option.bind_some, cond_true]
          exact lines_eq fu ((breakV 10 t).2.drop 1) (o ++ [(readV (breakV 10 t).1).1]) (by simp; omega) (by simp; omega) (by simp; omega)
def parseV (t : Str) : List Rule × Int × Int := bif (linesV 70000 t []).1 then (bif ((checkV (linesV 70000 t []).2).2 != 0) then ([], -1, 1) else ((linesV 70000 t []).2, -1, 0)) else ([], ((linesV 70000 t []).2.length : Int), 3)
theorem span_cl (mk : Span → Rule) {cl : Str} (hmk : ∀ i, (mk i).Class = cl) (u : RestT) : (spanTail mk u).1.Class = cl := by
  unfold spanTail
  cases (tryV (dateR (takeV u tFrom)).2 tUntil).1 <;> exact hmk _
theorem span_tr (mk : Span → Rule) {cl : Str} (hmk : ∀ i, (mk i).Trigger = cl) (u : RestT) : (spanTail mk u).1.Trigger = cl := by
  unfold spanTail
  cases (tryV (dateR (takeV u tFrom)).2 tUntil).1 <;> exact hmk _
theorem read_small {s : Str} (h : s.length ≤ 70000) : (readV s).1.Class.length ≤ 70000 ∧ (readV s).1.Trigger.length ≤ 70000 := by
  have b1 := take_len ⟨s, false⟩ tRule
  have b2 := number_len (takeV ⟨s, false⟩ tRule)
  have b3 := take_len (numberV (takeV ⟨s, false⟩ tRule)).2 tClass
  have b4 := until_len (takeV (numberV (takeV ⟨s, false⟩ tRule)).2 tClass) 32
  have bc : (headV s).2.1.length ≤ 70000 := Nat.le_trans b4.1 (Nat.le_trans b3 (Nat.le_trans b2 (Nat.le_trans b1 h)))
  have bu : (headV s).2.2.s.length ≤ 70000 := by
    unfold headV
    cases ((parseF (codeV (untilV (takeV (numberV (takeV ⟨s, false⟩ tRule)).2 tClass) 32).1)).2 != 0) <;> exact Nat.le_trans b4.2 (Nat.le_trans b3 (Nat.le_trans b2 (Nat.le_trans b1 h)))
  have bt : (untilV (takeV (tryV (headV s).2.2 tKeep).2 tAfter) 34).1.length ≤ 70000 := Nat.le_trans (until_len _ _).1 (Nat.le_trans (take_len _ _) (Nat.le_trans (try_len _ _) bu))
  unfold readV tailV
  generalize (headV s).2.2 = u at bt ⊢
  cases (tryV u tKeep).1 with
  | true =>
    refine ⟨?_, ?_⟩
    · rw [cond_true, span_cl _ (cl := (headV s).2.1) fun _ => rfl]; exact bc
    · rw [cond_true, span_tr _ (cl := opened) fun _ => rfl]; decide
  | false =>
    rw [cond_false]
    cases (tryV (tryV (takeV (numberV (takeV (untilV (takeV (tryV u tKeep).2 tAfter) 34).2 tQ)).2 tYears) tEnd).2 tDestroy).1 with
    | false =>
      refine ⟨?_, ?_⟩
      · rw [Bool.not_false, cond_true, span_cl _ (cl := (headV s).2.1) fun _ => rfl]; exact bc
      · rw [Bool.not_false, cond_true, span_tr _ (cl := (untilV (takeV (tryV u tKeep).2 tAfter) 34).1) fun _ => rfl]; exact bt
    | true =>
      refine ⟨?_, ?_⟩
      · rw [Bool.not_true, cond_false, span_cl _ (cl := (headV s).2.1) fun _ => rfl]; exact bc
      · rw [Bool.not_true, cond_false, span_tr _ (cl := (untilV (takeV (tryV u tKeep).2 tAfter) 34).1) fun _ => rfl]; exact bt
theorem linesV_small : ∀ (fu : Nat) (t : Str) (o : List Rule), t.length ≤ 65536 → (∀ r ∈ o, r.Class.length ≤ 70000 ∧ r.Trigger.length ≤ 70000) → (∀ r ∈ (linesV fu t o).2, r.Class.length ≤ 70000 ∧ r.Trigger.length ≤ 70000) ∧ (linesV fu t o).2.length ≤ o.length + fu
  | 0, _, o, _, h => ⟨h, by simp [linesV]⟩
  | fu + 1, t, o, ht, h => by
    have hb := break_len 10 t
    rw [linesV]
    cases t == [] with
    | true => exact ⟨h, by simp⟩
    | false =>
      rw [cond_false]
      cases (readV (breakV 10 t).1).2 with
      | false => exact ⟨h, by simp⟩
      | true =>
        rw [Bool.not_true, cond_false]
        cases (breakV 10 t).2 == [] with
        | true => exact ⟨h, by simp⟩
        | false =>
          rw [cond_false]
          have := linesV_small fu ((breakV 10 t).2.drop 1) (o ++ [(readV (breakV 10 t).1).1]) (by simp; omega) (fun r hr => by
            rcases List.mem_append.1 hr with hr | hr
            · exact h r hr
            · rw [List.mem_singleton] at hr; subst hr; exact read_small (by omega))
          refine ⟨this.1, Nat.le_trans this.2 (by simp; omega)⟩
theorem qParse_eq {t : Str} (ht : t.length ≤ 65536) : qParse_S t = some (parseV t) := by
  simp only [qParse_S, qParse_F, decide_eq_false (show ¬ (t.length : Int) > 65536 by omega), cond_false]
  obtain ⟨x, hx⟩ := lines_eq 70000 t [] ht (by simpa using ht) (by omega)
  have hx' : qlines_1_XS [] 0 0 [] t = some (bif (linesV 70000 t []).1 then (true, [], 0, 0, (linesV 70000 t []).2, x) else (false, [], ((linesV 70000 t []).2.length : Int), 3, (linesV 70000 t []).2, x)) := hx
  rw [hx', Option.bind_some]
  obtain ⟨s1, s2⟩ := linesV_small 70000 t [] ht (by simp)
  unfold parseV
  cases hl : (linesV 70000 t []).1 with
  | false => rfl
  | true =>
    simp only [cond_true]
    rw [qCheck_eqB (by simp at s2; omega) (fun r hr => ⟨by have := (s1 r hr).1; omega, by have := (s1 r hr).2; omega⟩), Option.bind_some]
    cases (checkV (linesV 70000 t []).2).2 != 0 <;> rfl
end Go.Proofs.YtjoacimgcepjdaaGreatDoor
