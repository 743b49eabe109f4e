/- Texts of rules: what is printed is read, and what is read is printed so. -/
import Derived.Test.YtjoacimgcepjdaaGreatDoorLEnds
set_option linter.unusedSimpArgs false
set_option linter.unusedVariables false
namespace Go.Proofs.YtjoacimgcepjdaaGreatDoor
open Go Go.Abs
/- Forth. -/
theorem pre_app (p s : Str) : p.isPrefixOf (p ++ s) = true := by
  induction p with
  | nil => rfl
  | cons c p ih => simp only [List.cons_append, List.isPrefixOf, beq_self_eq_true, Bool.true_and, ih]
theorem take_pre (p s : Str) (b : Bool) : takeV ⟨p ++ s, b⟩ p = ⟨s, b⟩ := by
  unfold takeV
  simp only [pre_app, cond_true, List.drop_left]
theorem try_pre (p s : Str) (b : Bool) : tryV ⟨p ++ s, b⟩ p = (true, ⟨s, b⟩) := by
  unfold tryV
  simp only [pre_app, cond_true, List.drop_left]
theorem until_pre {w : Str} {c : UInt8} (s : Str) (b : Bool) (h : w.all (· != c) = true) : untilV ⟨w ++ c :: s, b⟩ c = (w, ⟨c :: s, b⟩) := by
  unfold untilV
  simp only [break_cons c w s h]
theorem until_all {w : Str} {c : UInt8} (b : Bool) (h : w.all (· != c) = true) : untilV ⟨w, b⟩ c = (w, ⟨[], b⟩) := by
  unfold untilV
  simp only [break_end c w h]
theorem d0_ne (c : UInt8) (hc : c.toNat < 48 ∨ 57 < c.toNat) : ∀ w : Str, w.all d0 = true → w.all (· != c) = true := fun w h => by
  rw [List.all_eq_true] at h ⊢
  intro x hx
  have := d0_iff.1 (h x hx)
  simp only [bne_iff_ne]
  rintro rfl
  omega
theorem numOk_dec {n : Nat} (h : n ≤ 1073741824) : numOk (decS n) = true := by
  unfold numOk
  rw [atoi_decS (by omega)]
  simp only [Bool.not_false, Bool.true_and, Int.toNat_natCast, beq_self_eq_true, Bool.and_true, Bool.and_eq_true, decide_eq_true_eq]
  omega
theorem number_pre {n : Nat} (h : n ≤ 1073741824) (s : Str) (b : Bool) : numberV ⟨decS n ++ 32 :: s, b⟩ = ((n : Int), ⟨32 :: s, b⟩) := by
  unfold numberV
  rw [until_pre s b (d0_ne 32 (by decide) (decS n) (decK_d0 10 n))]
  simp only [atoi_decS (show n < 10000000000 by omega), numOk_dec h, cond_true]
theorem dig2_d0 : ∀ n : Nat, n < 100 → (dig2 n).all d0 = true := by decide +kernel
theorem dig4_d0 (n : Nat) (h : n < 10000) : (dig4 n).all d0 = true := by
  unfold dig4
  simp only [List.all_cons, List.all_nil, dig_d0 (n / 1000) (by omega), dig_d0 (n / 100 % 10) (by omega), dig_d0 (n / 10 % 10) (by omega), dig_d0 (n % 10) (by omega), Bool.and_true]
theorem dateS_ne {d : Int} (h : goodD d = true) (c : UInt8) (hc : (c.toNat < 48 ∨ 57 < c.toNat) ∧ c ≠ 45) : (dateS d).all (· != c) = true := by
  obtain ⟨h0, h1⟩ := goodD_iff.1 h
  obtain ⟨yi, yl⟩ := yearV_is h0 h1
  have yh := year_hi yi h1
  obtain ⟨m1, m2, m3, m4⟩ := monV_spec h0 h1
  have hl := (lenV_bd (leapV (yearV d)) (monV d).1).2
  unfold dateS
  simp only [List.all_append, d0_ne c hc.1 _ (dig4_d0 (yearV d).toNat (by omega)), d0_ne c hc.1 _ (dig2_d0 (monV d).1 (by omega)), d0_ne c hc.1 _ (dig2_d0 ((monV d).2 + 1) (by omega)), List.all_cons, List.all_nil, Bool.true_and, Bool.and_true]
  simp only [Bool.and_eq_true, bne_iff_ne]
  exact ⟨Ne.symm hc.2, Ne.symm hc.2⟩
theorem date_pre {d : Int} (h : goodD d = true) (s : Str) (b : Bool) : dateR ⟨dateS d ++ 32 :: s, b⟩ = (d, ⟨32 :: s, b⟩) := by
  unfold dateR
  rw [until_pre s b (dateS_ne h 32 (by decide))]
  simp only [parse_forth h]
  rfl
theorem date_all {d : Int} (h : goodD d = true) (b : Bool) : dateR ⟨dateS d, b⟩ = (d, ⟨[], b⟩) := by
  unfold dateR
  rw [until_all b (dateS_ne h 32 (by decide))]
  simp only [parse_forth h]
  rfl
theorem span_forth (mk : Span → Rule) {i : Span} (hf : goodD i.From = true) (hu : i.Until = 1048576 ∨ goodD i.Until = true) : spanTail mk ⟨spanS i, false⟩ = (mk i, true) := by
  obtain ⟨a, z⟩ := i
  unfold spanTail spanS
  simp only at hf hu ⊢
  by_cases h : z = 1048576
  · subst h
    rw [show ((1048576 : Int) != 1048576) = false from rfl, cond_false, List.append_nil, take_pre, date_all hf]
    rfl
  · have hz := hu.resolve_left h
    rw [show (z != 1048576) = true by simpa using h, cond_true, List.append_assoc, take_pre]
    have e : dateS a ++ (tUntil ++ dateS z) = dateS a ++ 32 :: ([117, 110, 116, 105, 108, 32] ++ dateS z) := rfl
    rw [e, date_pre hf]
    have e2 : (32 :: ([117, 110, 116, 105, 108, 32] ++ dateS z) : Str) = tUntil ++ dateS z := rfl
    rw [e2, try_pre]
    simp only [cond_true, date_all hz]
    rfl
theorem mid_forth {id : Int} {r : Rule} (hq : quo r.Trigger = false) (hy : 0 ≤ r.Years ∧ r.Years ≤ 200) (ha : 1 ≤ r.Action ∧ r.Action ≤ 3) (h3 : r.Action = 3 → r.Trigger = opened ∧ r.Years = 0 ∧ r.YearEnd = false)
    (hf : goodD r.In.From = true) (hu : r.In.Until = 1048576 ∨ goodD r.In.Until = true) : tailV r.ID r.Class ⟨midV r ++ spanS r.In, false⟩ = (r, true) := by
  obtain ⟨rid, cl, tr, ye, en, ac, i⟩ := r
  simp only at hq hy ha h3 hf hu ⊢
  unfold tailV midV
  simp only
  by_cases hac : ac = 3
  · subst hac
    obtain ⟨rfl, rfl, rfl⟩ := h3 rfl
    rw [show ((3 : Int) == 3) = true from rfl, cond_true, try_pre]
    simp only [cond_true]
    exact span_forth _ hf hu
  · rw [show (ac == 3) = false by simpa using hac, cond_false]
    have hsp : ∃ s, spanS i = 32 :: s := ⟨_, rfl⟩
    have hqa : tr.all (· != 34) = true := by
      unfold quo at hq
      rw [List.any_eq_false] at hq
      rw [List.all_eq_true]
      intro x hx
      have := hq x hx
      simpa using this
    have f1 : ∀ s : Str, tryV ⟨tAfter ++ s, false⟩ tKeep = (false, ⟨tAfter ++ s, false⟩) := fun s => rfl
    have f2 : ∀ s : Str, tryV ⟨tDestroy ++ s, false⟩ tEnd = (false, ⟨tDestroy ++ s, false⟩) := fun s => rfl
    have f3 : ∀ s : Str, tryV ⟨tTransfer ++ s, false⟩ tEnd = (false, ⟨tTransfer ++ s, false⟩) := fun s => rfl
    have f4 : ∀ s : Str, tryV ⟨tTransfer ++ s, false⟩ tDestroy = (false, ⟨tTransfer ++ s, false⟩) := fun s => rfl
    have hyn : ((ye.toNat : Nat) : Int) = ye := by omega
    have num : ∀ s : Str, numberV ⟨decS ye.toNat ++ (tYears ++ s), false⟩ = (ye, ⟨tYears ++ s, false⟩) := fun s => by
      have := number_pre (n := ye.toNat) (by omega) ([121, 101, 97, 114, 115] ++ s) false
      rw [hyn] at this
      exact this
    have unt : ∀ s : Str, untilV ⟨tr ++ (tQ ++ s), false⟩ 34 = (tr, ⟨tQ ++ s, false⟩) := fun s => until_pre (32 :: s) false hqa
    by_cases h1 : ac = 1
    · subst h1
      rw [show ((1 : Int) == 1) = true from rfl, cond_true]
      cases en with
      | true =>
        rw [cond_true]
        simp only [List.append_assoc, f1, cond_false, take_pre, unt, num, try_pre, Bool.not_true]
        exact span_forth _ hf hu
      | false =>
        rw [cond_false]
        simp only [List.append_assoc, List.nil_append, f1, cond_false, take_pre, unt, num, f2, try_pre, Bool.not_true]
        exact span_forth _ hf hu
    · have h2 : ac = 2 := by omega
      subst h2
      rw [show ((2 : Int) == 1) = false from rfl, cond_false]
      cases en with
      | true =>
        rw [cond_true]
        simp only [List.append_assoc, f1, cond_false, take_pre, unt, num, try_pre, f4, Bool.not_false, cond_true]
        exact span_forth _ hf hu
      | false =>
        rw [cond_false]
        simp only [List.append_assoc, List.nil_append, f1, cond_false, take_pre, unt, num, f3, f4, Bool.not_false, cond_true]
        exact span_forth _ hf hu
theorem tl_ne (c : UInt8) (hc : (c.toNat < 48 ∨ 57 < c.toNat) ∧ c ≠ 46) : ∀ l : List Nat, (∀ n ∈ l, n < 1000) → (tl l).all (· != c) = true
  | [], _ => rfl
  | n :: l, h => by
    rw [tl, List.all_cons, List.all_append, tl_ne c hc l (fun m hm => h m (List.mem_cons_of_mem _ hm))]
    have : (digs n).all (· != c) = true := d0_ne c hc.1 _ (digs_d0 n (h n (by simp)))
    rw [this]
    simp only [Bool.and_true, bne_iff_ne]
    exact Ne.symm hc.2
where digs_d0 : ∀ n : Nat, n < 1000 → (digs n).all d0 = true := by decide +kernel
theorem code_ne {s : Str} {l : List Nat} (h : codeV s = some l) (c : UInt8) (hc : (c.toNat < 48 ∨ 57 < c.toNat) ∧ c ≠ 46) : s.all (· != c) = true := by
  obtain ⟨h1, h2, h3, h4⟩ := codeV_spec h
  rw [h1]
  cases l with
  | nil => simp at h2
  | cons n r =>
    rw [fmt_tl, List.all_append, tl_ne c hc r (fun m hm => (h4 m (List.mem_cons_of_mem _ hm)).2), d0_ne c hc.1 _ (tl_ne.digs_d0 n (h4 n (by simp)).2)]
    rfl
theorem chkN_pr : ∀ (s : Str) (p : Option UInt8), chkN p s = true → s.all pr1 = true := fun s p h => by
  cases hq : s.all pr1 with
  | true => rfl
  | false => rw [chk_all s p hq] at h; cases h
theorem rest_zero {r : Rule} (h : restV r = 0) : (∃ l, codeV r.Class = some l) ∧ nameV r.Trigger = true ∧ quo r.Trigger = false ∧ (r.Action = 3 → r.Trigger = opened ∧ r.Years = 0 ∧ r.YearEnd = false) := by
  unfold restV at h
  cases hc : codeV r.Class with
  | none => rw [hc] at h; exact absurd (show (3 : Int) = 0 from h) (by decide)
  | some l =>
    rw [hc] at h
    simp only [parseF] at h
    rw [show ((0 : Int) != 0) = false from rfl, cond_false] at h
    cases hn : nameV r.Trigger with
    | false => rw [hn] at h; exact absurd (show (4 : Int) = 0 from h) (by decide)
    | true =>
      rw [hn, Bool.not_true, cond_false] at h
      cases hq : quo r.Trigger with
      | true => rw [hq] at h; exact absurd (show (4 : Int) = 0 from h) (by decide)
      | false =>
        rw [hq, cond_false] at h
        refine ⟨⟨l, rfl⟩, rfl, rfl, fun h3 => ?_⟩
        rw [show (r.Action == 3) = true by simpa using h3, cond_true] at h
        cases ho : r.Trigger == opened with
        | false => rw [ho] at h; exact absurd (show (1 : Int) = 0 from h) (by decide)
        | true =>
          rw [ho, Bool.not_true, cond_false] at h
          by_cases hy : r.Years = 0
          · rw [hy, show ((0 : Int) != 0) = false from rfl, cond_false] at h
            cases he : r.YearEnd with
            | true => rw [he] at h; exact absurd (show (1 : Int) = 0 from h) (by decide)
            | false => exact ⟨by simpa using ho, hy, rfl⟩
          · rw [show (r.Years != 0) = true by simpa using hy] at h; exact absurd (show (1 : Int) = 0 from h) (by decide)
theorem body_forth {r : Rule} {o : Option Int} (h : ruleErr o r = 0) : readV (bodyV r) = (r, true) := by
  obtain ⟨e1, e2, e3⟩ := err_zero.1 h
  obtain ⟨f1, f2, f3, f4, f5, f6, f7⟩ := fault_zero.1 e1
  obtain ⟨g1, g2, g3, g4, g5, g6⟩ := goodR_of h
  obtain ⟨⟨l, hc⟩, hn, hq, h3⟩ := rest_zero e3
  have hcl : r.Class.all (· != 32) = true := code_ne hc 32 (by decide)
  have hmid : ∃ s, midV r ++ spanS r.In = 32 :: s := by
    unfold midV
    cases (r.Action == 3) with
    | true => exact ⟨_, rfl⟩
    | false => exact ⟨_, rfl⟩
  obtain ⟨ms, hms⟩ := hmid
  unfold readV headV bodyV
  have e : tRule ++ decS r.ID.toNat ++ tClass ++ r.Class ++ midV r ++ spanS r.In = tRule ++ (decS r.ID.toNat ++ 32 :: ([99, 108, 97, 115, 115, 32] ++ (r.Class ++ 32 :: ms))) := by
    rw [← hms]; simp only [List.append_assoc]; rfl
  rw [e, take_pre, number_pre (by omega)]
  have e2 : (32 :: ([99, 108, 97, 115, 115, 32] ++ (r.Class ++ 32 :: ms)) : Str) = tClass ++ (r.Class ++ 32 :: ms) := rfl
  simp only [e2, take_pre, until_pre ms false hcl, hc, parseF]
  rw [show ((0 : Int) != 0) = false from rfl, cond_false, ← hms, show ((r.ID.toNat : Nat) : Int) = r.ID by omega]
  exact mid_forth (id := r.ID) hq ⟨by omega, by omega⟩ ⟨by omega, by omega⟩ h3 g5 g6
theorem all_d (w : Str) (h : w.all d0 = true) : w.all (· != 10) = true := d0_ne 10 (by decide) w h
theorem span_ne {i : Span} (hf : goodD i.From = true) (hu : i.Until = 1048576 ∨ goodD i.Until = true) : (spanS i).all (· != 10) = true := by
  unfold spanS
  rw [List.all_append, List.all_append, dateS_ne hf 10 (by decide)]
  by_cases h : i.Until = 1048576
  · rw [h]; rfl
  · rw [show (i.Until != 1048576) = true by simpa using h, cond_true, List.all_append, dateS_ne (hu.resolve_left h) 10 (by decide)]; rfl
theorem body_ne {r : Rule} {o : Option Int} (h : ruleErr o r = 0) : (bodyV r).all (· != 10) = true := by
  obtain ⟨e1, e2, e3⟩ := err_zero.1 h
  obtain ⟨g1, g2, g3, g4, g5, g6⟩ := goodR_of h
  obtain ⟨⟨l, hc⟩, hn, hq, h3⟩ := rest_zero e3
  have hcl : r.Class.all (· != 10) = true := code_ne hc 10 (by decide)
  have htr : r.Trigger.all (· != 10) = true := by
    unfold nameV at hn
    simp only [Bool.and_eq_true] at hn
    have := chkN_pr _ _ hn.2
    rw [List.all_eq_true] at this ⊢
    intro x hx
    have := this x hx
    unfold pr1 at this
    simp only [Bool.and_eq_true, decide_eq_true_eq] at this
    simp only [bne_iff_ne]
    rintro rfl
    exact absurd this.1 (by decide)
  have hm : (midV r).all (· != 10) = true := by
    unfold midV
    cases (r.Action == 3) with
    | true => rfl
    | false =>
      rw [cond_false]
      simp only [List.all_append, htr, all_d _ (decK_d0 10 r.Years.toNat), decS]
      cases r.YearEnd <;> cases (r.Action == 1) <;> rfl
  unfold bodyV
  simp only [List.all_append, hcl, hm, span_ne g5 g6, decS, all_d _ (decK_d0 10 r.ID.toNat)]
  rfl
theorem lines_forth : ∀ {l : List Rule} {p : Option Int} {i : Nat} (fu : Nat) (o : List Rule), (checkL p i l).2 = 0 → l.length < fu → linesV fu (printV l) o = (true, o ++ l)
  | _, _, _, 0, _, _, h => by omega
  | [], _, _, fu + 1, o, _, _ => by rw [printV, linesV, List.append_nil]; rfl
  | r :: l, p, i, fu + 1, o, h, hf => by
    rw [checkL] at h
    by_cases hr : ruleErr p r = 0
    · rw [hr, show ((0 : Int) != 0) = false from rfl, cond_false] at h
      have e : printV (r :: l) = bodyV r ++ 10 :: printV l := by rw [printV, lineV, List.append_assoc]; rfl
      have h0 : (bodyV r ++ 10 :: printV l == []) = false := by
        rw [beq_eq_false_iff_ne]; intro hq; have := congrArg List.length hq; simp at this
      rw [e, linesV, h0, cond_false, break_cons 10 _ _ (body_ne hr), body_forth hr]
      simp only [Bool.not_true, cond_false, show ((10 :: printV l : Str) == []) = false from rfl, List.drop_succ_cons, List.drop_zero]
      rw [lines_forth fu (o ++ [r]) h (by simp at hf; omega), List.append_assoc]; rfl
    · rw [show (ruleErr p r != 0) = true by simpa using hr, cond_true] at h
      exact absurd h hr
theorem parse_print {l : List Rule} (h : (checkV l).2 = 0) : parseV (printV l) = (l, -1, 0) := by
  obtain ⟨h64, -⟩ := checkV_ok h
  have hc := h
  unfold checkV at hc
  rw [if_neg (by omega)] at hc
  unfold parseV
  rw [lines_forth 70000 [] hc (by omega)]
  simp only [List.nil_append, cond_true, h]
  rfl
/- Back. -/
theorem pre_back {p s : Str} (h : p.isPrefixOf s = true) : s = p ++ s.drop p.length := by
  have := List.isPrefixOf_iff_prefix.1 h
  obtain ⟨t, rfl⟩ := this
  rw [List.drop_left]
theorem take_back {u : RestT} {p : Str} (h : (takeV u p).bad = false) : u.bad = false ∧ u.s = p ++ (takeV u p).s := by
  unfold takeV at h ⊢
  cases hp : p.isPrefixOf u.s with
  | true => rw [hp] at h; exact ⟨h, pre_back hp⟩
  | false => rw [hp] at h; exact absurd (show true = false from h) (by decide)
theorem try_back {u : RestT} {p : Str} (h : (tryV u p).1 = true) : (tryV u p).2.bad = u.bad ∧ u.s = p ++ (tryV u p).2.s := by
  unfold tryV at h ⊢
  cases hp : p.isPrefixOf u.s with
  | true => exact ⟨rfl, pre_back hp⟩
  | false => rw [hp] at h; exact absurd (show false = true from h) (by decide)
theorem try_not {u : RestT} {p : Str} (h : (tryV u p).1 = false) : (tryV u p).2 = u := by
  unfold tryV at h ⊢
  cases hp : p.isPrefixOf u.s with
  | true => rw [hp] at h; exact absurd (show true = false from h) (by decide)
  | false => rfl
theorem until_back (u : RestT) (c : UInt8) : (untilV u c).2.bad = u.bad ∧ u.s = (untilV u c).1 ++ (untilV u c).2.s := ⟨rfl, (break_app c u.s).symm⟩
theorem number_back {u : RestT} (h : (numberV u).2.bad = false) : u.bad = false ∧ 0 ≤ (numberV u).1 ∧ u.s = decS (numberV u).1.toNat ++ (numberV u).2.s := by
  obtain ⟨k1, k2⟩ := until_back u 32
  unfold numberV at h ⊢
  cases hn : numOk (untilV u 32).1 with
  | false => rw [hn] at h; exact absurd (show true = false from h) (by decide)
  | true =>
    rw [hn] at h
    unfold numOk at hn
    simp only [Bool.and_eq_true, decide_eq_true_eq, beq_iff_eq] at hn
    refine ⟨k1.symm.trans h, hn.1.1.2, ?_⟩
    rw [hn.2]
    exact k2
theorem date_back' {u : RestT} (h : (dateR u).2.bad = false) : u.bad = false ∧ goodD (dateR u).1 = true ∧ u.s = dateS (dateR u).1 ++ (dateR u).2.s := by
  obtain ⟨k1, k2⟩ := until_back u 32
  unfold dateR at h ⊢
  by_cases hn : (parseD (untilV u 32).1).2 = 0
  · rw [show ((parseD (untilV u 32).1).2 != 0) = false by simpa using hn] at h ⊢
    obtain ⟨p1, p2⟩ := parse_back hn
    refine ⟨k1.symm.trans h, p1, ?_⟩
    rw [cond_false, ← p2]
    exact k2
  · rw [show ((parseD (untilV u 32).1).2 != 0) = true by simpa using hn] at h
    exact absurd (show true = false from h) (by decide)
theorem span_back (mk : Span → Rule) {u : RestT} (h : (spanTail mk u).2 = true) : ∃ i, (spanTail mk u).1 = mk i ∧ u.bad = false ∧ u.s = spanS i := by
  unfold spanTail at h ⊢
  cases ht : (tryV (dateR (takeV u tFrom)).2 tUntil).1 with
  | true =>
    rw [ht, cond_true] at h
    cases hb : (dateR (tryV (dateR (takeV u tFrom)).2 tUntil).2).2.bad with
    | true => rw [hb] at h; exact absurd (show false = true from h) (by decide)
    | false =>
      rw [hb, Bool.not_false, cond_true] at h
      obtain ⟨a1, a2, a3⟩ := date_back' hb
      obtain ⟨b1, b2⟩ := try_back ht
      obtain ⟨c1, c2, c3⟩ := date_back' (b1.symm.trans a1)
      obtain ⟨d1, d2⟩ := take_back c1
      have he : (dateR (tryV (dateR (takeV u tFrom)).2 tUntil).2).2.s = [] := by simpa using h
      refine ⟨_, rfl, d1, ?_⟩
      unfold spanS
      have hu := goodD_iff.1 a2
      have : ((dateR (tryV (dateR (takeV u tFrom)).2 tUntil).2).1 != 1048576) = true := by
        simp only [bne_iff_ne]; omega
      simp only [this, cond_true]
      rw [d2, c3, b2, a3, he, List.append_nil, List.append_assoc]
  | false =>
    rw [ht, cond_false] at h
    have hq := try_not ht
    cases hb : (tryV (dateR (takeV u tFrom)).2 tUntil).2.bad with
    | true => rw [hb] at h; exact absurd (show false = true from h) (by decide)
    | false =>
      rw [hb, Bool.not_false, cond_true] at h
      rw [hq] at hb h
      obtain ⟨c1, c2, c3⟩ := date_back' hb
      obtain ⟨d1, d2⟩ := take_back c1
      have he : (dateR (takeV u tFrom)).2.s = [] := by simpa using h
      refine ⟨_, rfl, d1, ?_⟩
      unfold spanS
      rw [d2, c3, he]
      simp
theorem tail_back {id : Int} {cl : Str} {u : RestT} (h : (tailV id cl u).2 = true) : u.bad = false ∧ u.s = midV (tailV id cl u).1 ++ spanS (tailV id cl u).1.In ∧ (tailV id cl u).1.ID = id ∧ (tailV id cl u).1.Class = cl := by
  unfold tailV at h ⊢
  cases hk : (tryV u tKeep).1 with
  | true =>
    rw [hk, cond_true] at h
    rw [cond_true]
    obtain ⟨i, h1, h2, h3⟩ := span_back _ h
    obtain ⟨b1, b2⟩ := try_back hk
    rw [h1]
    refine ⟨b1.symm.trans h2, ?_, rfl, rfl⟩
    rw [b2, h3]; rfl
  | false =>
    have hq := try_not hk
    rw [hk, cond_false] at h
    rw [cond_false]
    rw [hq] at h ⊢
    cases hd : (tryV (tryV (takeV (numberV (takeV (untilV (takeV u tAfter) 34).2 tQ)).2 tYears) tEnd).2 tDestroy).1 with
    | false =>
      have hdq := try_not hd
      rw [hd, Bool.not_false, cond_true] at h
      rw [Bool.not_false, cond_true]
      obtain ⟨i, h1, h2, h3⟩ := span_back _ h
      rw [h1]
      obtain ⟨a1, a2⟩ := take_back h2
      rw [hdq] at a1 a2
      cases he : (tryV (takeV (numberV (takeV (untilV (takeV u tAfter) 34).2 tQ)).2 tYears) tEnd).1 with
      | true =>
        obtain ⟨b1, b2⟩ := try_back he
        obtain ⟨c1, c2⟩ := take_back (b1.symm.trans a1)
        obtain ⟨d1, d2, d3⟩ := number_back c1
        obtain ⟨e1, e2⟩ := take_back d1
        obtain ⟨f1, f2⟩ := until_back (takeV u tAfter) 34
        obtain ⟨g1, g2⟩ := take_back (f1.symm.trans e1)
        refine ⟨g1, ?_, rfl, rfl⟩
        rw [hdq] at h3
        rw [g2, f2, e2, d3, c2, b2, a2, h3]
        simp only [midV, he, show ((2 : Int) == 3) = false from rfl, show ((2 : Int) == 1) = false from rfl, show ((1 : Int) == 3) = false from rfl, show ((1 : Int) == 1) = true from rfl, cond_true, cond_false, List.append_assoc, List.nil_append]
      | false =>
        have b2 := try_not he
        rw [b2] at a1 a2
        obtain ⟨c1, c2⟩ := take_back a1
        obtain ⟨d1, d2, d3⟩ := number_back c1
        obtain ⟨e1, e2⟩ := take_back d1
        obtain ⟨f1, f2⟩ := until_back (takeV u tAfter) 34
        obtain ⟨g1, g2⟩ := take_back (f1.symm.trans e1)
        refine ⟨g1, ?_, rfl, rfl⟩
        rw [g2, f2, e2, d3, c2, a2]
        rw [hdq, b2] at h3
        rw [h3]
        simp only [midV, he, show ((2 : Int) == 3) = false from rfl, show ((2 : Int) == 1) = false from rfl, show ((1 : Int) == 3) = false from rfl, show ((1 : Int) == 1) = true from rfl, cond_true, cond_false, List.append_assoc, List.nil_append]
    | true =>
      rw [hd, Bool.not_true, cond_false] at h
      rw [Bool.not_true, cond_false]
      obtain ⟨i, h1, h2, h3⟩ := span_back _ h
      rw [h1]
      obtain ⟨a1', a2⟩ := try_back hd
      have a1 := a1'.symm.trans h2
      cases he : (tryV (takeV (numberV (takeV (untilV (takeV u tAfter) 34).2 tQ)).2 tYears) tEnd).1 with
      | true =>
        obtain ⟨b1, b2⟩ := try_back he
        obtain ⟨c1, c2⟩ := take_back (b1.symm.trans a1)
        obtain ⟨d1, d2, d3⟩ := number_back c1
        obtain ⟨e1, e2⟩ := take_back d1
        obtain ⟨f1, f2⟩ := until_back (takeV u tAfter) 34
        obtain ⟨g1, g2⟩ := take_back (f1.symm.trans e1)
        refine ⟨g1, ?_, rfl, rfl⟩
        rw [g2, f2, e2, d3, c2, b2, a2, h3]
        simp only [midV, he, show ((2 : Int) == 3) = false from rfl, show ((2 : Int) == 1) = false from rfl, show ((1 : Int) == 3) = false from rfl, show ((1 : Int) == 1) = true from rfl, cond_true, cond_false, List.append_assoc, List.nil_append]
      | false =>
        have b2 := try_not he
        rw [b2] at a1
        obtain ⟨c1, c2⟩ := take_back a1
        obtain ⟨d1, d2, d3⟩ := number_back c1
        obtain ⟨e1, e2⟩ := take_back d1
        obtain ⟨f1, f2⟩ := until_back (takeV u tAfter) 34
        obtain ⟨g1, g2⟩ := take_back (f1.symm.trans e1)
        refine ⟨g1, ?_, rfl, rfl⟩
        have a3 : (takeV (numberV (takeV (untilV (takeV u tAfter) 34).2 tQ)).2 tYears).s = tDestroy ++ spanS i := by
          rw [← b2, a2, h3]
        rw [g2, f2, e2, d3, c2, a3]
        simp only [midV, he, show ((2 : Int) == 3) = false from rfl, show ((2 : Int) == 1) = false from rfl, show ((1 : Int) == 3) = false from rfl, show ((1 : Int) == 1) = true from rfl, cond_true, cond_false, List.append_assoc, List.nil_append]
theorem read_back {s : Str} (h : (readV s).2 = true) : s = bodyV (readV s).1 := by
  unfold readV at h ⊢
  obtain ⟨h1, h2, h3, h4⟩ := tail_back h
  have hb : ((parseF (codeV (untilV (takeV (numberV (takeV ⟨s, false⟩ tRule)).2 tClass) 32).1)).2 != 0) = false := by
    cases hq : ((parseF (codeV (untilV (takeV (numberV (takeV ⟨s, false⟩ tRule)).2 tClass) 32).1)).2 != 0) with
    | false => rfl
    | true => unfold headV at h1; rw [hq] at h1; exact absurd (show true = false from h1) (by decide)
  have hu : (headV s).2.2 = (untilV (takeV (numberV (takeV ⟨s, false⟩ tRule)).2 tClass) 32).2 := by unfold headV; rw [hb]; rfl
  unfold bodyV
  rw [h3, h4, List.append_assoc _ (midV _), ← h2, hu]
  rw [hu] at h1
  obtain ⟨a1, a2⟩ := until_back (takeV (numberV (takeV ⟨s, false⟩ tRule)).2 tClass) 32
  obtain ⟨b1, b2⟩ := take_back (a1.symm.trans h1)
  obtain ⟨c1, c2, c3⟩ := number_back b1
  obtain ⟨d1, d2⟩ := take_back c1
  show (RestT.mk s false).s = tRule ++ decS (numberV (takeV ⟨s, false⟩ tRule)).1.toNat ++ tClass ++ (untilV (takeV (numberV (takeV ⟨s, false⟩ tRule)).2 tClass) 32).1 ++ _
  rw [d2, c3, b2, a2]
  simp only [List.append_assoc]
theorem printV_app : ∀ (a b : List Rule), printV (a ++ b) = printV a ++ printV b
  | [], _ => rfl
  | r :: a, b => by rw [List.cons_append, printV, printV, printV_app a b, List.append_assoc]
theorem break_head (c : UInt8) : ∀ (s : Str), (breakV c s).2 = [] ∨ ∃ r, (breakV c s).2 = c :: r
  | [] => .inl rfl
  | b :: r => by
    rw [breakV]
    split
    · rename_i h; exact .inr ⟨r, by rw [h]⟩
    · exact break_head c r
theorem lines_back : ∀ (fu : Nat) (t : Str) (o : List Rule), (linesV fu t o).1 = true → ∃ l, (linesV fu t o).2 = o ++ l ∧ t = printV l
  | 0, _, _, h => by exact absurd (show false = true from h) (by decide)
  | fu + 1, t, o, h => by
    rw [linesV] at h ⊢
    cases h0 : t == [] with
    | true => exact ⟨[], by simp, by have : t = [] := by simpa using h0
                                     rw [this]; rfl⟩
    | false =>
      rw [h0, cond_false] at h
      rw [cond_false]
      cases hr : (readV (breakV 10 t).1).2 with
      | false => rw [hr] at h; exact absurd (show false = true from h) (by decide)
      | true =>
        rw [hr, Bool.not_true, cond_false] at h
        rw [Bool.not_true, cond_false]
        cases hw : (breakV 10 t).2 == [] with
        | true => rw [hw] at h; exact absurd (show false = true from h) (by decide)
        | false =>
          rw [hw, cond_false] at h
          rw [cond_false]
          obtain ⟨l, h1, h2⟩ := lines_back fu _ _ h
          refine ⟨(readV (breakV 10 t).1).1 :: l, by rw [h1, List.append_assoc]; rfl, ?_⟩
          rw [printV, lineV, ← read_back hr, ← h2]
          rcases break_head 10 t with hb | ⟨r, hb⟩
          · rw [hb] at hw; exact absurd hw (by decide)
          · have := break_app 10 t
            rw [hb] at this ⊢
            rw [List.drop_succ_cons, List.drop_zero, List.append_assoc]
            exact this.symm
end Go.Proofs.YtjoacimgcepjdaaGreatDoor
namespace Go.Proofs.YtjoacimgcepjdaaGreatDoor.ruleBack
open Go Go.Abs
theorem print_len : ∀ {l : List Rule}, (∀ r ∈ l, goodR r ∧ small r) → (printV l).length ≤ 600 * l.length
  | [], _ => Nat.le_refl _
  | r :: l, h => by
    have ih := print_len (l := l) fun q hq => h q (List.mem_cons_of_mem _ hq)
    obtain ⟨hg, hs⟩ := h r (by simp)
    have h1 := hs.1
    have h2 := hs.2
    have l1 : (decS r.ID.toNat).length ≤ 10 := decK_len _ _
    have l2 : (decS r.Years.toNat).length ≤ 10 := decK_len _ _
    have l3 := dateS_len r.In.From
    have l4 := dateS_len r.In.Until
    have hl : (lineV r).length ≤ 600 := by
      unfold lineV bodyV midV spanS
      cases r.Action == 3 <;> cases r.YearEnd <;> cases r.Action == 1 <;> cases (r.In.Until != 1048576) <;> simp only [cond_true, cond_false, List.length_append, List.length_cons, List.length_nil] <;> omega
    rw [printV, List.length_append, List.length_cons]
    omega
theorem tail (t : Str) (ht : t.length ≤ 1500) : (Option.bind (qParse_S t) fun y18 => bif (y18.2.2 != 0) then some ((((y18.1.map cRule).length : Int) == 0)) else (Option.bind (qPrint_S y18.1) fun y21 => Option.bind (qCheck_S y18.1) fun y23 => bif (y21.2 == 0) then (bif (y23.2 == 0) then some ((y21.1 == t)) else some (false)) else some (false))) = some true := by
  rw [qParse_eq (by omega), Option.bind_some]
  unfold parseV
  cases hl : (linesV 70000 t []).1 with
  | false => rfl
  | true =>
    simp only [cond_true]
    by_cases hc : (checkV (linesV 70000 t []).2).2 = 0
    · obtain ⟨l, h1, h2⟩ := lines_back 70000 t [] hl
      rw [List.nil_append] at h1
      obtain ⟨s1, s2⟩ := linesV_small 70000 t [] (by omega) (by simp)
      rw [h1] at hc s1 s2
      rw [h1, hc]
      simp only [show ((0 : Int) != 0) = false from rfl, cond_false]
      have hlen : l.length ≤ 9223372036854775807 := by simp at s2; omega
      rw [qPrint_eq hlen (fun r hr => ⟨by have := (s1 r hr).1; omega, by have := (s1 r hr).2; omega⟩), qCheck_eqB hlen (fun r hr => ⟨by have := (s1 r hr).1; omega, by have := (s1 r hr).2; omega⟩), hc]
      simp only [show ((0 : Int) != 0) = false from rfl, cond_false, Option.bind_some, show ((0 : Int) == 0) = true from rfl, cond_true]
      rw [hc, ← h2]
      show some (t == t) = some true
      rw [beq_self_eq_true]
    · rw [show ((checkV (linesV 70000 t []).2).2 != 0) = true by simpa using hc]; rfl
theorem law (l : List Rule) (t : Str) (hl : okRules l) (_ : okS t) : lRuleBack_S l t = some true := by
  simp only [lRuleBack_S, lRuleBack_F, awake_true, Option.bind_some, Bool.not_true, cond_false, xFew_eq hl.1]
  cases hf : few l with
  | false => rfl
  | true =>
    obtain ⟨h1, h2⟩ := few_spec hf
    rw [Bool.not_true, cond_false]
    by_cases ht : t.length ≤ 1500
    · rw [decide_eq_false (show ¬ (t.length : Int) > 1500 by omega), cond_false, qPrint_eq hl.1 (fun r hr => ⟨by have := (h2 r hr).1; omega, by have := (h2 r hr).2; omega⟩), Option.bind_some]
      by_cases hc : (checkV l).2 = 0
      · obtain ⟨k1, k2⟩ := checkV_ok hc
        have hp := print_len (l := l) fun r hr => ⟨k2 r hr, h2 r hr⟩
        rw [hc]
        simp only [show ((0 : Int) != 0) = false from rfl, cond_false, show ((0 : Int) == 0) = true from rfl, cond_true]
        rw [qParse_eq (by omega), parse_print hc, Option.bind_some]
        simp only [show ((0 : Int) != 0) = false from rfl, show ((-1 : Int) != -1) = false from rfl, cond_false]
        rw [slEqualR_eq hl.1, Option.bind_some, beq_self_eq_true, Bool.not_true, cond_false]
        exact tail t ht
      · rw [show ((checkV l).2 != 0) = true by simpa using hc]
        simp only [cond_true, show ((1 : Int) == 0) = false from rfl, cond_false, show (!(([] : Str) == [])) = false from rfl]
        exact tail t ht
    · rw [decide_eq_true (show (t.length : Int) > 1500 by omega), cond_true]
end Go.Proofs.YtjoacimgcepjdaaGreatDoor.ruleBack
