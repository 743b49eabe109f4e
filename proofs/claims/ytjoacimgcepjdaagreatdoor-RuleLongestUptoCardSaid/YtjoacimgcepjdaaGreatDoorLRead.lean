/- Dates are read and printed; lines are read. -/
import Derived.Test.YtjoacimgcepjdaaGreatDoorLText
set_option linter.unusedSimpArgs false
set_option linter.unusedVariables false
namespace Go.Proofs.YtjoacimgcepjdaaGreatDoor
open Go Go.Abs
theorem numD_nat {s : Str} (h : 0 ≤ numD s) : s.all d0 = true := by
  unfold numD at h
  by_cases hq : s.all d0 = true
  · exact hq
  · rw [if_neg hq] at h; omega
theorem digV_of {a : UInt8} (h : d0 a = true) : Lib.digitVal a = some (a.toNat - 48) := by
  rw [d0_iff] at h
  unfold Lib.digitVal; rw [if_pos (by omega)]
theorem num2 {a b : UInt8} (h : 0 ≤ numD [a, b]) : [a, b] = dig2 (numD [a, b]).toNat ∧ numD [a, b] ≤ 99 := by
  have hq := numD_nat h
  simp only [List.all_cons, List.all_nil, Bool.and_true, Bool.and_eq_true] at hq
  obtain ⟨ha, hb⟩ := hq
  have e : numD [a, b] = (((a.toNat - 48) * 10 + (b.toNat - 48) : Nat) : Int) := by
    unfold numD
    simp only [List.all_cons, List.all_nil, ha, hb, Bool.and_true, if_true, Lib.decFrom, digV_of ha, digV_of hb, Option.getD_some]
    omega
  rw [d0_iff] at ha hb
  refine ⟨?_, by rw [e]; omega⟩
  rw [e, Int.toNat_natCast]
  unfold dig2
  rw [ofNat_eq (a := a) (by omega), ofNat_eq (a := b) (by omega)]
theorem num4 {a b c d : UInt8} (h : 0 ≤ numD [a, b, c, d]) : [a, b, c, d] = dig4 (numD [a, b, c, d]).toNat ∧ numD [a, b, c, d] ≤ 9999 := by
  have hq := numD_nat h
  simp only [List.all_cons, List.all_nil, Bool.and_true, Bool.and_eq_true] at hq
  obtain ⟨ha, hb, hc, hd⟩ := hq
  have e : numD [a, b, c, d] = (((a.toNat - 48) * 1000 + (b.toNat - 48) * 100 + (c.toNat - 48) * 10 + (d.toNat - 48) : Nat) : Int) := by
    unfold numD
    simp only [List.all_cons, List.all_nil, ha, hb, hc, hd, Bool.and_true, if_true, Lib.decFrom, digV_of ha, digV_of hb, digV_of hc, digV_of hd, Option.getD_some]
    omega
  rw [d0_iff] at ha hb hc hd
  refine ⟨?_, by rw [e]; omega⟩
  rw [e, Int.toNat_natCast]
  unfold dig4
  rw [ofNat_eq (a := a) (by omega), ofNat_eq (a := b) (by omega), ofNat_eq (a := c) (by omega), ofNat_eq (a := d) (by omega)]
def parseD : Str → Int × Int
  | [a, b, c, d, e, f, g, h, i, j] => bif (e == 45) && (h == 45) then (bif decide (0 ≤ numD [a, b, c, d]) && decide (0 ≤ numD [f, g]) && decide (0 ≤ numD [i, j]) then ofV (numD [a, b, c, d]) (numD [f, g]).toNat (numD [i, j]) else (0, 3)) else (0, 3)
  | _ => (0, 3)
theorem ten {t : Str} (h : t.length = 10) : ∃ a b c d e f g h i j, t = [a, b, c, d, e, f, g, h, i, j] := by
  match t, h with
  | [a, b, c, d, e, f, g, h, i, j], _ => exact ⟨a, b, c, d, e, f, g, h, i, j, rfl⟩
theorem parseD_ne {t : Str} (h : t.length ≠ 10) : parseD t = (0, 3) := by
  unfold parseD
  split
  · simp at h
  · rfl
theorem c45 (c : UInt8) : ((c.toNat : Int) != 45) = !(c == 45) := by
  unfold bne
  congr 1
  rw [Bool.eq_iff_iff, beq_iff_eq, beq_iff_eq]
  constructor
  · intro h; exact UInt8.toNat_inj.1 (by have : ((45 : UInt8).toNat : Int) = 45 := rfl; omega)
  · intro h; rw [h]; rfl
theorem numD_lo (s : Str) : -1 ≤ numD s := by unfold numD; split <;> omega
theorem dParse_eq (t : Str) : dParse_S t = some (parseD t) := by
  simp only [dParse_S, dParse_F]
  by_cases h : t.length = 10
  · obtain ⟨a, b, c, d, e, f, g, k, i, j, rfl⟩ := ten h
    simp only [show (((([a, b, c, d, e, f, g, k, i, j] : Str).length : Nat) : Int) != 10) = false from rfl, cond_false, Option.bind_some,
      show ix ([a, b, c, d, e, f, g, k, i, j] : Str) 4 = some e from rfl, show ix ([a, b, c, d, e, f, g, k, i, j] : Str) 7 = some k from rfl,
      show slc ([a, b, c, d, e, f, g, k, i, j] : Str) 0 4 = some [a, b, c, d] from rfl, show slc ([a, b, c, d, e, f, g, k, i, j] : Str) 5 7 = some [f, g] from rfl,
      show slc ([a, b, c, d, e, f, g, k, i, j] : Str) 8 (([a, b, c, d, e, f, g, k, i, j] : Str).length : Int) = some [i, j] from rfl, c45, c45,
      dnumber_eq (show ([a, b, c, d] : Str).length ≤ 10 by simp), dnumber_eq (show ([f, g] : Str).length ≤ 10 by simp), dnumber_eq (show ([i, j] : Str).length ≤ 10 by simp)]
    simp only [parseD]
    cases he : e == 45 with
    | false => rfl
    | true =>
      cases hh : k == 45 with
      | false => rfl
      | true =>
        simp only [Bool.not_true, cond_false, Bool.and_self, cond_true]
        have l1 := numD_lo [a, b, c, d]
        have l2 := numD_lo [f, g]
        have l3 := numD_lo [i, j]
        by_cases hn : 0 ≤ numD [a, b, c, d] ∧ 0 ≤ numD [f, g] ∧ 0 ≤ numD [i, j]
        · obtain ⟨n1, n2, n3⟩ := hn
          have hm : (numD [f, g]).toNat ≤ 10000 := by have := (num2 n2).2; omega
          have hd := dOf_eq (y := numD [a, b, c, d]) (d := numD [i, j]) hm
          rw [show (((numD [f, g]).toNat : Nat) : Int) = numD [f, g] by omega] at hd
          rw [decide_eq_false (by (repeat' split) <;> omega), cond_false, hd, decide_eq_true n1, decide_eq_true n2, decide_eq_true n3]; rfl
        · have : (decide (0 ≤ numD [a, b, c, d]) && decide (0 ≤ numD [f, g]) && decide (0 ≤ numD [i, j])) = false := by
            rw [Bool.eq_false_iff]
            simp only [ne_eq, Bool.and_eq_true, decide_eq_true_eq]
            omega
          rw [this, decide_eq_true (by (repeat' split) <;> omega)]; rfl
  · rw [show ((t.length : Int) != 10) = true by simp; omega, cond_true, parseD_ne h]
theorem date_back {y : Int} {m : Nat} {d : Int} (h1 : 1600 ≤ y) (h2 : y ≤ 4470) (h3 : 1 ≤ m) (h4 : m ≤ 12) (h5 : 1 ≤ d) (h6 : d ≤ (lenV (leapV y) m : Nat)) (h7 : begV y + d - 1 + (sumV (leapV y) (m - 1) : Nat) ≤ 1048575) :
    goodD (begV y + d - 1 + (sumV (leapV y) (m - 1) : Nat)) = true ∧ yearV (begV y + d - 1 + (sumV (leapV y) (m - 1) : Nat)) = y ∧ monV (begV y + d - 1 + (sumV (leapV y) (m - 1) : Nat)) = (m, (d - 1).toNat) := by
  have hb := begV_bd h1 (show y ≤ 10000 by omega)
  obtain ⟨g1, g2⟩ := go_back (leapV y) m (by omega) h3 (d - 1).toNat (by omega)
  have he : begV y + d - 1 + (sumV (leapV y) (m - 1) : Nat) = begV y + ((sumV (leapV y) (m - 1) + (d - 1).toNat : Nat) : Int) := by omega
  have hg : goodD (begV y + d - 1 + (sumV (leapV y) (m - 1) : Nat)) = true := goodD_iff.2 ⟨by omega, h7⟩
  have hy : yearV (begV y + d - 1 + (sumV (leapV y) (m - 1) : Nat)) = y := by
    refine year_uniq (yearV_is (by omega) h7).1 ?_
    rw [he]
    exact isYear_of g2
  refine ⟨hg, hy, ?_⟩
  unfold monV offV
  rw [hy, he]
  rw [show (begV y + ((sumV (leapV y) (m - 1) + (d - 1).toNat : Nat) : Int) - begV y).toNat = sumV (leapV y) (m - 1) + (d - 1).toNat by omega]
  exact g1
theorem ofEnd_ok {o : Int} (h : (ofEnd o).2 = 0) : o ≤ 1048575 ∧ (ofEnd o).1 = o := by
  unfold ofEnd at h ⊢
  by_cases hq : o > 1048575
  · rw [if_pos hq] at h; exact absurd h (by decide)
  · rw [if_neg hq]; exact ⟨by omega, rfl⟩
theorem parse_back {t : Str} (h : (parseD t).2 = 0) : goodD (parseD t).1 = true ∧ t = dateS (parseD t).1 := by
  by_cases hl : t.length = 10
  · obtain ⟨a, b, c, d, e, f, g, h', i, j, rfl⟩ := ten hl
    simp only [parseD] at h ⊢
    cases he : (e == 45) && (h' == 45) with
    | false => rw [he] at h; exact absurd (show (3 : Int) = 0 from h) (by decide)
    | true =>
      rw [he] at h
      rw [cond_true] at h ⊢
      simp only [Bool.and_eq_true, beq_iff_eq] at he
      obtain ⟨rfl, rfl⟩ := he
      cases hn : decide (0 ≤ numD [a, b, c, d]) && decide (0 ≤ numD [f, g]) && decide (0 ≤ numD [i, j]) with
      | false => rw [hn] at h; exact absurd (show (3 : Int) = 0 from h) (by decide)
      | true =>
        rw [hn] at h
        rw [cond_true] at h ⊢
        simp only [Bool.and_eq_true, decide_eq_true_eq] at hn
        obtain ⟨⟨n1, n2⟩, n3⟩ := hn
        unfold ofV at h ⊢
        split at h
        · rename_i hr
          obtain ⟨r1, r2, r3, r4, r5, r6⟩ := hr
          rw [if_pos ⟨r1, r2, r3, r4, r5, r6⟩]
          obtain ⟨o1, o2⟩ := ofEnd_ok h
          obtain ⟨q1, q2, q3⟩ := date_back r1 r2 r3 r4 r5 r6 o1
          rw [o2]
          refine ⟨q1, ?_⟩
          unfold dateS
          rw [q2, q3]
          simp only
          rw [← (num4 n1).1, ← (num2 n2).1, show (numD [i, j] - 1).toNat + 1 = (numD [i, j]).toNat by omega, ← (num2 n3).1]
          rfl
        · exact absurd h (by decide)
  · rw [parseD_ne hl] at h; exact absurd h (by decide)
theorem parse_forth {d : Int} (h : goodD d = true) : parseD (dateS d) = (d, 0) := by
  obtain ⟨h0, h1⟩ := goodD_iff.1 h
  obtain ⟨yi, yl⟩ := yearV_is h0 h1
  have yh := year_hi yi h1
  obtain ⟨m1, m2, m3, m4⟩ := monV_spec h0 h1
  have k2 := (offV_lt h0 h1).2
  have hl := (lenV_bd (leapV (yearV d)) (monV d).1).2
  have e1 := numD_dig4 (yearV d).toNat (by omega)
  have e2 := numD_dig2 (monV d).1 (by omega)
  have e3 := numD_dig2 ((monV d).2 + 1) (by omega)
  show (bif (true && true) then (bif decide (0 ≤ numD (dig4 (yearV d).toNat)) && decide (0 ≤ numD (dig2 (monV d).1)) && decide (0 ≤ numD (dig2 ((monV d).2 + 1))) then ofV (numD (dig4 (yearV d).toNat)) (numD (dig2 (monV d).1)).toNat (numD (dig2 ((monV d).2 + 1))) else (0, 3)) else (0, 3)) = _
  rw [e1, e2, e3, decide_eq_true (by omega), decide_eq_true (by omega), decide_eq_true (by omega)]
  simp only [Bool.and_self, cond_true, Int.toNat_natCast]
  rw [show (((yearV d).toNat : Nat) : Int) = yearV d by omega]
  unfold ofV
  rw [if_pos ⟨yl, yh, m1, m2, by omega, by omega⟩]
  have : begV (yearV d) + (((monV d).2 + 1 : Nat) : Int) - 1 + (sumV (leapV (yearV d)) ((monV d).1 - 1) : Nat) = d := by omega
  rw [this]
  unfold ofEnd
  rw [if_neg (by omega)]
theorem dateS_len (d : Int) : (dateS d).length = 10 := rfl
def dateR (u : RestT) : Int × RestT := ((parseD (untilV u 32).1).1, bif ((parseD (untilV u 32).1).2 != 0) then ⟨(untilV u 32).2.s, true⟩ else (untilV u 32).2)
theorem tdate_eq (u : RestT) : tdate_XS u = some (dateR u) := by
  simp only [tdate_XS, tdate_F, tuntil_eq u 32 (by decide), Option.bind_some, dParse_eq, dateR]
  cases (parseD (untilV u 32).1).2 != 0 <;> rfl
abbrev tRule : Str := [114, 117, 108, 101, 32]
abbrev tClass : Str := [32, 99, 108, 97, 115, 115, 32]
abbrev tKeep : Str := [32, 107, 101, 101, 112]
abbrev tAfter : Str := [32, 97, 102, 116, 101, 114, 32, 34]
abbrev tQ : Str := [34, 32]
abbrev tYears : Str := [32, 121, 101, 97, 114, 115]
abbrev tEnd : Str := [32, 101, 110, 100]
abbrev tDestroy : Str := [32, 100, 101, 115, 116, 114, 111, 121]
abbrev tTransfer : Str := [32, 116, 114, 97, 110, 115, 102, 101, 114]
abbrev tFrom : Str := [32, 102, 114, 111, 109, 32]
abbrev tUntil : Str := [32, 117, 110, 116, 105, 108, 32]
def spanTail (mk : Span → Rule) (u : RestT) : Rule × Bool :=
  bif (tryV (dateR (takeV u tFrom)).2 tUntil).1 then (mk ⟨(dateR (takeV u tFrom)).1, (dateR (tryV (dateR (takeV u tFrom)).2 tUntil).2).1⟩, bif (!(dateR (tryV (dateR (takeV u tFrom)).2 tUntil).2).2.bad) then ((dateR (tryV (dateR (takeV u tFrom)).2 tUntil).2).2.s == []) else false)
  else (mk ⟨(dateR (takeV u tFrom)).1, 1048576⟩, bif (!(tryV (dateR (takeV u tFrom)).2 tUntil).2.bad) then ((tryV (dateR (takeV u tFrom)).2 tUntil).2.s == []) else false)
theorem spanTail_eq (mk : Span → Rule) (u : RestT) : (Option.bind (ttake_XS u tFrom) fun y0 => Option.bind (tdate_XS y0) fun y1 => Option.bind (ttry_XS y1.2 tUntil) fun y2 => bif y2.1 then (Option.bind (tdate_XS y2.2) fun y3 => bif (!y3.2.bad) then some (mk ⟨y1.1, y3.1⟩, (y3.2.s == [])) else some (mk ⟨y1.1, y3.1⟩, false)) else (bif (!y2.2.bad) then some (mk ⟨y1.1, 1048576⟩, (y2.2.s == [])) else some (mk ⟨y1.1, 1048576⟩, false))) = some (spanTail mk u) := by
  simp only [ttake_eq, tdate_eq, ttry_eq, Option.bind_some, spanTail]
  cases (tryV (dateR (takeV u tFrom)).2 tUntil).1 with
  | true => cases (dateR (tryV (dateR (takeV u tFrom)).2 tUntil).2).2.bad <;> rfl
  | false => cases (tryV (dateR (takeV u tFrom)).2 tUntil).2.bad <;> rfl
theorem take_len (u : RestT) (p : Str) : (takeV u p).s.length ≤ u.s.length := by
  unfold takeV
  cases p.isPrefixOf u.s with
  | true => simp
  | false => exact Nat.le_refl _
theorem try_len (u : RestT) (p : Str) : (tryV u p).2.s.length ≤ u.s.length := by
  unfold tryV
  cases p.isPrefixOf u.s with
  | true => simp
  | false => exact Nat.le_refl _
theorem until_len (u : RestT) (c : UInt8) : (untilV u c).1.length ≤ u.s.length ∧ (untilV u c).2.s.length ≤ u.s.length := by
  have := congrArg List.length (break_app c u.s)
  rw [List.length_append] at this
  exact ⟨by show (breakV c u.s).1.length ≤ _; omega, by show (breakV c u.s).2.length ≤ _; omega⟩
theorem number_len (u : RestT) : (numberV u).2.s.length ≤ u.s.length := by
  have := (until_len u 32).2
  unfold numberV
  cases numOk (untilV u 32).1 <;> exact this
def tailV (id : Int) (cl : Str) (u : RestT) : Rule × Bool :=
  bif (tryV u tKeep).1 then spanTail (fun i => ⟨id, cl, opened, 0, false, 3, i⟩) (tryV u tKeep).2 else
  bif (!(tryV (tryV (takeV (numberV (takeV (untilV (takeV (tryV u tKeep).2 tAfter) 34).2 tQ)).2 tYears) tEnd).2 tDestroy).1) then
    spanTail (fun i => ⟨id, cl, (untilV (takeV (tryV u tKeep).2 tAfter) 34).1, (numberV (takeV (untilV (takeV (tryV u tKeep).2 tAfter) 34).2 tQ)).1, (tryV (takeV (numberV (takeV (untilV (takeV (tryV u tKeep).2 tAfter) 34).2 tQ)).2 tYears) tEnd).1, 2, i⟩)
      (takeV (tryV (tryV (takeV (numberV (takeV (untilV (takeV (tryV u tKeep).2 tAfter) 34).2 tQ)).2 tYears) tEnd).2 tDestroy).2 tTransfer)
  else
    spanTail (fun i => ⟨id, cl, (untilV (takeV (tryV u tKeep).2 tAfter) 34).1, (numberV (takeV (untilV (takeV (tryV u tKeep).2 tAfter) 34).2 tQ)).1, (tryV (takeV (numberV (takeV (untilV (takeV (tryV u tKeep).2 tAfter) 34).2 tQ)).2 tYears) tEnd).1, 1, i⟩)
      (tryV (tryV (takeV (numberV (takeV (untilV (takeV (tryV u tKeep).2 tAfter) 34).2 tQ)).2 tYears) tEnd).2 tDestroy).2
def headV (s : Str) : Int × Str × RestT := ((numberV (takeV ⟨s, false⟩ tRule)).1, (untilV (takeV (numberV (takeV ⟨s, false⟩ tRule)).2 tClass) 32).1,
  bif ((parseF (codeV (untilV (takeV (numberV (takeV ⟨s, false⟩ tRule)).2 tClass) 32).1)).2 != 0) then ⟨(untilV (takeV (numberV (takeV ⟨s, false⟩ tRule)).2 tClass) 32).2.s, true⟩ else (untilV (takeV (numberV (takeV ⟨s, false⟩ tRule)).2 tClass) 32).2)
def readV (s : Str) : Rule × Bool := tailV (headV s).1 (headV s).2.1 (headV s).2.2
theorem qread_eq {s : Str} (hs : s.length ≤ 70000) : qread_S s = some (readV s) := by
  have b1 : (takeV ⟨s, false⟩ tRule).s.length ≤ 70000 := Nat.le_trans (take_len _ _) hs
  have b2 := number_len (takeV ⟨s, false⟩ tRule)
  have b3 := take_len (numberV (takeV ⟨s, false⟩ tRule)).2 tClass
  have b4 := until_len (takeV (numberV (takeV ⟨s, false⟩ tRule)).2 tClass) 32
  have key : ∀ u : RestT, u.s.length ≤ 70000 → tnumber_XS (takeV (untilV (takeV (tryV u tKeep).2 tAfter) 34).2 tQ) = some (numberV (takeV (untilV (takeV (tryV u tKeep).2 tAfter) 34).2 tQ)) := fun u hu => by
    refine tnumber_eq ?_
    have c1 := take_len (untilV (takeV (tryV u tKeep).2 tAfter) 34).2 tQ
    have c2 := (until_len (takeV (tryV u tKeep).2 tAfter) 34).2
    have c3 := take_len (tryV u tKeep).2 tAfter
    have c4 := try_len u tKeep
    omega
  unfold qread_S qread_F readV headV
  rw [ttake_eq, Option.bind_some, tnumber_eq (Nat.le_trans b1 (by decide)), Option.bind_some, ttake_eq, Option.bind_some, tuntil_eq _ _ (by decide), Option.bind_some, pParse_eqB (Nat.le_trans b4.1 (Nat.le_trans b3 (Nat.le_trans b2 (Nat.le_trans b1 (by decide))))), Option.bind_some]
  cases hb : ((parseF (codeV (untilV (takeV (numberV (takeV ⟨s, false⟩ tRule)).2 tClass) 32).1)).2 != 0) with
  | true =>
    have hu : (⟨(untilV (takeV (numberV (takeV ⟨s, false⟩ tRule)).2 tClass) 32).2.s, true⟩ : RestT).s.length ≤ 70000 := by show (untilV (takeV (numberV (takeV ⟨s, false⟩ tRule)).2 tClass) 32).2.s.length ≤ _; omega
    simp only [cond_true]
    generalize (⟨(untilV (takeV (numberV (takeV ⟨s, false⟩ tRule)).2 tClass) 32).2.s, true⟩ : RestT) = u at hu ⊢
    unfold tailV
    rw [ttry_eq, Option.bind_some]
    cases hk : (tryV u tKeep).1 with
    | true => rw [cond_true, cond_true]; exact spanTail_eq _ _
    | false =>
      rw [cond_false, cond_false, ttake_eq, Option.bind_some, tuntil_eq _ _ (by decide), Option.bind_some, ttake_eq, Option.bind_some, key u hu, Option.bind_some, ttake_eq, Option.bind_some, ttry_eq, Option.bind_some, ttry_eq, Option.bind_some]
      cases hd : (tryV (tryV (takeV (numberV (takeV (untilV (takeV (tryV u tKeep).2 tAfter) 34).2 tQ)).2 tYears) tEnd).2 tDestroy).1 with
      | true => rw [Bool.not_true, cond_false, cond_false]; exact spanTail_eq _ _
      | false => rw [Bool.not_false, cond_true, cond_true, ttake_eq, Option.bind_some]; exact spanTail_eq _ _
  | false =>
    have hu : (untilV (takeV (numberV (takeV ⟨s, false⟩ tRule)).2 tClass) 32).2.s.length ≤ 70000 := by omega
    simp only [cond_false]
    generalize (untilV (takeV (numberV (takeV ⟨s, false⟩ tRule)).2 tClass) 32).2 = u at hu ⊢
    unfold tailV
    rw [ttry_eq, Option.bind_some]
    cases hk : (tryV u tKeep).1 with
    | true => rw [cond_true, cond_true]; exact spanTail_eq _ _
    | false =>
      rw [cond_false, cond_false, ttake_eq, Option.bind_some, tuntil_eq _ _ (by decide), Option.bind_some, ttake_eq, Option.bind_some, key u hu, Option.bind_some, ttake_eq, Option.bind_some, ttry_eq, Option.bind_some, ttry_eq, Option.bind_some]
      cases hd : (tryV (tryV (takeV (numberV (takeV (untilV (takeV (tryV u tKeep).2 tAfter) 34).2 tQ)).2 tYears) tEnd).2 tDestroy).1 with
      | true => rw [Bool.not_true, cond_false, cond_false]; exact spanTail_eq _ _
      | false => rw [Bool.not_false, cond_true, cond_true, ttake_eq, Option.bind_some]; exact spanTail_eq _ _
end Go.Proofs.YtjoacimgcepjdaaGreatDoor
