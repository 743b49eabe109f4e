/- Numbers and dates as texts; taking texts away. -/
import Derived.Test.YtjoacimgcepjdaaGreatDoorLRule
import Derived.Lib.AtoiTie
set_option linter.unusedSimpArgs false
set_option linter.unusedVariables false
namespace Go.Proofs.YtjoacimgcepjdaaGreatDoor
open Go Go.Abs
def decK : Nat → Nat → Str
  | 0, _ => []
  | f + 1, n => if n < 10 then [UInt8.ofNat (48 + n)] else decK f (n / 10) ++ [UInt8.ofNat (48 + n % 10)]
theorem decK_dec : ∀ (f n : Nat), n < 10 ^ (f + 1) → Lib.decDigits n = decK (f + 1) n
  | 0, n, h => by rw [decK, Lib.decDigits, dif_pos (by simpa using h), if_pos (by simpa using h)]
  | f + 1, n, h => by
    rw [decK, Lib.decDigits]
    by_cases h1 : n < 10
    · rw [dif_pos h1, if_pos h1]
    · rw [dif_neg h1, if_neg h1, decK_dec f (n / 10) (by rw [Nat.div_lt_iff_lt_mul (by decide)]; rw [Nat.pow_succ] at h; exact h)]
def decS (n : Nat) : Str := decK 10 n
theorem itoa_decS {n : Nat} (h : n < 10000000000) : Lib.itoa (n : Int) = decS n := by
  unfold Lib.itoa
  rw [if_neg (by omega), Int.toNat_natCast]
  exact decK_dec 9 n h
theorem itoaS_eq {n : Nat} (h : n < 10000000000) : itoa_S (n : Int) = some (decS n) := by
  unfold itoa_S
  have : (decide (-9223372036854775808 ≤ (n : Int)) && decide ((n : Int) ≤ 9223372036854775807)) = true := by simp; omega
  rw [this, cond_true, itoa_decS h]
theorem decFrom_app (b : Str) : ∀ (a : Str) (acc : Nat), Lib.decFrom acc (a ++ b) = (Lib.decFrom acc a).bind fun m => Lib.decFrom m b
  | [], _ => rfl
  | c :: r, acc => by
    simp only [List.cons_append, Lib.decFrom]
    cases Lib.digitVal c with
    | none => rfl
    | some d => exact decFrom_app b r _
theorem dig_val : ∀ k : Nat, k < 10 → Lib.digitVal (UInt8.ofNat (48 + k)) = some k := by decide
theorem dig_d0 : ∀ k : Nat, k < 10 → d0 (UInt8.ofNat (48 + k)) = true := by decide
theorem decFrom_decK : ∀ (f n : Nat), n < 10 ^ (f + 1) → Lib.decFrom 0 (decK (f + 1) n) = some n
  | 0, n, h => by
    have h : n < 10 := by simpa using h
    rw [decK, if_pos h]; unfold Lib.decFrom; rw [dig_val n h]; simp [Lib.decFrom]
  | f + 1, n, h => by
    rw [decK]
    by_cases h1 : n < 10
    · rw [if_pos h1]; unfold Lib.decFrom; rw [dig_val n h1]; simp [Lib.decFrom]
    · rw [if_neg h1, decFrom_app, decFrom_decK f (n / 10) (by rw [Nat.div_lt_iff_lt_mul (by decide)]; rw [Nat.pow_succ] at h; exact h)]
      simp only [Option.bind_some, Lib.decFrom, dig_val (n % 10) (by omega)]
      congr 1; omega
theorem decK_d0 : ∀ (f n : Nat), (decK f n).all d0 = true
  | 0, _ => rfl
  | f + 1, n => by
    rw [decK]
    by_cases h1 : n < 10
    · rw [if_pos h1]; simp only [List.all_cons, List.all_nil, dig_d0 n h1, Bool.and_true]
    · rw [if_neg h1, List.all_append, decK_d0 f (n / 10)]; simp only [List.all_cons, List.all_nil, dig_d0 (n % 10) (by omega), Bool.and_true]
theorem decK_len : ∀ (f n : Nat), (decK f n).length ≤ f
  | 0, _ => Nat.le_refl _
  | f + 1, n => by
    rw [decK]
    by_cases h1 : n < 10
    · rw [if_pos h1]; simp
    · rw [if_neg h1, List.length_append]; have := decK_len f (n / 10); simp; exact this
theorem decK_ne (f n : Nat) : decK (f + 1) n ≠ [] := by
  rw [decK]; split <;> simp
theorem atoi_decS {n : Nat} (h : n < 10000000000) : atoiV (decS n) = ((n : Int), false) := by
  have hl : (decS n).length ≤ 10 := decK_len 10 n
  have hf : Lib.decFrom 0 (decS n) = some n := decFrom_decK 9 n h
  have hd : (decS n).all d0 = true := decK_d0 10 n
  unfold atoiV
  rw [Lib.atoiAll_short _ (by omega)]
  have : Lib.atoi (decS n) = some (n : Int) := by
    cases hs : decS n with
    | nil => exact absurd hs (decK_ne 9 n)
    | cons b r =>
      rw [hs] at hd hf
      simp only [List.all_cons, Bool.and_eq_true, d0_iff] at hd
      unfold Lib.atoi
      have h1 : (b == 45) = false := by
        cases hq : b == 45 with
        | false => rfl
        | true => rw [beq_iff_eq] at hq; subst hq; exact absurd hd.1.1 (by decide)
      have h2 : (b == 43) = false := by
        cases hq : b == 43 with
        | false => rfl
        | true => rw [beq_iff_eq] at hq; subst hq; exact absurd hd.1.1 (by decide)
      simp [h1, h2, Lib.decNat, hf]
  rw [this]; rfl

/- Texts that are taken away. -/
def tryV (u : RestT) (p : Str) : Bool × RestT := bif p.isPrefixOf u.s then (true, ⟨u.s.drop p.length, u.bad⟩) else (false, u)
def takeV (u : RestT) (p : Str) : RestT := bif p.isPrefixOf u.s then ⟨u.s.drop p.length, u.bad⟩ else ⟨u.s, true⟩
theorem trimPrefix_eq (s p : Str) : Lib.trimPrefix s p = bif p.isPrefixOf s then s.drop p.length else s := by
  unfold Lib.trimPrefix
  by_cases h : Lib.hasPrefix s p = true
  · rw [if_pos h, show p.isPrefixOf s = true from h]; rfl
  · rw [if_neg h, show p.isPrefixOf s = false from Bool.eq_false_iff.2 h]; rfl
theorem ttry_eq (u : RestT) (p : Str) : ttry_XS u p = some (tryV u p) := by
  simp only [ttry_XS, ttry_F, sCutPrefix_S, Option.bind_some, trimPrefix_eq, Lib.hasPrefix, tryV]
  cases p.isPrefixOf u.s <;> rfl
theorem ttake_eq (u : RestT) (p : Str) : ttake_XS u p = some (takeV u p) := by
  simp only [ttake_XS, ttake_F, ttry_eq, Option.bind_some, takeV, tryV]
  cases p.isPrefixOf u.s <;> rfl
def breakV (c : UInt8) : Str → Str × Str
  | [] => ([], [])
  | b :: r => if b = c then ([], b :: r) else (b :: (breakV c r).1, (breakV c r).2)
theorem break_app (c : UInt8) : ∀ s, (breakV c s).1 ++ (breakV c s).2 = s
  | [] => rfl
  | b :: r => by
    rw [breakV]
    split
    · rfl
    · simp [break_app c r]
theorem break_not (c : UInt8) : ∀ s, (breakV c s).1.all (· != c) = true
  | [] => rfl
  | b :: r => by
    rw [breakV]
    split
    · rfl
    · rename_i h; simp only [List.all_cons, break_not c r, Bool.and_true]; simpa using h
theorem break_cons (c : UInt8) : ∀ (w r : Str), w.all (· != c) = true → breakV c (w ++ c :: r) = (w, c :: r)
  | [], r, _ => by simp [breakV]
  | b :: w, r, h => by
    simp only [List.all_cons, Bool.and_eq_true, bne_iff_ne] at h
    rw [List.cons_append, breakV, if_neg h.1, break_cons c w r h.2]
theorem break_end (c : UInt8) : ∀ (w : Str), w.all (· != c) = true → breakV c w = (w, [])
  | [], _ => rfl
  | b :: w, h => by
    simp only [List.all_cons, Bool.and_eq_true, bne_iff_ne] at h
    rw [breakV, if_neg h.1, break_end c w h.2]
theorem indexByte_break (c : UInt8) : ∀ s : Str, (Lib.indexByte s c = -1 ∧ breakV c s = (s, [])) ∨ ∃ k : Nat, Lib.indexByte s c = (k : Int) ∧ k < s.length ∧ breakV c s = (s.take k, s.drop k)
  | [] => .inl ⟨rfl, rfl⟩
  | b :: r => by
    rw [Lib.indexByte, breakV]
    by_cases h : b = c
    · subst h
      rw [if_pos (by simp), if_pos rfl]
      exact .inr ⟨0, rfl, by simp, rfl⟩
    · rw [if_neg (by simpa using h), if_neg h]
      rcases indexByte_break c r with ⟨h1, h2⟩ | ⟨k, h1, h2, h3⟩
      · left; rw [h1, h2]; exact ⟨rfl, rfl⟩
      · right
        refine ⟨k + 1, ?_, by simp; omega, by rw [h3]; rfl⟩
        have hk : ((k : Int) == -1) = false := by rw [beq_eq_false_iff_ne]; omega
        rw [h1, hk, if_neg (by decide)]; rfl
def untilV (u : RestT) (c : UInt8) : Str × RestT := ((breakV c u.s).1, ⟨(breakV c u.s).2, u.bad⟩)
theorem slc_zero {α : Type} {s : List α} {i : Nat} (h : i ≤ s.length) : slc s 0 (i : Int) = some (s.take i) := by
  have := slc_cut (s := s) (v := 0) (i := i) (Nat.zero_le _) h
  simpa using this
theorem slc_rest {α : Type} {s : List α} {i : Nat} (h : i ≤ s.length) : slc s (i : Int) (s.length : Int) = some (s.drop i) := by
  have := slc_cut (s := s) (v := i) (i := s.length) h (Nat.le_refl _)
  rw [this]
  congr 1
  exact List.take_of_length_le (by simp)
theorem tuntil_eq (u : RestT) (c : UInt8) (hc : c.toNat < 128) : tuntil_XS u [c] = some (untilV u c) := by
  simp only [tuntil_XS, tuntil_F, sIndexAny_S, decide_eq_true hc, cond_true, Option.bind_some, Lib.indexAny_one, untilV]
  rcases indexByte_break c u.s with ⟨h1, h2⟩ | ⟨k, h1, h2, h3⟩
  · rw [h1, h2, decide_eq_true (show (-1 : Int) < 0 by decide), cond_true, slc_zero (Nat.le_refl _), slc_rest (Nat.le_refl _)]
    simp only [Option.bind_some, List.take_length, List.drop_length]
  · rw [h1, h3, decide_eq_false (show ¬ (k : Int) < 0 by omega), cond_false, slc_zero (by omega), slc_rest (by omega)]
    rfl
def numOk (w : Str) : Bool := !(atoiV w).2 && decide (0 ≤ (atoiV w).1) && decide ((atoiV w).1 ≤ 1073741824) && (decS (atoiV w).1.toNat == w)
def numberV (u : RestT) : Int × RestT := ((atoiV (untilV u 32).1).1, bif numOk (untilV u 32).1 then (untilV u 32).2 else ⟨(untilV u 32).2.s, true⟩)
theorem tnumber_eq {u : RestT} (h : u.s.length ≤ 100000) : tnumber_XS u = some (numberV u) := by
  have hb : (untilV u 32).1.length ≤ 100000 := by
    have := congrArg List.length (break_app 32 u.s)
    rw [List.length_append] at this
    show (breakV 32 u.s).1.length ≤ _
    omega
  simp only [tnumber_XS, tnumber_F, tuntil_eq u 32 (by decide), Option.bind_some, atoi_S, decide_eq_true (show (untilV u 32).1.length ≤ 281474976710656 by omega), cond_true, numberV, numOk]
  cases h0 : (atoiV (untilV u 32).1).2 with
  | true => rfl
  | false =>
    rw [cond_false, Bool.not_false, Bool.true_and]
    by_cases h1 : (atoiV (untilV u 32).1).1 < 0
    · rw [decide_eq_true h1, decide_eq_false (show ¬ 0 ≤ (atoiV (untilV u 32).1).1 by omega)]; rfl
    · rw [decide_eq_false h1, decide_eq_true (show 0 ≤ (atoiV (untilV u 32).1).1 by omega), cond_false, Bool.true_and]
      by_cases h2 : (atoiV (untilV u 32).1).1 > 1073741824
      · rw [decide_eq_true h2, decide_eq_false (show ¬ (atoiV (untilV u 32).1).1 ≤ 1073741824 by omega)]; rfl
      · rw [decide_eq_false h2, decide_eq_true (show (atoiV (untilV u 32).1).1 ≤ 1073741824 by omega), cond_false, Bool.true_and]
        have := itoaS_eq (n := (atoiV (untilV u 32).1).1.toNat) (by omega)
        rw [show (((atoiV (untilV u 32).1).1.toNat : Nat) : Int) = (atoiV (untilV u 32).1).1 by omega] at this
        rw [this, Option.bind_some]
        cases decS (atoiV (untilV u 32).1).1.toNat == (untilV u 32).1 <;> rfl
/- Dates. -/
def dig2 (n : Nat) : Str := [UInt8.ofNat (48 + n / 10), UInt8.ofNat (48 + n % 10)]
def dig4 (n : Nat) : Str := [UInt8.ofNat (48 + n / 1000), UInt8.ofNat (48 + n / 100 % 10), UInt8.ofNat (48 + n / 10 % 10), UInt8.ofNat (48 + n % 10)]
theorem dec_dig4 (n : Nat) (h : n < 10000) (h1 : 1000 ≤ n) : decS n = dig4 n := by
  rw [decS, decK, if_neg (by omega), decK, if_neg (by omega), decK, if_neg (by omega), decK, if_pos (by omega)]
  have e1 : n / 10 / 10 / 10 = n / 1000 := by omega
  have e2 : n / 10 / 10 = n / 100 := by omega
  rw [e1, e2]; rfl
theorem dig2_loop : ∀ n : Nat, n < 100 → ddigits_L1 2 (decS n) 30 (decS n) 0 = some (dig2 n) := by decide +kernel
theorem ddigits2 {n : Nat} (h : n < 100) : ddigits_S (n : Int) 2 = some (dig2 n) := by
  simp only [ddigits_S, ddigits_F, itoaS_eq (show n < 10000000000 by omega), Option.bind_some]
  exact dig2_loop n h
theorem ddigits4 {n : Nat} (h : n < 10000) (h1 : 1000 ≤ n) : ddigits_S (n : Int) 4 = some (dig4 n) := by
  simp only [ddigits_S, ddigits_F, itoaS_eq (show n < 10000000000 by omega), Option.bind_some, dec_dig4 n h h1]
  rfl
def dateS (d : Int) : Str := dig4 (yearV d).toNat ++ [45] ++ dig2 (monV d).1 ++ [45] ++ dig2 ((monV d).2 + 1)
theorem dFormat_eq {d : Int} (h : goodD d = true) : dFormat_S d = some (dateS d, 0) := by
  obtain ⟨h0, h1⟩ := goodD_iff.1 h
  obtain ⟨yi, yl⟩ := yearV_is h0 h1
  have yh := year_hi yi h1
  obtain ⟨m1, m2, m3, -⟩ := monV_spec h0 h1
  have ml := (lenV_bd (leapV (yearV d)) (monV d).1).2
  have e4 : ddigits_S (yearV d) 4 = some (dig4 (yearV d).toNat) := by
    have := ddigits4 (n := (yearV d).toNat) (by omega) (by omega)
    rwa [show (((yearV d).toNat : Nat) : Int) = yearV d by omega] at this
  simp only [dFormat_S, dFormat_F, dDate_eq, h, if_true, Option.bind_some, dateV, e4, ddigits2 (show (monV d).1 < 100 by omega), ddigits2 (show (monV d).2 + 1 < 100 by omega), dateS]
  rfl
theorem qdate_eq {d : Int} (h : goodD d = true) : qdate_S d = some (dateS d) := by
  simp only [qdate_S, qdate_F, dFormat_eq h, Option.bind_some]
def numD (s : Str) : Int := if s.all d0 = true then (((Lib.decFrom 0 s).getD 0 : Nat) : Int) else -1
theorem dnumber_loop {s : Str} (hs : s.length ≤ 10) : ∀ (n i fu k : Nat), s.length - i = n → i ≤ s.length → n < fu → k < 10 ^ i → dnumber_L1 s fu (k : Int) (i : Int) = some (if (s.drop i).all d0 = true then (((Lib.decFrom k (s.drop i)).getD 0 : Nat) : Int) else -1)
  | n, i, 0, _, _, _, h, _ => by omega
  | 0, i, fu + 1, k, h, hi, _, _ => by
    have : i = s.length := by omega
    subst this
    simp only [dnumber_L1, decide_eq_false (show ¬ (s.length : Int) < (s.length : Int) by omega), cond_false, List.drop_length]
    rfl
  | n + 1, i, fu + 1, k, h, _, hf, hk => by
    have hi : i < s.length := by omega
    have hk10 : (10 : Nat) ^ i ≤ 10 ^ 10 := Nat.pow_le_pow_right (by decide) (by omega)
    have hb : k < 10000000000 := by have : (10 : Nat) ^ 10 = 10000000000 := by decide
                                    omega
    simp only [dnumber_L1, decide_eq_true (show (i : Int) < (s.length : Int) by omega), cond_true, ix_at hi, Option.bind_some, wrap_succ (n := s.length) (by omega) hi]
    rw [List.drop_eq_getElem_cons hi, List.all_cons]
    by_cases h1 : (s[i].toNat : Int) < 48
    · have : d0 s[i] = false := by simp [d0]; omega
      rw [decide_eq_true h1, cond_true, this]; rfl
    · rw [decide_eq_false h1, cond_false]
      by_cases h2 : (s[i].toNat : Int) > 57
      · have : d0 s[i] = false := by simp [d0]; omega
        rw [decide_eq_true h2, cond_true, this]; rfl
      · have hd : d0 s[i] = true := d0_iff.2 (by omega)
        rw [decide_eq_false h2, cond_false, hd, Bool.true_and, u8_sub hd]
        have hv : Lib.digitVal s[i] = some (s[i].toNat - 48) := by unfold Lib.digitVal; rw [if_pos (by omega)]
        rw [wrap_of (n := 10 * (k : Int)) (by omega) (by omega), wrap_of (by omega) (by omega), show (10 * (k : Int) + ((s[i].toNat - 48 : Nat) : Int)) = ((k * 10 + (s[i].toNat - 48) : Nat) : Int) by omega]
        rw [dnumber_loop hs n (i + 1) fu _ (by omega) (by omega) (by omega) (by rw [Nat.pow_succ]; omega)]
        simp only [Lib.decFrom, hv]
theorem dnumber_eq {s : Str} (hs : s.length ≤ 10) : dnumber_S s = some (numD s) := dnumber_loop hs s.length 0 (s.length + 1) 0 (by omega) (by omega) (by omega) (by decide)
theorem numD_dig2 : ∀ n : Nat, n < 100 → numD (dig2 n) = (n : Int) := by decide +kernel
theorem numD_dig4 (n : Nat) (h : n < 10000) : numD (dig4 n) = (n : Int) := by
  have a1 := dig_d0 (n / 1000) (by omega)
  have a2 := dig_d0 (n / 100 % 10) (by omega)
  have a3 := dig_d0 (n / 10 % 10) (by omega)
  have a4 := dig_d0 (n % 10) (by omega)
  unfold numD dig4
  simp only [List.all_cons, List.all_nil, a1, a2, a3, a4, Bool.and_true, if_true, Lib.decFrom, dig_val (n / 1000) (by omega), dig_val (n / 100 % 10) (by omega), dig_val (n / 10 % 10) (by omega), dig_val (n % 10) (by omega), Option.getD_some]
  omega
theorem dig_len : ∀ n : Nat, (dig2 n).length = 2 ∧ (dig4 n).length = 4 := fun n => ⟨rfl, rfl⟩
end Go.Proofs.YtjoacimgcepjdaaGreatDoor
