/- Natural: its order in closed form; it is total. -/
import Derived.Test.YtihjmnhamaicpaaGreatDoorLCmp
set_option linter.unusedVariables false
set_option linter.unusedSimpArgs false
namespace Go.Proofs.YtihjmnhamaicpaaGreatDoor
open Go Go.Abs
theorem less_byteC : ∀ (x y : Str), Op.bytesLess x y = decide (byteC x y < 0)
  | [], [] => by simp [Op.bytesLess, byteC, lexL]
  | _ :: _, [] => by simp [Op.bytesLess, byteC, lexL]
  | [], _ :: _ => by simp [Op.bytesLess, byteC, lexL]
  | a :: x, b :: y => by
    have ih := less_byteC x y
    unfold byteC at ih ⊢
    rw [Op.bytesLess, ih, lexL]
    unfold natC
    by_cases h1 : a.toNat < b.toNat
    · have : (decide (a < b)) = true := decide_eq_true (UInt8.lt_iff_toNat_lt.2 h1)
      rw [if_pos h1, if_neg (by omega), this]; simp
    · have e1 : (decide (a < b)) = false := decide_eq_false (fun h => h1 (UInt8.lt_iff_toNat_lt.1 h))
      rw [if_neg h1, e1, Bool.false_or]
      by_cases h2 : a.toNat > b.toNat
      · have e2 : (a == b) = false := by
          cases hq : a == b with
          | false => rfl
          | true => have : a = b := by simpa using hq
                    rw [this] at h2; omega
        rw [if_pos h2, if_neg (by omega), e2]; rfl
      · have : a = b := UInt8.toNat_inj.1 (by omega)
        rw [if_neg h2, if_pos rfl, this, beq_self_eq_true, Bool.true_and]
theorem cmpCompareS_eq (x y : Str) : cmpCompareS_S x y = some (byteC x y) := by
  simp only [cmpCompareS_S, cmpCompareS_F, cmpIsNaNS_S, cmpIsNaNS_F, beq_self_eq_true, Bool.not_true, Option.bind_some, cond_false, less_byteC]
  have h1 := byteC_tot.lo x y
  have h2 := byteC_tot.hi x y
  by_cases h : byteC x y < 0
  · rw [decide_eq_true h, cond_true]; congr 1; omega
  · rw [decide_eq_false h, cond_false, Bool.false_or]
    by_cases h0 : byteC x y = 0
    · rw [(byteC_zero.1 h0), beq_self_eq_true, Bool.not_true, cond_false, byteC_tot.refl]
    · have : (x == y) = false := by
        cases hq : x == y with
        | false => rfl
        | true => exact absurd (byteC_zero.2 (by simpa using hq)) h0
      rw [this, Bool.not_false, cond_true]; congr 1; omega
theorem cmpOr_eq (a b : Int) : cmpOr_S [a, b] = some (if a = 0 then b else a) := by
  by_cases ha : a = 0
  · subst ha
    rw [if_pos rfl]
    by_cases hb : b = 0
    · subst hb; rfl
    · have : (b != 0) = true := by simpa using hb
      show cmpOr_L1 [0, b] 3 0 = _
      simp only [cmpOr_L1]
      show (bif (b != 0) then some b else _) = _
      rw [this]; rfl
  · have : (a != 0) = true := by simpa using ha
    rw [if_neg ha]
    show (bif (a != 0) then some a else _) = _
    rw [this]; rfl
theorem pdigit_eq (c : UInt8) : pdigit_S (c.toNat : Int) = some (d0 c) := by
  simp only [pdigit_S, pdigit_F, d0]
  by_cases h1 : 48 ≤ c.toNat
  · rw [decide_eq_true (show (c.toNat : Int) ≥ 48 by omega), decide_eq_true h1, cond_true, Bool.true_and]
    congr 1
    by_cases h2 : c.toNat ≤ 57
    · rw [decide_eq_true (show (c.toNat : Int) ≤ 57 by omega), decide_eq_true h2]
    · rw [decide_eq_false (show ¬ (c.toNat : Int) ≤ 57 by omega), decide_eq_false h2]
  · rw [decide_eq_false (show ¬ (c.toNat : Int) ≥ 48 by omega), decide_eq_false h1]; rfl
/-- What a part is compared by. -/
def digP (s : Str) : Bool := match s with
  | [] => false
  | c :: _ => d0 c
def kindP (s : Str) : Nat := if digP s = true then 0 else 1
def bytesP (s : Str) : Str := if digP s = true then Lib.trimLeftB s 48 else s
def lenP (s : Str) : Nat := if digP s = true then (Lib.trimLeftB s 48).length else 0
def partC (a b : Str) : Int := if natC (kindP a) (kindP b) = 0 then (if natC (lenP a) (lenP b) = 0 then byteC (bytesP a) (bytesP b) else natC (lenP a) (lenP b)) else natC (kindP a) (kindP b)
theorem partC_tot : TotC partC := (natC_tot.by_ kindP).or_ ((natC_tot.by_ lenP).or_ (byteC_tot.by_ bytesP))
theorem cmpLen_eq (a b : Nat) : cmpCompare_S (a : Int) (b : Int) = some (natC a b) := by
  rw [cmpCompare_eq]
  unfold natC
  congr 1
  by_cases h1 : a < b
  · rw [if_pos (by omega), if_pos h1]
  · rw [if_neg (by omega), if_neg h1]
    by_cases h2 : a > b
    · rw [if_pos (by omega), if_pos h2]
    · rw [if_neg (by omega), if_neg h2]
theorem ppart_eq {a b : Str} (ha : a ≠ []) (hb : b ≠ []) : ppart_S a b = some (partC a b) := by
  cases a with
  | nil => exact absurd rfl ha
  | cons c r =>
    cases b with
    | nil => exact absurd rfl hb
    | cons d t =>
      have e1 : ix (c :: r) 0 = some c := rfl
      have e2 : ix (d :: t) 0 = some d := rfl
      simp only [ppart_S, ppart_F, e1, e2, Option.bind_some, pdigit_eq]
      have p1 : digP (c :: r) = d0 c := rfl
      have p2 : digP (d :: t) = d0 d := rfl
      have n01 : natC 0 1 = -1 := by decide
      have n10 : natC 1 0 = 1 := by decide
      have n00 : natC 0 0 = 0 := by decide
      have n11 : natC 1 1 = 0 := by decide
      have t1 : ∀ s : Str, sTrimLeft_S s ([48] : Str) = some (Lib.trimLeftB s 48) := fun s => rfl
      unfold partC kindP lenP bytesP
      rw [p1, p2]
      cases hc : d0 c with
      | true =>
        cases hd : d0 d with
        | true => simp [t1, cmpLen_eq, cmpCompareS_eq, cmpOr_eq, n00]
        | false => simp [n01]
      | false =>
        cases hd : d0 d with
        | true => simp [n10]
        | false => simp [cmpCompareS_eq, n11, n00]
end Go.Proofs.YtihjmnhamaicpaaGreatDoor
