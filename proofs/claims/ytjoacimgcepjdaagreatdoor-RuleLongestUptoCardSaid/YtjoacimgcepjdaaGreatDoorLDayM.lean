/- Years, months and days as arithmetic. -/
import Derived.Test.YtjoacimgcepjdaaGreatDoorLGen
namespace Go.Proofs.YtjoacimgcepjdaaGreatDoor
def begV (y : Int) : Int := 365 * (y - 1600) + (y - 1600 + 3) / 4 - (y - 1600 + 99) / 100 + (y - 1600 + 399) / 400
def leapV (y : Int) : Bool := decide (y % 4 = 0) && (decide (y % 100 ≠ 0) || decide (y % 400 = 0))
theorem begV_succ (y : Int) : begV (y + 1) = begV y + (if leapV y = true then 366 else 365) := by
  unfold begV leapV
  simp only [Bool.and_eq_true, Bool.or_eq_true, decide_eq_true_eq]
  split <;> omega
theorem begV_lt {y z : Int} (h : y < z) : begV y + 365 ≤ begV z := by
  unfold begV; omega
theorem begV_mono {y z : Int} (h : y ≤ z) : begV y ≤ begV z := by
  unfold begV; omega
theorem begV_lo {n : Int} (h : 0 ≤ n) : begV (1600 + n / 366) ≤ n := by unfold begV; omega
theorem begV_lo4 {n : Int} (_ : 0 ≤ n) : begV (1600 + 400 * (n / 146097) + n % 146097 / 366) ≤ n := by unfold begV; omega
theorem begV_hi : begV 4471 > 1048575 := by decide
theorem begV_0 : begV 1600 = 0 := by decide
def lenV (b : Bool) (m : Nat) : Nat := if m = 2 then (if b then 29 else 28) else if m = 4 ∨ m = 6 ∨ m = 9 ∨ m = 11 then 30 else 31
def monGo (b : Bool) : Nat → Nat → Nat → Nat × Nat
  | 0, m, d => (m, d)
  | n + 1, m, d => if d < lenV b m then (m, d) else monGo b n (m + 1) (d - lenV b m)
def sumV (b : Bool) : Nat → Nat
  | 0 => 0
  | n + 1 => sumV b n + lenV b (n + 1)
theorem go_all : ∀ b : Bool, ∀ k : Nat, k < (if b then 366 else 365) → 1 ≤ (monGo b 12 1 k).1 ∧ (monGo b 12 1 k).1 ≤ 12 ∧ (monGo b 12 1 k).2 < lenV b (monGo b 12 1 k).1 ∧ sumV b ((monGo b 12 1 k).1 - 1) + (monGo b 12 1 k).2 = k := by decide +kernel
theorem go_back : ∀ b : Bool, ∀ m : Nat, m < 13 → 1 ≤ m → ∀ d : Nat, d < lenV b m → monGo b 12 1 (sumV b (m - 1) + d) = (m, d) ∧ sumV b (m - 1) + d < (if b then 366 else 365) := by decide +kernel
/-- The day of the year, in another year. -/
def shiftV (b b' : Bool) (k : Nat) : Nat := if b = b' then k else if k < 59 then k else if b' = true then k + 1 else k - 1
theorem shift_all : ∀ b b' : Bool, ∀ k : Nat, k < (if b then 366 else 365) → sumV b' ((monGo b 12 1 k).1 - 1) + min (monGo b 12 1 k).2 (lenV b' (monGo b 12 1 k).1 - 1) = shiftV b b' k := by decide +kernel
theorem lenB {b : Bool} {P : Nat → Prop} (h1 : b = true → P 366) (h2 : b = false → P 365) : P (if b then 366 else 365) := by
  cases b
  · exact h2 rfl
  · exact h1 rfl
def isYear (y d : Int) : Prop := begV y ≤ d ∧ d < begV (y + 1)
theorem year_uniq {y z d : Int} (h : isYear y d) (h' : isYear z d) : y = z := by
  rcases Int.lt_trichotomy y z with hl | hl | hl
  · have := begV_mono (show y + 1 ≤ z by omega); have := h.2; have := h'.1; omega
  · exact hl
  · have := begV_mono (show z + 1 ≤ y by omega); have := h'.2; have := h.1; omega
theorem year_le {y z d e : Int} (h : isYear y d) (h' : isYear z e) (hd : d ≤ e) : y ≤ z := by
  refine Int.not_lt.1 fun hl => ?_
  have := begV_mono (show z + 1 ≤ y by omega); have := h'.2; have := h.1; omega
def yrGo : Nat → Int → Int → Int
  | 0, y, _ => y
  | n + 1, y, d => if begV (y + 1) ≤ d then yrGo n (y + 1) d else y
theorem yrGo_is : ∀ (n : Nat) (y d : Int), begV y ≤ d → d ≤ 1048575 → 4471 - y ≤ n → isYear (yrGo n y d) d ∧ y ≤ yrGo n y d
  | 0, y, d, h1, h2, h3 => by
    have := begV_mono (show 4471 ≤ y by omega)
    have := begV_hi
    omega
  | n + 1, y, d, h1, h2, h3 => by
    rw [yrGo]
    by_cases h : begV (y + 1) ≤ d
    · rw [if_pos h]
      have := yrGo_is n (y + 1) d h h2 (by omega)
      exact ⟨this.1, by omega⟩
    · rw [if_neg h]
      exact ⟨⟨h1, by omega⟩, Int.le_refl _⟩
def yearV (d : Int) : Int := yrGo 2871 1600 d
theorem yearV_is {d : Int} (h0 : 0 ≤ d) (h1 : d ≤ 1048575) : isYear (yearV d) d ∧ 1600 ≤ yearV d := yrGo_is 2871 1600 d (by rw [begV_0]; exact h0) h1 (by omega)
theorem year_hi {y d : Int} (h : isYear y d) (h1 : d ≤ 1048575) : y ≤ 4470 := by
  refine Int.not_lt.1 fun hl => ?_
  have := begV_mono (show 4471 ≤ y by omega); have := begV_hi; have := h.1; omega
def lenY (b : Bool) : Nat := if b then 366 else 365
theorem year_k {y d : Int} (h : isYear y d) : (d - begV y).toNat < lenY (leapV y) ∧ (((d - begV y).toNat : Nat) : Int) = d - begV y := by
  have h1 := h.1; have h2 := h.2
  rw [begV_succ] at h2
  unfold lenY
  refine ⟨?_, by omega⟩
  revert h2
  split <;> intro h2 <;> omega
theorem begV_len (y : Int) : begV (y + 1) = begV y + (lenY (leapV y) : Nat) := by
  rw [begV_succ]; unfold lenY; split <;> rfl
theorem isYear_of {y : Int} {k : Nat} (h : k < lenY (leapV y)) : isYear y (begV y + k) := ⟨by omega, by rw [begV_len]; omega⟩
theorem shift_lt {b b' : Bool} {k : Nat} (h : k < lenY b) : shiftV b b' k < lenY b' := by
  cases b <;> cases b' <;> simp only [lenY, shiftV] at h ⊢ <;> simp at h ⊢ <;> (repeat' split) <;> omega
theorem shift_mono {b b' : Bool} {k k' : Nat} (h : k ≤ k') : shiftV b b' k ≤ shiftV b b' k' := by
  cases b <;> cases b' <;> simp only [shiftV] <;> simp <;> (repeat' split) <;> omega
def yearsV (d n : Int) : Int := if yearV d + n > 4470 then 1048575 else
  (let o := begV (yearV d + n) + (shiftV (leapV (yearV d)) (leapV (yearV d + n)) (d - begV (yearV d)).toNat : Nat); if o > 1048575 then 1048575 else o)
def yearEndV (d : Int) : Int := if 1048575 < begV (yearV d + 1) - 1 then 1048575 else begV (yearV d + 1) - 1
theorem yearsV_eq {d n : Int} : yearsV d n = min 1048575 (if yearV d + n > 4470 then 1048575 else begV (yearV d + n) + (shiftV (leapV (yearV d)) (leapV (yearV d + n)) (d - begV (yearV d)).toNat : Nat)) := by
  unfold yearsV
  split
  · rfl
  · simp only; split <;> omega
theorem yearsV_hi (d n : Int) : yearsV d n ≤ 1048575 := by rw [yearsV_eq]; omega
theorem years_mono {a b n m : Int} (ha : 0 ≤ a) (hab : a ≤ b) (hb : b ≤ 1048575) (hnm : n ≤ m) : yearsV a n ≤ yearsV b m := by
  obtain ⟨ya, la⟩ := yearV_is ha (by omega)
  obtain ⟨yb, lb⟩ := yearV_is (d := b) (by omega) hb
  have hy := year_le ya yb hab
  have ka := year_k ya
  have kb := year_k yb
  rw [yearsV_eq, yearsV_eq]
  by_cases h2 : yearV b + m > 4470
  · rw [if_pos h2]; omega
  · rw [if_neg h2, if_neg (by omega)]
    by_cases he : yearV a + n = yearV b + m
    · have e1 : yearV a = yearV b := by omega
      have : shiftV (leapV (yearV a)) (leapV (yearV a + n)) (a - begV (yearV a)).toNat ≤ shiftV (leapV (yearV b)) (leapV (yearV b + m)) (b - begV (yearV b)).toNat := by
        rw [he, ← e1]
        exact shift_mono (by omega)
      rw [he]
      rw [he] at this
      omega
    · have h3 := begV_mono (show yearV a + n + 1 ≤ yearV b + m by omega)
      have h4 := shift_lt (b' := leapV (yearV a + n)) ka.1
      rw [begV_len] at h3
      omega
theorem years_ge {d n : Int} (h0 : 0 ≤ d) (h1 : d ≤ 1048575) (hn : 0 ≤ n) : d ≤ yearsV d n := by
  have h2 := years_mono h0 (Int.le_refl d) h1 hn
  have : yearsV d 0 = d := by
    obtain ⟨y, l⟩ := yearV_is h0 h1
    have := year_hi y h1
    have k := year_k y
    rw [yearsV_eq, if_neg (by omega), Int.add_zero]
    unfold shiftV
    rw [if_pos rfl]
    omega
  omega
theorem yearEnd_in {d : Int} (h0 : 0 ≤ d) (h1 : d ≤ 1048575) : d ≤ yearEndV d ∧ yearEndV d ≤ 1048575 ∧ yearEndV d ≤ d + 365 ∧ yearV (yearEndV d) = yearV d := by
  obtain ⟨y, l⟩ := yearV_is h0 h1
  have y1 := y.1
  have y2 := y.2
  have hl := begV_succ (yearV d)
  have hle : begV (yearV d + 1) ≤ begV (yearV d) + 366 := by rw [hl]; split <;> omega
  have e : d ≤ yearEndV d ∧ yearEndV d ≤ 1048575 ∧ yearEndV d ≤ d + 365 ∧ begV (yearV d) ≤ yearEndV d ∧ yearEndV d < begV (yearV d + 1) := by
    unfold yearEndV; split <;> omega
  refine ⟨e.1, e.2.1, e.2.2.1, ?_⟩
  exact year_uniq (yearV_is (by omega) e.2.1).1 ⟨e.2.2.2.1, e.2.2.2.2⟩
theorem yearEnd_idem {d : Int} (h0 : 0 ≤ d) (h1 : d ≤ 1048575) : yearEndV (yearEndV d) = yearEndV d := by
  have := (yearEnd_in h0 h1).2.2.2
  have e : yearEndV (yearEndV d) = if 1048575 < begV (yearV (yearEndV d) + 1) - 1 then 1048575 else begV (yearV (yearEndV d) + 1) - 1 := rfl
  rw [e, this]; rfl
theorem yearEnd_mono {a b : Int} (ha : 0 ≤ a) (hab : a ≤ b) (hb : b ≤ 1048575) : yearEndV a ≤ yearEndV b := by
  have hy := year_le (yearV_is ha (by omega)).1 (yearV_is (d := b) (by omega) hb).1 hab
  have := begV_mono (show yearV a + 1 ≤ yearV b + 1 by omega)
  unfold yearEndV; split <;> split <;> omega
end Go.Proofs.YtjoacimgcepjdaaGreatDoor
