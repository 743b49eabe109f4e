/- ParseUint at base 10 and 40 bits; the numbers of a code. -/
import Derived.Test.YtmdhahfminiilaaDoorL50B
import Derived.Laws.Bits64
set_option linter.unusedSimpArgs false
set_option linter.unusedVariables false
namespace Go.Proofs.YtmdhahfminiilaaDoor
open Go Go.Abs
theorem u8w {n : Int} (h0 : 0 ≤ n) (h1 : n ≤ 255) : IntKind.u8.wrap n = n := by
  show n % (2 ^ 8 : Int) = n
  omega
theorem u8b (n : Int) : 0 ≤ IntKind.u8.wrap n ∧ IntKind.u8.wrap n ≤ 255 := by
  show 0 ≤ n % (2 ^ 8 : Int) ∧ n % (2 ^ 8 : Int) ≤ 255
  omega
theorem u64w {n : Int} (h0 : 0 ≤ n) (h1 : n < 18446744073709551616) : IntKind.u64.wrap n = n := by
  show n % (2 ^ 64 : Int) = n
  omega
theorem letter_out (X : Option (Int × Int)) {y : Int} : (bif decide (97 ≤ y) then (bif decide (y ≤ 122) then (bif decide (IntKind.u8.wrap (IntKind.u8.wrap (y - 97) + 10) ≥ 10) then some ((0 : Int), (2 : Int)) else X) else some (0, 2)) else some (0, 2)) = some (0, 2) := by
  by_cases h1 : 97 ≤ y
  · by_cases h2 : y ≤ 122
    · rw [decide_eq_true h1, decide_eq_true h2, cond_true, cond_true, u8w (n := y - 97) (by omega) (by omega), u8w (by omega) (by omega), decide_eq_true (by omega), cond_true]
    · rw [decide_eq_true h1, decide_eq_false h2, cond_true, cond_false]
  · rw [decide_eq_false h1, cond_false]
theorem s2b_at {s : Str} {i : Nat} (h : i < s.length) : ix (s2b s) (i : Int) = some ((s[i].toNat : Nat) : Int) := by
  rw [ix_at (l := s2b s) (by simpa [s2b] using h)]
  simp [s2b]
theorem s2b_len (s : Str) : (s2b s).length = s.length := by simp [s2b]
theorem max40 : IntKind.u64.wrap (IntKind.u64.wrap (1 * 1099511627776) - 1) = 1099511627775 := by decide
theorem ip_digit {s : Str} (hs : s.length ≤ 1000) {fu acc i : Nat} (hi : i < s.length) (hd : d0 s[i] = true) (ha : acc ≤ 1099511627775) :
    iParseUint_L1 s (fu + 1) (acc : Int) (i : Int) = if acc * 10 + (s[i].toNat - 48) ≤ 1099511627775 then iParseUint_L1 s fu ((acc * 10 + (s[i].toNat - 48) : Nat) : Int) ((i + 1 : Nat) : Int) else some (1099511627775, 1) := by
  obtain ⟨h1, h2⟩ := d0_iff.1 hd
  have hx : (((s[i].toNat : Nat) : Int) == 95) = false := by simp; omega
  have hw : IntKind.u8.wrap (((s[i].toNat : Nat) : Int) - 48) = ((s[i].toNat - 48 : Nat) : Int) := by rw [u8w (by omega) (by omega)]; omega
  have hm : IntKind.u64.wrap ((acc : Int) * 10) = ((acc * 10 : Nat) : Int) := by rw [u64w (by omega) (by omega)]; omega
  have hd64 : IntKind.u64.wrap ((s[i].toNat - 48 : Nat) : Int) = ((s[i].toNat - 48 : Nat) : Int) := u64w (by omega) (by omega)
  have hsum : IntKind.u64.wrap (((acc * 10 : Nat) : Int) + ((s[i].toNat - 48 : Nat) : Int)) = ((acc * 10 + (s[i].toNat - 48) : Nat) : Int) := by rw [u64w (by omega) (by omega)]; omega
  simp only [iParseUint_L1, List.length_map, s2b_len, decide_eq_true (show (i : Int) < (s.length : Int) by omega), cond_true, s2b_at hi, Option.bind_some, hx, cond_false, decide_eq_true (show (48 : Int) ≤ ((s[i].toNat : Nat) : Int) by omega), decide_eq_true (show ((s[i].toNat : Nat) : Int) ≤ 57 by omega), hw, decide_eq_false (show ¬ ((s[i].toNat - 48 : Nat) : Int) ≥ 10 by omega), decide_eq_false (show ¬ (acc : Int) ≥ 1844674407370955162 by omega), hm, hd64, hsum, decide_eq_false (show ¬ ((acc * 10 + (s[i].toNat - 48) : Nat) : Int) < ((acc * 10 : Nat) : Int) by omega), max40, wrap_succ (n := s.length) (by omega) hi]
  by_cases hc : acc * 10 + (s[i].toNat - 48) ≤ 1099511627775
  · rw [if_pos hc, decide_eq_false (by omega), cond_false]
  · rw [if_neg hc, decide_eq_true (by omega), cond_true]
theorem ip_other {s : Str} {fu : Nat} {acc : Int} {i : Nat} (hi : i < s.length) (hd : d0 s[i] = false) : iParseUint_L1 s (fu + 1) acc (i : Int) = some (0, 2) := by
  have hnot : ¬ (48 ≤ s[i].toNat ∧ s[i].toNat ≤ 57) := fun h => by rw [d0_iff.2 h] at hd; cases hd
  simp only [iParseUint_L1, List.length_map, s2b_len, decide_eq_true (show (i : Int) < (s.length : Int) by omega), cond_true, s2b_at hi, Option.bind_some, iLower_S, iLower_F]
  by_cases h1 : 48 ≤ s[i].toNat
  · have h2 : ¬ s[i].toNat ≤ 57 := fun h => hnot ⟨h1, h⟩
    rw [decide_eq_true (show (48 : Int) ≤ ((s[i].toNat : Nat) : Int) by omega), decide_eq_false (show ¬ ((s[i].toNat : Nat) : Int) ≤ 57 by omega)]
    simp only [cond_true, cond_false, letter_out, Bool.cond_self]
  · rw [decide_eq_false (show ¬ (48 : Int) ≤ ((s[i].toNat : Nat) : Int) by omega)]
    simp only [cond_true, cond_false, letter_out, Bool.cond_self]
theorem ip_loop {s : Str} (hs : s.length ≤ 1000) : ∀ (n i fu acc : Nat), s.length - i = n → i ≤ s.length → n < fu → acc ≤ 1099511627775 →
    ∃ r : Int × Int, iParseUint_L1 s fu (acc : Int) (i : Int) = some r ∧ (((s.drop i).all d0 = true ∧ valA acc (s.drop i) ≤ 1099511627775 ∧ r = (((valA acc (s.drop i) : Nat) : Int), (0 : Int))) ∨ (¬ ((s.drop i).all d0 = true ∧ valA acc (s.drop i) ≤ 1099511627775) ∧ (r.2 = 1 ∨ r.2 = 2)))
  | n, i, 0, acc, _, _, h, _ => by omega
  | 0, i, fu + 1, acc, h, hi, _, ha => by
    have : i = s.length := by omega
    subst this
    refine ⟨((acc : Int), 0), ?_, .inl ⟨by simp, by rw [List.drop_length, valA_nil]; exact ha, by rw [List.drop_length, valA_nil]⟩⟩
    simp only [iParseUint_L1, List.length_map, s2b_len, decide_eq_false (show ¬ (s.length : Int) < (s.length : Int) by omega), cond_false]
  | n + 1, i, fu + 1, acc, h, _, hf, ha => by
    have hi : i < s.length := by omega
    rw [List.drop_eq_getElem_cons hi]
    cases hd : d0 s[i] with
    | false =>
      refine ⟨(0, 2), ip_other hi hd, .inr ⟨fun h => ?_, .inr rfl⟩⟩
      rw [List.all_cons, hd] at h
      exact absurd h.1 (by simp)
    | true =>
      rw [ip_digit hs hi hd ha, valA_cons, List.all_cons, hd, Bool.true_and]
      by_cases hc : acc * 10 + (s[i].toNat - 48) ≤ 1099511627775
      · rw [if_pos hc]
        exact ip_loop hs n (i + 1) fu _ (by omega) (by omega) (by omega) hc
      · rw [if_neg hc]
        refine ⟨_, rfl, .inr ⟨fun h => ?_, .inl rfl⟩⟩
        have := valA_mono (s.drop (i + 1)) (acc * 10 + (s[i].toNat - 48))
        omega
/-- A number of a code; 0 if it is none. -/
def numP (s : Str) : Nat := if canon s = true ∧ valS s ≤ 1099511627775 then valS s else 0
theorem parse1_eq {s : Str} (hs : s.length ≤ 1000) : pParse_1_S s = some ((numP s : Nat) : Int) := by
  simp only [pParse_1_S, pParse_1_F, parseUint_S, parseUintC_S, parseUintC_F, iParseUint_S, iParseUint_F]
  rw [show (decide True && decide True) = true by decide, cond_true]
  cases s with
  | nil =>
    rw [show (([] : Str) == []) = true by decide, cond_true, Option.bind_some]
    simp only
    rw [show ((2 : Int) != 0) = true by decide, cond_true]
    simp only [toErr_S]
    rfl
  | cons c r =>
    rw [show ((c :: r) == ([] : Str)) = false from rfl, cond_false]
    obtain ⟨y, hy, hc⟩ := ip_loop hs (c :: r).length 0 ((c :: r).length + 1) 0 (by omega) (by omega) (by omega) (by omega)
    rw [List.drop_zero] at hc
    rw [show (0 : Int) = ((0 : Nat) : Int) from rfl, hy, Option.bind_some]
    rcases hc with ⟨h1, h2, rfl⟩ | ⟨h1, h2⟩
    · simp only
      rw [show (((0 : Int)) != ((0 : Nat) : Int)) = false by decide, cond_false, Option.bind_some, cond_false]
      have hix : ix (c :: r) ((0 : Nat) : Int) = some c := ix_at (l := c :: r) (i := 0) (by simp)
      rw [hix, Option.bind_some]
      have hcan : canon (c :: r) = (c != 48) := by unfold canon; rw [h1, Bool.true_and]
      by_cases hc48 : c = 48
      · subst hc48
        rw [show (((48 : UInt8).toNat : Int) == 48) = true by decide, cond_true]
        have : numP (48 :: r) = 0 := by unfold numP; rw [hcan]; simp
        rw [this]
      · have hne : ((c.toNat : Int) == 48) = false := by
          rw [beq_eq_false_iff_ne]; intro e; exact hc48 (by rw [← ofNat_eq (show 48 = c.toNat by omega)]; rfl)
        rw [hne, cond_false]
        have hv : numP (c :: r) = valS (c :: r) := by
          unfold numP; rw [hcan]
          rw [if_pos ⟨by simpa using hc48, h2⟩]
        rw [hv, wrap_id (by unfold okI; omega)]; rfl
    · have hn : numP (c :: r) = 0 := by
        unfold numP
        rw [if_neg]
        rintro ⟨g1, g2⟩
        refine h1 ⟨?_, g2⟩
        unfold canon at g1
        rw [Bool.and_eq_true] at g1
        exact g1.1
      rw [hn]
      have hne : (y.2 != ((0 : Nat) : Int)) = true := by rcases h2 with h | h <;> rw [h] <;> decide
      rw [hne, cond_true]
      simp only [toErr_S]
      have : (decide ((c :: r).length ≤ 281474976710656) && (y.2 == 1 || y.2 == 2)) = true := by
        rw [decide_eq_true (by omega), Bool.true_and]
        rcases h2 with h | h <;> rw [h] <;> rfl
      rw [this, cond_true]
      rfl
end Go.Proofs.YtmdhahfminiilaaDoor
