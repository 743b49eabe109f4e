/- Decimal numbers: their texts and values; ParseUint, Atoi. -/
import Derived.Test.YtmdhahfminiilaaDoorL50A
set_option linter.unusedSimpArgs false
set_option linter.unusedVariables false
namespace Go.Proofs.YtmdhahfminiilaaDoor
open Go Go.Abs
def d0 (a : UInt8) : Bool := decide (48 ≤ a.toNat) && decide (a.toNat ≤ 57)
theorem d0_iff {a : UInt8} : d0 a = true ↔ 48 ≤ a.toNat ∧ a.toNat ≤ 57 := by simp [d0]
def valA (acc : Nat) (s : Str) : Nat := s.foldl (fun a c => a * 10 + (c.toNat - 48)) acc
theorem valA_nil (acc : Nat) : valA acc [] = acc := List.foldl_nil
theorem valA_cons (acc : Nat) (c : UInt8) (r : Str) : valA acc (c :: r) = valA (acc * 10 + (c.toNat - 48)) r := List.foldl_cons ..
def valS (s : Str) : Nat := valA 0 s
theorem valA_app (s t : Str) (acc : Nat) : valA acc (s ++ t) = valA (valA acc s) t := List.foldl_append ..
theorem valA_mono (s : Str) : ∀ acc : Nat, acc ≤ valA acc s := by
  induction s with
  | nil => intro acc; rw [valA_nil]; exact Nat.le_refl _
  | cons c r ih =>
    intro acc
    rw [valA_cons]
    exact Nat.le_trans (by omega) (ih _)
theorem valA_pow (s : Str) : ∀ acc : Nat, valA acc s = acc * 10 ^ s.length + valA 0 s := by
  induction s with
  | nil => intro acc; rw [valA_nil, valA_nil, List.length_nil, Nat.pow_zero]; omega
  | cons c r ih =>
    intro acc
    rw [valA_cons, valA_cons, ih (acc * 10 + (c.toNat - 48)), ih (0 * 10 + (c.toNat - 48)), List.length_cons, Nat.pow_succ, Nat.zero_mul, Nat.zero_add, Nat.add_mul, Nat.mul_assoc, Nat.mul_comm 10 (10 ^ r.length), Nat.add_assoc]
theorem ofNat_eq {a : UInt8} {k : Nat} (h : k = a.toNat) : UInt8.ofNat k = a := by subst h; simp
theorem dec_small {u : Nat} (h : u < 10) : Lib.decDigits u = [UInt8.ofNat (48 + u)] := by rw [Lib.decDigits, dif_pos h]
theorem dec_big {u : Nat} (h : ¬ u < 10) : Lib.decDigits u = Lib.decDigits (u / 10) ++ [UInt8.ofNat (48 + u % 10)] := by rw [Lib.decDigits, dif_neg h]
theorem digit_ok : ∀ d : Fin 10, d0 (UInt8.ofNat (48 + d.val)) = true ∧ (UInt8.ofNat (48 + d.val)).toNat = 48 + d.val := by decide
/-- A numeral: digits, the first of which is no zero. -/
def canon (s : Str) : Bool := s.all d0 && match s with
  | [] => false
  | c :: _ => c != 48
theorem dec_spec : ∀ u : Nat, 1 ≤ u → canon (Lib.decDigits u) = true ∧ valS (Lib.decDigits u) = u
  | u => fun hu => by
    by_cases h : u < 10
    · rw [dec_small h]
      obtain ⟨h1, h2⟩ := digit_ok ⟨u, h⟩
      simp only at h1 h2
      refine ⟨?_, by show valA 0 [UInt8.ofNat (48 + u)] = u; rw [valA_cons, valA_nil, h2]; omega⟩
      have : (UInt8.ofNat (48 + u) != 48) = true := by
        rw [bne_iff_ne]; intro e; rw [e] at h2; simp at h2; omega
      simp only [canon, List.all_cons, List.all_nil, h1, this, Bool.and_self]
    · have hlt : u / 10 < u := by omega
      obtain ⟨h1, h2⟩ := dec_spec (u / 10) (by omega)
      obtain ⟨g1, g2⟩ := digit_ok ⟨u % 10, by omega⟩
      simp only at g1 g2
      rw [dec_big h]
      refine ⟨?_, ?_⟩
      · unfold canon at h1 ⊢
        cases hd : Lib.decDigits (u / 10) with
        | nil => rw [hd] at h1; simp at h1
        | cons c r =>
          rw [hd] at h1
          simp only [List.cons_append, List.all_cons, List.all_append, Bool.and_eq_true, List.all_nil] at h1 ⊢
          exact ⟨⟨h1.1.1, h1.1.2, g1, trivial⟩, h1.2⟩
      · unfold valS at h2 ⊢
        rw [valA_app, h2, valA_cons, valA_nil, g2]; omega
  termination_by u => u
theorem canon_snoc {s : Str} {c : UInt8} (h : canon (s ++ [c]) = true) (hs : s ≠ []) : canon s = true ∧ d0 c = true := by
  cases s with
  | nil => exact absurd rfl hs
  | cons a r =>
    simp only [canon, List.cons_append, List.all_cons, List.all_append, Bool.and_eq_true, List.all_nil] at h ⊢
    exact ⟨⟨⟨h.1.1, h.1.2.1⟩, h.2⟩, h.1.2.2.1⟩
theorem canon_pos {s : Str} (h : canon s = true) : 1 ≤ valS s := by
  cases s with
  | nil => simp [canon] at h
  | cons c r =>
    simp only [canon, List.all_cons, Bool.and_eq_true, bne_iff_ne] at h
    obtain ⟨⟨h1, _⟩, h2⟩ := h
    rw [d0_iff] at h1
    have h3 : c.toNat ≠ 48 := fun e => h2 (by rw [← ofNat_eq e.symm]; rfl)
    have := valA_mono r (0 * 10 + (c.toNat - 48))
    unfold valS
    rw [valA_cons]
    omega
/-- A numeral is the text of its value. -/
theorem dec_canon : ∀ (n : Nat) (s : Str), s.length = n → canon s = true → Lib.decDigits (valS s) = s
  | 0, s, hl, h => by
    have : s = [] := List.length_eq_zero_iff.1 hl
    subst this; simp [canon] at h
  | n + 1, s, hl, h => by
    have hne : s ≠ [] := by rintro rfl; simp at hl
    obtain ⟨t, c, rfl⟩ : ∃ t c, s = t ++ [c] := ⟨s.dropLast, s.getLast hne, (List.dropLast_concat_getLast hne).symm⟩
    by_cases ht : t = []
    · subst ht
      simp only [canon, List.nil_append, List.all_cons, List.all_nil, Bool.and_true, Bool.and_eq_true, d0_iff] at h
      have hv : valS ([] ++ [c]) = c.toNat - 48 := by rw [List.nil_append]; unfold valS; rw [valA_cons, valA_nil]; omega
      rw [hv, dec_small (by omega), ofNat_eq (show 48 + (c.toNat - 48) = c.toNat by omega)]; rfl
    · obtain ⟨h1, h2⟩ := canon_snoc h ht
      have ih := dec_canon n t (by simpa using hl) h1
      have hp := canon_pos h1
      rw [d0_iff] at h2
      have hv : valS (t ++ [c]) = valS t * 10 + (c.toNat - 48) := by unfold valS; rw [valA_app, valA_cons, valA_nil]
      rw [hv, dec_big (by omega), show (valS t * 10 + (c.toNat - 48)) / 10 = valS t by omega, ih, ofNat_eq (show 48 + (valS t * 10 + (c.toNat - 48)) % 10 = c.toNat by omega)]
theorem itoa_eq {n : Nat} (h : n ≤ 9223372036854775807) : itoa_S (n : Int) = some (Lib.decDigits n) := by
  unfold itoa_S
  have e : (decide (-9223372036854775808 ≤ (n : Int)) && decide ((n : Int) ≤ 9223372036854775807)) = true := by simp; omega
  rw [e, cond_true, Lib.itoa, if_neg (by omega), Int.toNat_natCast]
theorem parse_digits : ∀ (s : Str) (acc : Nat), s.all d0 = true → valA acc s < 9223372036854775808 → Lib.parseUint10 acc s = .ok (valA acc s)
  | [], acc, _, _ => by rw [Lib.parseUint10, valA_nil]
  | c :: r, acc, h, hv => by
    simp only [List.all_cons, Bool.and_eq_true, d0_iff] at h
    have h1 := valA_mono r (acc * 10 + (c.toNat - 48))
    rw [valA_cons] at hv
    rw [Lib.parseUint10, if_pos h.1, if_neg (by omega), if_neg (by omega), parse_digits r _ h.2 hv, valA_cons]
theorem atoi_eq {s : Str} (hl : s.length ≤ 1000) (hne : s ≠ []) (h : s.all d0 = true) (hv : valS s < 9223372036854775808) : atoi_S s = some ((valS s : Int), false) := by
  unfold atoi_S
  rw [decide_eq_true (by omega), cond_true]
  have : Lib.atoiAll s = .ok (valS s : Int) := by
    cases s with
    | nil => exact absurd rfl hne
    | cons c r =>
      have hc : 48 ≤ c.toNat ∧ c.toNat ≤ 57 := by simp only [List.all_cons, Bool.and_eq_true, d0_iff] at h; exact h.1
      unfold valS at hv ⊢
      rw [Lib.atoiAll, if_neg (by omega), Lib.parseMag, if_neg hne, parse_digits _ 0 h hv]
      simp only
      rw [if_neg (by omega), if_neg (by omega), if_neg (by omega)]
  rw [atoiV, this]
end Go.Proofs.YtmdhahfminiilaaDoor
