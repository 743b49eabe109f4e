/- Units of a shot; the check of a history: it ends, and what it says. -/
import Derived.Test.YtmdhahfminiilaaGreatDoorL50A
set_option linter.unusedSimpArgs false
set_option linter.unusedVariables false
namespace Go.Proofs.YtmdhahfminiilaaGreatDoor
open Go Go.Abs
theorem slIndexFuncS_eq {l : List Standing} {f : Standing → Option Bool} {p : Standing → Bool} (h : l.length ≤ 9223372036854775807) (hf : ∀ x ∈ l, f x = some (p x)) : slIndexFuncS_S l f = some (idxOf p l) := by
  have h1 := loop_scanP (slIndexFuncS_L1 l f) l (fun i x => bif p x then some (i : Int) else none) (-1) h (fun fu i hi => by
      have h0 : decide ((i : Int) < (l.length : Int)) = true := decide_eq_true (by omega)
      simp only [slIndexFuncS_L1, List.length_map, ix_at hi, Option.bind_some, h0, cond_true, wrap_succ h hi, hf _ (List.getElem_mem hi)]
      cases p l[i] <;> rfl)
    (fun fu => by
      have h0 : decide ((l.length : Int) < (l.length : Int)) = false := decide_eq_false (by omega)
      simp only [slIndexFuncS_L1, List.length_map, h0, cond_false]) l.length 0 (l.length + 1) (by omega) (by omega) (by omega)
  show slIndexFuncS_L1 l f (l.length + 1) 0 = _
  rw [show (0 : Int) = ((0 : Nat) : Int) from rfl, h1, List.drop_zero, scanP_find]
  unfold idxOf
  cases l.findIdx? p <;> simp
theorem slIndexFuncH_eq {l : List Shot} {f : Shot → Option Bool} {p : Shot → Bool} (h : l.length ≤ 9223372036854775807) (hf : ∀ x ∈ l, f x = some (p x)) : slIndexFuncH_S l f = some (idxOf p l) := by
  have h1 := loop_scanP (slIndexFuncH_L1 l f) l (fun i x => bif p x then some (i : Int) else none) (-1) h (fun fu i hi => by
      have h0 : decide ((i : Int) < (l.length : Int)) = true := decide_eq_true (by omega)
      simp only [slIndexFuncH_L1, List.length_map, ix_at hi, Option.bind_some, h0, cond_true, wrap_succ h hi, hf _ (List.getElem_mem hi)]
      cases p l[i] <;> rfl)
    (fun fu => by
      have h0 : decide ((l.length : Int) < (l.length : Int)) = false := decide_eq_false (by omega)
      simp only [slIndexFuncH_L1, List.length_map, h0, cond_false]) l.length 0 (l.length + 1) (by omega) (by omega) (by omega)
  show slIndexFuncH_L1 l f (l.length + 1) 0 = _
  rw [show (0 : Int) = ((0 : Nat) : Int) from rfl, h1, List.drop_zero, scanP_find]
  unfold idxOf
  cases l.findIdx? p <;> simp
theorem find_idx {α : Type} (p : α → Bool) : ∀ l : List α, match l.findIdx? p with
    | some k => ∃ h : k < l.length, l.find? p = some l[k]
    | none => l.find? p = none
  | [] => rfl
  | x :: r => by
    rw [List.findIdx?_cons, List.find?_cons]
    cases hp : p x with
    | true => exact ⟨by simp, rfl⟩
    | false =>
      have ih := find_idx p r
      cases hk : r.findIdx? p with
      | none => rw [hk] at ih; simpa using ih
      | some k =>
        rw [hk] at ih
        obtain ⟨h, e⟩ := ih
        exact ⟨by simp; exact h, by simpa using e⟩
/-- How a unit stands in a shot. -/
def fnd (l : List Standing) (u : Int) : Option Standing := l.find? fun s => s.Unit == u
abbrev zeroSt : Standing := ⟨0, 0, 0, [], []⟩
def findV : Option Standing → Standing × Bool
  | some s => (s, true)
  | none => (zeroSt, false)
theorem pfind_eq {l : List Standing} {u : Int} (h : l.length ≤ 1000) : pfind_S l u = some (findV (fnd l u)) := by
  simp only [pfind_S, pfind_F, slIndexFuncS_eq (f := fun z0 => pfind_1_S z0 u) (p := fun s => s.Unit == u) (show l.length ≤ 9223372036854775807 by omega) (fun x _ => rfl), Option.bind_some]
  have hk := find_idx (fun s : Standing => s.Unit == u) l
  unfold idxOf fnd
  cases hi : l.findIdx? (fun s => s.Unit == u) with
  | none =>
    rw [hi] at hk
    simp only at hk ⊢
    rw [decide_eq_true (by decide), cond_true, hk]; rfl
  | some k =>
    rw [hi] at hk
    obtain ⟨h1, h2⟩ := hk
    simp only
    rw [decide_eq_false (by omega), cond_false, ix_at h1, Option.bind_some, h2]; rfl
theorem fnd_unit {l : List Standing} {u : Int} {s : Standing} (h : fnd l u = some s) : s.Unit = u ∧ s ∈ l :=
  ⟨by simpa using List.find?_some h, List.mem_of_find?_eq_some h⟩
def sortedU (l : List Standing) : Prop := l.Pairwise fun a b => a.Unit < b.Unit
theorem fnd_of {l : List Standing} (hs : sortedU l) {s : Standing} (h : s ∈ l) : fnd l s.Unit = some s := by
  induction l with
  | nil => cases h
  | cons x r ih =>
    obtain ⟨h1, h2⟩ := List.pairwise_cons.1 hs
    unfold fnd
    rw [List.find?_cons]
    rcases List.mem_cons.1 h with rfl | h
    · rw [beq_self_eq_true]
    · have := h1 s h
      rw [show (x.Unit == s.Unit) = false by rw [beq_eq_false_iff_ne]; omega]
      exact ih h2 h
structure goodSt (s : Standing) : Prop where
  u1 : 1 ≤ s.Unit
  u2 : s.Unit ≤ 1073741824
  l1 : 1 ≤ s.Level
  l2 : s.Level ≤ 4
theorem kfields_loop {l : List Standing} (h : l.length ≤ 1000) : ∀ (n i fu : Nat), l.length - i = n → i ≤ l.length → n < fu → ∃ e, kfields_L1 l fu (i : Int) = some e ∧ (e = 0 → (∀ s ∈ l.drop i, goodSt s) ∧ ∀ j, i ≤ j → ∀ hj : j < l.length, 1 ≤ j → (l[j - 1]'(by omega)).Unit < l[j].Unit)
  | n, i, 0, _, _, h => by omega
  | 0, i, fu + 1, h1, hi, _ => by
    have : i = l.length := by omega
    subst this
    refine ⟨0, ?_, fun _ => ⟨by simp, fun j h1 h2 => by omega⟩⟩
    simp only [kfields_L1, List.length_map, decide_eq_false (show ¬ (l.length : Int) < (l.length : Int) by omega), cond_false]
  | n + 1, i, fu + 1, h1, _, hf => by
    have hi : i < l.length := by omega
    obtain ⟨e, ih, hok⟩ := kfields_loop h n (i + 1) fu (by omega) (by omega) (by omega)
    simp only [kfields_L1, List.length_map, decide_eq_true (show (i : Int) < (l.length : Int) by omega), cond_true, ix_at hi, Option.bind_some, wrap_succ (n := l.length) (by omega) hi, ih]
    by_cases a1 : l[i].Unit < 1
    · exact ⟨2, by rw [decide_eq_true a1, cond_true], fun h => by cases h⟩
    rw [decide_eq_false a1, cond_false]
    by_cases a2 : l[i].Unit > 1073741824
    · exact ⟨2, by rw [decide_eq_true a2, cond_true], fun h => by cases h⟩
    rw [decide_eq_false a2, cond_false]
    by_cases a3 : l[i].Level < 1
    · exact ⟨2, by rw [decide_eq_true a3, cond_true], fun h => by cases h⟩
    rw [decide_eq_false a3, cond_false]
    by_cases a4 : l[i].Level > 4
    · exact ⟨2, by rw [decide_eq_true a4, cond_true], fun h => by cases h⟩
    rw [decide_eq_false a4, cond_false]
    by_cases a5 : (l[i].Mark.length : Int) > 64
    · exact ⟨4, by rw [decide_eq_true a5, cond_true], fun h => by cases h⟩
    rw [decide_eq_false a5, cond_false]
    by_cases a6 : (l[i].Title.length : Int) < 1
    · exact ⟨4, by rw [decide_eq_true a6, cond_true], fun h => by cases h⟩
    rw [decide_eq_false a6, cond_false]
    by_cases a7 : (l[i].Title.length : Int) > 64
    · exact ⟨4, by rw [decide_eq_true a7, cond_true], fun h => by cases h⟩
    rw [decide_eq_false a7, cond_false]
    have fin : (i = 0 ∨ ∃ h0 : 0 < i, (l[i - 1]'(by omega)).Unit < l[i].Unit) → e = 0 → (∀ s ∈ l.drop i, goodSt s) ∧ ∀ j, i ≤ j → ∀ hj : j < l.length, 1 ≤ j → (l[j - 1]'(by omega)).Unit < l[j].Unit := by
      intro hw he
      obtain ⟨g1, g2⟩ := hok he
      refine ⟨fun s hs => ?_, fun j hj hjl h1j => ?_⟩
      · rw [List.drop_eq_getElem_cons hi] at hs
        rcases List.mem_cons.1 hs with rfl | hs
        · exact ⟨by omega, by omega, by omega, by omega⟩
        · exact g1 s hs
      · by_cases hji : j = i
        · subst hji
          rcases hw with h0 | ⟨h0, h⟩
          · omega
          · exact h
        · exact g2 j (by omega) hjl h1j
    by_cases hz : i = 0
    · subst hz
      rw [decide_eq_false (by decide), cond_false]
      exact ⟨e, rfl, fin (.inl rfl)⟩
    · have hp : (i : Int) - 1 = ((i - 1 : Nat) : Int) := by omega
      rw [decide_eq_true (show (i : Int) > 0 by omega), cond_true, wrap_id (by unfold okI; omega), hp, ix_at (show i - 1 < l.length by omega), Option.bind_some]
      by_cases a8 : (l[i - 1]'(by omega)).Unit ≥ l[i].Unit
      · exact ⟨5, by rw [decide_eq_true a8, cond_true], fun h => by cases h⟩
      · rw [decide_eq_false a8, cond_false]
        exact ⟨e, rfl, fin (.inr ⟨by omega, by omega⟩)⟩
theorem sorted_of {l : List Standing} (h : ∀ j, 0 ≤ j → ∀ hj : j < l.length, 1 ≤ j → (l[j - 1]'(by omega)).Unit < l[j].Unit) : sortedU l := by
  have key : ∀ (i k : Nat) (hk : i + k + 1 < l.length), (l[i]'(by omega)).Unit < (l[i + k + 1]).Unit := by
    intro i k
    induction k with
    | zero => intro hk; exact h (i + 1) (by omega) hk (by omega)
    | succ k ih =>
      intro hk
      have a := ih (by omega)
      have b := h (i + (k + 1) + 1) (by omega) hk (by omega)
      have e : i + (k + 1) + 1 - 1 = i + k + 1 := by omega
      simp only [e] at b
      exact Int.lt_trans a b
  refine List.pairwise_iff_getElem.2 fun i j hi hj hij => ?_
  have := key i (j - i - 1) (by omega)
  have e : i + (j - i - 1) + 1 = j := by omega
  simpa only [e] using this
theorem kfields_eq {l : List Standing} (h : l.length ≤ 1000) : ∃ e, kfields_S l = some e ∧ (e = 0 → (∀ s ∈ l, goodSt s) ∧ sortedU l) := by
  obtain ⟨e, h1, h2⟩ := kfields_loop h l.length 0 2000 (by omega) (by omega) (by omega)
  refine ⟨e, h1, fun he => ?_⟩
  obtain ⟨g1, g2⟩ := h2 he
  rw [List.drop_zero] at g1
  exact ⟨g1, sorted_of g2⟩
end Go.Proofs.YtmdhahfminiilaaGreatDoor
