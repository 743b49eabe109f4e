/- symMerge's search for the place where the two lists part. -/
import Derived.Test.YtihjmnhamaicpaaGreatDoorLMrg3
set_option linter.unusedVariables false
set_option linter.unusedSimpArgs false
namespace Go.Proofs.YtihjmnhamaicpaaGreatDoor
open Go Go.Abs
/-- What the search runs over: the row from a to b, sorted on both sides of m. -/
structure Rows2 (o : List Str) (D : Nat → Str) (a m b : Nat) : Prop where
  at_ : ∀ c, a ≤ c → c < b → ix o (c : Int) = some (D c)
  small : ∀ c, a ≤ c → c < b → (D c).length ≤ 800
  left : ∀ c d, a ≤ c → c ≤ d → d < m → natV (D c) (D d) ≤ 0
  right : ∀ c d, m ≤ c → c ≤ d → d < b → natV (D c) (D d) ≤ 0
  am : a < m
  mb : m < b
  b9 : b ≤ 900
theorem search_L5 {o : List Str} {D : Nat → Str} {a m b : Nat} (R : Rows2 o D a m b) {self_ : List Str → Int → Int → Int → Option (List Str)} {mid : Nat} (hmid : mid = (a + b) / 2) :
    ∀ (n u w fu : Nat), w - u = n → a ≤ u → u ≤ w → w ≤ m → w ≤ mid → mid + m ≤ u + b → n < fu → (∀ c, a ≤ c → mid + m ≤ c + b → c < u → 0 ≤ natV (D (mid + m - 1 - c)) (D c)) → (∀ c, w ≤ c → c < m → c < mid → natV (D (mid + m - 1 - c)) (D c) < 0) →
      ∃ v, u ≤ v ∧ v ≤ w ∧ (∀ c, a ≤ c → mid + m ≤ c + b → c < v → 0 ≤ natV (D (mid + m - 1 - c)) (D c)) ∧ (∀ c, v ≤ c → c < m → c < mid → natV (D (mid + m - 1 - c)) (D c) < 0) ∧
        slSymMerge_L5 o (a : Int) (m : Int) (b : Int) self_ fu (u : Int) (w : Int) = slSymMerge_L5 o (a : Int) (m : Int) (b : Int) self_ 1 (v : Int) (v : Int) := by
  obtain ⟨hat, hsm, hle, hri, ham, hmb, hb9⟩ := R
  intro n
  induction n using Nat.strongRecOn with
  | _ n ih =>
    intro u w fu hn hau hu hwm hwmid hub hf h1 h2
    obtain ⟨fu, rfl⟩ : ∃ f, fu = f + 1 := ⟨fu - 1, by omega⟩
    by_cases huw : u < w
    · have e1 := mid_eq (i := a) (j := b) (by omega) (by omega)
      rw [← hmid] at e1
      have e2 := mid_eq (i := u) (j := w) (by omega) (by omega)
      obtain ⟨c, hc, hcu, hcw⟩ : ∃ c, (u + w) / 2 = c ∧ u ≤ c ∧ c < w := ⟨(u + w) / 2, rfl, by omega, by omega⟩
      rw [hc] at e2
      have e3 : IntKind.i64.wrap ((IntKind.i64.wrap ((IntKind.i64.wrap ((mid : Int) + (m : Int))) - 1)) - (c : Int)) = ((mid + m - 1 - c : Nat) : Int) := by
        rw [wrap_id (n := (mid : Int) + m) (by unfold okI; omega), wrap_id (n := (mid : Int) + m - 1) (by unfold okI; omega), wrap_id (by unfold okI; omega)]; omega
      rw [slSymMerge_L5, decide_eq_true (show (u : Int) < (w : Int) by omega), cond_true, e1, e2, e3, hat _ (by omega) (by omega), hat c (by omega) (by omega), Option.bind_some, Option.bind_some, pNatural_eq (hsm _ (by omega) (by omega)) (hsm _ (by omega) (by omega)), Option.bind_some]
      by_cases hlt : natV (D (mid + m - 1 - c)) (D c) < 0
      · rw [decide_eq_true hlt, Bool.not_true, cond_false]
        obtain ⟨v, v1, v2, v3, v4, v5⟩ := ih (c - u) (by omega) u c fu rfl hau hcu (by omega) (by omega) hub (by omega) h1 (fun d hd hdm hdmid => by
          have q1 := hri (mid + m - 1 - d) (mid + m - 1 - c) (by omega) (by omega) (by omega)
          have q2 := hle c d (by omega) hd hdm
          exact lt_of_lt_le (lt_of_le_lt q1 hlt) q2)
        exact ⟨v, v1, by omega, v3, v4, v5⟩
      · rw [decide_eq_false hlt, Bool.not_false, cond_true]
        have ew : IntKind.i64.wrap ((c : Int) + 1) = ((c + 1 : Nat) : Int) := by rw [wrap_id (by unfold okI; omega)]; omega
        rw [ew]
        obtain ⟨v, v1, v2, v3, v4, v5⟩ := ih (w - (c + 1)) (by omega) (c + 1) w fu rfl (by omega) (by omega) hwm hwmid (by omega) (by omega) (fun d hda hdb hdc => by
          rcases Int.lt_or_le (natV (D (mid + m - 1 - d)) (D d)) 0 with hq | hq
          · have q1 := hri (mid + m - 1 - c) (mid + m - 1 - d) (by omega) (by omega) (by omega)
            have q2 := hle d c hda (by omega) (by omega)
            exact absurd (lt_of_lt_le (lt_of_le_lt q1 hq) q2) hlt
          · exact hq) h2
        exact ⟨v, by omega, v2, v3, v4, v5⟩
    · have : w = u := by omega
      subst this
      refine ⟨w, Nat.le_refl _, Nat.le_refl _, h1, h2, ?_⟩
      rw [slSymMerge_L5, slSymMerge_L5, decide_eq_false (show ¬ (w : Int) < (w : Int) by omega), cond_false]
      rfl
theorem search_L6 {o : List Str} {D : Nat → Str} {a m b : Nat} (R : Rows2 o D a m b) {self_ : List Str → Int → Int → Int → Option (List Str)} {mid : Nat} (hmid : mid = (a + b) / 2) :
    ∀ (n u w fu : Nat), w - u = n → a ≤ u → u ≤ w → w ≤ m → w ≤ mid → mid + m ≤ u + b → n < fu → (∀ c, a ≤ c → mid + m ≤ c + b → c < u → 0 ≤ natV (D (mid + m - 1 - c)) (D c)) → (∀ c, w ≤ c → c < m → c < mid → natV (D (mid + m - 1 - c)) (D c) < 0) →
      ∃ v, u ≤ v ∧ v ≤ w ∧ (∀ c, a ≤ c → mid + m ≤ c + b → c < v → 0 ≤ natV (D (mid + m - 1 - c)) (D c)) ∧ (∀ c, v ≤ c → c < m → c < mid → natV (D (mid + m - 1 - c)) (D c) < 0) ∧
        slSymMerge_L6 o (a : Int) (m : Int) (b : Int) self_ fu (u : Int) (w : Int) = slSymMerge_L6 o (a : Int) (m : Int) (b : Int) self_ 1 (v : Int) (v : Int) := by
  obtain ⟨hat, hsm, hle, hri, ham, hmb, hb9⟩ := R
  intro n
  induction n using Nat.strongRecOn with
  | _ n ih =>
    intro u w fu hn hau hu hwm hwmid hub hf h1 h2
    obtain ⟨fu, rfl⟩ : ∃ f, fu = f + 1 := ⟨fu - 1, by omega⟩
    by_cases huw : u < w
    · have e1 := mid_eq (i := a) (j := b) (by omega) (by omega)
      rw [← hmid] at e1
      have e2 := mid_eq (i := u) (j := w) (by omega) (by omega)
      obtain ⟨c, hc, hcu, hcw⟩ : ∃ c, (u + w) / 2 = c ∧ u ≤ c ∧ c < w := ⟨(u + w) / 2, rfl, by omega, by omega⟩
      rw [hc] at e2
      have e3 : IntKind.i64.wrap ((IntKind.i64.wrap ((IntKind.i64.wrap ((mid : Int) + (m : Int))) - 1)) - (c : Int)) = ((mid + m - 1 - c : Nat) : Int) := by
        rw [wrap_id (n := (mid : Int) + m) (by unfold okI; omega), wrap_id (n := (mid : Int) + m - 1) (by unfold okI; omega), wrap_id (by unfold okI; omega)]; omega
      rw [slSymMerge_L6, decide_eq_true (show (u : Int) < (w : Int) by omega), cond_true, e1, e2, e3, hat _ (by omega) (by omega), hat c (by omega) (by omega), Option.bind_some, Option.bind_some, pNatural_eq (hsm _ (by omega) (by omega)) (hsm _ (by omega) (by omega)), Option.bind_some]
      by_cases hlt : natV (D (mid + m - 1 - c)) (D c) < 0
      · rw [decide_eq_true hlt, Bool.not_true, cond_false]
        obtain ⟨v, v1, v2, v3, v4, v5⟩ := ih (c - u) (by omega) u c fu rfl hau hcu (by omega) (by omega) hub (by omega) h1 (fun d hd hdm hdmid => by
          have q1 := hri (mid + m - 1 - d) (mid + m - 1 - c) (by omega) (by omega) (by omega)
          have q2 := hle c d (by omega) hd hdm
          exact lt_of_lt_le (lt_of_le_lt q1 hlt) q2)
        exact ⟨v, v1, by omega, v3, v4, v5⟩
      · rw [decide_eq_false hlt, Bool.not_false, cond_true]
        have ew : IntKind.i64.wrap ((c : Int) + 1) = ((c + 1 : Nat) : Int) := by rw [wrap_id (by unfold okI; omega)]; omega
        rw [ew]
        obtain ⟨v, v1, v2, v3, v4, v5⟩ := ih (w - (c + 1)) (by omega) (c + 1) w fu rfl (by omega) (by omega) hwm hwmid (by omega) (by omega) (fun d hda hdb hdc => by
          rcases Int.lt_or_le (natV (D (mid + m - 1 - d)) (D d)) 0 with hq | hq
          · have q1 := hri (mid + m - 1 - c) (mid + m - 1 - d) (by omega) (by omega) (by omega)
            have q2 := hle d c hda (by omega) (by omega)
            exact absurd (lt_of_lt_le (lt_of_le_lt q1 hq) q2) hlt
          · exact hq) h2
        exact ⟨v, by omega, v2, v3, v4, v5⟩
    · have : w = u := by omega
      subst this
      refine ⟨w, Nat.le_refl _, Nat.le_refl _, h1, h2, ?_⟩
      rw [slSymMerge_L6, slSymMerge_L6, decide_eq_false (show ¬ (w : Int) < (w : Int) by omega), cond_false]
      rfl
end Go.Proofs.YtihjmnhamaicpaaGreatDoor
