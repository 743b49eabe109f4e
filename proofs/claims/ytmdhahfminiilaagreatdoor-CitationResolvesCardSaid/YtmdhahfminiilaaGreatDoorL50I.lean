/- The check of a history: it ends, and what a history without a fault is. -/
import Derived.Test.YtmdhahfminiilaaGreatDoorL50H
set_option linter.unusedSimpArgs false
set_option linter.unusedVariables false
namespace Go.Proofs.YtmdhahfminiilaaGreatDoor
open Go Go.Abs
theorem mget_cons {α β : Type} [BEq α] (p : α × β) (r : List (α × β)) (y : α) : mget (p :: r) y = bif y == p.1 then some p.2 else mget r y := rfl
theorem mset_cons {α β : Type} [BEq α] (p : α × β) (r : List (α × β)) (x : α) (v : β) : mset (p :: r) x v = bif x == p.1 then (x, v) :: r else p :: mset r x v := rfl
theorem mget_mset {α β : Type} [BEq α] [LawfulBEq α] : ∀ (m : List (α × β)) (x y : α) (v : β), mget (mset m x v) y = bif y == x then some v else mget m y
  | [], x, y, v => rfl
  | p :: r, x, y, v => by
    rw [mset_cons]
    cases hp : x == p.1 with
    | true =>
      have : x = p.1 := eq_of_beq hp
      rw [cond_true, mget_cons, mget_cons, this]
      cases y == p.1 <;> rfl
    | false =>
      rw [cond_false, mget_cons, mget_cons, mget_mset r x y v]
      cases hy : y == p.1 with
      | false => rfl
      | true =>
        have : y = p.1 := eq_of_beq hy
        have hn : (y == x) = false := by
          rw [this]
          cases hq : p.1 == x with
          | false => rfl
          | true => rw [← eq_of_beq hq, beq_self_eq_true] at hp; cases hp
        rw [hn]; rfl
def pmF (m : List (Int × Int)) : List Standing → List (Int × Int)
  | [] => m
  | s :: r => pmF (mset m s.Unit s.Parent) r
theorem pmF_get : ∀ (l : List Standing) (m : List (Int × Int)) (u : Int), sortedU l → mget (pmF m l) u = match fnd l u with
    | some s => some s.Parent
    | none => mget m u
  | [], m, u, _ => rfl
  | s :: r, m, u, h => by
    obtain ⟨h1, h2⟩ := List.pairwise_cons.1 h
    rw [pmF, pmF_get r _ u h2, mget_mset]
    unfold fnd
    rw [List.find?_cons]
    by_cases hu : u = s.Unit
    · subst hu
      have : r.find? (fun x => x.Unit == s.Unit) = none := by
        rw [List.find?_eq_none]
        intro x hx
        have := h1 x hx
        simp; omega
      rw [this, beq_self_eq_true, cond_true]
    · rw [beq_eq_false_iff_ne.2 hu, cond_false, show (s.Unit == u) = false by rw [beq_eq_false_iff_ne]; exact fun e => hu e.symm]
/-- From a unit one comes to the top within n steps, and each unit on the way is there. -/
def up (l : List Standing) : Nat → Int → Bool
  | 0, u => u == 0
  | n + 1, u => u == 0 || match fnd l u with
    | some s => up l n s.Parent
    | none => false
theorem above_L1 {l : List Standing} (h : l.length ≤ 1000) (N : Nat) : ∀ (n i fu : Nat) (m : List (Int × Int)), l.length - i = n → i ≤ l.length → n < fu → kabove_L1 l N fu (i : Int) m = kabove_L2 l (pmF m (l.drop i)) N N 0
  | n, i, 0, _, _, _, h => by omega
  | 0, i, fu + 1, m, h1, hi, _ => by
    have : i = l.length := by omega
    subst this
    rw [List.drop_length, pmF]
    simp only [kabove_L1, List.length_map, decide_eq_false (show ¬ (l.length : Int) < (l.length : Int) by omega), cond_false]
  | n + 1, i, fu + 1, m, h1, _, hf => by
    have hi : i < l.length := by omega
    rw [List.drop_eq_getElem_cons hi, pmF, ← above_L1 h N n (i + 1) fu _ (by omega) (by omega) (by omega)]
    simp only [kabove_L1, List.length_map, decide_eq_true (show (i : Int) < (l.length : Int) by omega), cond_true, ix_at hi, Option.bind_some, wrap_succ (n := l.length) (by omega) hi]
theorem up_zero (l : List Standing) : ∀ d, up l d 0 = true
  | 0 => rfl
  | d + 1 => rfl
theorem up_ne {l : List Standing} {u : Int} (hu : u ≠ 0) (d : Nat) : up l (d + 1) u = match fnd l u with | some s => up l d s.Parent | none => false := by
  rw [up, beq_eq_false_iff_ne.2 hu, Bool.false_or]
theorem above_L3 {l : List Standing} {m : List (Int × Int)} (hm : ∀ u, u ≠ 0 → mget m u = (fnd l u).map (·.Parent)) (v : Int) (k : Int → Option Int) : ∀ (d n fu : Nat) (u : Int), n + d = 11 → d < fu → kabove_L3 m v k fu (n : Int) u = bif up l d u then k (IntKind.i64.wrap (v + 1)) else some 17
  | d, n, 0, u, _, h => by omega
  | 0, n, fu + 1, u, hn, _ => by
    have : n = 11 := by omega
    subst this
    by_cases hu : u = 0
    · subst hu; rw [up_zero]; rfl
    · have e : up l 0 u = false := by rw [up]; exact beq_eq_false_iff_ne.2 hu
      rw [e, cond_false]
      simp only [kabove_L3]
      rw [show (u != 0) = true by rw [bne_iff_ne]; exact hu, cond_true]
      simp only [mlook, Option.bind_some, hm u hu]
      rw [show decide (IntKind.i64.wrap (((11 : Nat) : Int) + 1) ≥ 12) = true by decide]
      cases (fnd l u) <;> rfl
  | d + 1, n, fu + 1, u, hn, hf => by
    by_cases hu : u = 0
    · subst hu; rw [up_zero]; rfl
    · rw [up_ne hu]
      simp only [kabove_L3]
      rw [show (u != 0) = true by rw [bne_iff_ne]; exact hu, cond_true]
      simp only [mlook, Option.bind_some, hm u hu]
      have hw : IntKind.i64.wrap ((n : Int) + 1) = ((n + 1 : Nat) : Int) := by rw [wrap_id (by unfold okI; omega)]; omega
      cases hfd : fnd l u with
      | none => rfl
      | some s =>
        simp only [Option.map_some, Option.getD_some, Option.isSome_some, Bool.not_true, cond_false, hw]
        rw [decide_eq_false (by omega), cond_false]
        exact above_L3 hm v k d (n + 1) fu s.Parent (by omega) (by omega)
theorem above_L2 {l : List Standing} (h : l.length ≤ 1000) {m : List (Int × Int)} (hm : ∀ u, u ≠ 0 → mget m u = (fnd l u).map (·.Parent)) {N : Nat} (hN : 11 < N) : ∀ (n i fu : Nat), l.length - i = n → i ≤ l.length → n < fu → ∃ e, kabove_L2 l m N fu (i : Int) = some e ∧ (e = 0 → ∀ s ∈ l.drop i, up l 11 s.Parent = true)
  | n, i, 0, _, _, h => by omega
  | 0, i, fu + 1, h1, hi, _ => by
    have : i = l.length := by omega
    subst this
    refine ⟨0, ?_, fun _ s hs => by simp at hs⟩
    simp only [kabove_L2, List.length_map, decide_eq_false (show ¬ (l.length : Int) < (l.length : Int) by omega), cond_false]
  | n + 1, i, fu + 1, h1, _, hf => by
    have hi : i < l.length := by omega
    obtain ⟨e, ih, hok⟩ := above_L2 h hm hN n (i + 1) fu (by omega) (by omega) (by omega)
    simp only [kabove_L2, List.length_map, decide_eq_true (show (i : Int) < (l.length : Int) by omega), cond_true, ix_at hi, Option.bind_some, mlook]
    cases (mget m l[i].Parent).isSome with
    | false => exact ⟨7, rfl, fun h => by cases h⟩
    | true =>
      rw [Bool.not_true, cond_false, show (0 : Int) = ((0 : Nat) : Int) from rfl, above_L3 hm (i : Int) _ 11 0 N _ (by omega) hN, wrap_succ (n := l.length) (by omega) hi]
      cases hup : up l 11 l[i].Parent with
      | false => exact ⟨17, rfl, fun h => by cases h⟩
      | true =>
        rw [cond_true, ih]
        refine ⟨e, rfl, fun he s hs => ?_⟩
        rw [List.drop_eq_getElem_cons hi] at hs
        rcases List.mem_cons.1 hs with rfl | hs
        · exact hup
        · exact hok he s hs
theorem kabove_eq {l : List Standing} (h : l.length ≤ 1000) (hs : sortedU l) (hu : ∀ s ∈ l, goodSt s) : ∃ e, kabove_S l = some e ∧ (e = 0 → ∀ s ∈ l, up l 11 s.Parent = true) := by
  have hm : ∀ u, u ≠ 0 → mget (pmF (mset [] 0 0) l) u = (fnd l u).map (·.Parent) := by
    intro u hu
    rw [pmF_get l _ u hs, mget_mset, beq_eq_false_iff_ne.2 hu, cond_false]
    cases fnd l u <;> rfl
  obtain ⟨e, h1, h2⟩ := above_L2 h hm (N := 2000) (by omega) l.length 0 2000 (by omega) (by omega) (by omega)
  refine ⟨e, ?_, by simpa using h2⟩
  show kabove_L1 l 2000 2000 ((0 : Nat) : Int) (mset [] 0 0) = _
  rw [above_L1 h 2000 l.length 0 2000 _ (by omega) (by omega) (by omega), List.drop_zero]
  exact h1
structure okShotV (x : Shot) : Prop where
  d0 : 0 ≤ x.Day
  d1 : x.Day ≤ 1048575
  len : x.Units.length ≤ 256
  good : ∀ s ∈ x.Units, goodSt s
  sorted : sortedU x.Units
  up : ∀ s ∈ x.Units, up x.Units 11 s.Parent = true
structure validH (h : List Shot) : Prop where
  len : h.length ≤ 64
  shot : ∀ x ∈ h, okShotV x
  days : h.Pairwise fun a b => a.Day < b.Day
theorem check_L2 {x : Shot} (h : x.Units.length ≤ 1000) {i : Nat} (hi : i ≤ 1000) {k : Int → List (Str × Int) → Option Int} {P : Prop} (hk : ∀ m, ∃ e, k ((i + 1 : Nat) : Int) m = some e ∧ (e = 0 → P)) :
    ∀ (n j fu : Nat) (m : List (Str × Int)), x.Units.length - j = n → j ≤ x.Units.length → n < fu → ∃ e, kCheck_L2 (i : Int) x k fu (j : Int) m = some e ∧ (e = 0 → P)
  | n, j, 0, m, _, _, h => by omega
  | 0, j, fu + 1, m, h1, hj, _ => by
    have : j = x.Units.length := by omega
    subst this
    simp only [kCheck_L2, List.length_map, decide_eq_false (show ¬ (x.Units.length : Int) < (x.Units.length : Int) by omega), cond_false]
    have := hk m
    rwa [← wrap_succ (n := 2000) (by omega) (show i < 2000 by omega)] at this
  | n + 1, j, fu + 1, m, h1, _, hf => by
    have hj : j < x.Units.length := by omega
    have ih := fun m => check_L2 h hi hk n (j + 1) fu m (by omega) (by omega) (by omega)
    simp only [kCheck_L2, List.length_map, decide_eq_true (show (j : Int) < (x.Units.length : Int) by omega), cond_true, ix_at hj, Option.bind_some, wrap_succ (n := x.Units.length) (by omega) hj, mlook]
    cases x.Units[j].Mark == ([] : Str) with
    | true => exact ih m
    | false =>
      rw [cond_false]
      cases (mget m x.Units[j].Mark).isSome with
      | false => exact ih _
      | true =>
        rw [cond_true]
        cases ((mget m x.Units[j].Mark).getD 0 != x.Units[j].Unit) with
        | false => exact ih _
        | true => exact ⟨19, rfl, fun h => by cases h⟩
theorem check_L3 {x : Shot} (h : x.Units.length ≤ 1000) {i : Nat} (hi : i ≤ 1000) {k : Int → List (Str × Int) → Option Int} {P : Prop} (hk : ∀ m, ∃ e, k ((i + 1 : Nat) : Int) m = some e ∧ (e = 0 → P)) :
    ∀ (n j fu : Nat) (m : List (Str × Int)), x.Units.length - j = n → j ≤ x.Units.length → n < fu → ∃ e, kCheck_L3 (i : Int) x k fu (j : Int) m = some e ∧ (e = 0 → P)
  | n, j, 0, m, _, _, h => by omega
  | 0, j, fu + 1, m, h1, hj, _ => by
    have : j = x.Units.length := by omega
    subst this
    simp only [kCheck_L3, List.length_map, decide_eq_false (show ¬ (x.Units.length : Int) < (x.Units.length : Int) by omega), cond_false]
    have := hk m
    rwa [← wrap_succ (n := 2000) (by omega) (show i < 2000 by omega)] at this
  | n + 1, j, fu + 1, m, h1, _, hf => by
    have hj : j < x.Units.length := by omega
    have ih := fun m => check_L3 h hi hk n (j + 1) fu m (by omega) (by omega) (by omega)
    simp only [kCheck_L3, List.length_map, decide_eq_true (show (j : Int) < (x.Units.length : Int) by omega), cond_true, ix_at hj, Option.bind_some, wrap_succ (n := x.Units.length) (by omega) hj, mlook]
    cases x.Units[j].Mark == ([] : Str) with
    | true => exact ih m
    | false =>
      rw [cond_false]
      cases (mget m x.Units[j].Mark).isSome with
      | false => exact ih _
      | true =>
        rw [cond_true]
        cases ((mget m x.Units[j].Mark).getD 0 != x.Units[j].Unit) with
        | false => exact ih _
        | true => exact ⟨19, rfl, fun h => by cases h⟩
theorem check_L1 {h : List Shot} (hl : h.length ≤ 64) : ∀ (n i fu : Nat) (m : List (Str × Int)), h.length - i = n → i ≤ h.length → n < fu → ∃ e, kCheck_L1 h 2000 fu (i : Int) m = some e ∧ (e = 0 → (∀ x ∈ h.drop i, okShotV x) ∧ ∀ j, i ≤ j → ∀ hj : j < h.length, 1 ≤ j → (h[j - 1]'(by omega)).Day < h[j].Day)
  | n, i, 0, m, _, _, h => by omega
  | 0, i, fu + 1, m, h1, hi, _ => by
    have : i = h.length := by omega
    subst this
    refine ⟨0, ?_, fun _ => ⟨by simp, fun j h1 h2 => by omega⟩⟩
    simp only [kCheck_L1, List.length_map, decide_eq_false (show ¬ (h.length : Int) < (h.length : Int) by omega), cond_false]
  | n + 1, i, fu + 1, m, h1, _, hf => by
    have hi : i < h.length := by omega
    have ih := fun m => check_L1 hl n (i + 1) fu m (by omega) (by omega) (by omega)
    simp only [kCheck_L1, List.length_map, decide_eq_true (show (i : Int) < (h.length : Int) by omega), cond_true, ix_at hi, Option.bind_some]
    by_cases a1 : h[i].Day < 0
    · exact ⟨2, by rw [decide_eq_true a1, cond_true], fun h => by cases h⟩
    rw [decide_eq_false a1, cond_false]
    by_cases a2 : h[i].Day > 1048575
    · exact ⟨2, by rw [decide_eq_true a2, cond_true], fun h => by cases h⟩
    rw [decide_eq_false a2, cond_false]
    have fin : okShotV h[i] → (i = 0 ∨ ∃ h0 : 0 < i, (h[i - 1]'(by omega)).Day < h[i].Day) → ∀ e : Int, (e = 0 → (∀ x ∈ h.drop (i + 1), okShotV x) ∧ ∀ j, i + 1 ≤ j → ∀ hj : j < h.length, 1 ≤ j → (h[j - 1]'(by omega)).Day < h[j].Day) → e = 0 → (∀ x ∈ h.drop i, okShotV x) ∧ ∀ j, i ≤ j → ∀ hj : j < h.length, 1 ≤ j → (h[j - 1]'(by omega)).Day < h[j].Day := by
      intro hx hw e hok he
      obtain ⟨g1, g2⟩ := hok he
      refine ⟨fun s hs => ?_, fun j hj hjl h1j => ?_⟩
      · rw [List.drop_eq_getElem_cons hi] at hs
        rcases List.mem_cons.1 hs with rfl | hs
        · exact hx
        · exact g1 s hs
      · by_cases hji : j = i
        · subst hji
          rcases hw with h0 | ⟨h0, h⟩
          · omega
          · exact h
        · exact g2 j (by omega) hjl h1j
    by_cases hz : i = 0
    · subst hz
      rw [decide_eq_false (by decide), cond_false]
      by_cases a4 : ((h[0].Units.length : Nat) : Int) > 256
      · exact ⟨8, by rw [decide_eq_true a4, cond_true], fun h => by cases h⟩
      rw [decide_eq_false a4, cond_false]
      obtain ⟨e1, q1, q2⟩ := kfields_eq (l := h[0].Units) (by omega)
      rw [q1, Option.bind_some]
      by_cases b1 : e1 = 0
      · obtain ⟨q3, q4⟩ := q2 b1
        rw [b1, bne_self_eq_false, cond_false]
        obtain ⟨e2, q5, q6⟩ := kabove_eq (l := h[0].Units) (by omega) q4 q3
        rw [q5, Option.bind_some]
        by_cases b2 : e2 = 0
        · rw [b2, bne_self_eq_false, cond_false]
          refine check_L3 (x := h[0]) (by omega) (i := 0) (by omega) (fun m => ?_) h[0].Units.length 0 2000 m (by omega) (by omega) (by omega)
          obtain ⟨e, k1, k2⟩ := ih m
          exact ⟨e, k1, fin ⟨by omega, by omega, by omega, q3, q4, q6 b2⟩ (.inl rfl) e k2⟩
        · exact ⟨e2, by rw [show (e2 != 0) = true by rw [bne_iff_ne]; exact b2, cond_true], fun h => absurd h b2⟩
      · exact ⟨e1, by rw [show (e1 != 0) = true by rw [bne_iff_ne]; exact b1, cond_true], fun h => absurd h b1⟩
    · have hp : (i : Int) - 1 = ((i - 1 : Nat) : Int) := by omega
      rw [decide_eq_true (show (i : Int) > 0 by omega), cond_true, wrap_id (by unfold okI; omega), hp, ix_at (show i - 1 < h.length by omega), Option.bind_some]
      by_cases a3 : (h[i - 1]'(by omega)).Day ≥ h[i].Day
      · exact ⟨5, by rw [decide_eq_true a3, cond_true], fun h => by cases h⟩
      rw [decide_eq_false a3, cond_false]
      by_cases a4 : ((h[i].Units.length : Nat) : Int) > 256
      · exact ⟨8, by rw [decide_eq_true a4, cond_true], fun h => by cases h⟩
      rw [decide_eq_false a4, cond_false]
      obtain ⟨e1, q1, q2⟩ := kfields_eq (l := h[i].Units) (by omega)
      rw [q1, Option.bind_some]
      by_cases b1 : e1 = 0
      · obtain ⟨q3, q4⟩ := q2 b1
        rw [b1, bne_self_eq_false, cond_false]
        obtain ⟨e2, q5, q6⟩ := kabove_eq (l := h[i].Units) (by omega) q4 q3
        rw [q5, Option.bind_some]
        by_cases b2 : e2 = 0
        · rw [b2, bne_self_eq_false, cond_false]
          refine check_L2 (x := h[i]) (by omega) (i := i) (by omega) (fun m => ?_) h[i].Units.length 0 2000 m (by omega) (by omega) (by omega)
          obtain ⟨e, k1, k2⟩ := ih m
          exact ⟨e, k1, fin ⟨by omega, by omega, by omega, q3, q4, q6 b2⟩ (.inr ⟨by omega, by omega⟩) e k2⟩
        · exact ⟨e2, by rw [show (e2 != 0) = true by rw [bne_iff_ne]; exact b2, cond_true], fun h => absurd h b2⟩
      · exact ⟨e1, by rw [show (e1 != 0) = true by rw [bne_iff_ne]; exact b1, cond_true], fun h => absurd h b1⟩
theorem pairD_of {h : List Shot} (hd : ∀ j, 0 ≤ j → ∀ hj : j < h.length, 1 ≤ j → (h[j - 1]'(by omega)).Day < h[j].Day) : h.Pairwise fun a b => a.Day < b.Day := by
  have key : ∀ (i k : Nat) (hk : i + k + 1 < h.length), (h[i]'(by omega)).Day < (h[i + k + 1]).Day := by
    intro i k
    induction k with
    | zero => intro hk; exact hd (i + 1) (by omega) hk (by omega)
    | succ k ih =>
      intro hk
      have a := ih (by omega)
      have b := hd (i + (k + 1) + 1) (by omega) hk (by omega)
      have e : i + (k + 1) + 1 - 1 = i + k + 1 := by omega
      simp only [e] at b
      exact Int.lt_trans a b
  refine List.pairwise_iff_getElem.2 fun i j hi hj hij => ?_
  have := key i (j - i - 1) (by omega)
  have e : i + (j - i - 1) + 1 = j := by omega
  simpa only [e] using this
theorem kCheck_eq (h : List Shot) : ∃ e, kCheck_S h = some e ∧ (e = 0 → validH h) := by
  simp only [kCheck_S, kCheck_F, List.length_map]
  by_cases hl : h.length ≤ 64
  · rw [decide_eq_false (by omega), cond_false]
    obtain ⟨e, h1, h2⟩ := check_L1 hl h.length 0 2000 [] (by omega) (by omega) (by omega)
    refine ⟨e, h1, fun he => ?_⟩
    obtain ⟨g1, g2⟩ := h2 he
    rw [List.drop_zero] at g1
    exact ⟨hl, g1, pairD_of g2⟩
  · exact ⟨8, by rw [decide_eq_true (by omega), cond_true], fun h => by cases h⟩
end Go.Proofs.YtmdhahfminiilaaGreatDoor
