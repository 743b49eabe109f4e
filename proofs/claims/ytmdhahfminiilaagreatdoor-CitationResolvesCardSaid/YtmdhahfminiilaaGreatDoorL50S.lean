/- The check of a history, as the program has it and as it is specified: they agree. -/
import Derived.Test.YtmdhahfminiilaaGreatDoorL50R
import Derived.Test.YtmdhahfminiilaaGreatDoorGE
set_option linter.unusedSimpArgs false
set_option linter.unusedVariables false
namespace Go.Proofs.YtmdhahfminiilaaGreatDoor
open Go Go.Abs
/-- The first fault. -/
def scanE (g : Nat → Int) : Nat → Nat → Int
  | 0, _ => 0
  | n + 1, i => if g i ≠ 0 then g i else scanE g n (i + 1)
/-- The fault of the order. -/
def orderE (l : List Standing) (s : Standing) : Nat → Int
  | 0 => 0
  | j + 1 => match l[j]? with
    | none => 0
    | some q => if q.Unit ≥ s.Unit then 5 else 0
theorem orderE_at {l : List Standing} {s : Standing} {j : Nat} (h : j < l.length) : orderE l s (j + 1) = if l[j].Unit ≥ s.Unit then 5 else 0 := by
  rw [orderE, List.getElem?_eq_getElem h]
/-- The fault of the fields of a unit. -/
def fieldE (l : List Standing) (i : Nat) : Int :=
  match l[i]? with
  | none => 0
  | some s => if s.Unit < 1 then 2 else if s.Unit > 1073741824 then 2 else if s.Level < 1 then 2 else if s.Level > 4 then 2 else if s.Mark.length > 64 then 4 else if s.Title = [] then 4 else if s.Title.length > 64 then 4 else orderE l s i
theorem qfield_eq {x : Shot} {i : Nat} (hi : i < x.Units.length) (hl : x.Units.length ≤ 1000) : qfield_S x (i : Int) = some (fieldE x.Units i) := by
  simp only [qfield_S, qfield_F, ix_at hi, Option.bind_some]
  unfold fieldE
  rw [List.getElem?_eq_getElem hi]
  simp only
  by_cases a1 : x.Units[i].Unit < 1
  · rw [decide_eq_true a1, cond_true, if_pos a1]
  rw [decide_eq_false a1, cond_false, if_neg a1]
  by_cases a2 : x.Units[i].Unit > 1073741824
  · rw [decide_eq_true a2, cond_true, if_pos a2]
  rw [decide_eq_false a2, cond_false, if_neg a2]
  by_cases a3 : x.Units[i].Level < 1
  · rw [decide_eq_true a3, cond_true, if_pos a3]
  rw [decide_eq_false a3, cond_false, if_neg a3]
  by_cases a4 : x.Units[i].Level > 4
  · rw [decide_eq_true a4, cond_true, if_pos a4]
  rw [decide_eq_false a4, cond_false, if_neg a4]
  by_cases a5 : x.Units[i].Mark.length > 64
  · rw [decide_eq_true (show (x.Units[i].Mark.length : Int) > 64 by omega), cond_true, if_pos a5]
  rw [decide_eq_false (show ¬ (x.Units[i].Mark.length : Int) > 64 by omega), cond_false, if_neg a5]
  by_cases a6 : x.Units[i].Title = []
  · rw [a6, show (([] : Str) == []) = true by decide, cond_true, if_pos rfl]
  rw [beq_eq_false_iff_ne.2 a6, cond_false, if_neg a6]
  by_cases a7 : x.Units[i].Title.length > 64
  · rw [decide_eq_true (show (x.Units[i].Title.length : Int) > 64 by omega), cond_true, if_pos a7]
  rw [decide_eq_false (show ¬ (x.Units[i].Title.length : Int) > 64 by omega), cond_false, if_neg a7]
  cases i with
  | zero => rfl
  | succ j =>
    have hj : j < x.Units.length := by omega
    rw [decide_eq_true (by omega), cond_true, wrap_id (by unfold okI; omega), show (((j + 1 : Nat) : Int) - 1) = (j : Int) by omega, ix_at hj, Option.bind_some, orderE_at hj]
    by_cases a8 : x.Units[j].Unit ≥ x.Units[j + 1].Unit
    · rw [decide_eq_true a8, cond_true, if_pos a8]
    · rw [decide_eq_false a8, cond_false, if_neg a8]
theorem scan_fields {l : List Standing} (h : l.length ≤ 1000) : ∀ (n i fu : Nat), l.length - i = n → i ≤ l.length → n < fu → kfields_L1 l fu (i : Int) = some (scanE (fieldE l) n i)
  | n, i, 0, _, _, h => by omega
  | 0, i, fu + 1, h1, hi, _ => by
    have : i = l.length := by omega
    subst this
    simp only [kfields_L1, List.length_map, decide_eq_false (show ¬ (l.length : Int) < (l.length : Int) by omega), cond_false, scanE]
  | n + 1, i, fu + 1, h1, _, hf => by
    have hi : i < l.length := by omega
    have ih := scan_fields h n (i + 1) fu (by omega) (by omega) (by omega)
    rw [scanE]
    have hfe : (fieldE l i) = fieldE l i := rfl
    simp only [kfields_L1, List.length_map, decide_eq_true (show (i : Int) < (l.length : Int) by omega), cond_true, ix_at hi, Option.bind_some, wrap_succ (n := l.length) (by omega) hi, ih]
    generalize scanE (fieldE l) n (i + 1) = E
    unfold fieldE
    rw [List.getElem?_eq_getElem hi]
    simp only
    by_cases a1 : l[i].Unit < 1
    · rw [decide_eq_true a1, cond_true, if_pos a1]; rfl
    rw [decide_eq_false a1, cond_false, if_neg a1]
    by_cases a2 : l[i].Unit > 1073741824
    · rw [decide_eq_true a2, cond_true, if_pos a2]; rfl
    rw [decide_eq_false a2, cond_false, if_neg a2]
    by_cases a3 : l[i].Level < 1
    · rw [decide_eq_true a3, cond_true, if_pos a3]; rfl
    rw [decide_eq_false a3, cond_false, if_neg a3]
    by_cases a4 : l[i].Level > 4
    · rw [decide_eq_true a4, cond_true, if_pos a4]; rfl
    rw [decide_eq_false a4, cond_false, if_neg a4]
    by_cases a5 : l[i].Mark.length > 64
    · rw [decide_eq_true (show (l[i].Mark.length : Int) > 64 by omega), cond_true, if_pos a5]; rfl
    rw [decide_eq_false (show ¬ (l[i].Mark.length : Int) > 64 by omega), cond_false, if_neg a5]
    by_cases a6 : l[i].Title = []
    · rw [decide_eq_true (show (l[i].Title.length : Int) < 1 by rw [a6]; decide), cond_true, if_pos a6]; rfl
    have a6' := List.length_pos_iff.2 a6
    rw [decide_eq_false (show ¬ (l[i].Title.length : Int) < 1 by omega), cond_false, if_neg a6]
    by_cases a7 : l[i].Title.length > 64
    · rw [decide_eq_true (show (l[i].Title.length : Int) > 64 by omega), cond_true, if_pos a7]; rfl
    rw [decide_eq_false (show ¬ (l[i].Title.length : Int) > 64 by omega), cond_false, if_neg a7]
    cases i with
    | zero => rfl
    | succ j =>
      have hj : j < l.length := by omega
      rw [decide_eq_true (by omega), cond_true, wrap_id (by unfold okI; omega), show (((j + 1 : Nat) : Int) - 1) = (j : Int) by omega, ix_at hj, Option.bind_some, orderE_at hj]
      by_cases a8 : l[j].Unit ≥ l[j + 1].Unit
      · rw [decide_eq_true a8, cond_true, if_pos a8]; rfl
      · rw [decide_eq_false a8, cond_false, if_neg a8]; rfl
/-- The fault of the place of a unit. -/
def placeE (l : List Standing) (i : Nat) : Int :=
  match l[i]? with
  | none => 0
  | some s => if s.Parent ≠ 0 ∧ fnd l s.Parent = none then 7 else if up l 11 s.Parent = true then 0 else 17
def findI (l : List Standing) (u : Int) : Int := idxOf (fun s : Standing => s.Unit == u) l
theorem qFind_eq {x : Shot} {u : Int} (h : x.Units.length ≤ 1000) : qFind_S x u = some (findI x.Units u) := by
  have h1 := loop_scanP (qFind_L1 x u) x.Units (fun i s => bif s.Unit == u then some (i : Int) else none) (-1) (by omega) (fun fu i hi => by
      have h0 : decide ((i : Int) < (x.Units.length : Int)) = true := decide_eq_true (by omega)
      simp only [qFind_L1, List.length_map, ix_at hi, Option.bind_some, h0, cond_true, wrap_succ (n := x.Units.length) (by omega) hi]
      cases x.Units[i].Unit == u <;> rfl)
    (fun fu => by
      have h0 : decide ((x.Units.length : Int) < (x.Units.length : Int)) = false := decide_eq_false (by omega)
      simp only [qFind_L1, List.length_map, h0, cond_false]) x.Units.length 0 2000 (by omega) (by omega) (by omega)
  show qFind_L1 x u 2000 0 = _
  rw [show (0 : Int) = ((0 : Nat) : Int) from rfl, h1, List.drop_zero, scanP_find]
  unfold findI idxOf
  cases x.Units.findIdx? (fun s => s.Unit == u) <;> simp
theorem findI_spec (l : List Standing) (u : Int) : match fnd l u with
    | some s => ∃ k : Nat, ∃ h : k < l.length, findI l u = (k : Int) ∧ l[k] = s
    | none => findI l u = -1 := by
  have hk := find_idx (fun s : Standing => s.Unit == u) l
  unfold findI idxOf fnd
  cases hi : l.findIdx? (fun s => s.Unit == u) with
  | none => rw [hi] at hk; simp only at hk; rw [hk]
  | some k =>
    rw [hi] at hk
    obtain ⟨h1, h2⟩ := hk
    rw [h2]
    exact ⟨k, h1, rfl, rfl⟩
theorem place_L1 {x : Shot} (h : x.Units.length ≤ 1000) : ∀ (d n fu : Nat) (u : Int), n + d = 11 → d + 1 < fu → qplace_L1 x fu u (n : Int) = some (if up x.Units d u = true then 0 else 17)
  | d, n, 0, u, _, h => by omega
  | d, n, fu + 1, u, hn, hf => by
    rw [qplace_L1]
    by_cases hu : u = 0
    · subst hu
      rw [show ((0 : Int) != 0) = false by decide, cond_false, decide_eq_false (by omega), cond_false, up_zero, if_pos rfl]
    · rw [show (u != 0) = true by rw [bne_iff_ne]; exact hu, cond_true, decide_eq_true (by omega), cond_true, qFind_eq h, Option.bind_some]
      have hs := findI_spec x.Units u
      cases hfd : fnd x.Units u with
      | none =>
        rw [hfd] at hs
        simp only at hs
        rw [hs, decide_eq_true (by decide), cond_true]
        cases d with
        | zero => rw [up, beq_eq_false_iff_ne.2 hu, if_neg (by simp)]
        | succ d => rw [up_ne hu, hfd, if_neg (by simp)]
      | some s =>
        rw [hfd] at hs
        obtain ⟨k, hk, e1, e2⟩ := hs
        rw [e1, decide_eq_false (by omega), cond_false, ix_at hk, Option.bind_some, e2]
        have hw : IntKind.i64.wrap ((n : Int) + 1) = ((n + 1 : Nat) : Int) := by rw [wrap_id (by unfold okI; omega)]; omega
        rw [hw]
        cases d with
        | zero =>
          have : n = 11 := by omega
          subst this
          obtain ⟨fu', rfl⟩ : ∃ q, fu = q + 1 := ⟨fu - 1, by omega⟩
          rw [up, beq_eq_false_iff_ne.2 hu, if_neg (by simp), qplace_L1]
          cases (s.Parent != 0) <;> rfl
        | succ d =>
          rw [place_L1 h d (n + 1) fu s.Parent (by omega) (by omega), up_ne hu, hfd]
theorem place_L2 {x : Shot} : ∀ (fu : Nat) (u n : Int), qplace_L2 x fu u n = qplace_L1 x fu u n
  | 0, _, _ => rfl
  | fu + 1, u, n => by
    rw [qplace_L1, qplace_L2]
    simp only [place_L2 fu]
theorem placeE_top {l : List Standing} {i : Nat} (hi : i < l.length) (h : l[i].Parent = 0) : placeE l i = 0 := by
  unfold placeE
  rw [List.getElem?_eq_getElem hi]
  simp only
  rw [h, if_neg (fun q => q.1 rfl), up_zero, if_pos rfl]
theorem placeE_none {l : List Standing} {i : Nat} (hi : i < l.length) (h : l[i].Parent ≠ 0) (hf : fnd l l[i].Parent = none) : placeE l i = 7 := by
  unfold placeE
  rw [List.getElem?_eq_getElem hi]
  simp only
  rw [if_pos ⟨h, hf⟩]
theorem placeE_some {l : List Standing} {i : Nat} (hi : i < l.length) {s : Standing} (hf : fnd l l[i].Parent = some s) : placeE l i = if up l 11 l[i].Parent = true then 0 else 17 := by
  unfold placeE
  rw [List.getElem?_eq_getElem hi]
  simp only
  rw [if_neg (fun q => by rw [hf] at q; cases q.2)]
theorem qplace_eq {x : Shot} {i : Nat} (hi : i < x.Units.length) (h : x.Units.length ≤ 1000) : qplace_S x (i : Int) = some (placeE x.Units i) := by
  have hL : ∀ u, qplace_L1 x 2000 u 0 = some (if up x.Units 11 u = true then 0 else 17) := fun u => place_L1 h 11 0 2000 u (by omega) (by omega)
  simp only [qplace_S, qplace_F, ix_at hi, Option.bind_some, place_L2, hL]
  by_cases hp : x.Units[i].Parent = 0
  · rw [placeE_top hi hp, hp, bne_self_eq_false, cond_false, up_zero, if_pos rfl]
  · rw [show (x.Units[i].Parent != 0) = true by rw [bne_iff_ne]; exact hp, cond_true, qFind_eq h, Option.bind_some]
    have hs := findI_spec x.Units x.Units[i].Parent
    cases hfd : fnd x.Units x.Units[i].Parent with
    | none =>
      rw [hfd] at hs
      simp only at hs
      rw [hs, decide_eq_true (by decide), cond_true, placeE_none hi hp hfd]
    | some s =>
      rw [hfd] at hs
      obtain ⟨k, hk, e1, e2⟩ := hs
      rw [e1, decide_eq_false (by omega), cond_false, placeE_some hi hfd]
theorem qplaces_eq {x : Shot} (h : x.Units.length ≤ 1000) : ∀ (n i fu : Nat), x.Units.length - i = n → i ≤ x.Units.length → n < fu → qplaces_L1 x fu (i : Int) = some (scanE (placeE x.Units) n i)
  | n, i, 0, _, _, h => by omega
  | 0, i, fu + 1, h1, hi, _ => by
    have : i = x.Units.length := by omega
    subst this
    simp only [qplaces_L1, List.length_map, decide_eq_false (show ¬ (x.Units.length : Int) < (x.Units.length : Int) by omega), cond_false, scanE]
  | n + 1, i, fu + 1, h1, _, hf => by
    have hi : i < x.Units.length := by omega
    have ih := qplaces_eq h n (i + 1) fu (by omega) (by omega) (by omega)
    simp only [qplaces_L1, List.length_map, decide_eq_true (show (i : Int) < (x.Units.length : Int) by omega), cond_true, qplace_eq hi h, Option.bind_some, wrap_succ (n := x.Units.length) (by omega) hi, ih, scanE]
    by_cases hz : placeE x.Units i = 0
    · rw [hz, bne_self_eq_false, cond_false, if_neg (by simp)]
    · rw [show (placeE x.Units i != 0) = true by rw [bne_iff_ne]; exact hz, cond_true, if_pos hz]
theorem above_scan {l : List Standing} (h : l.length ≤ 1000) {m : List (Int × Int)} (hm : ∀ u, u ≠ 0 → mget m u = (fnd l u).map (·.Parent)) (h0 : (mget m 0).isSome = true) {N : Nat} (hN : 11 < N) : ∀ (n i fu : Nat), l.length - i = n → i ≤ l.length → n < fu → kabove_L2 l m N fu (i : Int) = some (scanE (placeE l) n i)
  | n, i, 0, _, _, h => by omega
  | 0, i, fu + 1, h1, hi, _ => by
    have : i = l.length := by omega
    subst this
    simp only [kabove_L2, List.length_map, decide_eq_false (show ¬ (l.length : Int) < (l.length : Int) by omega), cond_false, scanE]
  | n + 1, i, fu + 1, h1, _, hf => by
    have hi : i < l.length := by omega
    have ih := above_scan h hm h0 hN n (i + 1) fu (by omega) (by omega) (by omega)
    have hA : ∀ u, kabove_L3 m (i : Int) (fun q_v6 => kabove_L2 l m N fu q_v6) N 0 u = bif up l 11 u then kabove_L2 l m N fu ((i + 1 : Nat) : Int) else some 17 := fun u => by
      have := above_L3 hm (i : Int) (fun q_v6 => kabove_L2 l m N fu q_v6) 11 0 N u (by omega) hN
      rw [wrap_succ (n := l.length) (by omega) hi] at this
      exact this
    simp only [kabove_L2, List.length_map, decide_eq_true (show (i : Int) < (l.length : Int) by omega), cond_true, ix_at hi, Option.bind_some, mlook, scanE, hA, ih]
    by_cases hp : l[i].Parent = 0
    · rw [placeE_top hi hp, hp, h0, if_neg (by simp), up_zero]
      rfl
    · rw [hm _ hp]
      cases hfd : fnd l l[i].Parent with
      | none =>
        rw [placeE_none hi hp hfd]
        rfl
      | some s =>
        rw [placeE_some hi hfd]
        cases up l 11 l[i].Parent <;> rfl
theorem kabove_scan {l : List Standing} (h : l.length ≤ 1000) (hs : sortedU l) (hu : ∀ s ∈ l, goodSt s) : kabove_S l = some (scanE (placeE l) l.length 0) := by
  have hm : ∀ u, u ≠ 0 → mget (pmF (mset [] 0 0) l) u = (fnd l u).map (·.Parent) := by
    intro u hu
    rw [pmF_get l _ u hs, mget_mset, beq_eq_false_iff_ne.2 hu, cond_false]
    cases fnd l u <;> rfl
  have h0 : (mget (pmF (mset [] 0 0) l) 0).isSome = true := by
    rw [pmF_get l _ 0 hs]
    cases fnd l 0 <;> rfl
  show kabove_L1 l 2000 2000 ((0 : Nat) : Int) (mset [] 0 0) = _
  rw [above_L1 h 2000 l.length 0 2000 _ (by omega) (by omega) (by omega), List.drop_zero]
  exact above_scan h hm h0 (by omega) l.length 0 2000 (by omega) (by omega) (by omega)
end Go.Proofs.YtmdhahfminiilaaGreatDoor
