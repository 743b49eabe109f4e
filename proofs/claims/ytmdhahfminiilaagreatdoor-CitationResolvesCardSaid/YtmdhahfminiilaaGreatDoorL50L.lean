/- Laws of the versions of a unit. -/
import Derived.Test.YtmdhahfminiilaaGreatDoorL50K
set_option linter.unusedSimpArgs false
set_option linter.unusedVariables false
namespace Go.Proofs.YtmdhahfminiilaaGreatDoor
open Go Go.Abs
def prevA (unit : Int) : Option Standing → List Shot → Option Standing
  | prev, [] => prev
  | _, x :: r => prevA unit (fnd x.Units unit) r
theorem vers_app (unit : Int) : ∀ (a b : List Shot) (prev : Option Standing) (n : Nat), versA unit prev n (a ++ b) = versA unit prev n a ++ versA unit (prevA unit prev a) (n + (versA unit prev n a).length) b
  | [], b, prev, n => rfl
  | x :: r, b, prev, n => by
    rw [List.cons_append, versA, versA, prevA]
    cases hfd : fnd x.Units unit with
    | none => exact vers_app unit r b none n
    | some s =>
      simp only
      by_cases hp : prev = some s
      · rw [if_pos hp, if_pos hp]; exact vers_app unit r b (some s) n
      · rw [if_neg hp, if_neg hp, vers_app unit r b (some s) (n + 1), List.cons_append, List.length_cons, show n + 1 + (versA unit (some s) (n + 1) r).length = n + ((versA unit (some s) (n + 1) r).length + 1) by omega]
theorem vers_num (unit : Int) : ∀ (l : List Shot) (prev : Option Standing) (n j : Nat) (v : Version), (versA unit prev n l)[j]? = some v → v.Number = ((n + j + 1 : Nat) : Int)
  | [], prev, n, j, v, h => by simp [versA] at h
  | x :: r, prev, n, j, v, h => by
    rw [versA] at h
    cases hfd : fnd x.Units unit with
    | none => rw [hfd] at h; exact vers_num unit r none n j v h
    | some s =>
      rw [hfd] at h
      simp only at h
      by_cases hp : prev = some s
      · rw [if_pos hp] at h; exact vers_num unit r (some s) n j v h
      · rw [if_neg hp] at h
        cases j with
        | zero =>
          obtain rfl := Option.some.inj h
          rfl
        | succ j =>
          rw [List.getElem?_cons_succ] at h
          rw [vers_num unit r (some s) (n + 1) j v h]
          congr 1
          omega
theorem vers_mem (unit : Int) : ∀ (l : List Shot) (prev : Option Standing) (n : Nat) (v : Version), v ∈ versA unit prev n l → ∃ x ∈ l, x.Day = v.Day ∧ fnd x.Units unit = some v.Unit ∧ v.Path = pathV x.Units unit
  | [], prev, n, v, h => by cases h
  | x :: r, prev, n, v, h => by
    rw [versA] at h
    have lift : (∃ y ∈ r, y.Day = v.Day ∧ fnd y.Units unit = some v.Unit ∧ v.Path = pathV y.Units unit) → ∃ y ∈ x :: r, y.Day = v.Day ∧ fnd y.Units unit = some v.Unit ∧ v.Path = pathV y.Units unit := fun ⟨y, h1, h2⟩ => ⟨y, List.mem_cons_of_mem _ h1, h2⟩
    cases hfd : fnd x.Units unit with
    | none => rw [hfd] at h; exact lift (vers_mem unit r none n v h)
    | some s =>
      rw [hfd] at h
      simp only at h
      by_cases hp : prev = some s
      · rw [if_pos hp] at h; exact lift (vers_mem unit r (some s) n v h)
      · rw [if_neg hp] at h
        rcases List.mem_cons.1 h with rfl | h
        · exact ⟨x, by simp, rfl, hfd, rfl⟩
        · exact lift (vers_mem unit r (some s) (n + 1) v h)
theorem vers_len (unit : Int) : ∀ (l : List Shot) (prev : Option Standing) (n : Nat), (versA unit prev n l).length ≤ l.length
  | [], prev, n => Nat.le_refl _
  | x :: r, prev, n => by
    rw [versA]
    cases hfd : fnd x.Units unit with
    | none => have := vers_len unit r none n; simp only [List.length_cons]; omega
    | some s =>
      simp only
      by_cases hp : prev = some s
      · rw [if_pos hp]; have := vers_len unit r (some s) n; simp only [List.length_cons]; omega
      · rw [if_neg hp]; have := vers_len unit r (some s) (n + 1); simp only [List.length_cons]; omega
theorem vers_last (unit : Int) : ∀ (a : List Shot) (prev : Option Standing) (n : Nat) (s : Standing), prevA unit prev a = some s → (∃ v, (versA unit prev n a).getLast? = some v ∧ v.Unit = s) ∨ (versA unit prev n a = [] ∧ prev = some s)
  | [], prev, n, s, h => .inr ⟨rfl, h⟩
  | x :: r, prev, n, s, h => by
    rw [prevA] at h
    rw [versA]
    cases hfd : fnd x.Units unit with
    | none =>
      rw [hfd] at h
      rcases vers_last unit r none n s h with h1 | ⟨_, h2⟩
      · exact .inl h1
      · cases h2
    | some q =>
      rw [hfd] at h
      simp only
      by_cases hp : prev = some q
      · rw [if_pos hp]
        rcases vers_last unit r (some q) n s h with h1 | ⟨h1, h2⟩
        · exact .inl h1
        · exact .inr ⟨h1, hp.trans h2⟩
      · rw [if_neg hp]
        rcases vers_last unit r (some q) (n + 1) s h with ⟨v, h1, h2⟩ | ⟨h1, h2⟩
        · refine .inl ⟨v, ?_, h2⟩
          cases hr : versA unit (some q) (n + 1) r with
          | nil => rw [hr] at h1; cases h1
          | cons a b => rw [hr] at h1; rw [List.getLast?_cons_cons]; exact h1
        · refine .inl ⟨_, by rw [h1]; rfl, Option.some.inj h2⟩
theorem vers_nth (unit : Int) : ∀ (l : List Shot) (prev : Option Standing) (n j : Nat), j < (versA unit prev n l).length → ∃ a x c s, l = a ++ x :: c ∧ (versA unit prev n a).length = j ∧ fnd x.Units unit = some s ∧ prevA unit prev a ≠ some s ∧ (versA unit prev n l)[j]? = some ⟨((n + j + 1 : Nat) : Int), x.Day, s, pathV x.Units unit⟩
  | [], prev, n, j, h => by simp [versA] at h
  | x :: r, prev, n, j, h => by
    rw [versA] at h ⊢
    have lift : ∀ (p : Option Standing) (m i : Nat), fnd x.Units unit = p → (∀ a, (versA unit prev n (x :: a)).length = (versA unit p m a).length + (j - i)) → i ≤ j →
        (∃ a y c s, r = a ++ y :: c ∧ (versA unit p m a).length = i ∧ fnd y.Units unit = some s ∧ prevA unit p a ≠ some s ∧ (versA unit p m r)[i]? = some ⟨((m + i + 1 : Nat) : Int), y.Day, s, pathV y.Units unit⟩) →
        ∃ a y c s, x :: r = a ++ y :: c ∧ (versA unit prev n a).length = j ∧ fnd y.Units unit = some s ∧ prevA unit prev a ≠ some s ∧ (versA unit p m r)[i]? = some ⟨((m + i + 1 : Nat) : Int), y.Day, s, pathV y.Units unit⟩ := by
      rintro p m i hp hlen hij ⟨a, y, c, s, h1, h2, h3, h4, h5⟩
      refine ⟨x :: a, y, c, s, by rw [h1]; rfl, by rw [hlen, h2]; omega, h3, by rw [prevA, hp]; exact h4, h5⟩
    cases hfd : fnd x.Units unit with
    | none =>
      rw [hfd] at h
      exact lift none n j hfd (fun a => by rw [versA, hfd]; simp) (Nat.le_refl _) (vers_nth unit r none n j h)
    | some s =>
      rw [hfd] at h
      simp only at h ⊢
      by_cases hp : prev = some s
      · rw [if_pos hp] at h ⊢
        exact lift (some s) n j hfd (fun a => by rw [versA, hfd]; simp only; rw [if_pos hp]; simp) (Nat.le_refl _) (vers_nth unit r (some s) n j h)
      · rw [if_neg hp] at h ⊢
        cases j with
        | zero => exact ⟨[], x, r, s, rfl, rfl, hfd, hp, rfl⟩
        | succ j =>
          have := lift (some s) (n + 1) j hfd (fun a => by rw [versA, hfd]; simp only; rw [if_neg hp, List.length_cons]; omega) (by omega) (vers_nth unit r (some s) (n + 1) j (by simpa using h))
          rw [List.getElem?_cons_succ]
          rw [show n + (j + 1) + 1 = n + 1 + j + 1 by omega]
          exact this
/-- The number of the last version. -/
def numL (num : Int) (l : List Version) : Int := match l.getLast? with
  | some v => v.Number
  | none => num
theorem cut_stop {day : Int} : ∀ {vb : List Version} {num : Int}, (∀ v ∈ vb, v.Day > day) → (cut day num vb).2 = num
  | [], num, _ => rfl
  | v :: r, num, h => by rw [cut, if_pos (h v (by simp))]
theorem cut_app {day : Int} {vb : List Version} (hb : ∀ v ∈ vb, v.Day > day) : ∀ (va : List Version) (num : Int), (∀ v ∈ va, v.Day ≤ day) → (cut day num (va ++ vb)).2 = numL num va
  | [], num, _ => cut_stop hb
  | v :: r, num, h => by
    have hv := h v (by simp)
    rw [List.cons_append, cut, if_neg (by omega), cut_app hb r v.Number (fun w hw => h w (List.mem_cons_of_mem _ hw))]
    unfold numL
    cases r with
    | nil => rfl
    | cons a b =>
      rw [List.getLast?_cons_cons]
      cases hq : (a :: b).getLast? with
      | none => simp at hq
      | some w => rfl
theorem numL_vers (unit : Int) (l : List Shot) : numL 0 (versV unit l) = (((versV unit l).length : Nat) : Int) := by
  unfold numL
  cases hl : (versV unit l).getLast? with
  | none => rw [List.getLast?_eq_none_iff] at hl; rw [hl]; rfl
  | some v =>
    simp only
    have hpos : 0 < (versV unit l).length := by
      rcases Nat.eq_zero_or_pos (versV unit l).length with h | h
      · rw [List.length_eq_zero_iff.1 h] at hl; cases hl
      · exact h
    rw [List.getLast?_eq_getElem?] at hl
    rw [vers_num unit l none 0 _ v hl]
    congr 1
    unfold versV at hpos ⊢
    omega
/-- The shots behind a day. -/
def behind (day : Int) (h : List Shot) : List Shot := h.dropWhile fun x => decide (x.Day ≤ day)
theorem upto_behind (day : Int) (h : List Shot) : upto day h ++ behind day h = h := List.takeWhile_append_dropWhile
theorem upto_all {day : Int} {h : List Shot} {x : Shot} (hx : x ∈ upto day h) : x.Day ≤ day := by
  have := List.all_eq_true.1 (List.all_takeWhile (p := fun x : Shot => decide (x.Day ≤ day)) (l := h)) x hx
  simpa using this
theorem behind_all {day : Int} : ∀ {h : List Shot}, (h.Pairwise fun a b => a.Day < b.Day) → ∀ x ∈ behind day h, x.Day > day
  | [], _, x, hx => by cases hx
  | y :: r, hp, x, hx => by
    obtain ⟨h1, h2⟩ := List.pairwise_cons.1 hp
    unfold behind at hx
    rw [List.dropWhile_cons] at hx
    by_cases hy : y.Day ≤ day
    · rw [decide_eq_true hy, if_pos rfl] at hx; exact behind_all h2 x hx
    · rw [decide_eq_false hy, if_neg (by simp)] at hx
      rcases List.mem_cons.1 hx with rfl | hx
      · omega
      · have := h1 x hx; omega
theorem prevA_last (unit : Int) : ∀ (a : List Shot) (prev : Option Standing) (x : Shot), a.getLast? = some x → prevA unit prev a = fnd x.Units unit
  | [], prev, x, h => by cases h
  | [y], prev, x, h => by obtain rfl := Option.some.inj h; rfl
  | y :: z :: r, prev, x, h => by
    rw [List.getLast?_cons_cons] at h
    rw [prevA]
    exact prevA_last unit (z :: r) _ x h
/-- The number that is cited is that of the version in force. -/
theorem cited {h : List Shot} (hv : validH h) {unit day : Int} {s : Standing} (hs : stV h unit day = some s) :
    (cut day 0 (versV unit h)).2 = (((versV unit (upto day h)).length : Nat) : Int) ∧ 1 ≤ (versV unit (upto day h)).length ∧ (versV unit (upto day h)).length ≤ 64 ∧
    (versV unit (upto day h)) <+: versV unit h ∧ ∃ v, (versV unit (upto day h)).getLast? = some v ∧ v.Unit = s ∧ v.Day ≤ day := by
  have hsplit : versV unit h = versV unit (upto day h) ++ versA unit (prevA unit none (upto day h)) (0 + (versA unit none 0 (upto day h)).length) (behind day h) := by
    unfold versV
    rw [← vers_app, upto_behind]
  have hcut := cut_app (day := day) (vb := versA unit (prevA unit none (upto day h)) (0 + (versA unit none 0 (upto day h)).length) (behind day h)) (fun v hv' => by
    obtain ⟨x, h1, h2, _⟩ := vers_mem _ _ _ _ _ hv'
    have := behind_all hv.days x h1
    omega) (versV unit (upto day h)) 0 (fun v hv' => by
    obtain ⟨x, h1, h2, _⟩ := vers_mem _ _ _ _ _ hv'
    have := upto_all h1
    omega)
  rw [← hsplit, numL_vers] at hcut
  obtain ⟨x, hx, hfs⟩ : ∃ x, (upto day h).getLast? = some x ∧ fnd x.Units unit = some s := by
    unfold stV at hs
    cases hl : (upto day h).getLast? with
    | none => rw [hl] at hs; cases hs
    | some x => rw [hl] at hs; exact ⟨x, rfl, hs⟩
  have hlen := vers_len unit (upto day h) none 0
  have hul := upto_le day h
  have hhl := hv.len
  rcases vers_last unit (upto day h) none 0 s ((prevA_last unit _ none x hx).trans hfs) with ⟨v, h1, h2⟩ | ⟨_, h2⟩
  · have hpos : 1 ≤ (versV unit (upto day h)).length := by
      rcases Nat.eq_zero_or_pos (versV unit (upto day h)).length with h0 | h0
      · unfold versV at h0; rw [List.length_eq_zero_iff.1 h0] at h1; cases h1
      · exact h0
    refine ⟨hcut, hpos, by unfold versV; omega, ⟨_, hsplit.symm⟩, v, h1, h2, ?_⟩
    obtain ⟨y, g1, g2, _⟩ := vers_mem unit (upto day h) none 0 v (List.mem_of_getLast? h1)
    have := upto_all g1
    omega
  · cases h2
theorem st_unit {h : List Shot} (hv : validH h) {unit day : Int} {s : Standing} (hs : stV h unit day = some s) : 1 ≤ unit ∧ unit ≤ 1073741824 ∧ s.Unit = unit := by
  unfold stV at hs
  cases hl : (upto day h).getLast? with
  | none => rw [hl] at hs; cases hs
  | some x =>
    rw [hl] at hs
    have hx : x ∈ h := by
      rw [← upto_behind day h]
      exact List.mem_append_left _ (List.mem_of_getLast? hl)
    obtain ⟨h1, h2⟩ := fnd_unit (show fnd x.Units unit = some s from hs)
    have := (hv.shot x hx).good s h2
    exact ⟨by have := this.u1; omega, by have := this.u2; omega, h1⟩
end Go.Proofs.YtmdhahfminiilaaGreatDoor
