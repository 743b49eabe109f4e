/- Paths and versions. -/
import Derived.Test.YtmdhahfminiilaaGreatDoorL50I
set_option linter.unusedSimpArgs false
set_option linter.unusedVariables false
namespace Go.Proofs.YtmdhahfminiilaaGreatDoor
open Go Go.Abs
theorem reverse_loop : ∀ (n : Nat) (a m b : List Int) (fu : Nat), m.length = n → a.length + n + b.length ≤ 2000 → n < fu + 1 → slReverse_L1 (fu + 1) (a.length : Int) (((a.length + m.length : Nat) : Int) - 1) (a ++ (m ++ b)) = some (a ++ (m.reverse ++ b))
  | 0, a, m, b, fu, hm, _, _ => by
    have : m = [] := List.length_eq_zero_iff.1 hm
    subst this
    simp only [slReverse_L1, List.length_nil, Nat.add_zero, List.reverse_nil]
    rw [decide_eq_false (by omega), cond_false]
  | 1, a, m, b, fu, hm, _, _ => by
    obtain ⟨x, rfl⟩ : ∃ x, m = [x] := by match m, hm with | [x], _ => exact ⟨x, rfl⟩
    simp only [slReverse_L1, List.length_singleton, List.reverse_singleton]
    rw [decide_eq_false (by omega), cond_false]
  | n + 2, a, m, b, fu, hm, hl, hf => by
    obtain ⟨x, r, rfl⟩ : ∃ x r, m = x :: r := by match m, hm with | x :: r, _ => exact ⟨x, r, rfl⟩
    have hr : r ≠ [] := by rintro rfl; simp at hm
    obtain ⟨k, y, rfl⟩ : ∃ k y, r = k ++ [y] := ⟨r.dropLast, r.getLast hr, (List.dropLast_concat_getLast hr).symm⟩
    have hk : k.length = n := by simp at hm; omega
    have e0 : a ++ ((x :: (k ++ [y])) ++ b) = a ++ x :: (k ++ y :: b) := by simp
    have hj : (((a.length + (x :: (k ++ [y])).length : Nat) : Int) - 1) = ((a.length + 1 + k.length : Nat) : Int) := by simp; omega
    rw [e0, hj]
    have ix1 : ix (a ++ x :: (k ++ y :: b)) ((a.length + 1 + k.length : Nat) : Int) = some y := by
      rw [ix_at (by simp; omega)]
      congr 1
      rw [List.getElem_append_right (by omega)]
      simp only [show a.length + 1 + k.length - a.length = k.length + 1 by omega, List.getElem_cons_succ]
      rw [List.getElem_append_right (by omega)]
      simp
    have ix0 : ix (a ++ x :: (k ++ y :: b)) (a.length : Int) = some x := by
      rw [ix_at (by simp)]
      congr 1
      rw [List.getElem_append_right (by omega)]
      simp
    have s0 : (a ++ x :: (k ++ y :: b)).set ((a.length : Int)).toNat y = a ++ y :: (k ++ y :: b) := by
      rw [Int.toNat_natCast, List.set_append_right _ _ (by omega)]; simp
    have ix2 : ix (a ++ y :: (k ++ y :: b)) ((a.length + 1 + k.length : Nat) : Int) = some y := by
      rw [ix_at (by simp; omega)]
      congr 1
      rw [List.getElem_append_right (by omega)]
      simp only [show a.length + 1 + k.length - a.length = k.length + 1 by omega, List.getElem_cons_succ]
      rw [List.getElem_append_right (by omega)]
      simp
    have s1 : (a ++ y :: (k ++ y :: b)).set (((a.length + 1 + k.length : Nat) : Int)).toNat x = (a ++ [y]) ++ (k ++ (x :: b)) := by
      rw [Int.toNat_natCast, List.set_append_right _ _ (by omega), show a.length + 1 + k.length - a.length = k.length + 1 by omega, List.set_cons_succ, List.set_append_right _ _ (by omega)]
      simp
    rw [slReverse_L1, decide_eq_true (by omega), cond_true, ix1, Option.bind_some, ix0, Option.bind_some, s0, ix2, Option.bind_some, s1]
    have w1 : IntKind.i64.wrap ((a.length : Int) + 1) = (((a ++ [y]).length : Nat) : Int) := by rw [wrap_id (by unfold okI; omega)]; simp
    have w2 : IntKind.i64.wrap (((a.length + 1 + k.length : Nat) : Int) - 1) = ((((a ++ [y]).length + k.length : Nat) : Int) - 1) := by rw [wrap_id (by unfold okI; omega)]; simp
    rw [w1, w2]
    obtain ⟨fu', rfl⟩ : ∃ q, fu = q + 1 := ⟨fu - 1, by omega⟩
    rw [reverse_loop n (a ++ [y]) k (x :: b) fu' hk (by simp; omega) (by omega)]
    simp
theorem reverse_eq {l : List Int} (h : l.length ≤ 1000) : slReverse_XS l = some l.reverse := by
  have := reverse_loop l.length [] l [] 1999 rfl (by simp; omega) (by omega)
  simp only [List.nil_append, List.append_nil, List.length_nil, Nat.zero_add] at this
  simp only [slReverse_XS, slReverse_F, List.length_map]
  rw [wrap_id (by unfold okI; omega)]
  exact this
/-- From a unit up to the top. -/
def chain (l : List Standing) : Nat → Int → List Int
  | 0, _ => []
  | n + 1, u => if u = 0 then [] else u :: chain l n (findV (fnd l u)).1.Parent
theorem ppath_loop {l : List Standing} (hl : l.length ≤ 1000) : ∀ (d fu : Nat) (u : Int) (out : List Int), up l d u = true → d < fu → out.length + d ≤ 900 → ppath_L1 l fu u out = some (out ++ chain l d u).reverse
  | d, 0, _, _, _, h, _ => by omega
  | 0, fu + 1, u, out, h, _, ho => by
    have : u = 0 := by rw [up] at h; exact eq_of_beq h
    subst this
    rw [ppath_L1, show ((0 : Int) != 0) = false by decide, cond_false, reverse_eq (by omega), Option.bind_some, chain, List.append_nil]
  | d + 1, fu + 1, u, out, h, hf, ho => by
    rw [chain]
    by_cases hu : u = 0
    · subst hu
      rw [ppath_L1, show ((0 : Int) != 0) = false by decide, cond_false, reverse_eq (by omega), Option.bind_some, if_pos rfl, List.append_nil]
    · rw [up_ne hu] at h
      rw [ppath_L1, show (u != 0) = true by rw [bne_iff_ne]; exact hu, cond_true, decide_eq_true (by simp; omega), cond_true, pfind_eq hl, Option.bind_some, if_neg hu]
      cases hfd : fnd l u with
      | none => rw [hfd] at h; cases h
      | some s =>
        rw [hfd] at h
        show ppath_L1 l fu s.Parent (out ++ [u]) = some (out ++ u :: chain l d s.Parent).reverse
        rw [ppath_loop hl d fu _ _ h (by omega) (by simp; omega)]
        simp
def pathV (l : List Standing) (u : Int) : List Int := (chain l 12 u).reverse
theorem up_unit {x : Shot} (hx : okShotV x) {u : Int} {s : Standing} (h : fnd x.Units u = some s) : u ≠ 0 ∧ up x.Units 12 u = true := by
  obtain ⟨h1, h2⟩ := fnd_unit h
  have := (hx.good s h2).u1
  have hu : u ≠ 0 := by omega
  refine ⟨hu, ?_⟩
  rw [up_ne hu, h]
  exact hx.up s h2
theorem ppath_eq {x : Shot} (hx : okShotV x) {u : Int} {s : Standing} (h : fnd x.Units u = some s) : ppath_S x.Units u = some (pathV x.Units u) := by
  have hl := hx.len
  exact (ppath_loop (by omega) 12 2000 u [] (up_unit hx h).2 (by omega) (by simp)).trans (by simp [pathV])
/-- The versions of a unit, behind a shot in which it stood so, n of them being there. -/
def versA (unit : Int) : Option Standing → Nat → List Shot → List Version
  | _, _, [] => []
  | prev, n, x :: r => match fnd x.Units unit with
    | some s => if prev = some s then versA unit (some s) n r else ⟨((n + 1 : Nat) : Int), x.Day, s, pathV x.Units unit⟩ :: versA unit (some s) (n + 1) r
    | none => versA unit none n r
/-- What the code keeps of the shot before. -/
def keepsP (was : Bool) (b : Standing) : Option Standing → Prop
  | some s => was = true ∧ b = s
  | none => was = false
theorem versions_loop {h : List Shot} (hl : h.length ≤ 900) {unit : Int} (hv : ∀ x ∈ h, okShotV x) : ∀ (k i fu n : Nat) (was : Bool) (b : Standing) (prev : Option Standing) (v : List Version), h.length - i = k → i ≤ h.length → k < fu → n ≤ i → v.length ≤ i → keepsP was b prev →
    pversions_1_L1 h unit fu was (n : Int) (i : Int) b.Unit b.Parent b.Level b.Mark b.Title v = some (v ++ versA unit prev n (h.drop i))
  | k, i, 0, n, was, b, prev, v, _, _, h, _, _, _ => by omega
  | 0, i, fu + 1, n, was, b, prev, v, h1, hi, _, _, _, _ => by
    have : i = h.length := by omega
    subst this
    rw [List.drop_length, versA, List.append_nil]
    simp only [pversions_1_L1, List.length_map, decide_eq_false (show ¬ (h.length : Int) < (h.length : Int) by omega), cond_false]
  | k + 1, i, fu + 1, n, was, b, prev, v, h1, _, hf, hn, hvl, hkp => by
    have hi : i < h.length := by omega
    have hx := hv h[i] (List.getElem_mem hi)
    have hxl := hx.len
    have wn : IntKind.i64.wrap ((n : Int) + 1) = ((n + 1 : Nat) : Int) := by rw [wrap_id (by unfold okI; omega)]; omega
    have ih := fun n was b prev v h1 h2 h3 => versions_loop hl (unit := unit) hv k (i + 1) fu n was b prev v (by omega) (by omega) (by omega) h1 h2 h3
    have hb : (⟨b.Unit, b.Parent, b.Level, b.Mark, b.Title⟩ : Standing) = b := rfl
    rw [List.drop_eq_getElem_cons hi]
    simp only [pversions_1_L1, List.length_map, decide_eq_true (show (i : Int) < (h.length : Int) by omega), cond_true, ix_at hi, Option.bind_some, pfind_eq (l := h[i].Units) (u := unit) (by omega), wrap_succ (n := h.length) (by omega) hi, wn, hb]
    rw [versA]
    cases hfd : fnd h[i].Units unit with
    | none =>
      simp only [findV, cond_false]
      exact ih n false zeroSt none v (by omega) (by omega) rfl
    | some s =>
      have hp := ppath_eq hx hfd
      have hlen : decide (v.length + ([(⟨((n + 1 : Nat) : Int), h[i].Day, s, pathV h[i].Units unit⟩ : Version)] : List Version).length ≤ 4294967296) = true := decide_eq_true (by simp; omega)
      have hnew := ih (n + 1) true s (some s) (v ++ [(⟨((n + 1 : Nat) : Int), h[i].Day, s, pathV h[i].Units unit⟩ : Version)]) (by omega) (by simp; omega) ⟨rfl, rfl⟩
      simp only [findV, cond_true, hp, Option.bind_some, pVersions_R0_XS, pVersions_R0_F, hlen]
      cases prev with
      | none =>
        have hw : was = false := hkp
        rw [hw, Bool.not_false, cond_true, hnew, if_neg (by simp)]
        simp
      | some q =>
        obtain ⟨hw, rfl⟩ : was = true ∧ b = q := hkp
        rw [hw, Bool.not_true, cond_false]
        by_cases hsb : s = b
        · subst hsb
          rw [beq_self_eq_true, Bool.not_true, cond_false, if_pos rfl]
          exact ih n true s (some s) v (by omega) (by omega) ⟨rfl, rfl⟩
        · rw [beq_eq_false_iff_ne.2 hsb, Bool.not_false, cond_true, hnew, if_neg (by simpa using fun e => hsb e.symm)]
          simp
def versV (unit : Int) (h : List Shot) : List Version := versA unit none 0 h
theorem versions_eq {h : List Shot} (hv : validH h) (unit : Int) : pversions_1_XS [] h unit = some (versV unit h) := by
  have hl := hv.len
  exact versions_loop (by omega) hv.shot h.length 0 2000 0 false zeroSt none [] (by omega) (by omega) (by omega) (by omega) (by simp) rfl
/-- The number of the last version up to a day. -/
def cut (day : Int) : Int → List Version → Bool × Int
  | num, [] => (true, num)
  | num, v :: r => if v.Day > day then (false, num) else cut day v.Number r
theorem cut_loop {h : List Shot} (hl : h.length ≤ 900) {unit day : Int} (hv : ∀ x ∈ h, okShotV x) : ∀ (k i fu n : Nat) (was : Bool) (b : Standing) (prev : Option Standing) (num : Int), h.length - i = k → i ≤ h.length → k < fu → n ≤ i → keepsP was b prev →
    pversions_11_L1 day h unit fu was (n : Int) (i : Int) num b.Unit b.Parent b.Level b.Mark b.Title = some (cut day num (versA unit prev n (h.drop i)))
  | k, i, 0, n, was, b, prev, num, _, _, h, _, _ => by omega
  | 0, i, fu + 1, n, was, b, prev, num, h1, hi, _, _, _ => by
    have : i = h.length := by omega
    subst this
    rw [List.drop_length, versA, cut]
    simp only [pversions_11_L1, List.length_map, decide_eq_false (show ¬ (h.length : Int) < (h.length : Int) by omega), cond_false]
  | k + 1, i, fu + 1, n, was, b, prev, num, h1, _, hf, hn, hkp => by
    have hi : i < h.length := by omega
    have hx := hv h[i] (List.getElem_mem hi)
    have hxl := hx.len
    have wn : IntKind.i64.wrap ((n : Int) + 1) = ((n + 1 : Nat) : Int) := by rw [wrap_id (by unfold okI; omega)]; omega
    have ih := fun n was b prev num h1 h3 => cut_loop hl (unit := unit) (day := day) hv k (i + 1) fu n was b prev num (by omega) (by omega) (by omega) h1 h3
    have hb : (⟨b.Unit, b.Parent, b.Level, b.Mark, b.Title⟩ : Standing) = b := rfl
    rw [List.drop_eq_getElem_cons hi]
    simp only [pversions_11_L1, List.length_map, decide_eq_true (show (i : Int) < (h.length : Int) by omega), cond_true, ix_at hi, Option.bind_some, pfind_eq (l := h[i].Units) (u := unit) (by omega), wrap_succ (n := h.length) (by omega) hi, wn, hb]
    rw [versA]
    cases hfd : fnd h[i].Units unit with
    | none =>
      simp only [findV, cond_false]
      exact ih n false zeroSt none num (by omega) rfl
    | some s =>
      have hp := ppath_eq hx hfd
      have hnew := ih (n + 1) true s (some s) (((n + 1 : Nat) : Int)) (by omega) ⟨rfl, rfl⟩
      simp only [findV, cond_true, hp, Option.bind_some, pCite_R0_XS, pCite_R0_F]
      have fin : Option.bind (bif decide (h[i].Day > day) then some (false, num) else some (true, ((n + 1 : Nat) : Int))) (fun y19 : Bool × Int => bif y19.1 then pversions_11_L1 day h unit fu true ((n + 1 : Nat) : Int) ((i + 1 : Nat) : Int) y19.2 s.Unit s.Parent s.Level s.Mark s.Title else some (false, y19.2)) = some (cut day num (⟨((n + 1 : Nat) : Int), h[i].Day, s, pathV h[i].Units unit⟩ :: versA unit (some s) (n + 1) (h.drop (i + 1)))) := by
        rw [cut]
        by_cases hd : h[i].Day > day
        · rw [decide_eq_true hd, cond_true, if_pos hd]; rfl
        · rw [decide_eq_false hd, cond_false, if_neg hd, Option.bind_some]
          exact hnew
      cases prev with
      | none =>
        have hw : was = false := hkp
        rw [hw, Bool.not_false, cond_true, if_neg (by simp)]
        exact fin
      | some q =>
        obtain ⟨hw, rfl⟩ : was = true ∧ b = q := hkp
        rw [hw, Bool.not_true, cond_false]
        by_cases hsb : s = b
        · subst hsb
          rw [beq_self_eq_true, Bool.not_true, cond_false, if_pos rfl]
          exact ih n true s (some s) num (by omega) ⟨rfl, rfl⟩
        · rw [beq_eq_false_iff_ne.2 hsb, Bool.not_false, cond_true, if_neg (by simpa using fun e => hsb e.symm)]
          exact fin
theorem cut_eq {h : List Shot} (hv : validH h) (unit day : Int) : pversions_11_XS day 0 h unit = some (cut day 0 (versV unit h)) := by
  have hl := hv.len
  exact cut_loop (by omega) hv.shot h.length 0 2000 0 false zeroSt none 0 (by omega) (by omega) (by omega) (by omega) rfl
end Go.Proofs.YtmdhahfminiilaaGreatDoor
