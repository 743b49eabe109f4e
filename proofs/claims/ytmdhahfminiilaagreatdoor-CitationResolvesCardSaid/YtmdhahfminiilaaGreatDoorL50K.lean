/- What the functions of the program answer, for a history without a fault. -/
import Derived.Test.YtmdhahfminiilaaGreatDoorL50J
import Derived.Test.YtmdhahfminiilaaGreatDoorOkD
set_option linter.unusedSimpArgs false
set_option linter.unusedVariables false
namespace Go.Proofs.YtmdhahfminiilaaGreatDoor
open Go Go.Abs
structure fewH (h : List Shot) : Prop where
  len : h.length ≤ 65
  units : ∀ x ∈ h, x.Units.length ≤ 12
theorem few_L2 {h : List Shot} {i : Nat} (hi : i < h.length) (hl : h.length ≤ 900) (hu : h[i].Units.length ≤ 1000) {k : Int → Option Bool} {P : Prop} (hk : ∃ b, k ((i + 1 : Nat) : Int) = some b ∧ (b = true → P)) :
    ∀ (n j fu : Nat), h[i].Units.length - j = n → j ≤ h[i].Units.length → n < fu → ∃ b, qFew_L2 h (i : Int) k fu (j : Int) = some b ∧ (b = true → P)
  | n, j, 0, _, _, h => by omega
  | 0, j, fu + 1, h1, hj, _ => by
    have : j = h[i].Units.length := by omega
    subst this
    simp only [qFew_L2, ix_at hi, Option.bind_some, List.length_map, decide_eq_false (show ¬ (h[i].Units.length : Int) < (h[i].Units.length : Int) by omega), cond_false, wrap_succ (n := h.length) (by omega) hi]
    exact hk
  | n + 1, j, fu + 1, h1, _, hf => by
    have hj : j < h[i].Units.length := by omega
    have ih := few_L2 hi hl hu hk n (j + 1) fu (by omega) (by omega) (by omega)
    simp only [qFew_L2, ix_at hi, Option.bind_some, List.length_map, decide_eq_true (show (j : Int) < (h[i].Units.length : Int) by omega), cond_true, ix_at hj, wrap_succ (n := h[i].Units.length) (by omega) hj]
    cases decide ((h[i].Units[j].Mark.length : Int) > 70) with
    | true => exact ⟨false, rfl, fun h => by cases h⟩
    | false =>
      cases decide ((h[i].Units[j].Title.length : Int) > 70) with
      | true => exact ⟨false, rfl, fun h => by cases h⟩
      | false => exact ih
theorem few_L3 {h : List Shot} {i : Nat} (hi : i < h.length) (hl : h.length ≤ 900) (hu : h[i].Units.length ≤ 1000) {k : Int → Option Bool} {P : Prop} (hk : ∃ b, k ((i + 1 : Nat) : Int) = some b ∧ (b = true → P)) :
    ∀ (n j fu : Nat), h[i].Units.length - j = n → j ≤ h[i].Units.length → n < fu → ∃ b, qFew_L3 h (i : Int) k fu (j : Int) = some b ∧ (b = true → P)
  | n, j, 0, _, _, h => by omega
  | 0, j, fu + 1, h1, hj, _ => by
    have : j = h[i].Units.length := by omega
    subst this
    simp only [qFew_L3, ix_at hi, Option.bind_some, List.length_map, decide_eq_false (show ¬ (h[i].Units.length : Int) < (h[i].Units.length : Int) by omega), cond_false, wrap_succ (n := h.length) (by omega) hi]
    exact hk
  | n + 1, j, fu + 1, h1, _, hf => by
    have hj : j < h[i].Units.length := by omega
    have ih := few_L3 hi hl hu hk n (j + 1) fu (by omega) (by omega) (by omega)
    simp only [qFew_L3, ix_at hi, Option.bind_some, List.length_map, decide_eq_true (show (j : Int) < (h[i].Units.length : Int) by omega), cond_true, ix_at hj, wrap_succ (n := h[i].Units.length) (by omega) hj]
    cases decide ((h[i].Units[j].Mark.length : Int) > 70) with
    | true => exact ⟨false, rfl, fun h => by cases h⟩
    | false =>
      cases decide ((h[i].Units[j].Title.length : Int) > 70) with
      | true => exact ⟨false, rfl, fun h => by cases h⟩
      | false => exact ih
theorem few_L5 {h : List Shot} {i : Nat} (hi : i < h.length) (hl : h.length ≤ 900) (hu : h[i].Units.length ≤ 1000) {k : Int → Option Bool} {P : Prop} (hk : ∃ b, k ((i + 1 : Nat) : Int) = some b ∧ (b = true → P)) (n j fu : Nat) (h1 : h[i].Units.length - j = n) (h2 : j ≤ h[i].Units.length) (h3 : n < fu) : ∃ b, qFew_L5 h (i : Int) k fu (j : Int) = some b ∧ (b = true → P) := by
  have : ∀ (fu : Nat) (j : Int), qFew_L5 h (i : Int) k fu j = qFew_L2 h (i : Int) k fu j := by
    intro fu
    induction fu with
    | zero => intro j; rfl
    | succ fu ih => intro j; simp only [qFew_L5, qFew_L2, ih]
  rw [this]
  exact few_L2 hi hl hu hk n j fu h1 h2 h3
theorem few_L6 {h : List Shot} {i : Nat} (hi : i < h.length) (hl : h.length ≤ 900) (hu : h[i].Units.length ≤ 1000) {k : Int → Option Bool} {P : Prop} (hk : ∃ b, k ((i + 1 : Nat) : Int) = some b ∧ (b = true → P)) (n j fu : Nat) (h1 : h[i].Units.length - j = n) (h2 : j ≤ h[i].Units.length) (h3 : n < fu) : ∃ b, qFew_L6 h (i : Int) k fu (j : Int) = some b ∧ (b = true → P) := by
  have : ∀ (fu : Nat) (j : Int), qFew_L6 h (i : Int) k fu j = qFew_L3 h (i : Int) k fu j := by
    intro fu
    induction fu with
    | zero => intro j; rfl
    | succ fu ih => intro j; simp only [qFew_L6, qFew_L3, ih]
  rw [this]
  exact few_L3 hi hl hu hk n j fu h1 h2 h3
theorem few_L1 {h : List Shot} (hl : h.length ≤ 900) {N : Nat} (hN : 1000 < N) : ∀ (n i fu : Nat), h.length - i = n → i ≤ h.length → n < fu → ∃ b, qFew_L1 h N fu (i : Int) = some b ∧ (b = true → ∀ x ∈ h.drop i, x.Units.length ≤ 12)
  | n, i, 0, _, _, h => by omega
  | 0, i, fu + 1, h1, hi, _ => by
    have : i = h.length := by omega
    subst this
    refine ⟨true, ?_, fun _ x hx => by simp at hx⟩
    simp only [qFew_L1, List.length_map, decide_eq_false (show ¬ (h.length : Int) < (h.length : Int) by omega), cond_false]
  | n + 1, i, fu + 1, h1, _, hf => by
    have hi : i < h.length := by omega
    obtain ⟨b, ih, hb⟩ := few_L1 hl hN n (i + 1) fu (by omega) (by omega) (by omega)
    simp only [qFew_L1, List.length_map, decide_eq_true (show (i : Int) < (h.length : Int) by omega), cond_true, ix_at hi, Option.bind_some]
    by_cases hu : h[i].Units.length ≤ 12
    · rw [decide_eq_false (show ¬ (h[i].Units.length : Int) > 12 by omega), cond_false]
      have hk : ∃ b, qFew_L1 h N fu ((i + 1 : Nat) : Int) = some b ∧ (b = true → ∀ x ∈ h.drop i, x.Units.length ≤ 12) := ⟨b, ih, fun hb' x hx => by
        rw [List.drop_eq_getElem_cons hi] at hx
        rcases List.mem_cons.1 hx with rfl | hx
        · exact hu
        · exact hb hb' x hx⟩
      cases decide ((h.length : Int) > 12) with
      | true =>
        rw [cond_true]
        cases decide ((h[i].Units.length : Int) > 1) with
        | true => exact ⟨false, rfl, fun h => by cases h⟩
        | false => rw [cond_false]; exact few_L2 hi hl (by omega) hk h[i].Units.length 0 N (by omega) (by omega) (by omega)
      | false => rw [cond_false]; exact few_L3 hi hl (by omega) hk h[i].Units.length 0 N (by omega) (by omega) (by omega)
    · exact ⟨false, by rw [decide_eq_true (show (h[i].Units.length : Int) > 12 by omega), cond_true], fun h => by cases h⟩
theorem few_L4 {h : List Shot} (hl : h.length ≤ 900) {N : Nat} (hN : 1000 < N) : ∀ (n i fu : Nat), h.length - i = n → i ≤ h.length → n < fu → ∃ b, qFew_L4 h N fu (i : Int) = some b ∧ (b = true → ∀ x ∈ h.drop i, x.Units.length ≤ 12)
  | n, i, 0, _, _, h => by omega
  | 0, i, fu + 1, h1, hi, _ => by
    have : i = h.length := by omega
    subst this
    refine ⟨true, ?_, fun _ x hx => by simp at hx⟩
    simp only [qFew_L4, List.length_map, decide_eq_false (show ¬ (h.length : Int) < (h.length : Int) by omega), cond_false]
  | n + 1, i, fu + 1, h1, _, hf => by
    have hi : i < h.length := by omega
    obtain ⟨b, ih, hb⟩ := few_L4 hl hN n (i + 1) fu (by omega) (by omega) (by omega)
    simp only [qFew_L4, List.length_map, decide_eq_true (show (i : Int) < (h.length : Int) by omega), cond_true, ix_at hi, Option.bind_some]
    by_cases hu : h[i].Units.length ≤ 12
    · rw [decide_eq_false (show ¬ (h[i].Units.length : Int) > 12 by omega), cond_false]
      have hk : ∃ b, qFew_L4 h N fu ((i + 1 : Nat) : Int) = some b ∧ (b = true → ∀ x ∈ h.drop i, x.Units.length ≤ 12) := ⟨b, ih, fun hb' x hx => by
        rw [List.drop_eq_getElem_cons hi] at hx
        rcases List.mem_cons.1 hx with rfl | hx
        · exact hu
        · exact hb hb' x hx⟩
      cases decide ((h.length : Int) > 12) with
      | true =>
        rw [cond_true]
        cases decide ((h[i].Units.length : Int) > 1) with
        | true => exact ⟨false, rfl, fun h => by cases h⟩
        | false => rw [cond_false]; exact few_L5 hi hl (by omega) hk h[i].Units.length 0 N (by omega) (by omega) (by omega)
      | false => rw [cond_false]; exact few_L6 hi hl (by omega) hk h[i].Units.length 0 N (by omega) (by omega) (by omega)
    · exact ⟨false, by rw [decide_eq_true (show (h[i].Units.length : Int) > 12 by omega), cond_true], fun h => by cases h⟩
theorem qFew_eq (h : List Shot) : ∃ b, qFew_S h = some b ∧ (b = true → fewH h) := by
  simp only [qFew_S, qFew_F, List.length_map]
  by_cases h1 : h.length > 12
  · rw [decide_eq_true (by omega), cond_true]
    by_cases h2 : h.length ≤ 64
    · exact ⟨false, by rw [decide_eq_true (by omega), cond_true], fun h => by cases h⟩
    rw [decide_eq_false (by omega), cond_false]
    by_cases h3 : h.length > 65
    · exact ⟨false, by rw [decide_eq_true (by omega), cond_true], fun h => by cases h⟩
    rw [decide_eq_false (by omega), cond_false]
    obtain ⟨b, g1, g2⟩ := few_L1 (h := h) (by omega) (N := 2000) (by omega) h.length 0 2000 (by omega) (by omega) (by omega)
    exact ⟨b, g1, fun hb => ⟨by omega, by simpa using g2 hb⟩⟩
  · rw [decide_eq_false (by omega), cond_false, decide_eq_false (by omega), cond_false]
    obtain ⟨b, g1, g2⟩ := few_L4 (h := h) (by omega) (N := 2000) (by omega) h.length 0 2000 (by omega) (by omega) (by omega)
    exact ⟨b, g1, fun hb => ⟨by omega, by simpa using g2 hb⟩⟩
theorem copy_loop {h : List Shot} (hf : fewH h) : ∀ (n i fu : Nat) (out : List Shot), h.length - i = n → i ≤ h.length → n < fu → out.length ≤ i → qCopy_L1 h fu (i : Int) out = some (out ++ h.drop i)
  | n, i, 0, out, _, _, h, _ => by omega
  | 0, i, fu + 1, out, h1, hi, _, _ => by
    have : i = h.length := by omega
    subst this
    simp only [qCopy_L1, List.length_map, decide_eq_false (show ¬ (h.length : Int) < (h.length : Int) by omega), cond_false, List.drop_length, List.append_nil]
  | n + 1, i, fu + 1, out, h1, _, hfu, ho => by
    have hi : i < h.length := by omega
    have hu := hf.units h[i] (List.getElem_mem hi)
    have hl := hf.len
    simp only [qCopy_L1, List.length_map, decide_eq_true (show (i : Int) < (h.length : Int) by omega), cond_true, ix_at hi, Option.bind_some, List.nil_append, List.length_nil, List.length_singleton, wrap_succ (n := h.length) (by omega) hi]
    rw [decide_eq_true (by omega), cond_true, decide_eq_true (by omega), cond_true, copy_loop hf n (i + 1) fu _ (by omega) (by omega) (by omega) (by simp; omega)]
    simp
    exact (List.drop_eq_getElem_cons hi).symm
theorem qCopy_eq {h : List Shot} (hf : fewH h) : qCopy_S h = some h := by
  have hl := hf.len
  exact (copy_loop hf h.length 0 2000 [] (by omega) (by omega) (by omega) (by simp)).trans (by simp)
/-- The shots up to a day. -/
def upto (day : Int) (h : List Shot) : List Shot := h.takeWhile fun x => decide (x.Day ≤ day)
theorem idx_upto (day : Int) : ∀ h : List Shot, h.findIdx? (fun x => decide (x.Day > day)) = if (upto day h).length < h.length then some (upto day h).length else none
  | [] => rfl
  | x :: r => by
    unfold upto
    rw [List.findIdx?_cons, List.takeWhile_cons]
    by_cases hx : x.Day > day
    · rw [decide_eq_true hx, decide_eq_false (show ¬ x.Day ≤ day by omega)]; simp
    · rw [decide_eq_false hx, decide_eq_true (show x.Day ≤ day by omega), idx_upto day r]
      unfold upto
      simp only [if_true, List.length_cons, Nat.add_lt_add_iff_right]
      by_cases hl : (r.takeWhile fun x => decide (x.Day ≤ day)).length < r.length
      · rw [if_pos hl, if_pos hl]; simp
      · rw [if_neg hl, if_neg hl]; simp
theorem upto_le (day : Int) (h : List Shot) : (upto day h).length ≤ h.length := (List.takeWhile_sublist _).length_le
theorem kat_eq {h : List Shot} (hl : h.length ≤ 1000) (day : Int) : kat_S h day = some ((((upto day h).length : Nat) : Int) - 1) := by
  have hle := upto_le day h
  simp only [kat_S, kat_F, slIndexFuncH_eq (f := fun z0 => kat_1_S z0 day) (p := fun x => decide (x.Day > day)) (show h.length ≤ 9223372036854775807 by omega) (fun x _ => rfl), Option.bind_some, List.length_map]
  unfold idxOf
  rw [idx_upto]
  by_cases hlt : (upto day h).length < h.length
  · rw [if_pos hlt]
    simp only
    rw [decide_eq_false (by omega), cond_false, wrap_id (by unfold okI; omega)]
  · rw [if_neg hlt]
    simp only
    rw [decide_eq_true (by decide), cond_true, wrap_id (by unfold okI; omega), show (upto day h).length = h.length by omega]
/-- How a unit stands on a day. -/
def stV (h : List Shot) (unit day : Int) : Option Standing := (upto day h).getLast?.bind fun x => fnd x.Units unit
theorem upto_last (day : Int) (h : List Shot) (hp : 0 < (upto day h).length) : ∃ hlt : (upto day h).length - 1 < h.length, (upto day h).getLast? = some h[(upto day h).length - 1] := by
  have hle := upto_le day h
  refine ⟨by omega, ?_⟩
  rw [List.getLast?_eq_getElem?, List.getElem?_eq_getElem (by omega)]
  congr 1
  have hpre : upto day h <+: h := List.takeWhile_prefix _
  exact hpre.getElem (by omega)
theorem kStanding_eq {h : List Shot} (hv : validH h) (hc : kCheck_S h = some 0) (unit day : Int) : kStanding_S h unit day = some (findV (stV h unit day)) := by
  have hl := hv.len
  simp only [kStanding_S, kStanding_F, kAt_S, kAt_F, hc, Option.bind_some, bne_self_eq_false, cond_false, kat_eq (show h.length ≤ 1000 by omega)]
  by_cases hp : 0 < (upto day h).length
  · obtain ⟨hlt, he⟩ := upto_last day h hp
    have hx := (hv.shot _ (List.getElem_mem hlt)).len
    have hcast : (((upto day h).length : Nat) : Int) - 1 = (((upto day h).length - 1 : Nat) : Int) := by omega
    rw [hcast, decide_eq_false (by omega), cond_false, ix_at hlt, Option.bind_some]
    simp only [kfind_S, kfind_F, slIndexFuncS_eq (f := fun z0 => kfind_1_S z0 unit) (p := fun s => s.Unit == unit) (l := h[(upto day h).length - 1].Units) (by omega) (fun x _ => rfl), Option.bind_some]
    have hk := find_idx (fun s : Standing => s.Unit == unit) h[(upto day h).length - 1].Units
    unfold stV fnd
    rw [he, Option.bind_some]
    unfold idxOf
    cases hi : h[(upto day h).length - 1].Units.findIdx? (fun s => s.Unit == unit) with
    | none =>
      rw [hi] at hk
      simp only at hk ⊢
      rw [decide_eq_true (by decide), cond_true, hk]; rfl
    | some k =>
      rw [hi] at hk
      obtain ⟨h1, h2⟩ := hk
      simp only
      rw [decide_eq_false (by omega), cond_false, ix_at h1, Option.bind_some, h2]; rfl
  · have h0 : (upto day h).length = 0 := by omega
    have hnil : upto day h = [] := List.length_eq_zero_iff.1 h0
    rw [h0, decide_eq_true (by decide), cond_true]
    unfold stV
    rw [hnil]; rfl
theorem pVersions_eq {h : List Shot} (hv : validH h) (hc : kCheck_S h = some 0) (unit : Int) : pVersions_S h unit = some (if versV unit h = [] then ([], 7) else (versV unit h, 0)) := by
  simp only [pVersions_S, pVersions_F, hc, Option.bind_some, bne_self_eq_false, cond_false, versions_eq hv, List.length_map]
  by_cases he : versV unit h = []
  · rw [if_pos he, he]; rfl
  · rw [if_neg he, beq_eq_false_iff_ne.2 (by have := List.length_pos_iff.2 he; omega), cond_false]
theorem pVersions_bad {h : List Shot} {e : Int} (hc : kCheck_S h = some e) (he : e ≠ 0) (unit : Int) : pVersions_S h unit = some ([], 1) := by
  simp only [pVersions_S, pVersions_F, hc, Option.bind_some]
  rw [show (e != 0) = true by rw [bne_iff_ne]; exact he, cond_true]
end Go.Proofs.YtmdhahfminiilaaGreatDoor
