/- Both checks of a history are one; what is specified for citations. -/
import Derived.Test.YtmdhahfminiilaaGreatDoorL50T
set_option linter.unusedSimpArgs false
set_option linter.unusedVariables false
namespace Go.Proofs.YtmdhahfminiilaaGreatDoor
open Go Go.Abs
theorem check_L3_L2 {v : Int} {x : Shot} {k : Int → List (Str × Int) → Option Int} : ∀ (fu : Nat) (j : Int) (m : List (Str × Int)), kCheck_L3 v x k fu j m = kCheck_L2 v x k fu j m
  | 0, _, _ => rfl
  | fu + 1, j, m => by rw [kCheck_L3, kCheck_L2]; simp only [check_L3_L2 fu]
theorem kcheck_scan {h : List Shot} (hl : h.length ≤ 900) (hu : ∀ x ∈ h, x.Units.length ≤ 1000) {N : Nat} (hN : 1000 < N) : ∀ (n i fu : Nat) (m : List (Str × Int)), h.length - i = n → i ≤ h.length → n < fu → Inv m (ahead h i) → kCheck_L1 h N fu (i : Int) m = some (scanE (shotE h) n i)
  | n, i, 0, m, _, _, h, _ => by omega
  | 0, i, fu + 1, m, h1, hi, _, _ => by
    have : i = h.length := by omega
    subst this
    simp only [kCheck_L1, List.length_map, decide_eq_false (show ¬ (h.length : Int) < (h.length : Int) by omega), cond_false]
    rfl
  | n + 1, i, fu + 1, m, h1, _, hf, hI => by
    have hi : i < h.length := by omega
    have hul := hu _ (List.getElem_mem hi)
    have ih := fun m hm => kcheck_scan hl hu hN n (i + 1) fu m (by omega) (by omega) (by omega) hm
    rw [ahead_succ hi] at ih
    have hF : kfields_S h[i].Units = some (scanE (fieldE h[i].Units) h[i].Units.length 0) := scan_fields hul h[i].Units.length 0 2000 (by omega) (by omega) (by omega)
    have hI0 : Inv m (ahead h i ++ h[i].Units.take 0) := by rw [List.take_zero, List.append_nil]; exact hI
    have hmk := kmarks_L2 (x := h[i]) hul (i := i) (by omega) (k := fun q_v2 q_v3 => kCheck_L1 h N fu q_v2 q_v3) (S := ahead h i) h[i].Units.length 0 N m (by omega) (by omega) (by omega) hI0
    rw [List.take_zero, List.append_nil, List.drop_zero, marks_same hI.consis] at hmk
    have tail : (bif decide (((h[i].Units.length : Nat) : Int) > 256) then some 8 else (Option.bind (kfields_S h[i].Units) fun y14 => bif (y14 != 0) then some y14 else (Option.bind (kabove_S h[i].Units) fun y17 => bif (y17 != 0) then some y17 else kCheck_L2 (i : Int) h[i] (fun q_v2 q_v3 => kCheck_L1 h N fu q_v2 q_v3) N 0 m))) =
        some (if (if h[i].Units.length > 256 then (8 : Int) else pickE (scanE (fieldE h[i].Units) h[i].Units.length 0) (scanE (placeE h[i].Units) h[i].Units.length 0) (bif h[i].Units.any (conf (ahead h i ++ h[i].Units)) then 19 else 0)) ≠ 0 then (if h[i].Units.length > 256 then (8 : Int) else pickE (scanE (fieldE h[i].Units) h[i].Units.length 0) (scanE (placeE h[i].Units) h[i].Units.length 0) (bif h[i].Units.any (conf (ahead h i ++ h[i].Units)) then 19 else 0)) else scanE (shotE h) n (i + 1)) := by
      by_cases a4 : h[i].Units.length > 256
      · rw [decide_eq_true (by omega), cond_true, if_pos a4, if_pos (by decide)]
      rw [decide_eq_false (by omega), cond_false, if_neg a4, hF, Option.bind_some]
      by_cases b1 : scanE (fieldE h[i].Units) h[i].Units.length 0 = 0
      · obtain ⟨e, e1, e2⟩ := kfields_eq hul
        rw [hF] at e1
        obtain ⟨g1, g2⟩ := e2 ((Option.some.inj e1).symm.trans b1)
        rw [b1, bne_self_eq_false, cond_false, kabove_scan hul g2 g1, Option.bind_some, pickE_zero]
        by_cases b2 : scanE (placeE h[i].Units) h[i].Units.length 0 = 0
        · rw [b2, bne_self_eq_false, cond_false, cond_false]
          obtain ⟨m', hcase⟩ := hmk
          rcases hcase with ⟨hI', he⟩ | ⟨hb, he⟩
          · have he' : kCheck_L2 (i : Int) h[i] (fun q_v2 q_v3 => kCheck_L1 h N fu q_v2 q_v3) N 0 m = _ := he
            rw [he']
            cases h[i].Units.any (conf (ahead h i ++ h[i].Units)) with
            | true => rfl
            | false =>
              rw [cond_false, cond_false, if_neg (fun q => q rfl)]
              exact ih m' hI'
          · have he' : kCheck_L2 (i : Int) h[i] (fun q_v2 q_v3 => kCheck_L1 h N fu q_v2 q_v3) N 0 m = _ := he
            rw [he', hb]; rfl
        · rw [show (scanE (placeE h[i].Units) h[i].Units.length 0 != 0) = true by rw [bne_iff_ne]; exact b2, cond_true, cond_true, if_pos b2]
      · rw [pickE_ne b1, show (scanE (fieldE h[i].Units) h[i].Units.length 0 != 0) = true by rw [bne_iff_ne]; exact b1, cond_true, if_pos b1]
    simp only [kCheck_L1, List.length_map, decide_eq_true (show (i : Int) < (h.length : Int) by omega), cond_true, ix_at hi, Option.bind_some, check_L3_L2]
    rw [scanE]
    have hs : shotE h i = if h[i].Day < 0 then 2 else if h[i].Day > 1048575 then 2 else if dayBad h h[i] i = true then 5 else if h[i].Units.length > 256 then 8 else pickE (scanE (fieldE h[i].Units) h[i].Units.length 0) (scanE (placeE h[i].Units) h[i].Units.length 0) (bif h[i].Units.any (conf (ahead h i ++ h[i].Units)) then 19 else 0) := by
      unfold shotE; rw [List.getElem?_eq_getElem hi]
    rw [hs]
    by_cases a1 : h[i].Day < 0
    · rw [decide_eq_true a1, cond_true, if_pos a1]; rfl
    rw [decide_eq_false a1, cond_false, if_neg a1]
    by_cases a2 : h[i].Day > 1048575
    · rw [decide_eq_true a2, cond_true, if_pos a2]; rfl
    rw [decide_eq_false a2, cond_false, if_neg a2]
    by_cases hz : i = 0
    · subst hz
      rw [decide_eq_false (by decide), cond_false, dayBad, if_neg (show ¬ (false = true) by decide)]
      exact tail
    · obtain ⟨j, rfl⟩ : ∃ j, i = j + 1 := ⟨i - 1, by omega⟩
      have hj : j < h.length := by omega
      rw [decide_eq_true (by omega), cond_true, wrap_id (by unfold okI; omega), show (((j + 1 : Nat) : Int) - 1) = (j : Int) by omega, ix_at hj, Option.bind_some, dayBad_at hj]
      by_cases a3 : h[j].Day ≥ h[j + 1].Day
      · rw [decide_eq_true a3, cond_true, if_pos rfl]; rfl
      · rw [decide_eq_false a3, cond_false, if_neg (show ¬ (false = true) by decide)]
        exact tail
theorem check_same {h : List Shot} (hl : h.length ≤ 900) (hu : ∀ x ∈ h, x.Units.length ≤ 1000) : qCheck_S h = kCheck_S h := by
  simp only [qCheck_S, qCheck_F, kCheck_S, kCheck_F, List.length_map]
  by_cases h64 : h.length > 64
  · rw [decide_eq_true (by omega), cond_true, cond_true]
  · rw [decide_eq_false (by omega), cond_false, cond_false]
    have h1 : qCheck_L1 h 2000 0 = _ := qcheck_L1 hl hu h.length 0 2000 (by omega) (by omega) (by omega)
    have h2 : kCheck_L1 h 2000 2000 0 [] = _ := kcheck_scan hl hu (N := 2000) (by omega) h.length 0 2000 [] (by omega) (by omega) (by omega) ⟨fun s hs => by simp [ahead] at hs, fun k u hk => by cases hk⟩
    rw [h1, h2]
end Go.Proofs.YtmdhahfminiilaaGreatDoor
