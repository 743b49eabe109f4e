/- The check of a history: marks; both checks are one. -/
import Derived.Test.YtmdhahfminiilaaGreatDoorL50S
set_option linter.unusedSimpArgs false
set_option linter.unusedVariables false
namespace Go.Proofs.YtmdhahfminiilaaGreatDoor
open Go Go.Abs
/-- Another unit has the mark. -/
def other (mark : Str) (unit : Int) (t : Standing) : Bool := (t.Mark == mark) && (t.Unit != unit)
def conf (S : List Standing) (s : Standing) : Bool := !(s.Mark == ([] : Str)) && S.any (other s.Mark s.Unit)
theorem used_L2 {h : List Shot} {mark : Str} {unit : Int} {k : Nat} (hk : k < h.length) (hl : h.length ≤ 900) (hu : h[k].Units.length ≤ 1000) {K : Int → Option Bool} : ∀ (n j fu : Nat), h[k].Units.length - j = n → j ≤ h[k].Units.length → n < fu → qused_L2 h mark unit (k : Int) K fu (j : Int) = bif (h[k].Units.drop j).any (other mark unit) then some true else K ((k + 1 : Nat) : Int)
  | n, j, 0, _, _, h => by omega
  | 0, j, fu + 1, h1, hj, _ => by
    have : j = h[k].Units.length := by omega
    subst this
    simp only [qused_L2, ix_at hk, Option.bind_some, List.length_map, decide_eq_false (show ¬ (h[k].Units.length : Int) < (h[k].Units.length : Int) by omega), cond_false, wrap_succ (n := h.length) (by omega) hk, List.drop_length, List.any_nil]
  | n + 1, j, fu + 1, h1, _, hf => by
    have hj : j < h[k].Units.length := by omega
    have ih := used_L2 (mark := mark) (unit := unit) hk hl hu (K := K) n (j + 1) fu (by omega) (by omega) (by omega)
    rw [List.drop_eq_getElem_cons hj, List.any_cons]
    simp only [qused_L2, ix_at hk, Option.bind_some, List.length_map, decide_eq_true (show (j : Int) < (h[k].Units.length : Int) by omega), cond_true, ix_at hj, wrap_succ (n := h[k].Units.length) (by omega) hj, ih, other]
    cases h[k].Units[j].Mark == mark with
    | false => simp only [cond_false, Bool.false_and, Bool.false_or]
    | true =>
      cases h[k].Units[j].Unit != unit with
      | false => simp only [cond_true, cond_false, Bool.and_false, Bool.false_or]
      | true => simp only [cond_true, Bool.and_self, Bool.true_or]
theorem used_L1 {h : List Shot} {mark : Str} {unit : Int} {i : Nat} (hi : i < h.length) (hl : h.length ≤ 900) (hu : ∀ x ∈ h, x.Units.length ≤ 1000) {N : Nat} (hN : 1000 < N) : ∀ (n k fu : Nat), i + 1 - k = n → k ≤ i + 1 → n < fu → qused_L1 h (i : Int) mark unit N fu (k : Int) = some (((h.take (i + 1)).drop k).any fun x => x.Units.any (other mark unit))
  | n, k, 0, _, _, h => by omega
  | 0, k, fu + 1, h1, hk, _ => by
    have : k = i + 1 := by omega
    subst this
    rw [qused_L1, decide_eq_false (by omega), cond_false, List.drop_eq_nil_of_le (by rw [List.length_take]; omega)]
    rfl
  | n + 1, k, fu + 1, h1, _, hf => by
    have hk : k < h.length := by omega
    have ih := used_L1 (mark := mark) (unit := unit) hi hl hu hN n (k + 1) fu (by omega) (by omega) (by omega)
    have hlt : k < (h.take (i + 1)).length := by rw [List.length_take]; omega
    have hget : (h.take (i + 1))[k] = h[k] := by rw [List.getElem_take]
    rw [List.drop_eq_getElem_cons hlt, List.any_cons, hget, qused_L1, decide_eq_true (by omega), cond_true]
    have h2 := used_L2 (mark := mark) (unit := unit) hk hl (hu _ (List.getElem_mem hk)) (K := fun q_k1 => qused_L1 h (i : Int) mark unit N fu q_k1) h[k].Units.length 0 N (by omega) (by omega) (by have := hu _ (List.getElem_mem hk); omega)
    rw [show (0 : Int) = ((0 : Nat) : Int) from rfl, h2, List.drop_zero, ih]
    cases h[k].Units.any (other mark unit) <;> rfl
/-- The units of the shots ahead of one. -/
def ahead (h : List Shot) (i : Nat) : List Standing := (h.take i).flatMap (·.Units)
theorem ahead_succ {h : List Shot} {i : Nat} (hi : i < h.length) : ahead h (i + 1) = ahead h i ++ h[i].Units := by
  unfold ahead
  rw [List.take_succ_eq_append_getElem hi, List.flatMap_append]
  simp
theorem qused_eq {h : List Shot} {mark : Str} {unit : Int} {i : Nat} (hi : i < h.length) (hl : h.length ≤ 900) (hu : ∀ x ∈ h, x.Units.length ≤ 1000) : qused_S h (i : Int) mark unit = some ((ahead h i ++ h[i].Units).any (other mark unit)) := by
  have := used_L1 (mark := mark) (unit := unit) hi hl hu (N := 2000) (by omega) (i + 1) 0 2000 (by omega) (by omega) (by omega)
  rw [List.drop_zero] at this
  rw [← ahead_succ hi]
  unfold ahead
  rw [List.any_flatMap]
  exact this
theorem marks_L1 {h : List Shot} {i : Nat} (hi : i < h.length) (hl : h.length ≤ 900) (hu : ∀ x ∈ h, x.Units.length ≤ 1000) : ∀ (n k fu : Nat), h[i].Units.length - k = n → k ≤ h[i].Units.length → n < fu → qmarks_L1 h (i : Int) fu (k : Int) = some (bif (h[i].Units.drop k).any (conf (ahead h i ++ h[i].Units)) then 19 else 0)
  | n, k, 0, _, _, h => by omega
  | 0, k, fu + 1, h1, hk, _ => by
    have : k = h[i].Units.length := by omega
    subst this
    simp only [qmarks_L1, ix_at hi, Option.bind_some, List.length_map, decide_eq_false (show ¬ (h[i].Units.length : Int) < (h[i].Units.length : Int) by omega), cond_false, List.drop_length, List.any_nil]
  | n + 1, k, fu + 1, h1, _, hf => by
    have hk : k < h[i].Units.length := by omega
    have hul := hu _ (List.getElem_mem hi)
    have ih := marks_L1 hi hl hu n (k + 1) fu (by omega) (by omega) (by omega)
    rw [List.drop_eq_getElem_cons hk, List.any_cons]
    simp only [qmarks_L1, ix_at hi, Option.bind_some, List.length_map, decide_eq_true (show (k : Int) < (h[i].Units.length : Int) by omega), cond_true, ix_at hk, wrap_succ (n := h[i].Units.length) (by omega) hk, ih, qused_eq hi hl hu]
    have hconf : conf (ahead h i ++ h[i].Units) h[i].Units[k] = (!(h[i].Units[k].Mark == ([] : Str)) && (ahead h i ++ h[i].Units).any (other h[i].Units[k].Mark h[i].Units[k].Unit)) := rfl
    rw [hconf]
    cases h[i].Units[k].Mark == ([] : Str) with
    | true => simp only [Bool.not_true, cond_false, Bool.false_and, Bool.false_or]
    | false =>
      cases (ahead h i ++ h[i].Units).any (other h[i].Units[k].Mark h[i].Units[k].Unit) with
      | true => simp only [Bool.not_false, cond_true, Bool.and_self, Bool.true_or]
      | false => simp only [Bool.not_false, cond_true, cond_false, Bool.and_false, Bool.false_or]
theorem scanE_ne {g : Nat → Int} {n i : Nat} (h : g i ≠ 0) : scanE g (n + 1) i = g i := by rw [scanE, if_pos h]
theorem scanE_zero {g : Nat → Int} {n i : Nat} (h : g i = 0) : scanE g (n + 1) i = scanE g n (i + 1) := by rw [scanE, if_neg (fun q => q h)]
def pickE (F P Q : Int) : Int := bif F != 0 then F else bif P != 0 then P else Q
theorem pickE_ne {F P Q : Int} (h : F ≠ 0) : pickE F P Q = F := by rw [pickE, show (F != 0) = true by rw [bne_iff_ne]; exact h, cond_true]
theorem pickE_zero (P Q : Int) : pickE 0 P Q = bif P != 0 then P else Q := by rw [pickE, bne_self_eq_false, cond_false]
/-- The fault of a shot. -/
def dayBad (h : List Shot) (x : Shot) : Nat → Bool
  | 0 => false
  | j + 1 => match h[j]? with
    | none => false
    | some y => decide (y.Day ≥ x.Day)
def shotE (h : List Shot) (i : Nat) : Int :=
  match h[i]? with
  | none => 0
  | some x => if x.Day < 0 then 2 else if x.Day > 1048575 then 2 else if dayBad h x i = true then 5 else if x.Units.length > 256 then 8 else
    pickE (scanE (fieldE x.Units) x.Units.length 0) (scanE (placeE x.Units) x.Units.length 0) (bif x.Units.any (conf (ahead h i ++ x.Units)) then 19 else 0)
theorem dayBad_at {h : List Shot} {x : Shot} {j : Nat} (hj : j < h.length) : dayBad h x (j + 1) = decide (h[j].Day ≥ x.Day) := by
  rw [dayBad, List.getElem?_eq_getElem hj]
theorem shot_L1 {h : List Shot} {i : Nat} {x : Shot} (hx : x.Units.length ≤ 1000) {P Q : Int} (hP : qplaces_S x = some P) (hQ : qmarks_S h (i : Int) = some Q) : ∀ (n k fu : Nat), x.Units.length - k = n → k ≤ x.Units.length → n < fu → qshot_L1 h (i : Int) x fu (k : Int) = some (pickE (scanE (fieldE x.Units) n k) P Q)
  | n, k, 0, _, _, h => by omega
  | 0, k, fu + 1, h1, hk, _ => by
    have : k = x.Units.length := by omega
    subst this
    rw [show scanE (fieldE x.Units) 0 x.Units.length = 0 from rfl, pickE_zero]
    simp only [qshot_L1, List.length_map, decide_eq_false (show ¬ (x.Units.length : Int) < (x.Units.length : Int) by omega), cond_false, hP, hQ, Option.bind_some]
    cases (P != 0) <;> rfl
  | n + 1, k, fu + 1, h1, _, hf => by
    have hk : k < x.Units.length := by omega
    have ih := shot_L1 hx hP hQ n (k + 1) fu (by omega) (by omega) (by omega)
    simp only [qshot_L1, List.length_map, decide_eq_true (show (k : Int) < (x.Units.length : Int) by omega), cond_true, qfield_eq hk hx, Option.bind_some, wrap_succ (n := x.Units.length) (by omega) hk, ih]
    by_cases hz : fieldE x.Units k = 0
    · rw [scanE_zero hz, hz, bne_self_eq_false, cond_false]
    · rw [scanE_ne hz, pickE_ne hz, show (fieldE x.Units k != 0) = true by rw [bne_iff_ne]; exact hz, cond_true]
theorem shot_L2 {h : List Shot} {i : Int} {x : Shot} : ∀ (fu : Nat) (k : Int), qshot_L2 h i x fu k = qshot_L1 h i x fu k
  | 0, _ => rfl
  | fu + 1, k => by rw [qshot_L1, qshot_L2]; simp only [shot_L2 fu]
theorem qshot_eq {h : List Shot} {i : Nat} (hi : i < h.length) (hl : h.length ≤ 900) (hu : ∀ x ∈ h, x.Units.length ≤ 1000) : qshot_S h (i : Int) = some (shotE h i) := by
  have hul := hu _ (List.getElem_mem hi)
  have hP : qplaces_S h[i] = some (scanE (placeE h[i].Units) h[i].Units.length 0) := qplaces_eq hul h[i].Units.length 0 2000 (by omega) (by omega) (by omega)
  have hQ : qmarks_S h (i : Int) = some (bif h[i].Units.any (conf (ahead h i ++ h[i].Units)) then 19 else 0) := by
    have := marks_L1 hi hl hu h[i].Units.length 0 2000 (by omega) (by omega) (by omega)
    rw [List.drop_zero] at this
    exact this
  have hS : qshot_L1 h (i : Int) h[i] 2000 0 = _ := shot_L1 hul hP hQ h[i].Units.length 0 2000 (by omega) (by omega) (by omega)
  simp only [qshot_S, qshot_F, ix_at hi, Option.bind_some, shot_L2, hS, List.length_map]
  unfold shotE
  rw [List.getElem?_eq_getElem hi]
  simp only
  by_cases a1 : h[i].Day < 0
  · rw [decide_eq_true a1, cond_true, if_pos a1]
  rw [decide_eq_false a1, cond_false, if_neg a1]
  by_cases a2 : h[i].Day > 1048575
  · rw [decide_eq_true a2, cond_true, if_pos a2]
  rw [decide_eq_false a2, cond_false, if_neg a2]
  have fin : (bif decide (((h[i].Units.length : Nat) : Int) > 256) then some 8 else some (pickE (scanE (fieldE h[i].Units) h[i].Units.length 0) (scanE (placeE h[i].Units) h[i].Units.length 0) (bif h[i].Units.any (conf (ahead h i ++ h[i].Units)) then 19 else 0))) = some (if h[i].Units.length > 256 then 8 else pickE (scanE (fieldE h[i].Units) h[i].Units.length 0) (scanE (placeE h[i].Units) h[i].Units.length 0) (bif h[i].Units.any (conf (ahead h i ++ h[i].Units)) then 19 else 0)) := by
    by_cases a4 : h[i].Units.length > 256
    · rw [decide_eq_true (by omega), cond_true, if_pos a4]
    · rw [decide_eq_false (by omega), cond_false, if_neg a4]
  cases i with
  | zero =>
    rw [decide_eq_false (by decide), cond_false, dayBad, if_neg (by simp)]
    exact fin
  | succ j =>
    have hj : j < h.length := by omega
    rw [decide_eq_true (by omega), cond_true, wrap_id (by unfold okI; omega), show (((j + 1 : Nat) : Int) - 1) = (j : Int) by omega, ix_at hj, Option.bind_some, dayBad_at hj]
    by_cases a3 : h[j].Day ≥ h[j + 1].Day
    · rw [decide_eq_true a3, cond_true, if_pos rfl]
    · rw [decide_eq_false a3, cond_false, if_neg (by simp)]
      exact fin
theorem qcheck_L1 {h : List Shot} (hl : h.length ≤ 900) (hu : ∀ x ∈ h, x.Units.length ≤ 1000) : ∀ (n i fu : Nat), h.length - i = n → i ≤ h.length → n < fu → qCheck_L1 h fu (i : Int) = some (scanE (shotE h) n i)
  | n, i, 0, _, _, h => by omega
  | 0, i, fu + 1, h1, hi, _ => by
    have : i = h.length := by omega
    subst this
    simp only [qCheck_L1, List.length_map, decide_eq_false (show ¬ (h.length : Int) < (h.length : Int) by omega), cond_false]
    rfl
  | n + 1, i, fu + 1, h1, _, hf => by
    have hi : i < h.length := by omega
    have ih := qcheck_L1 hl hu n (i + 1) fu (by omega) (by omega) (by omega)
    simp only [qCheck_L1, List.length_map, decide_eq_true (show (i : Int) < (h.length : Int) by omega), cond_true, qshot_eq hi hl hu, Option.bind_some, wrap_succ (n := h.length) (by omega) hi, ih]
    by_cases hz : shotE h i = 0
    · rw [scanE_zero hz, hz, bne_self_eq_false, cond_false]
    · rw [scanE_ne hz, show (shotE h i != 0) = true by rw [bne_iff_ne]; exact hz, cond_true]
/-- What is kept of the holders of marks. -/
structure Inv (m : List (Str × Int)) (S : List Standing) : Prop where
  a : ∀ s ∈ S, s.Mark ≠ [] → mget m s.Mark = some s.Unit
  b : ∀ k u, mget m k = some u → ∃ s ∈ S, s.Mark = k ∧ s.Unit = u
def marksP (S : List Standing) : List Standing → Bool
  | [] => false
  | s :: r => conf S s || marksP (S ++ [s]) r
def consis (S : List Standing) : Prop := ∀ s ∈ S, ∀ t ∈ S, s.Mark ≠ [] → t.Mark = s.Mark → t.Unit = s.Unit
theorem Inv.consis {m : List (Str × Int)} {S : List Standing} (h : Inv m S) : consis S := by
  intro s hs t ht hm he
  have h1 := h.a s hs hm
  have h2 := h.a t ht (by rw [he]; exact hm)
  rw [he, h1] at h2
  exact (Option.some.inj h2).symm
theorem conf_false {S : List Standing} {s : Standing} : conf S s = false ↔ (s.Mark ≠ [] → ∀ t ∈ S, t.Mark = s.Mark → t.Unit = s.Unit) := by
  unfold conf other
  constructor
  · intro h hm t ht he
    rw [beq_eq_false_iff_ne.2 hm, Bool.not_false, Bool.true_and, List.any_eq_false] at h
    have := h t ht
    rw [he] at this
    simpa using this
  · intro h
    by_cases hm : s.Mark = []
    · rw [hm]; rfl
    · rw [beq_eq_false_iff_ne.2 hm, Bool.not_false, Bool.true_and, List.any_eq_false]
      intro t ht q
      rw [Bool.and_eq_true, beq_iff_eq, bne_iff_ne] at q
      exact q.2 (h hm t ht q.1)
theorem consis_snoc {S : List Standing} (hS : consis S) (s : Standing) : conf S s = false ↔ consis (S ++ [s]) := by
  rw [conf_false]
  constructor
  · intro h a ha b hb hm he
    rw [List.mem_append, List.mem_singleton] at ha hb
    rcases ha with ha | rfl
    · rcases hb with hb | rfl
      · exact hS a ha b hb hm he
      · exact (h (by rw [he]; exact hm) a ha he.symm).symm
    · rcases hb with hb | rfl
      · exact h hm b hb he
      · rfl
  · intro h hm t ht he
    exact h s (by simp) t (by simp [ht]) hm he
theorem marksP_iff : ∀ (l S : List Standing), consis S → (marksP S l = false ↔ consis (S ++ l))
  | [], S, hS => by rw [List.append_nil]; exact ⟨fun _ => hS, fun _ => rfl⟩
  | s :: r, S, hS => by
    rw [marksP, Bool.or_eq_false_iff]
    constructor
    · rintro ⟨h1, h2⟩
      have hc := (consis_snoc hS s).1 h1
      have := (marksP_iff r (S ++ [s]) hc).1 h2
      rwa [List.append_assoc] at this
    · intro h
      have hc : consis (S ++ [s]) := fun a ha b hb => h a (by simp at ha ⊢; rcases ha with h | h <;> simp [h]) b (by simp at hb ⊢; rcases hb with h | h <;> simp [h])
      refine ⟨(consis_snoc hS s).2 hc, (marksP_iff r (S ++ [s]) hc).2 ?_⟩
      rw [List.append_assoc]; exact h
theorem marksQ_iff {S l : List Standing} (hS : consis S) : l.any (conf (S ++ l)) = false ↔ consis (S ++ l) := by
  rw [List.any_eq_false]
  constructor
  · intro h a ha b hb hm he
    rcases List.mem_append.1 ha with ha' | ha'
    · rcases List.mem_append.1 hb with hb' | hb'
      · exact hS a ha' b hb' hm he
      · have := conf_false.1 (by simpa using h b hb') (by rw [he]; exact hm) a ha he.symm
        exact this.symm
    · exact conf_false.1 (by simpa using h a ha') hm b hb he
  · intro h s hs
    have : conf (S ++ l) s = false := conf_false.2 fun hm t ht he => h s (List.mem_append_right _ hs) t ht hm he
    rw [this]; simp
theorem marks_same {S l : List Standing} (hS : consis S) : marksP S l = l.any (conf (S ++ l)) := by
  cases h1 : marksP S l with
  | false => rw [(marksQ_iff hS).2 ((marksP_iff l S hS).1 h1)]
  | true =>
    cases h2 : l.any (conf (S ++ l)) with
    | true => rfl
    | false => rw [(marksP_iff l S hS).2 ((marksQ_iff hS).1 h2)] at h1; cases h1
theorem inv_skip {m : List (Str × Int)} {S : List Standing} {s : Standing} (h : Inv m S) (hm : s.Mark = []) : Inv m (S ++ [s]) :=
  ⟨fun t ht hne => by
    rcases List.mem_append.1 ht with ht | ht
    · exact h.a t ht hne
    · rw [List.mem_singleton.1 ht] at hne; exact absurd hm hne, fun k u hk => by
    obtain ⟨t, t1, t2⟩ := h.b k u hk
    exact ⟨t, List.mem_append_left _ t1, t2⟩⟩
theorem inv_set {m : List (Str × Int)} {S : List Standing} {s : Standing} (h : Inv m S) (hc : conf S s = false) (hm : s.Mark ≠ []) : Inv (mset m s.Mark s.Unit) (S ++ [s]) :=
  ⟨fun t ht hne => by
    rw [mget_mset]
    by_cases he : t.Mark = s.Mark
    · rw [he, beq_self_eq_true, cond_true]
      rcases List.mem_append.1 ht with ht | ht
      · rw [conf_false.1 hc hm t ht he]
      · rw [List.mem_singleton.1 ht]
    · rw [beq_eq_false_iff_ne.2 he, cond_false]
      rcases List.mem_append.1 ht with ht | ht
      · exact h.a t ht hne
      · rw [List.mem_singleton.1 ht] at he; exact absurd rfl he, fun k u hk => by
    rw [mget_mset] at hk
    by_cases he : k = s.Mark
    · rw [he, beq_self_eq_true, cond_true] at hk
      exact ⟨s, by simp, he.symm, Option.some.inj hk⟩
    · rw [beq_eq_false_iff_ne.2 he, cond_false] at hk
      obtain ⟨t, t1, t2⟩ := h.b k u hk
      exact ⟨t, List.mem_append_left _ t1, t2⟩⟩
theorem conf_map {m : List (Str × Int)} {S : List Standing} {s : Standing} (h : Inv m S) (hm : s.Mark ≠ []) : conf S s = ((mget m s.Mark).isSome && ((mget m s.Mark).getD 0 != s.Unit)) := by
  cases hg : mget m s.Mark with
  | none =>
    refine conf_false.2 fun _ t ht he => ?_
    have := h.a t ht (by rw [he]; exact hm)
    rw [he, hg] at this; cases this
  | some u =>
    simp only [Option.isSome_some, Option.getD_some, Bool.true_and]
    by_cases hu : u = s.Unit
    · rw [hu, bne_self_eq_false]
      refine conf_false.2 fun _ t ht he => ?_
      have := h.a t ht (by rw [he]; exact hm)
      rw [he, hg] at this
      rw [← Option.some.inj this, hu]
    · rw [show (u != s.Unit) = true by rw [bne_iff_ne]; exact hu]
      cases hc : conf S s with
      | true => rfl
      | false =>
        obtain ⟨t, t1, t2, t3⟩ := h.b _ u hg
        exact absurd (t3.symm.trans (conf_false.1 hc hm t t1 t2)) hu
theorem kmarks_L2 {x : Shot} (h : x.Units.length ≤ 1000) {i : Nat} (hi : i ≤ 1000) {k : Int → List (Str × Int) → Option Int} {S : List Standing} : ∀ (n j fu : Nat) (m : List (Str × Int)), x.Units.length - j = n → j ≤ x.Units.length → n < fu → Inv m (S ++ x.Units.take j) →
    ∃ m', (Inv m' (S ++ x.Units) ∧ kCheck_L2 (i : Int) x k fu (j : Int) m = bif marksP (S ++ x.Units.take j) (x.Units.drop j) then some 19 else k ((i + 1 : Nat) : Int) m') ∨ marksP (S ++ x.Units.take j) (x.Units.drop j) = true ∧ kCheck_L2 (i : Int) x k fu (j : Int) m = some 19
  | n, j, 0, m, _, _, h, _ => by omega
  | 0, j, fu + 1, m, h1, hj, _, hI => by
    have : j = x.Units.length := by omega
    subst this
    rw [List.take_length] at hI
    refine ⟨m, .inl ⟨hI, ?_⟩⟩
    rw [List.drop_length, marksP, cond_false]
    simp only [kCheck_L2, List.length_map, decide_eq_false (show ¬ (x.Units.length : Int) < (x.Units.length : Int) by omega), cond_false]
    rw [wrap_succ (n := 2000) (by omega) (show i < 2000 by omega)]
  | n + 1, j, fu + 1, m, h1, _, hf, hI => by
    have hj : j < x.Units.length := by omega
    have etake : S ++ x.Units.take (j + 1) = (S ++ x.Units.take j) ++ [x.Units[j]] := by rw [List.take_succ_eq_append_getElem hj, List.append_assoc]
    have ih := fun m h => kmarks_L2 (k := k) (S := S) ‹x.Units.length ≤ 1000› hi n (j + 1) fu m (by omega) (by omega) (by omega) h
    rw [etake] at ih
    rw [List.drop_eq_getElem_cons hj, marksP]
    simp only [kCheck_L2, List.length_map, decide_eq_true (show (j : Int) < (x.Units.length : Int) by omega), cond_true, ix_at hj, Option.bind_some, wrap_succ (n := x.Units.length) (by omega) hj, mlook]
    by_cases hm : x.Units[j].Mark = []
    · have hc : conf (S ++ x.Units.take j) x.Units[j] = false := conf_false.2 fun h => absurd hm h
      rw [hc, Bool.false_or, hm, show (([] : Str) == []) = true by decide, cond_true]
      exact ih m (inv_skip hI hm)
    · rw [beq_eq_false_iff_ne.2 hm, cond_false]
      have hcm := conf_map hI hm
      cases hs : (mget m x.Units[j].Mark).isSome with
      | false =>
        rw [hs, Bool.false_and] at hcm
        rw [hcm, Bool.false_or, cond_false]
        exact ih _ (inv_set hI hcm hm)
      | true =>
        rw [hs, Bool.true_and] at hcm
        rw [cond_true, ← hcm]
        cases hc : conf (S ++ x.Units.take j) x.Units[j] with
        | false =>
          rw [Bool.false_or, cond_false]
          exact ih _ (inv_set hI hc hm)
        | true => exact ⟨m, .inr ⟨rfl, rfl⟩⟩
end Go.Proofs.YtmdhahfminiilaaGreatDoor
