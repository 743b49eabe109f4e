/- RuleLongest: true where strings are of bounded size. -/
import Derived.Test.YtjoacimgcepjdaaGreatDoorLEnds
set_option linter.unusedSimpArgs false
set_option linter.unusedVariables false
namespace Go.Proofs.YtjoacimgcepjdaaGreatDoor
open Go Go.Abs
theorem within_spec {a b : Option (List Nat)} (h : withinF a b = true) : ∃ x y, a = some x ∧ b = some y ∧ y.length ≤ x.length ∧ (castL x).take y.length = castL y := by
  cases a with
  | none => cases h
  | some x =>
    cases b with
    | none => cases h
    | some y =>
      unfold withinF at h
      simp only [Bool.and_eq_true, decide_eq_true_eq, beq_iff_eq] at h
      exact ⟨x, y, rfl, rfl, h.1, h.2⟩
theorem castL_inj : ∀ {a b : List Nat}, castL a = castL b → a = b
  | [], [], _ => rfl
  | [], _ :: _, h => by simp [castL] at h
  | _ :: _, [], h => by simp [castL] at h
  | a :: r, b :: s, h => by
    simp only [castL, List.map_cons, List.cons.injEq] at h
    rw [castL_inj (a := r) (b := s) h.2]
    congr 1; omega
theorem fits_spec {s : Str} {day : Int} {r : Rule} (h : fitsV s day r = true) : ∃ x y, codeV s = some x ∧ codeV r.Class = some y ∧ clen r = (y.length : Int) ∧ (castL x).take y.length = castL y ∧ 1 ≤ y.length ∧ r.In.From ≤ day ∧ day < r.In.Until ∧ r.Class ≠ [] := by
  unfold fitsV at h
  rw [Bool.and_eq_true, inV_iff] at h
  obtain ⟨⟨h1, h2⟩, h3⟩ := h
  obtain ⟨x, y, e1, e2, e3, e4⟩ := within_spec h3
  obtain ⟨g1, g2, g3, g4⟩ := codeV_spec e2
  refine ⟨x, y, e1, e2, by unfold clen; rw [e2]; simp [parseF, castL], e4, g2, h1, h2, fun hc => ?_⟩
  rw [hc] at g1
  cases y with
  | nil => simp at g2
  | cons n t =>
    rw [fmt_tl] at g1
    have := (digs_nodot n (g4 n (by simp)).2).2.1
    have h0 := congrArg List.length g1
    rw [List.length_append] at h0
    simp at h0
    omega
theorem sel_class {s : Str} {day : Int} {r q : Rule} (h1 : fitsV s day r = true) (h2 : fitsV s day q = true) (h : clen r = clen q) : r.Class = q.Class := by
  obtain ⟨x, y, a1, a2, a3, a4, -, -⟩ := fits_spec h1
  obtain ⟨x', z, b1, b2, b3, b4, -, -⟩ := fits_spec h2
  rw [a1] at b1
  obtain rfl := Option.some.inj b1
  have hl : y.length = z.length := by omega
  have : y = z := castL_inj (by rw [← a4, ← b4, hl])
  subst this
  rw [(codeV_spec a2).1, (codeV_spec b2).1]
theorem long_att (s : Str) (day : Int) : ∀ (l : List Rule) (m : Int), l.foldl (fun m r => if fitsV s day r = true then (if m < clen r then clen r else m) else m) m = m ∨ ∃ r ∈ l, fitsV s day r = true ∧ clen r = l.foldl (fun m r => if fitsV s day r = true then (if m < clen r then clen r else m) else m) m
  | [], _ => .inl rfl
  | a :: l, m => by
    rw [List.foldl_cons]
    rcases long_att s day l (if fitsV s day a = true then (if m < clen a then clen a else m) else m) with h | ⟨r, hr, h1, h2⟩
    · rw [h]
      by_cases ha : fitsV s day a = true
      · rw [if_pos ha]
        by_cases hm : m < clen a
        · rw [if_pos hm]; exact .inr ⟨a, by simp, ha, rfl⟩
        · rw [if_neg hm]; exact .inl rfl
      · rw [if_neg ha]; exact .inl rfl
    · exact .inr ⟨r, List.mem_cons_of_mem _ hr, h1, h2⟩
section
variable {l : List Rule} {s : Str} {day : Int}
/-- What the class stands for behind the first loop. -/
def clsOk (l : List Rule) (s : Str) (day : Int) (c : Str) : Prop := (applyV l s day = [] ∧ c = []) ∨ ∃ r ∈ l, fitsV s day r = true ∧ clen r = longV s day l ∧ c = r.Class
theorem find_id (hu : ∀ a ∈ l, ∀ b ∈ l, a.ID = b.ID → a = b) {r : Rule} (hr : r ∈ l) : ∃ k : Nat, ∃ hk : k < l.length, findV l r.ID = (k : Int) ∧ l[k] = r := by
  unfold findV idxOf
  cases hf : l.findIdx? (fun q => q.ID == r.ID) with
  | none =>
    rw [List.findIdx?_eq_none_iff] at hf
    have := hf r hr
    simp at this
  | some k =>
    obtain ⟨hk, h1, -⟩ := List.findIdx?_eq_some_iff_getElem.1 hf
    exact ⟨k, hk, rfl, hu _ (List.getElem_mem hk) _ hr (by simpa using h1)⟩
theorem mem_apply (hu : ∀ a ∈ l, ∀ b ∈ l, a.ID = b.ID → a = b) {r : Rule} (hr : r ∈ l) : ((applyV l s day).any fun x => r.ID == x) = true ↔ fitsV s day r = true ∧ clen r = longV s day l := by
  rw [List.any_eq_true]
  constructor
  · rintro ⟨x, hx, he⟩
    obtain ⟨q, hq, h1, h2, h3⟩ := mem_sel.1 hx
    have : q = r := hu q hq r hr (by rw [h3]; exact (by simpa using he : r.ID = x).symm)
    subst this
    exact ⟨h1, h2⟩
  · rintro ⟨h1, h2⟩
    exact ⟨r.ID, mem_sel.2 ⟨r, hr, h1, h2, rfl⟩, by simp⟩
theorem loop2 {c : Str} (hl : l.length ≤ 1000) (hs : ∀ r ∈ l, small r) (h100 : s.length ≤ 100) (hu : ∀ a ∈ l, ∀ b ∈ l, a.ID = b.ID → a = b) (hc : clsOk l s day c) : ∀ (n i fu : Nat), l.length - i = n → i ≤ l.length → n < fu →
    lRuleLongest_L2 l s day (applyV l s day) c fu (i : Int) = some true
  | n, i, 0, _, _, h => by omega
  | 0, i, fu + 1, h, hi, _ => by
    have : i = l.length := by omega
    subst this
    have := sel_len s day (longV s day l) l
    simp only [lRuleLongest_L2, List.length_map, decide_eq_false (show ¬ (l.length : Int) < (l.length : Int) by omega), cond_false]
    rw [decide_eq_true (show ((applyV l s day).length : Int) ≤ (l.length : Int) by unfold applyV; omega)]
  | n + 1, i, fu + 1, h, _, hf => by
    have hi : i < l.length := by omega
    have hm := List.getElem_mem hi
    have ih := loop2 (c := c) hl hs h100 hu hc n (i + 1) fu (by omega) (by omega) (by omega)
    have hal : (applyV l s day).length ≤ 9223372036854775807 := by have := sel_len s day (longV s day l) l; unfold applyV; omega
    have hmem := mem_apply (s := s) (day := day) hu hm
    simp only [lRuleLongest_L2, List.length_map, decide_eq_true (show (i : Int) < (l.length : Int) by omega), cond_true, ix_at hi, Option.bind_some, wrap_succ (n := l.length) (by omega) hi, pWithin_eq h100 (hs _ hm).1, slContainsI_eq hal]
    cases ha : (applyV l s day).any fun x => l[i].ID == x with
    | true =>
      obtain ⟨f1, f2⟩ := hmem.1 ha
      have hfit := f1
      unfold fitsV at hfit
      rw [Bool.and_eq_true, inV_iff] at hfit
      rw [decide_eq_true hfit.1.1, decide_eq_true hfit.1.2, hfit.2]
      exact ih
    | false =>
      simp only [cond_false]
      by_cases h1 : l[i].In.From ≤ day
      · rw [decide_eq_true h1, cond_true]
        by_cases h2 : day < l[i].In.Until
        · rw [decide_eq_true h2, cond_true]
          cases hw : withinF (codeV s) (codeV l[i].Class) with
          | false => exact ih
          | true =>
            rw [cond_true]
            have hq : fitsV s day l[i] = true := by unfold fitsV; rw [Bool.and_eq_true, inV_iff]; exact ⟨⟨h1, h2⟩, hw⟩
            obtain ⟨x, y, e1, e2, e3, e4, e5, -, -, -⟩ := fits_spec hq
            have hge : clen l[i] ≤ longV s day l := long_ge s day l 0 _ hm hq
            have hne : clen l[i] ≠ longV s day l := fun he => by rw [hmem.2 ⟨hq, he⟩] at ha; cases ha
            rcases hc with ⟨h3, -⟩ | ⟨r, hr, g1, g2, rfl⟩
            · exfalso
              rcases long_att s day l 0 with h4 | ⟨r, hr, g1, g2⟩
              · have : longV s day l = 0 := h4
                omega
              · have : r.ID ∈ applyV l s day := mem_sel.2 ⟨r, hr, g1, g2, rfl⟩
                rw [h3] at this; simp at this
            · obtain ⟨x', z, k1, k2, k3, k4, k5, -, -, k6⟩ := fits_spec g1
              rw [show (r.Class == ([] : Str)) = false by simpa using k6, cond_false, pWithin_eq (hs _ hm).1 (hs _ hr).1, Option.bind_some, e2, k2]
              have : withinF (some y) (some z) = false := by
                show (decide (z.length ≤ y.length) && (castL y).take z.length == castL z) = false
                rw [decide_eq_false (by omega)]; rfl
              rw [this]
              exact ih
        · rw [decide_eq_false h2]; exact ih
      · rw [decide_eq_false h1]; exact ih
theorem loop1 {N : Nat} (hN : l.length < N) (hl : l.length ≤ 1000) (hs : ∀ r ∈ l, small r) (h100 : s.length ≤ 100) (hu : ∀ a ∈ l, ∀ b ∈ l, a.ID = b.ID → a = b) : ∀ (n i fu : Nat) (c : Str), (applyV l s day).length - i = n → i ≤ (applyV l s day).length → n < fu →
    (c = [] ∧ i = 0 ∨ ∃ r ∈ l, fitsV s day r = true ∧ clen r = longV s day l ∧ c = r.Class) → lRuleLongest_L1 l s day (applyV l s day) N fu c (i : Int) = some true
  | n, i, 0, _, _, _, h, _ => by omega
  | 0, i, fu + 1, c, h, hi, _, hc => by
    have hil : i = (applyV l s day).length := by omega
    simp only [lRuleLongest_L1, List.length_map, decide_eq_false (show ¬ (i : Int) < ((applyV l s day).length : Int) by omega), cond_false]
    refine loop2 hl hs h100 hu ?_ l.length 0 N (by omega) (by omega) hN
    rcases hc with ⟨h1, h2⟩ | h1
    · exact .inl ⟨List.eq_nil_of_length_eq_zero (by omega), h1⟩
    · exact .inr h1
  | n + 1, i, fu + 1, c, h, _, hf, hc => by
    have hi : i < (applyV l s day).length := by clear hc; omega
    have hal := sel_len s day (longV s day l) l
    obtain ⟨r, hr, g1, g2, g3⟩ := mem_sel.1 (List.getElem_mem hi)
    obtain ⟨k, hk, h1, h2⟩ := find_id hu hr
    have o1 : (applyV l s day).length - (i + 1) = n := by clear hc; omega
    have o2 : i + 1 ≤ (applyV l s day).length := by clear hc; omega
    have o3 : n < fu := by clear hc; omega
    have ih := loop1 hN hl hs h100 hu n (i + 1) fu r.Class o1 o2 o3 (.inr ⟨r, hr, g1, g2, rfl⟩)
    simp only [lRuleLongest_L1, List.length_map, decide_eq_true (show (i : Int) < ((applyV l s day).length : Int) by clear hc; omega), cond_true, ix_at hi, Option.bind_some]
    rw [wrap_succ (n := (applyV l s day).length) (by unfold applyV at hi ⊢; omega) hi]
    have g3' : (applyV l s day)[i] = r.ID := g3.symm
    rw [g3', qFind_eq (by clear hc; omega), Option.bind_some, h1, decide_eq_false (by clear hc; omega), cond_false, decide_eq_false (by clear hc; omega), cond_false, ix_at hk, h2]
    simp only [Option.bind_some]
    rcases hc with ⟨hc, -⟩ | ⟨q, hq, k1, k2, rfl⟩
    · rw [hc]; exact ih
    · have hcl : r.Class = q.Class := sel_class g1 k1 (by omega)
      obtain ⟨x, y, e1, e2, e3, e4, e5, -, -, e6⟩ := fits_spec k1
      rw [show (q.Class == ([] : Str)) = false by simpa using e6, hcl, beq_self_eq_true]
      rw [hcl] at ih
      exact ih
end
end Go.Proofs.YtjoacimgcepjdaaGreatDoor
namespace Go.Proofs.YtjoacimgcepjdaaGreatDoor.ruleLongest
open Go Go.Abs
theorem law (l : List Rule) (s : Str) (day : Int) (hl : l.length ≤ 9223372036854775807) (hb : ∀ r ∈ l, r.Class.length ≤ 4000000000 ∧ r.Trigger.length ≤ 4000000000) : lRuleLongest_S l s day = some true := by
  simp only [lRuleLongest_S, lRuleLongest_F, awake_true, Option.bind_some, Bool.not_true, cond_false, xFew_eq hl, qCheck_eqB hl hb]
  cases hf : few l with
  | false => rfl
  | true =>
    obtain ⟨h1, h2⟩ := few_spec hf
    rw [Bool.not_true, cond_false]
    by_cases hc : (checkV l).2 = 0
    · rw [show ((checkV l).2 != 0) = false by simpa using hc, cond_false]
      by_cases hs : s.length ≤ 100
      · rw [decide_eq_false (show ¬ (s.length : Int) > 100 by omega), cond_false, qApply_eq (by omega) h2 hs, Option.bind_some]
        have := sel_len s day (longV s day l) l
        exact loop1 (by omega) (by omega) h2 hs (check_ids hc) (applyV l s day).length 0 (l.length + 1) [] (by omega) (by omega) (by unfold applyV; omega) (.inl ⟨rfl, rfl⟩)
      · rw [decide_eq_true (show (s.length : Int) > 100 by omega), cond_true]
    · rw [show ((checkV l).2 != 0) = true by simpa using hc]; rfl
end Go.Proofs.YtjoacimgcepjdaaGreatDoor.ruleLongest
