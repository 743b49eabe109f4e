/- RuleEnds, RuleLongest. -/
import Derived.Test.YtjoacimgcepjdaaGreatDoorLLater
set_option linter.unusedSimpArgs false
set_option linter.unusedVariables false
namespace Go.Proofs.YtjoacimgcepjdaaGreatDoor
open Go Go.Abs
theorem slContainsI_eq {l : List Int} {v : Int} (h : l.length ≤ 9223372036854775807) : slContainsI_S l v = some (l.any fun x => v == x) := by
  have h1 := loop_scanP (slIndexI_L1 l v) l (fun i x => bif (v == x) then some (i : Int) else none) (-1) h (fun fu i hi => by
      have h0 : decide ((i : Int) < (l.length : Int)) = true := decide_eq_true (by omega)
      simp only [slIndexI_L1, List.length_map, ix_at hi, Option.bind_some, h0, cond_true, wrap_succ h hi]
      cases v == l[i] <;> rfl)
    (fun fu => by
      have h0 : decide ((l.length : Int) < (l.length : Int)) = false := decide_eq_false (by omega)
      simp only [slIndexI_L1, List.length_map, h0, cond_false]) l.length 0 (l.length + 1) (by omega) (by omega) (by omega)
  have h2 : slIndexI_S l v = some (idxOf (fun x => v == x) l) := by
    show slIndexI_L1 l v (l.length + 1) 0 = _
    rw [show (0 : Int) = ((0 : Nat) : Int) from rfl, h1, List.drop_zero, scanP_find]
    unfold idxOf
    cases l.findIdx? _ <;> simp
  simp only [slContainsI_S, slContainsI_F, h2, Option.bind_some, idxOf_nn]
theorem ids_lt : ∀ {l : List Rule} {p : Option Int} {i : Nat}, (checkL p i l).2 = 0 → (∀ x, p = some x → ∀ r ∈ l, x < r.ID) ∧ l.Pairwise fun a b => a.ID < b.ID
  | [], _, _, _ => ⟨fun _ _ r hr => by simp at hr, .nil⟩
  | a :: l, p, i, h => by
    rw [checkL] at h
    by_cases ha : ruleErr p a = 0
    · rw [ha, show ((0 : Int) != 0) = false from rfl, cond_false] at h
      obtain ⟨h1, h2⟩ := ids_lt h
      have ho := (err_zero.1 ha).2.1
      refine ⟨fun x hx r hr => ?_, List.pairwise_cons.2 ⟨fun r hr => h1 _ rfl r hr, h2⟩⟩
      subst hx
      have hxa : x < a.ID := by
        have := of_decide_eq_false (show decide (x ≥ a.ID) = false from ho)
        omega
      rcases List.mem_cons.1 hr with rfl | hr
      · exact hxa
      · have := h1 _ rfl r hr; omega
    · rw [show (ruleErr p a != 0) = true by simpa using ha, cond_true] at h
      exact absurd h ha
theorem ids_uniq : ∀ {l : List Rule}, (l.Pairwise fun a b => a.ID < b.ID) → ∀ a ∈ l, ∀ b ∈ l, a.ID = b.ID → a = b
  | [], _, a, ha, _, _, _ => by simp at ha
  | x :: l, h, a, ha, b, hb, he => by
    obtain ⟨h1, h2⟩ := List.pairwise_cons.1 h
    rcases List.mem_cons.1 ha with ea | ka
    · rcases List.mem_cons.1 hb with eb | kb
      · rw [ea, eb]
      · have := h1 b kb; rw [ea] at he; omega
    · rcases List.mem_cons.1 hb with eb | kb
      · have := h1 a ka; rw [eb] at he; omega
      · exact ids_uniq h2 a ka b kb he
theorem check_ids {l : List Rule} (h : (checkV l).2 = 0) : ∀ a ∈ l, ∀ b ∈ l, a.ID = b.ID → a = b := by
  obtain ⟨h1, -⟩ := checkV_ok h
  unfold checkV at h
  rw [if_neg (by omega)] at h
  exact ids_uniq (ids_lt h).2
theorem checkL_set {q : Rule} : ∀ {l : List Rule} {p : Option Int} {i k : Nat} (hk : k < l.length), (checkL p i l).2 = 0 → (∀ o, ruleErr o l[k] = 0 → ruleErr o q = 0) → q.ID = l[k].ID → (checkL p i (l.set k q)).2 = 0
  | [], _, _, _, hk, _, _, _ => by simp at hk
  | a :: l, p, i, 0, _, h, he, hid => by
    rw [checkL] at h
    by_cases ha : ruleErr p a = 0
    · rw [ha, show ((0 : Int) != 0) = false from rfl, cond_false] at h
      rw [List.set_cons_zero, checkL, he p ha, show ((0 : Int) != 0) = false from rfl, cond_false, hid]
      exact h
    · rw [show (ruleErr p a != 0) = true by simpa using ha, cond_true] at h
      exact absurd h ha
  | a :: l, p, i, k + 1, hk, h, he, hid => by
    rw [checkL] at h
    by_cases ha : ruleErr p a = 0
    · rw [ha, show ((0 : Int) != 0) = false from rfl, cond_false] at h
      rw [List.set_cons_succ, checkL, ha, show ((0 : Int) != 0) = false from rfl, cond_false]
      exact checkL_set (by simpa using hk) h he hid
    · rw [show (ruleErr p a != 0) = true by simpa using ha, cond_true] at h
      exact absurd h ha
theorem checkV_set {l : List Rule} {k : Nat} {q : Rule} (hk : k < l.length) (h : (checkV l).2 = 0) (he : ∀ o, ruleErr o l[k] = 0 → ruleErr o q = 0) (hid : q.ID = l[k].ID) : (checkV (l.set k q)).2 = 0 := by
  obtain ⟨h1, -⟩ := checkV_ok h
  unfold checkV at h ⊢
  rw [if_neg (by omega)] at h
  rw [if_neg (by simp; omega)]
  exact checkL_set hk h he hid
theorem foldl_set {α β : Type} {f : β → α → β} {q : α} : ∀ {l : List α} {k : Nat} (hk : k < l.length) (m : β), (∀ m, f m q = f m l[k]) → (l.set k q).foldl f m = l.foldl f m
  | [], _, hk, _, _ => by simp at hk
  | a :: l, 0, _, m, h => by rw [List.set_cons_zero, List.foldl_cons, List.foldl_cons, h m]; rfl
  | a :: l, k + 1, hk, m, h => by rw [List.set_cons_succ, List.foldl_cons, List.foldl_cons]; exact foldl_set (by simpa using hk) _ h
theorem sel_set {s : Str} {day m : Int} {q : Rule} : ∀ {l : List Rule} {k : Nat} (hk : k < l.length), fitsV s day q = fitsV s day l[k] → clen q = clen l[k] → q.ID = l[k].ID → selV s day m (l.set k q) = selV s day m l
  | [], _, hk, _, _, _ => by simp at hk
  | a :: l, 0, _, h1, h2, h3 => by
    simp only [List.getElem_cons_zero] at h1 h2 h3
    simp only [selV, List.set_cons_zero, List.filter_cons, h1, h2]
    split
    · rw [List.map_cons, List.map_cons, h3]
    · rfl
  | a :: l, k + 1, hk, h1, h2, h3 => by
    have := sel_set (s := s) (day := day) (m := m) (q := q) (l := l) (k := k) (by simpa using hk) h1 h2 h3
    simp only [selV] at this
    simp only [selV, List.set_cons_succ, List.filter_cons]
    split
    · rw [List.map_cons, List.map_cons, this]
    · exact this
theorem apply_set {s : Str} {day : Int} {q : Rule} {l : List Rule} {k : Nat} (hk : k < l.length) (h1 : fitsV s day q = fitsV s day l[k]) (h2 : clen q = clen l[k]) (h3 : q.ID = l[k].ID) : applyV (l.set k q) s day = applyV l s day := by
  unfold applyV
  have : longV s day (l.set k q) = longV s day l := foldl_set hk 0 fun m => by rw [h1, h2]
  rw [this, sel_set hk h1 h2 h3]
theorem mem_sel {s : Str} {day m : Int} {l : List Rule} {x : Int} : x ∈ selV s day m l ↔ ∃ r ∈ l, fitsV s day r = true ∧ clen r = m ∧ r.ID = x := by
  unfold selV
  simp only [List.mem_map, List.mem_filter, Bool.and_eq_true, beq_iff_eq]
  constructor
  · rintro ⟨r, ⟨h1, h2, h3⟩, h4⟩; exact ⟨r, h1, h2, h3, h4⟩
  · rintro ⟨r, h1, h2, h3, h4⟩; exact ⟨r, ⟨h1, h2, h3⟩, h4⟩
theorem validV_iff {s : Span} : validV s = true ↔ 0 ≤ s.From ∧ s.From < s.Until ∧ s.Until ≤ 1048576 := by
  unfold validV
  by_cases h1 : 0 ≤ s.From
  · by_cases h2 : s.From < s.Until
    · rw [decide_eq_true h1, decide_eq_true h2]; simp [h1, h2]
    · rw [decide_eq_true h1, decide_eq_false h2]; simp [h2]
  · rw [decide_eq_false h1]; simp [h1]
theorem inV_iff {s : Span} {d : Int} : inV s d = true ↔ s.From ≤ d ∧ d < s.Until := by
  unfold inV
  by_cases h1 : s.From ≤ d
  · rw [decide_eq_true h1]; simp [h1]
  · rw [decide_eq_false h1]; simp [h1]
theorem err_until {r : Rule} {d : Int} (h1 : r.In.From < d) (h2 : d ≤ r.In.Until) (o : Option Int) (h : ruleErr o r = 0) : ruleErr o (untilR r d) = 0 := by
  obtain ⟨e1, e2, e3⟩ := err_zero.1 h
  obtain ⟨f1, f2, f3, f4, f5, f6, f7⟩ := fault_zero.1 e1
  have := validV_iff.1 f7
  exact err_zero.2 ⟨fault_zero.2 ⟨f1, f2, f3, f4, f5, f6, validV_iff.2 ⟨this.1, h1, by show d ≤ _; omega⟩⟩, e2, e3⟩
end Go.Proofs.YtjoacimgcepjdaaGreatDoor
namespace Go.Proofs.YtjoacimgcepjdaaGreatDoor.ruleEnds
open Go Go.Abs
theorem law (l : List Rule) (id end_ : Int) (s : Str) (day : Int) (hl : okRules l) (_ : okI id) (_ : okI end_) (_ : okS s) (_ : okI day) : lRuleEnds_S l id end_ s day = some true := by
  simp only [lRuleEnds_S, lRuleEnds_F, awake_true, Option.bind_some, Bool.not_true, cond_false, xFew_eq hl.1]
  cases hf : few l with
  | false => rfl
  | true =>
    obtain ⟨h1, h2⟩ := few_spec hf
    rw [Bool.not_true, cond_false]
    by_cases hs : s.length ≤ 100
    · rw [decide_eq_false (show ¬ (s.length : Int) > 100 by omega), cond_false, qEnd_eq hl.1 h2, Option.bind_some]
      unfold endV
      by_cases hc : (checkV l).2 = 0
      · rw [if_neg (by simpa using hc)]
        cases hk : l.findIdx? (fun r => r.ID == id) with
        | none => rfl
        | some k =>
          obtain ⟨hkl, hid, -⟩ := List.findIdx?_eq_some_iff_getElem.1 hk
          simp only [List.getElem?_eq_getElem hkl]
          by_cases c1 : end_ ≤ l[k].In.From
          · rw [if_pos c1]; rfl
          · rw [if_neg c1]
            by_cases c2 : end_ > l[k].In.Until
            · rw [if_pos c2]; rfl
            · rw [if_neg c2]
              have hcs := checkV_set (q := untilR l[k] end_) hkl hc (fun o ho => err_until (by omega) (by omega) o ho) rfl
              have hsm : ∀ r ∈ l.set k (untilR l[k] end_), small r := fun r hr => by
                rcases List.mem_or_eq_of_mem_set hr with h | h
                · exact h2 r h
                · rw [h]; have := h2 l[k] (List.getElem_mem hkl); exact this
              have hlen : (l.set k (untilR l[k] end_)).length = l.length := List.length_set
              have hap : ∀ q : List Rule, q.length = l.length → (applyV q s day).length ≤ 1000 := fun q hq => by have := sel_len s day (longV s day q) q; unfold applyV; omega
              simp only [show ((0 : Int) != 0) = false from rfl, cond_false, List.length_map]
              rw [qCheck_eq (by omega) hsm, Option.bind_some, hcs, hlen, qApply_eq (by omega) h2 hs, Option.bind_some, qApply_eq (by omega) hsm hs, Option.bind_some]
              simp only [show ((0 : Int) != 0) = false from rfl, cond_false, show ((l.length : Int) != (l.length : Int)) = false by simp]
              by_cases hd : day < end_
              · rw [decide_eq_true hd, cond_true, slEqual_eq (hap l rfl), Option.bind_some]
                have : applyV (l.set k (untilR l[k] end_)) s day = applyV l s day := by
                  refine apply_set hkl ?_ rfl rfl
                  unfold fitsV
                  congr 1
                  rw [Bool.eq_iff_iff, inV_iff, inV_iff]
                  show l[k].In.From ≤ day ∧ day < end_ ↔ _
                  omega
                rw [this, beq_self_eq_true]
              · rw [decide_eq_false hd, cond_false, slContainsI_eq (by have := hap _ hlen; omega), Option.bind_some]
                have : ((applyV (l.set k (untilR l[k] end_)) s day).any fun x => id == x) = false := by
                  rw [List.any_eq_false]
                  intro x hx
                  simp only [beq_iff_eq]
                  rintro rfl
                  obtain ⟨r, hr, hfr, -, hrid⟩ := mem_sel.1 hx
                  have hq : untilR l[k] end_ ∈ l.set k (untilR l[k] end_) := List.mem_set hkl _
                  have : r = untilR l[k] end_ := check_ids hcs r hr _ hq (by rw [hrid]; exact (by simpa using hid : l[k].ID = id).symm)
                  subst this
                  unfold fitsV at hfr
                  rw [Bool.and_eq_true, inV_iff] at hfr
                  exact hd hfr.1.2
                rw [this]; rfl
      · rw [if_pos hc]; rfl
    · rw [decide_eq_true (show (s.length : Int) > 100 by omega), cond_true]
end Go.Proofs.YtjoacimgcepjdaaGreatDoor.ruleEnds
