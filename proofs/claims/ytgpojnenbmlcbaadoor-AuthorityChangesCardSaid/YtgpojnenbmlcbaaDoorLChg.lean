/- The plain law of archivumlaw23.AuthorityChanges: the reference's Rename and End are the same functions. -/
import Derived.Test.YtgpojnenbmlcbaaDoorLChange
import Derived.Test.YtgpojnenbmlcbaaDoorLSame
import Derived.Test.YtgpojnenbmlcbaaDoorGF
namespace Go.Proofs.YtgpojnenbmlcbaaDoor
open Go Go.Abs

theorem rindex_eq {l : List Aut} (h : l.length ≤ 9223372036854775807) (id : Int) : rindex_S l id = some (idxOf (fun a => a.ID == id) l) := by
  have h1 := loop_scanP (rindex_L1 l id) l (fun i x => bif x.ID == id then some (i : Int) else none) (-1) h (fun fu i hi => by
      have h0 : decide ((i : Int) < (l.length : Int)) = true := decide_eq_true (by omega)
      simp only [rindex_L1, List.length_map, ix_at hi, Option.bind_some, h0, cond_true, wrap_succ h hi]
      cases l[i].ID == id <;> rfl)
    (fun fu => by
      have h0 : decide ((l.length : Int) < (l.length : Int)) = false := decide_eq_false (by omega)
      simp only [rindex_L1, List.length_map, h0, cond_false]) l.length 0 (l.length + 1) (by omega) (by omega) (by omega)
  show rindex_L1 l id (l.length + 1) 0 = _
  rw [show (0 : Int) = ((0 : Nat) : Int) from rfl, h1, List.drop_zero, scanP_find]
  unfold idxOf
  cases l.findIdx? (fun a => a.ID == id) <;> simp
theorem rRename_eq {l : List Aut} (h : okAuts l) (hf : few l = true) (id day : Int) (text : Str) : rRename_S l id day text = some (renameF l id day text) := by
  simp only [rRename_S, rRename_F, rbasic_eq h hf, Option.bind_some, renameF, rIsName_eq, rindex_eq h.1, rCopy_eq hf]
  cases ha : asksF l day != 0 with
  | true => rfl
  | false =>
    have hr := (asks_right (by simpa using ha)).1
    simp only [cond_false]
    cases nameOk text with
    | false => rfl
    | true =>
      simp only [Bool.not_true, cond_false]
      cases hq : findA l id with
      | none => rw [decide_eq_true (idx_find.1.2 hq)]; rfl
      | some a =>
        obtain ⟨k, hk, rfl, hi, _⟩ := find_at hq
        obtain ⟨g1, g2, _, _⟩ := names_good (right_names hr (List.getElem_mem hk))
        obtain ⟨e1, e2⟩ := last_ix g2 (by omega)
        rw [hi, decide_eq_false (show ¬ (k : Int) < 0 by omega)]
        have e3 : decide ((l[k].Names.length : Int) ≥ 16) = decide (l[k].Names.length ≥ 16) := by rw [decide_eq_decide]; omega
        have e4 : decide ((l[k].Names.set (l[k].Names.length - 1) (cutN (lastN l[k]) day)).length + 1 ≤ 4294967296) = true := decide_eq_true (by simp; omega)
        simp only [cond_false, ix_at hk, Option.bind_some, rOn_eq, List.length_map, e1, e2, e3, Int.toNat_natCast, List.length_singleton]
        cases onSpan l[k].In day with
        | false => rfl
        | true => cases decide ((lastN l[k]).In.From ≥ day) with
          | true => rfl
          | false => cases decide (l[k].Names.length ≥ 16) with
            | true => rfl
            | false =>
              simp only [Bool.not_true, cond_false]
              unfold cutN at e4
              rw [e4]; rfl
theorem rEnd2 {l : List Aut} {id : Int} {k : Nat} (hk : k < l.length) (hn : l[k].Next.length ≤ 9223372036854775807) (K : Bool → Int → Option (List Aut × Int)) : ∀ (n m fu : Nat) (b : Bool), l[k].Next.length - m = n → m ≤ l[k].Next.length → n < fu →
    rEnd_L2 l id (k : Int) K fu b (m : Int) = K (b || (l[k].Next.drop m).any fun x => id == x) (IntKind.i64.wrap ((k : Int) + 1))
  | n, m, 0, b, _, _, h => by omega
  | 0, m, fu + 1, b, h, hm, _ => by
    have : m = l[k].Next.length := by omega
    subst this
    have h0 : decide ((l[k].Next.length : Int) < (l[k].Next.length : Int)) = false := decide_eq_false (by omega)
    simp only [rEnd_L2, ix_at hk, Option.bind_some, List.length_map, h0, cond_false, List.drop_length, List.any_nil, Bool.or_false]
  | n + 1, m, fu + 1, b, h, hm, hf => by
    have hi : m < l[k].Next.length := by omega
    have h0 : decide ((m : Int) < (l[k].Next.length : Int)) = true := decide_eq_true (by omega)
    have ih := fun b => rEnd2 (id := id) hk hn K n (m + 1) fu b
    simp only [rEnd_L2, ix_at hk, Option.bind_some, List.length_map, h0, cond_true, ix_at hi, wrap_succ hn hi]
    rw [List.drop_eq_getElem_cons hi, List.any_cons]
    cases b with
    | true => rw [cond_true, ih true (by omega) (by omega) (by omega)]; simp
    | false =>
      rw [cond_false, ih _ (by omega) (by omega) (by omega), Bool.false_or]
      have : (l[k].Next[m] == id) = (id == l[k].Next[m]) := BEq.comm
      rw [this]
theorem rEnd1 {l : List Aut} (h : okAuts l) (hf : few l = true) (id day y4 : Int) : ∀ (n k fu : Nat) (b : Bool), l.length - k = n → k ≤ l.length → n < fu →
    rEnd_L1 l id day y4 1000 fu b (k : Int) = rEnd_L1 l id day y4 1000 1 (b || (l.drop k).any fun a => a.Next.any fun x => id == x) (l.length : Int)
  | n, k, 0, b, _, _, h => by omega
  | 0, k, fu + 1, b, hn, hk, _ => by
    have : k = l.length := by omega
    subst this
    have h0 : decide ((l.length : Int) < (l.length : Int)) = false := decide_eq_false (by omega)
    simp only [rEnd_L1, List.length_map, h0, cond_false, List.drop_length, List.any_nil, Bool.or_false]
  | n + 1, k, fu + 1, b, hn, hk, hfu => by
    have hi : k < l.length := by omega
    have h0 : decide ((k : Int) < (l.length : Int)) = true := decide_eq_true (by omega)
    obtain ⟨_, f2, _⟩ := fewOf_names (few_mem hf (List.getElem_mem hi))
    rw [rEnd_L1, List.length_map, h0, cond_true, show (0 : Int) = ((0 : Nat) : Int) from rfl, rEnd2 hi (by omega) _ l[k].Next.length 0 1000 b (by omega) (by omega) (by omega), wrap_succ h.1 hi, List.drop_zero,
      rEnd1 h hf id day y4 n (k + 1) fu _ (by omega) (by omega) (by omega), List.drop_eq_getElem_cons hi, List.any_cons, Bool.or_assoc]
theorem rEnd_eq {l : List Aut} (h : okAuts l) (hf : few l = true) (id : Int) {day : Int} (_ : okI day) : rEnd_S l id day = some (endF l id day) := by
  have hl1 := fun y4 b => rEnd1 h hf id day y4 l.length 0 1000 b (by omega) (by omega) (by have := few_len hf; omega)
  have h0 : decide ((l.length : Int) < (l.length : Int)) = false := decide_eq_false (by omega)
  simp only [rEnd_S, rEnd_F, rbasic_eq h hf, Option.bind_some, endF, rindex_eq h.1]
  cases ha : asksF l day != 0 with
  | true => rfl
  | false =>
    obtain ⟨hr, hd0, hd1⟩ := asks_right (l := l) (day := day) (by simpa using ha)
    simp only [cond_false]
    cases hq : findA l id with
    | none => rw [decide_eq_true (idx_find.1.2 hq)]; rfl
    | some a =>
      obtain ⟨k, hk, rfl, hi, _⟩ := find_at hq
      obtain ⟨g1, g2, _, _⟩ := names_good (right_names hr (List.getElem_mem hk))
      obtain ⟨e1, e2⟩ := last_ix g2 (by omega)
      have e3 : decide ((l[k].Next.length : Int) > 0) = decide (l[k].Next.length > 0) := by rw [decide_eq_decide]; omega
      have e4 : IntKind.i64.wrap (day - 1) = day - 1 := wrap_id (by unfold okI; omega)
      rw [hi, decide_eq_false (show ¬ (k : Int) < 0 by omega)]
      simp only [cond_false, ix_at hk, Option.bind_some, rOn_eq, List.length_map, e3, e4, Int.toNat_natCast]
      cases day == 0 with
      | true => rfl
      | false => cases onSpan l[k].In (day - 1) with
        | false => rfl
        | true =>
          have hz := hl1 (k : Int) (decide (l[k].Next.length > 0))
          rw [List.drop_zero] at hz
          simp only [Bool.not_true, cond_false]
          rw [show ((0 : Nat) : Int) = 0 from rfl] at hz
          rw [hz]
          unfold follows
          simp only [rEnd_L1, List.length_map, h0, cond_false, ix_at hk, Option.bind_some, e1, e2, rCopy_eq hf, Int.toNat_natCast]
          cases decide (l[k].Next.length > 0) || l.any (fun b => b.Next.any fun x => id == x) with
          | true => rfl
          | false => cases decide ((lastN l[k]).In.From ≥ day) <;> rfl
theorem small_set {l : List Aut} (hf : few l = true) {k : Nat} {a : Aut} (h1 : a.Names.length ≤ 900) (h2 : a.Next.length ≤ 900) : ∀ x ∈ l.set k a, x.Names.length ≤ 900 ∧ x.Next.length ≤ 900 := fun x hx => by
  rcases List.mem_or_eq_of_mem_set hx with hx | rfl
  · obtain ⟨q1, q2, _⟩ := fewOf_names (few_mem hf hx); omega
  · exact ⟨h1, h2⟩
theorem nil_small : ([] : List Aut).length ≤ 900 ∧ ∀ x ∈ ([] : List Aut), x.Names.length ≤ 900 ∧ x.Next.length ≤ 900 := ⟨by simp, by simp⟩
theorem rename_small {l : List Aut} (hf : few l = true) (id day : Int) (text : Str) : (renameF l id day text).1.length ≤ 900 ∧ ∀ x ∈ (renameF l id day text).1, x.Names.length ≤ 900 ∧ x.Next.length ≤ 900 := by
  have hl := few_len hf
  unfold renameF
  cases asksF l day != 0 <;> simp only [cond_true, cond_false] <;> first | exact nil_small | skip
  cases nameOk text <;> simp only [Bool.not_true, Bool.not_false, cond_true, cond_false] <;> first | exact nil_small | skip
  cases hq : findA l id with
  | none => exact nil_small
  | some a =>
    obtain ⟨q1, q2, _⟩ := fewOf_names (few_mem hf (List.mem_of_find?_eq_some hq))
    simp only
    cases onSpan a.In day <;> simp only [Bool.not_true, Bool.not_false, cond_true, cond_false] <;> first | exact nil_small | skip
    cases decide ((lastN a).In.From ≥ day) <;> simp only [cond_true, cond_false] <;> first | exact nil_small | skip
    cases decide (a.Names.length ≥ 16) <;> simp only [cond_true, cond_false] <;> first | exact nil_small | skip
    refine ⟨by rw [List.length_set]; omega, small_set hf ?_ ?_⟩
    · simp [renamed]; omega
    · show a.Next.length ≤ 900; omega
theorem end_small {l : List Aut} (hf : few l = true) (id day : Int) : (endF l id day).1.length ≤ 900 ∧ ∀ x ∈ (endF l id day).1, x.Names.length ≤ 900 ∧ x.Next.length ≤ 900 := by
  have hl := few_len hf
  unfold endF
  cases asksF l day != 0 <;> simp only [cond_true, cond_false] <;> first | exact nil_small | skip
  cases hq : findA l id with
  | none => exact nil_small
  | some a =>
    obtain ⟨q1, q2, _⟩ := fewOf_names (few_mem hf (List.mem_of_find?_eq_some hq))
    simp only
    cases day == 0 <;> simp only [cond_true, cond_false] <;> first | exact nil_small | skip
    cases onSpan a.In (day - 1) <;> simp only [Bool.not_true, Bool.not_false, cond_true, cond_false] <;> first | exact nil_small | skip
    cases follows l id a <;> simp only [cond_true, cond_false] <;> first | exact nil_small | skip
    cases decide ((lastN a).In.From ≥ day) <;> simp only [cond_true, cond_false] <;> first | exact nil_small | skip
    refine ⟨by rw [List.length_set]; omega, small_set hf ?_ ?_⟩
    · simp [ended]; omega
    · show a.Next.length ≤ 900; omega
theorem authorityChanges.law (l : List Aut) (id day : Int) (text : Str) (hl : okAuts l) (_ : okI id) (hd : okI day) (_ : okS text) : lAuthorityChanges_S l id day text = some true := by
  simp only [lAuthorityChanges_S, lAuthorityChanges_F, awake_true, Option.bind_some, Bool.not_true, cond_false, rFew_eq hl]
  cases hf : few l with
  | false => rfl
  | true =>
    simp only [Bool.not_true, cond_false]
    cases decide ((text.length : Int) > 100) with
    | true => rfl
    | false =>
      simp only [cond_false, rCopy_eq hf, Option.bind_some, pRename_eq hl hf, rRename_eq hl hf, pEnd_eq hl hf id hd, rEnd_eq hl hf id hd, rSame_refl (rename_small hf id day text).1 (rename_small hf id day text).2, rSame_refl (end_small hf id day).1 (end_small hf id day).2, beq_self_eq_true, cond_true]
end Go.Proofs.YtgpojnenbmlcbaaDoor
