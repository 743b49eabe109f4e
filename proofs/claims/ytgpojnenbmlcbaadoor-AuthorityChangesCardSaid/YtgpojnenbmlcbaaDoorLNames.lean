/- The plain law of archivumlaw23.AuthorityNames. -/
import Derived.Test.YtgpojnenbmlcbaaDoorLName3
namespace Go.Proofs.YtgpojnenbmlcbaaDoor
open Go Go.Abs

def hasName (text : Str) (day : Int) (a : Aut) : Bool := match onF a day with
  | some x => x.Text == text
  | none => false
def namedL (text : Str) (day : Int) (l : List Aut) : List Int := (l.filter (hasName text day)).map (·.ID)
theorem namedL_t {text : Str} {day : Int} {a : Aut} {r : List Aut} (h : hasName text day a = true) : namedL text day (a :: r) = [a.ID] ++ namedL text day r := by
  unfold namedL; rw [List.filter_cons_of_pos h]; rfl
theorem namedL_f {text : Str} {day : Int} {a : Aut} {r : List Aut} (h : hasName text day a = false) : namedL text day (a :: r) = namedL text day r := by
  unfold namedL; rw [List.filter_cons_of_neg (by simp [h])]
theorem named_loop {l : List Aut} (hl : l.length ≤ 65) (text : Str) (day : Int) (L : Nat → List Int → Int → Option (List Int × Int))
    (he : ∀ fu out, L (fu + 1) out (l.length : Int) = some (out, 0))
    (hs : ∀ (fu : Nat) (out : List Int) (i : Nat) (hi : i < l.length), out.length ≤ i → L (fu + 1) out (i : Int) = bif hasName text day l[i] then L fu (out ++ [l[i].ID]) ((i + 1 : Nat) : Int) else L fu out ((i + 1 : Nat) : Int)) :
    ∀ (n i fu : Nat) (out : List Int), l.length - i = n → i ≤ l.length → n < fu → out.length ≤ i → L fu out (i : Int) = some (out ++ namedL text day (l.drop i), 0)
  | n, i, 0, _, _, _, h, _ => by omega
  | 0, i, fu + 1, out, hn, hi, _, _ => by
    have : i = l.length := by omega
    subst this
    rw [he, List.drop_length]; simp [namedL]
  | n + 1, i, fu + 1, out, hn, _, hf, ho => by
    have hi : i < l.length := by omega
    rw [hs fu out i hi ho, List.drop_eq_getElem_cons hi]
    cases hh : hasName text day l[i] with
    | true =>
      rw [cond_true, named_loop hl text day L he hs n (i + 1) fu _ (by omega) (by omega) (by omega) (by simp; omega), namedL_t hh, List.append_assoc]
    | false =>
      rw [cond_false, named_loop hl text day L he hs n (i + 1) fu _ (by omega) (by omega) (by omega) (by omega), namedL_f hh]
def namedF (l : List Aut) (text : Str) (day : Int) : List Int × Int := bif asksF l day != 0 then ([], asksF l day) else (namedL text day l, 0)
theorem pNamed_eq {l : List Aut} (h : okAuts l) (hf : few l = true) (text : Str) (day : Int) : pNamed_S l text day = some (namedF l text day) := by
  have hl := few_len hf
  simp only [pNamed_S, pNamed_F, pasks_eq h hf, Option.bind_some, namedF]
  cases ha : asksF l day != 0 with
  | true => rfl
  | false =>
    have hr := (asks_right (by simpa using ha)).1
    simp only [cond_false]
    have := named_loop hl text day (pNamed_L1 l text day)
      (fun fu out => by
        have h0 : decide ((l.length : Int) < (l.length : Int)) = false := decide_eq_false (by omega)
        simp only [pNamed_L1, List.length_map, h0, cond_false])
      (fun fu out i hi ho => by
        have h0 : decide ((i : Int) < (l.length : Int)) = true := decide_eq_true (by omega)
        have e3 : ∀ a : Int, decide (out.length + ([a] : List Int).length ≤ 4294967296) = true := fun a => decide_eq_true (by simp; omega)
        have hp := (on_text (day := day) (right_names hr (List.getElem_mem hi))).1
        simp only [pNamed_L1, List.length_map, ix_at hi, Option.bind_some, h0, cond_true, wrap_succ h.1 hi, hp, hasName, e3]
        cases onF l[i] day with
        | none => rfl
        | some x => rfl)
      l.length 0 (l.length + 1) [] (by omega) (by omega) (by omega) (by simp)
    simpa using this
theorem rNamed_eq {l : List Aut} (h : okAuts l) (hf : few l = true) (text : Str) (day : Int) : rNamed_S l text day = some (namedF l text day) := by
  have hl := few_len hf
  simp only [rNamed_S, rNamed_F, rbasic_eq h hf, Option.bind_some, namedF]
  cases ha : asksF l day != 0 with
  | true => rfl
  | false =>
    have hr := (asks_right (by simpa using ha)).1
    simp only [cond_false]
    have := named_loop hl text day (rNamed_L1 l text day)
      (fun fu out => by
        have h0 : decide ((l.length : Int) < (l.length : Int)) = false := decide_eq_false (by omega)
        simp only [rNamed_L1, List.length_map, h0, cond_false])
      (fun fu out i hi ho => by
        have h0 : decide ((i : Int) < (l.length : Int)) = true := decide_eq_true (by omega)
        have e3 : ∀ a : Int, decide (out.length + ([a] : List Int).length ≤ 4294967296) = true := fun a => decide_eq_true (by simp; omega)
        obtain ⟨_, hp, hz⟩ := on_text (day := day) (right_names hr (List.getElem_mem hi))
        simp only [rNamed_L1, List.length_map, ix_at hi, Option.bind_some, h0, cond_true, wrap_succ h.1 hi, hp, hasName, e3]
        cases ho : onF l[i] day with
        | none => rfl
        | some x => simp only [hz x ho, Bool.not_false, cond_true])
      l.length 0 (l.length + 1) [] (by omega) (by omega) (by omega) (by simp)
    simpa using this
theorem slEqual_refl {l : List Int} (h : l.length ≤ 9223372036854775807) : slEqual_S l l = some true := by
  have h1 := loop_scanP (slEqual_L1 l l) l (fun _ _ => none) true h (fun fu i hi => by
      have h0 : decide ((i : Int) < (l.length : Int)) = true := decide_eq_true (by omega)
      simp only [slEqual_L1, List.length_map, ix_at hi, Option.bind_some, h0, cond_true, wrap_succ h hi, bne_self_eq_false, cond_false])
    (fun fu => by
      have h0 : decide ((l.length : Int) < (l.length : Int)) = false := decide_eq_false (by omega)
      simp only [slEqual_L1, List.length_map, h0, cond_false]) l.length 0 (l.length + 1) (by omega) (by omega) (by omega)
  have hn : ∀ (l : List Int) (i : Nat), scanP (fun _ _ => none) true i l = true := by
    intro l
    induction l with
    | nil => intro i; rfl
    | cons x r ih => intro i; exact ih (i + 1)
  rw [hn] at h1
  simp only [slEqual_S, slEqual_F, bne_self_eq_false, cond_false]
  exact h1
theorem namedL_len (text : Str) (day : Int) (l : List Aut) : (namedL text day l).length ≤ l.length := by
  unfold namedL
  rw [List.length_map]
  exact List.length_filter_le _ _
theorem authorityNames.law (l : List Aut) (id day : Int) (text : Str) (hl : okAuts l) (_ : okI id) (_ : okI day) (_ : okS text) : lAuthorityNames_S l id day text = some true := by
  simp only [lAuthorityNames_S, lAuthorityNames_F, awake_true, Option.bind_some, Bool.not_true, cond_false, rFew_eq hl]
  cases hf : few l with
  | false => rfl
  | true =>
    have hlen := few_len hf
    simp only [Bool.not_true, cond_false]
    cases decide ((text.length : Int) > 100) with
    | true => rfl
    | false =>
      have hq : (namedF l text day).1.length ≤ 9223372036854775807 := by
        unfold namedF
        cases asksF l day != 0 with
        | true => simp
        | false => have := namedL_len text day l; simp only [cond_false]; omega
      simp only [cond_false, rCopy_eq hf, Option.bind_some, pName_eq hl hf, rName_eq hl hf, pNamed_eq hl hf, rNamed_eq hl hf, slEqual_refl hq, beq_self_eq_true, cond_true]
end Go.Proofs.YtgpojnenbmlcbaaDoor
