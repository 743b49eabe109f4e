/- What is wrong with a list of offices: both ways of the program come to it; what a list without a fault is like. -/
import Derived.Test.YtmcolhhmlpicaaaDoorLOff
namespace Go.Proofs.YtmcolhhmlpicaaaDoor
open Go Go.Abs

def spanOk (x : Span) : Bool := decide (0 ≤ x.From) && (decide (x.From < x.Until) && decide (x.Until ≤ 1048576))
theorem pvalid_eq (x : Span) : pvalid_S x = some (spanOk x) := by
  simp only [pvalid_S, pvalid_F, spanOk]
  by_cases h1 : 0 ≤ x.From <;> by_cases h2 : x.From < x.Until <;> simp [h1, h2]
theorem rGoodSpan_eq (x : Span) : rGoodSpan_S x = some (spanOk x) := by
  simp only [rGoodSpan_S, rGoodSpan_F, spanOk]
  by_cases h1 : 0 ≤ x.From <;> by_cases h2 : x.From < x.Until <;> simp [h1, h2]
def onSpan (x : Span) (day : Int) : Bool := decide (x.From ≤ day) && decide (day < x.Until)
theorem pin_eq (o : Off) (day : Int) : pin_S o day = some (onSpan o.In day) := by
  simp only [pin_S, pin_F, onSpan]
  by_cases h1 : o.In.From ≤ day <;> simp [h1]
theorem rIn_eq (x : Span) (day : Int) : rIn_S x day = some (onSpan x day) := by
  simp only [rIn_S, rIn_F, onSpan]
  by_cases h1 : x.From ≤ day <;> simp [h1]

def dupB (n : List Int) (i : Nat) (x : Int) : Option Int := bif (n.take i).any (fun y => x == y) then some 6 else none
def nextF (l : List Off) (o : Off) : Int := scanP (dupB o.Next) (bif o.Next.any (fun id => (findO l id).isNone) then 7 else bif o.Next.any (fun id => (found l id).In.From != o.In.Until) then 10 else 0) 0 o.Next
theorem slc_take {α : Type} {l : List α} {i : Nat} (h : i ≤ l.length) : slc l 0 (i : Int) = some (l.take i) := by
  have : decide ((0 : Int) ≤ 0 ∧ (0 : Int) ≤ (i : Int) ∧ (i : Int) ≤ (l.length : Int)) = true := decide_eq_true (by omega)
  simp only [slc, this, cond_true]
  simp
theorem pnext_eq {l : List Off} (h : l.length ≤ 9223372036854775807) {o : Off} (ho : o.Next.length ≤ 9223372036854775807) : pnext_S (imap l) o = some (nextF l o) := by
  have h3 : slContainsFuncI_S o.Next (fun z0 => pnext_1_S z0 (imap l) o) = some (o.Next.any (fun id => (found l id).In.From != o.In.Until)) :=
    slContainsFuncI_eq ho fun x _ => by simp only [pnext_1_S, pnext_1_F, mlk_eq h, Option.bind_some]
  have h2 := loop_scanP (pnext_L2 (imap l) o) o.Next (fun _ x => bif (findO l x).isNone then some 7 else none) (bif o.Next.any (fun id => (found l id).In.From != o.In.Until) then 10 else 0) ho (fun fu i hi => by
      have h0 : decide ((i : Int) < (o.Next.length : Int)) = true := decide_eq_true (by omega)
      simp only [pnext_L2, List.length_map, ix_at hi, Option.bind_some, h0, cond_true, wrap_succ ho hi, mlook_eq h]
      cases hq : findO l o.Next[i] <;> simp)
    (fun fu => by
      have h0 : decide ((o.Next.length : Int) < (o.Next.length : Int)) = false := decide_eq_false (by omega)
      simp only [pnext_L2, List.length_map, h0, cond_false, h3, Option.bind_some]
      cases o.Next.any (fun id => (found l id).In.From != o.In.Until) <;> rfl) o.Next.length 0 (o.Next.length + 1) (by omega) (by omega) (by omega)
  rw [List.drop_zero, scanP_any (fun x => (findO l x).isNone)] at h2
  have h1 := loop_scanP (pnext_L1 (imap l) o (o.Next.length + 1)) o.Next (dupB o.Next) (bif o.Next.any (fun id => (findO l id).isNone) then 7 else bif o.Next.any (fun id => (found l id).In.From != o.In.Until) then 10 else 0) ho (fun fu i hi => by
      have h0 : decide ((i : Int) < (o.Next.length : Int)) = true := decide_eq_true (by omega)
      have hc := slContains_eq (l := o.Next.take i) (by simp; omega) o.Next[i]
      simp only [pnext_L1, List.length_map, ix_at hi, Option.bind_some, h0, cond_true, wrap_succ ho hi, slc_take (Nat.le_of_lt hi), hc, dupB]
      cases (o.Next.take i).any (fun x => o.Next[i] == x) <;> rfl)
    (fun fu => by
      have h0 : decide ((o.Next.length : Int) < (o.Next.length : Int)) = false := decide_eq_false (by omega)
      simp only [pnext_L1, List.length_map, h0, cond_false]
      exact h2) o.Next.length 0 (o.Next.length + 1) (by omega) (by omega) (by omega)
  show pnext_L1 (imap l) o (o.Next.length + 1) (o.Next.length + 1) 0 = _
  rw [show (0 : Int) = ((0 : Nat) : Int) from rfl, h1, List.drop_zero]
  rfl
theorem any_take_succ {l : List Int} {j : Nat} (h : j < l.length) (p : Int → Bool) : (l.take (j + 1)).any p = ((l.take j).any p || p l[j]) := by
  rw [List.take_succ_eq_append_getElem h, List.any_append]; simp
theorem succ2_loop {x : Off} {i : Nat} (hi : i < x.Next.length) (hx : x.Next.length ≤ 9223372036854775807) (k : Int → Option Int) : ∀ (n j fu : Nat), i - j = n → j ≤ i → n < fu → (x.Next.take j).any (fun y => x.Next[i] == y) = false →
    rsuccessors_L2 x (i : Int) k fu (j : Int) = bif (x.Next.take i).any (fun y => x.Next[i] == y) then some 6 else k ((i + 1 : Nat) : Int)
  | n, j, 0, _, _, h, _ => by omega
  | 0, j, fu + 1, hn, hj, _, ha => by
    have : j = i := by omega
    subst this
    have h0 : decide ((j : Int) < (j : Int)) = false := decide_eq_false (by omega)
    simp only [rsuccessors_L2, h0, cond_false, ha, wrap_succ hx hi]
  | n + 1, j, fu + 1, hn, hj, hf, ha => by
    have hji : j < i := by omega
    have hjl : j < x.Next.length := by omega
    have h0 : decide ((j : Int) < (i : Int)) = true := decide_eq_true (by omega)
    simp only [rsuccessors_L2, h0, cond_true, ix_at hjl, ix_at hi, Option.bind_some, wrap_succ hx hjl]
    cases hq : x.Next[j] == x.Next[i] with
    | true =>
      have : (x.Next.take i).any (fun y => x.Next[i] == y) = true := by
        rw [List.any_eq_true]
        refine ⟨x.Next[j], ?_, by rw [BEq.comm]; exact hq⟩
        rw [List.mem_take_iff_getElem]
        exact ⟨j, by omega, rfl⟩
      rw [this]; rfl
    | false =>
      simp only [cond_false]
      refine succ2_loop hi hx k n (j + 1) fu (by omega) (by omega) (by omega) ?_
      rw [any_take_succ hjl, ha, Bool.false_or, BEq.comm]; exact hq
theorem rsucc_eq {l : List Off} (h : l.length ≤ 9223372036854775807) {o : Off} (ho : o.Next.length ≤ 9223372036854775807) : rsuccessors_S l o = some (nextF l o) := by
  have h3 : (o.Next.all fun id => (findO l id).isSome) = true → rsuccessors_L4 l o (o.Next.length + 1) 0 = some (bif o.Next.any (fun id => (found l id).In.From != o.In.Until) then 10 else 0) := fun hall => by
    rw [List.all_eq_true] at hall
    have h3 := loop_scanP (rsuccessors_L4 l o) o.Next (fun _ id => bif (found l id).In.From != o.In.Until then some 10 else none) 0 ho (fun fu i hi => by
        have h0 : decide ((i : Int) < (o.Next.length : Int)) = true := decide_eq_true (by omega)
        simp only [rsuccessors_L4, List.length_map, ix_at hi, Option.bind_some, h0, cond_true, wrap_succ ho hi, rFind_eq h, found_ix (hall _ (List.getElem_mem hi))]
        cases (found l o.Next[i]).In.From != o.In.Until <;> rfl)
      (fun fu => by
        have h0 : decide ((o.Next.length : Int) < (o.Next.length : Int)) = false := decide_eq_false (by omega)
        simp only [rsuccessors_L4, List.length_map, h0, cond_false]) o.Next.length 0 (o.Next.length + 1) (by omega) (by omega) (by omega)
    rw [show (0 : Int) = ((0 : Nat) : Int) from rfl, h3, List.drop_zero, scanP_any (fun id => (found l id).In.From != o.In.Until)]
    rfl
  have hd : ∀ (i : Int), decide (i < 0) = true ∨ decide (i < 0) = false := fun i => by cases decide (i < 0) <;> simp
  have h2 : rsuccessors_L3 l o (o.Next.length + 1) (o.Next.length + 1) 0 = some (bif o.Next.any (fun id => (findO l id).isNone) then 7 else bif o.Next.any (fun id => (found l id).In.From != o.In.Until) then 10 else 0) := by
    cases hany : o.Next.any (fun id => (findO l id).isNone) with
    | false =>
      have hall : (o.Next.all fun id => (findO l id).isSome) = true := by
        rw [List.all_eq_true]; rw [List.any_eq_false] at hany
        intro x hx; have := hany x hx; cases hq : findO l x <;> simp_all
      have hq := loop_scanP (rsuccessors_L3 l o (o.Next.length + 1)) o.Next (fun _ id => bif (findO l id).isNone then some 7 else none) (bif o.Next.any (fun id => (found l id).In.From != o.In.Until) then 10 else 0) ho (fun fu i hi => by
          have h0 : decide ((i : Int) < (o.Next.length : Int)) = true := decide_eq_true (by omega)
          simp only [rsuccessors_L3, List.length_map, ix_at hi, Option.bind_some, h0, cond_true, wrap_succ ho hi, rFind_eq h]
          cases hf : findO l o.Next[i] with
          | none => have := (at_find (l := l)).1.2 hf; simp [this]
          | some a => have := ((at_find (l := l)).2 a hf).2.1; have e : decide (at_ l o.Next[i] < 0) = false := decide_eq_false (by omega); simp [e])
        (fun fu => by
          have h0 : decide ((o.Next.length : Int) < (o.Next.length : Int)) = false := decide_eq_false (by omega)
          simp only [rsuccessors_L3, List.length_map, h0, cond_false]
          exact h3 hall) o.Next.length 0 (o.Next.length + 1) (by omega) (by omega) (by omega)
      rw [show (0 : Int) = ((0 : Nat) : Int) from rfl, hq, List.drop_zero, scanP_any (fun id => (findO l id).isNone), hany]
      rfl
    | true =>
      -- the loop leaves before its end
      have key : ∀ (n i fu : Nat), o.Next.length - i = n → i ≤ o.Next.length → n < fu → (o.Next.drop i).any (fun id => (findO l id).isNone) = true → rsuccessors_L3 l o (o.Next.length + 1) fu (i : Int) = some 7 := by
        intro n
        induction n with
        | zero => intro i fu hn hi _ ha; have : i = o.Next.length := by omega
                  subst this; simp at ha
        | succ n ih =>
          intro i fu hn hi hf ha
          have hi' : i < o.Next.length := by omega
          obtain ⟨fu, rfl⟩ : ∃ g, fu = g + 1 := ⟨fu - 1, by omega⟩
          have h0 : decide ((i : Int) < (o.Next.length : Int)) = true := decide_eq_true (by omega)
          simp only [rsuccessors_L3, List.length_map, ix_at hi', Option.bind_some, h0, cond_true, wrap_succ ho hi', rFind_eq h]
          cases hq : findO l o.Next[i] with
          | none => have := (at_find (l := l)).1.2 hq; simp [this]
          | some a =>
            have := ((at_find (l := l)).2 a hq).2.1
            have e : decide (at_ l o.Next[i] < 0) = false := decide_eq_false (by omega)
            simp only [e, cond_false]
            refine ih (i + 1) fu (by omega) (by omega) (by omega) ?_
            rw [List.drop_eq_getElem_cons hi', List.any_cons, hq] at ha
            simpa using ha
      exact key o.Next.length 0 (o.Next.length + 1) (by omega) (by omega) (by omega) (by simpa using hany)
  have h1 := loop_scanP (rsuccessors_L1 l o (o.Next.length + 1)) o.Next (dupB o.Next) (bif o.Next.any (fun id => (findO l id).isNone) then 7 else bif o.Next.any (fun id => (found l id).In.From != o.In.Until) then 10 else 0) ho (fun fu i hi => by
      have h0 : decide ((i : Int) < (o.Next.length : Int)) = true := decide_eq_true (by omega)
      have := succ2_loop hi ho (fun i1 => rsuccessors_L1 l o (o.Next.length + 1) fu i1) i 0 (o.Next.length + 1) (by omega) (by omega) (by omega) (by simp)
      simp only [rsuccessors_L1, List.length_map, h0, cond_true]
      rw [show (0 : Int) = ((0 : Nat) : Int) from rfl, this, dupB]
      cases (o.Next.take i).any (fun y => o.Next[i] == y) <;> rfl)
    (fun fu => by
      have h0 : decide ((o.Next.length : Int) < (o.Next.length : Int)) = false := decide_eq_false (by omega)
      simp only [rsuccessors_L1, List.length_map, h0, cond_false]
      exact h2) o.Next.length 0 (o.Next.length + 1) (by omega) (by omega) (by omega)
  show rsuccessors_L1 l o (o.Next.length + 1) (o.Next.length + 1) 0 = _
  rw [show (0 : Int) = ((0 : Nat) : Int) from rfl, h1, List.drop_zero]
  rfl

def idOk (x : Off) : Bool := decide (1 ≤ x.ID) && (decide (x.ID ≤ 1073741824) && (spanOk x.In && decide (x.Next.length ≤ 8)))
def prevB (l : List Off) (i : Nat) (x : Off) : Bool := decide (0 < i) && (match l[i - 1]? with | some y => decide (x.ID ≤ y.ID) | none => false)
def faultF (l : List Off) (i : Nat) (x : Off) : Int := bif !(idOk x) then 2 else bif !(nameOk x.Name) then 4 else bif prevB l i x then 5 else nextF l x
def faultB (l : List Off) (i : Nat) (x : Off) : Option (Int × Int) := bif faultF l i x != 0 then some ((i : Int), faultF l i x) else none
def checkF (l : List Off) : Int × Int := bif decide (32 < l.length) then (-1, 8) else scanP (faultB l) (-1, 0) 0 l
theorem prevB_at {l : List Off} {i : Nat} (hi : i < l.length) (h0 : 0 < i) : prevB l i l[i] = decide (l[i].ID ≤ (l[i - 1]'(by omega)).ID) := by
  simp [prevB, h0, List.getElem?_eq_getElem (show i - 1 < l.length by omega)]
theorem rfault_eq {l : List Off} (h : okOffs l) {i : Nat} (hi : i < l.length) : rfault_S l (i : Int) = some (faultF l i l[i]) := by
  obtain ⟨q1, q2, q3, q4⟩ := h.2 _ (List.getElem_mem hi)
  simp only [rfault_S, rfault_F, ix_at hi, Option.bind_some, rGoodSpan_eq, rName_eq, rsucc_eq h.1 q4.1, List.length_map, faultF, idOk]
  by_cases h1 : 1 ≤ l[i].ID
  · have e1 : decide (l[i].ID < 1) = false := decide_eq_false (by omega)
    by_cases h2 : l[i].ID ≤ 1073741824
    · have e2 : decide (l[i].ID > 1073741824) = false := decide_eq_false (by omega)
      cases hs : spanOk l[i].In with
      | false => simp [e1, e2]
      | true =>
        by_cases h3 : l[i].Next.length ≤ 8
        · have e3 : decide ((l[i].Next.length : Int) > 8) = false := decide_eq_false (by omega)
          cases hn : nameOk l[i].Name with
          | false => simp [e1, e2, e3, h1, h2, h3]
          | true =>
            by_cases h0 : 0 < i
            · have e0 : decide ((i : Int) > 0) = true := decide_eq_true (by omega)
              simp only [e1, e2, e3, h1, h2, h3, cond_false, cond_true, Bool.not_true, decide_true, Bool.true_and, e0, wrap_pred h.1 hi, ix_pred hi h0, Option.bind_some, prevB_at hi h0]
              cases decide (l[i].ID ≤ l[i - 1].ID) <;> rfl
            · have e0 : decide ((i : Int) > 0) = false := decide_eq_false (by omega)
              have ep : prevB l i l[i] = false := by simp [prevB, h0]
              simp only [e1, e2, e3, h1, h2, h3, e0, ep, cond_false, Bool.not_true, decide_true, Bool.true_and]
        · have e3 : decide ((l[i].Next.length : Int) > 8) = true := decide_eq_true (by omega)
          simp [e1, e2, e3, h3]
    · have e2 : decide (l[i].ID > 1073741824) = true := decide_eq_true (by omega)
      simp [e1, e2, h2]
  · have e1 : decide (l[i].ID < 1) = true := decide_eq_true (by omega)
    simp [e1, h1]
theorem rCheck_eq {l : List Off} (h : okOffs l) : rCheck_S l = some (checkF l) := by
  simp only [rCheck_S, rCheck_F, List.length_map, checkF]
  by_cases hl : 32 < l.length
  · have e : decide ((l.length : Int) > 32) = true := decide_eq_true (by omega)
    simp [e, hl]
  · have e : decide ((l.length : Int) > 32) = false := decide_eq_false (by omega)
    have h1 := loop_scanP (rCheck_L1 l) l (faultB l) (-1, 0) h.1 (fun fu i hi => by
        have h0 : decide ((i : Int) < (l.length : Int)) = true := decide_eq_true (by omega)
        simp only [rCheck_L1, List.length_map, rfault_eq h hi, Option.bind_some, h0, cond_true, wrap_succ h.1 hi, faultB]
        cases faultF l i l[i] != 0 <;> rfl)
      (fun fu => by
        have h0 : decide ((l.length : Int) < (l.length : Int)) = false := decide_eq_false (by omega)
        simp only [rCheck_L1, List.length_map, h0, cond_false]) l.length 0 (l.length + 1) (by omega) (by omega) (by omega)
    simp only [e, hl, cond_false, decide_false]
    rw [show (0 : Int) = ((0 : Nat) : Int) from rfl, h1, List.drop_zero]; rfl
theorem pCheck_eq {l : List Off} (h : okOffs l) : pCheck_S l = some (checkF l) := by
  simp only [pCheck_S, pCheck_F, List.length_map, checkF]
  by_cases hl : 32 < l.length
  · have e : decide ((l.length : Int) > 32) = true := decide_eq_true (by omega)
    simp [e, hl]
  · have e : decide ((l.length : Int) > 32) = false := decide_eq_false (by omega)
    have h1 := loop_scanP (pCheck_L1 l (imap l)) l (faultB l) (-1, 0) h.1 (fun fu i hi => by
        have h0 : decide ((i : Int) < (l.length : Int)) = true := decide_eq_true (by omega)
        obtain ⟨q1, q2, q3, q4⟩ := h.2 _ (List.getElem_mem hi)
        simp only [pCheck_L1, List.length_map, ix_at hi, Option.bind_some, h0, cond_true, wrap_succ h.1 hi, pvalid_eq, pName_eq q2, pnext_eq h.1 q4.1, faultB, faultF, idOk]
        by_cases h1 : 1 ≤ l[i].ID
        · have e1 : decide (l[i].ID < 1) = false := decide_eq_false (by omega)
          by_cases h2 : l[i].ID ≤ 1073741824
          · have e2 : decide (l[i].ID > 1073741824) = false := decide_eq_false (by omega)
            cases hs : spanOk l[i].In with
            | false => simp [e1, e2]
            | true =>
              by_cases h3 : l[i].Next.length ≤ 8
              · have e3 : decide ((l[i].Next.length : Int) > 8) = false := decide_eq_false (by omega)
                cases hn : nameOk l[i].Name with
                | false => simp [e1, e2, e3, h1, h2, h3]
                | true =>
                  by_cases h4 : 0 < i
                  · have e0 : decide ((i : Int) > 0) = true := decide_eq_true (by omega)
                    simp only [e1, e2, e3, h1, h2, h3, cond_false, cond_true, Bool.not_true, decide_true, Bool.true_and, e0, wrap_pred h.1 hi, ix_pred hi h4, Option.bind_some, prevB_at hi h4]
                    have : decide (l[i - 1].ID ≥ l[i].ID) = decide (l[i].ID ≤ l[i - 1].ID) := rfl
                    rw [this]
                    cases decide (l[i].ID ≤ l[i - 1].ID) with
                    | true => rfl
                    | false => simp only [cond_false]; cases nextF l l[i] != 0 <;> rfl
                  · have e0 : decide ((i : Int) > 0) = false := decide_eq_false (by omega)
                    have ep : prevB l i l[i] = false := by simp [prevB, h4]
                    simp only [e1, e2, e3, h1, h2, h3, cond_false, Bool.not_true, decide_true, Bool.true_and, e0, ep]
                    cases nextF l l[i] != 0 <;> rfl
              · have e3 : decide ((l[i].Next.length : Int) > 8) = true := decide_eq_true (by omega)
                simp [e1, e2, e3, h3]
          · have e2 : decide (l[i].ID > 1073741824) = true := decide_eq_true (by omega)
            simp [e1, e2, h2]
        · have e1 : decide (l[i].ID < 1) = true := decide_eq_true (by omega)
          simp [e1, h1])
      (fun fu => by
        have h0 : decide ((l.length : Int) < (l.length : Int)) = false := decide_eq_false (by omega)
        simp only [pCheck_L1, List.length_map, h0, cond_false]) l.length 0 (l.length + 1) (by omega) (by omega) (by omega)
    simp only [e, hl, cond_false, decide_false, (pindex_eq h.1).1, Option.bind_some]
    rw [show (0 : Int) = ((0 : Nat) : Int) from rfl, h1, List.drop_zero]; rfl

/-- A list without a fault. -/
structure Good (l : List Off) : Prop where
  len : l.length ≤ 32
  id : ∀ x ∈ l, 1 ≤ x.ID ∧ x.ID ≤ 1073741824
  span : ∀ x ∈ l, 0 ≤ x.In.From ∧ x.In.From < x.In.Until ∧ x.In.Until ≤ 1048576
  few : ∀ x ∈ l, x.Next.length ≤ 8
  inc : l.Pairwise fun a b => a.ID < b.ID
  next : ∀ x ∈ l, x.Next.Nodup ∧ ∀ id ∈ x.Next, ∃ y, findO l id = some y ∧ y.In.From = x.In.Until
theorem pairwise_of_next {α : Type} (R : α → α → Prop) (ht : ∀ a b c, R a b → R b c → R a c) : ∀ l : List α, (∀ (i : Nat) (h : i + 1 < l.length), R l[i] l[i + 1]) → l.Pairwise R
  | [], _ => .nil
  | [a], _ => by simp
  | a :: b :: r, h => by
    have ih := pairwise_of_next R ht (b :: r) fun i hi => h (i + 1) (by simp at hi ⊢; omega)
    refine List.pairwise_cons.2 ⟨fun x hx => ?_, ih⟩
    have hab : R a b := h 0 (by simp)
    rcases List.mem_cons.1 hx with rfl | hx
    · exact hab
    · exact ht a b x hab ((List.pairwise_cons.1 ih).1 x hx)
theorem scanP_none {α β : Type} (b : Nat → α → Option β) (d : β) (hd : ∀ i x, b i x ≠ some d) : ∀ (l : List α) (i : Nat), scanP b d i l = d → ∀ (k : Nat) (x : α), l[k]? = some x → b (i + k) x = none
  | [], _, _, k, x, hk => by simp at hk
  | y :: r, i, h, k, x, hk => by
    simp only [scanP] at h
    cases hq : b i y with
    | some z => rw [hq] at h; simp at h; exact absurd (hq.trans (congrArg some h)) (hd i y)
    | none =>
      rw [hq] at h
      simp at h
      cases k with
      | zero => simp at hk; subst hk; exact hq
      | succ k =>
        have := scanP_none b d hd r (i + 1) h k x (by simpa using hk)
        rw [show i + (k + 1) = i + 1 + k by omega]; exact this
theorem scanP_snd {α : Type} (b : Nat → α → Option (Int × Int)) (hb : ∀ i x y, b i x = some y → y.2 ≠ 0) (d : Int × Int) : ∀ (l : List α) (i : Nat), (scanP b d i l).2 = 0 → scanP b d i l = d
  | [], _, _ => rfl
  | y :: r, i, h => by
    simp only [scanP] at h ⊢
    cases hq : b i y with
    | some z => rw [hq] at h; exact absurd h (hb i y z hq)
    | none => rw [hq] at h; exact scanP_snd b hb d r (i + 1) h
theorem faultB_ne {l : List Off} {i : Nat} {x : Off} {y : Int × Int} (h : faultB l i x = some y) : y.2 ≠ 0 := by
  unfold faultB at h
  cases hq : faultF l i x != 0 with
  | false => rw [hq] at h; cases h
  | true => rw [hq] at h; simp at h; subst h; simpa using hq
theorem nodup_of_dup {n : List Int} (h : ∀ (i : Nat) (hi : i < n.length), (n.take i).any (fun y => n[i] == y) = false) : n.Nodup := by
  rw [List.nodup_iff_pairwise_ne, List.pairwise_iff_getElem]
  intro i j hi hj hij e
  have := h j hj
  rw [List.any_eq_false] at this
  exact this n[i] (by rw [List.mem_take_iff_getElem]; exact ⟨i, by omega, rfl⟩) (by simp [e])
theorem nextF_zero {l : List Off} {o : Off} (h : nextF l o = 0) : o.Next.Nodup ∧ ∀ id ∈ o.Next, ∃ y, findO l id = some y ∧ y.In.From = o.In.Until := by
  unfold nextF at h
  have key : ∀ (r : List Int) (i : Nat) (d : Int), scanP (dupB o.Next) d i r = 0 → (∀ (k : Nat) (x : Int), r[k]? = some x → dupB o.Next (i + k) x = none) ∧ d = 0 := by
    intro r
    induction r with
    | nil => intro i d h; exact ⟨fun k x hk => by simp at hk, h⟩
    | cons y r ih =>
      intro i d h
      simp only [scanP] at h
      cases hq : dupB o.Next i y with
      | some z =>
        rw [hq] at h
        simp at h
        subst h
        unfold dupB at hq
        cases hz : (o.Next.take i).any (fun y' => y == y') with
        | true => rw [hz] at hq; simp at hq
        | false => rw [hz] at hq; simp at hq
      | none =>
        rw [hq] at h
        obtain ⟨h1, h2⟩ := ih (i + 1) d h
        refine ⟨fun k x hk => ?_, h2⟩
        cases k with
        | zero => simp at hk; subst hk; exact hq
        | succ k => rw [show i + (k + 1) = i + 1 + k by omega]; exact h1 k x (by simpa using hk)
  obtain ⟨h1, h2⟩ := key o.Next 0 _ h
  constructor
  · refine nodup_of_dup fun i hi => ?_
    have := h1 i o.Next[i] (List.getElem?_eq_getElem hi)
    unfold dupB at this
    rw [Nat.zero_add] at this
    cases hz : (o.Next.take i).any (fun y => o.Next[i] == y) with
    | true => rw [hz] at this; simp at this
    | false => rfl
  · intro id hid
    cases ha : o.Next.any (fun id => (findO l id).isNone) with
    | true => rw [ha] at h2; simp at h2
    | false =>
      rw [ha] at h2
      simp only [cond_false] at h2
      cases hb : o.Next.any (fun id => (found l id).In.From != o.In.Until) with
      | true => rw [hb] at h2; simp at h2
      | false =>
        rw [List.any_eq_false] at ha hb
        have e1 := ha id hid
        have e2 := hb id hid
        cases hf : findO l id with
        | none => rw [hf] at e1; simp at e1
        | some y => rw [found, hf] at e2; simp at e2; exact ⟨y, rfl, e2⟩
theorem faultF_zero {l : List Off} {i : Nat} {x : Off} (h : faultF l i x = 0) : idOk x = true ∧ nameOk x.Name = true ∧ prevB l i x = false ∧ nextF l x = 0 := by
  unfold faultF at h
  cases h1 : idOk x with
  | false => rw [h1] at h; simp at h
  | true =>
    cases h2 : nameOk x.Name with
    | false => rw [h1, h2] at h; simp at h
    | true =>
      cases h3 : prevB l i x with
      | true => rw [h1, h2, h3] at h; simp at h
      | false => rw [h1, h2, h3] at h; exact ⟨rfl, rfl, rfl, by simpa using h⟩
theorem good_of {l : List Off} (h : (checkF l).2 = 0) : Good l := by
  unfold checkF at h
  by_cases hl : 32 < l.length
  · simp [hl] at h
  · have e : decide (32 < l.length) = false := decide_eq_false hl
    rw [e] at h
    simp only [cond_false] at h
    have h1 := scanP_snd (faultB l) (fun i x y hy => faultB_ne hy) (-1, 0) l 0 h
    have h2 := scanP_none (faultB l) (-1, 0) (fun i x hx => faultB_ne hx rfl) l 0 h1
    have h3 : ∀ (i : Nat) (hi : i < l.length), idOk l[i] = true ∧ nameOk l[i].Name = true ∧ prevB l i l[i] = false ∧ nextF l l[i] = 0 := fun i hi => by
      have := h2 i l[i] (List.getElem?_eq_getElem hi)
      rw [Nat.zero_add] at this
      unfold faultB at this
      cases hq : faultF l i l[i] != 0 with
      | true => rw [hq] at this; simp at this
      | false => exact faultF_zero (by simpa using hq)
    have h4 : ∀ x ∈ l, idOk x = true ∧ nextF l x = 0 := fun x hx => by
      obtain ⟨i, hi, rfl⟩ := List.getElem_of_mem hx
      exact ⟨(h3 i hi).1, (h3 i hi).2.2.2⟩
    have h5 : ∀ x ∈ l, (1 ≤ x.ID ∧ x.ID ≤ 1073741824) ∧ (0 ≤ x.In.From ∧ x.In.From < x.In.Until ∧ x.In.Until ≤ 1048576) ∧ x.Next.length ≤ 8 := fun x hx => by
      have := (h4 x hx).1
      simp only [idOk, spanOk, Bool.and_eq_true, decide_eq_true_eq] at this
      exact ⟨⟨this.1, this.2.1⟩, this.2.2.1, this.2.2.2⟩
    refine ⟨by omega, fun x hx => (h5 x hx).1, fun x hx => (h5 x hx).2.1, fun x hx => (h5 x hx).2.2, ?_, fun x hx => nextF_zero (h4 x hx).2⟩
    refine pairwise_of_next (fun a b : Off => a.ID < b.ID) (fun a b c h1 h2 => Int.lt_trans h1 h2) l fun i hi => ?_
    have := (h3 (i + 1) hi).2.2.1
    rw [prevB_at hi (by omega)] at this
    have := of_decide_eq_false this
    simpa using this
/-- In a list without a fault an office is found by its ID. -/
theorem Good.find {l : List Off} (h : Good l) {x : Off} (hx : x ∈ l) : findO l x.ID = some x := by
  unfold findO
  rw [List.find?_eq_some_iff_getElem]
  obtain ⟨i, hi, rfl⟩ := List.getElem_of_mem hx
  refine ⟨by simp, i, hi, rfl, fun j hj => ?_⟩
  have := List.pairwise_iff_getElem.1 h.inc j i (by omega) hi hj
  simp; omega
theorem find_mem {l : List Off} {id : Int} {x : Off} (h : findO l id = some x) : x ∈ l ∧ x.ID = id := by
  unfold findO at h
  exact ⟨List.mem_of_find?_eq_some h, by have := List.find?_some h; simpa using this⟩
end Go.Proofs.YtmcolhhmlpicaaaDoor
