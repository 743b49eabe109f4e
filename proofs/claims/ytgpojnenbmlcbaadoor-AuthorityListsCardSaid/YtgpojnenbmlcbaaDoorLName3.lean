/- The plain law of archivumlaw23.AuthorityNames. -/
import Derived.Test.YtgpojnenbmlcbaaDoorLOn
import Derived.Test.YtgpojnenbmlcbaaDoorAw
namespace Go.Proofs.YtgpojnenbmlcbaaDoor
open Go Go.Abs

theorem scanP_q {α β : Type} (Q : β → Prop) (b : Nat → α → Option β) (hb : ∀ j x y, b j x = some y → ¬ Q y) (done : β) : ∀ (l : List α) (i : Nat), Q (scanP b done i l) → Q done ∧ ∀ (j : Nat) (hj : j < l.length), b (i + j) l[j] = none
  | [], _, h => ⟨h, fun j hj => by simp at hj⟩
  | x :: r, i, h => by
    simp only [scanP] at h
    cases hx : b i x with
    | some y => rw [hx] at h; exact absurd h (hb i x y hx)
    | none =>
      rw [hx] at h
      obtain ⟨h1, h2⟩ := scanP_q Q b hb done r (i + 1) h
      refine ⟨h1, fun j hj => ?_⟩
      cases j with
      | zero => exact hx
      | succ j =>
        have := h2 j (by simpa using hj)
        rw [show i + (j + 1) = i + 1 + j by omega]
        exact this
theorem nameB_out {a : Aut} {i : Nat} {x : Nam} {y : Int} (h : nameB a i x = some y) : y ≠ 0 := by
  unfold nameB at h
  cases h1 : nameOk x.Text with
  | false => rw [h1] at h; simp at h; omega
  | true => cases h2 : spanOk x.In with
    | false => rw [h1, h2] at h; simp at h; omega
    | true => cases h3 : decide (x.In.From < a.In.From) with
      | true => rw [h1, h2, h3] at h; simp at h; omega
      | false => cases h4 : decide (x.In.Until > a.In.Until) with
        | true => rw [h1, h2, h3, h4] at h; simp at h; omega
        | false =>
          rw [h1, h2, h3, h4] at h
          simp only [Bool.not_true, cond_false] at h
          split at h
          · rename_i z _ _
            cases hz : decide (x.In.From < z.In.Until) with
            | true => rw [hz] at h; simp at h; omega
            | false => rw [hz] at h; simp at h
          · exact nomatch h
theorem nameB_none {a : Aut} {i : Nat} (hi : i < a.Names.length) (h : nameB a i a.Names[i] = none) : nameOk a.Names[i].Text = true ∧ spanOk a.Names[i].In = true ∧ a.In.From ≤ a.Names[i].In.From ∧ a.Names[i].In.Until ≤ a.In.Until ∧ ∀ h0 : 0 < i, (a.Names[i - 1]'(by omega)).In.Until ≤ a.Names[i].In.From := by
  unfold nameB at h
  cases h1 : nameOk a.Names[i].Text with
  | false => rw [h1] at h; simp at h
  | true => cases h2 : spanOk a.Names[i].In with
    | false => rw [h1, h2] at h; simp at h
    | true => cases h3 : decide (a.Names[i].In.From < a.In.From) with
      | true => rw [h1, h2, h3] at h; simp at h
      | false => cases h4 : decide (a.Names[i].In.Until > a.In.Until) with
        | true => rw [h1, h2, h3, h4] at h; simp at h
        | false =>
          rw [h1, h2, h3, h4] at h
          simp only [Bool.not_true, cond_false] at h
          have h3' := of_decide_eq_false h3
          have h4' := of_decide_eq_false h4
          refine ⟨rfl, rfl, by omega, by omega, fun h0 => ?_⟩
          have hi' : i - 1 < a.Names.length := by omega
          rw [List.getElem?_eq_getElem hi', decide_eq_true h0] at h
          simp only [] at h
          cases h5 : decide (a.Names[i].In.From < a.Names[i - 1].In.Until) with
          | true => rw [h5] at h; simp at h
          | false => have := of_decide_eq_false h5; omega
theorem names_good {a : Aut} (h : namesF a = 0) : a.Names.length ≤ 16 ∧ 0 < a.Names.length ∧ Sorted a.Names ∧ (∀ x ∈ a.Names, nameOk x.Text = true ∧ spanOk x.In = true ∧ a.In.From ≤ x.In.From ∧ x.In.Until ≤ a.In.Until) := by
  unfold namesF at h
  by_cases h0 : a.Names.length = 0
  · simp [h0] at h
  · by_cases h1 : a.Names.length > 16
    · simp [h0, h1] at h
    · simp only [h0, h1, decide_false, cond_false] at h
      obtain ⟨-, h2⟩ := scanP_q (fun y => y = 0) (nameB a) (fun j x y hy => nameB_out hy) 0 a.Names 0 h
      have h3 : ∀ (j : Nat) (hj : j < a.Names.length), nameB a j a.Names[j] = none := fun j hj => by simpa using h2 j hj
      have hsp : ∀ x ∈ a.Names, x.In.From < x.In.Until := fun x hx => by
        obtain ⟨k, hk, rfl⟩ := List.getElem_of_mem hx
        have := (nameB_none hk (h3 k hk)).2.1
        simp only [spanOk, Bool.and_eq_true, decide_eq_true_eq] at this
        exact this.2.1
      refine ⟨by omega, by omega, ⟨hsp, fun i j hj hij => ?_⟩, fun x hx => ?_⟩
      · induction j with
        | zero => omega
        | succ j ih =>
          have hstep := (nameB_none hj (h3 (j + 1) hj)).2.2.2.2 (by omega)
          have hstep' : a.Names[j].In.Until ≤ a.Names[j + 1].In.From := hstep
          by_cases hc : i = j
          · subst hc; exact hstep'
          · have h5 := ih (by omega) (by omega)
            have h6 := hsp _ (List.getElem_mem (show j < a.Names.length by omega))
            omega
      · obtain ⟨k, hk, rfl⟩ := List.getElem_of_mem hx
        have := nameB_none hk (h3 k hk)
        exact ⟨this.1, this.2.1, this.2.2.1, this.2.2.2.1⟩
theorem check_good {l : List Aut} (h : (checkF l).2 = 0) : l.length ≤ 64 ∧ (∀ (j : Nat) (hj : j < l.length), aloneF (prevOf l j) l[j] = 0) ∧ ∀ (j : Nat) (hj : j < l.length), nextF l l[j] = 0 := by
  unfold checkF at h
  by_cases h64 : l.length > 64
  · simp [h64] at h
  · simp only [h64, decide_false, cond_false] at h
    have hb : ∀ (g : Nat → Aut → Int) (j : Nat) (x : Aut) (y : Int × Int), faultB g j x = some y → ¬ y.2 = 0 := fun g j x y hy => by
      unfold faultB at hy
      cases hg : g j x != 0 with
      | false => rw [hg] at hy; exact nomatch hy
      | true =>
        rw [hg] at hy
        simp only [cond_true, Option.some.injEq] at hy
        subst hy
        simpa using hg
    have hz : ∀ (g : Nat → Aut → Int) (j : Nat) (x : Aut), faultB g j x = none → g j x = 0 := fun g j x hy => by
      unfold faultB at hy
      cases hg : g j x != 0 with
      | false => simpa using hg
      | true => rw [hg] at hy; exact nomatch hy
    obtain ⟨h1, h2⟩ := scanP_q (fun y : Int × Int => y.2 = 0) _ (hb _) _ l 0 h
    obtain ⟨_, h3⟩ := scanP_q (fun y : Int × Int => y.2 = 0) _ (hb _) _ l 0 h1
    exact ⟨by omega, fun j hj => by have := hz _ _ _ (h2 j hj); simpa using this, fun j hj => hz _ _ _ (h3 j hj)⟩
theorem alone_names {p : Option Aut} {a : Aut} (h : aloneF p a = 0) : namesF a = 0 := by
  have ht : tailF a = 0 → namesF a = 0 := fun h => by
    unfold tailF at h
    cases hn : namesF a != 0 with
    | false => simpa using hn
    | true => rw [hn] at h; exact h
  unfold aloneF at h
  cases hk : idKind a with
  | false => rw [hk] at h; simp at h
  | true =>
    rw [hk] at h
    simp only [cond_true] at h
    split at h
    · rename_i b
      cases hd : decide (a.ID ≤ b.ID) with
      | true => rw [hd] at h; simp at h
      | false => rw [hd] at h; exact ht h
    · exact ht h
theorem right_names {l : List Aut} (h : (checkF l).2 = 0) {a : Aut} (ha : a ∈ l) : namesF a = 0 := by
  obtain ⟨j, hj, rfl⟩ := List.getElem_of_mem ha
  exact alone_names ((check_good h).2.1 j hj)
def asksF (l : List Aut) (day : Int) : Int := bif (checkF l).2 != 0 then 1 else bif !(decide (0 ≤ day) && decide (day ≤ 1048575)) then 2 else 0
theorem pasks_eq {l : List Aut} (h : okAuts l) (hf : few l = true) (day : Int) : pasks_S l day = some (asksF l day) := by
  simp only [pasks_S, pasks_F, pCheck_eq h hf, Option.bind_some, pwithin_eq, asksF]
  cases ((checkF l).2 != 0) with
  | true => rfl
  | false => cases (decide (0 ≤ day) && decide (day ≤ 1048575)) <;> rfl
theorem rbasic_eq {l : List Aut} (h : okAuts l) (hf : few l = true) (day : Int) : rbasic_S l day = some (asksF l day) := by
  simp only [rbasic_S, rbasic_F, rRight_S, rRight_F, rCheck_eq h hf, Option.bind_some, asksF]
  rw [show ((checkF l).2 != 0) = !((checkF l).2 == 0) from rfl]
  cases ((checkF l).2 == 0) with
  | false => rfl
  | true =>
    simp only [Bool.not_true, cond_false]
    by_cases h1 : 0 ≤ day
    · have e1 : decide (day < 0) = false := decide_eq_false (by omega)
      by_cases h2 : day ≤ 1048575
      · have e2 : decide (day > 1048575) = false := decide_eq_false (by omega)
        simp [e1, e2, h1, h2]
      · have e2 : decide (day > 1048575) = true := decide_eq_true (by omega)
        simp [e1, e2, h2]
    · have e1 : decide (day < 0) = true := decide_eq_true (by omega)
      simp [e1, h1]
theorem asks_right {l : List Aut} {day : Int} (h : asksF l day = 0) : (checkF l).2 = 0 ∧ 0 ≤ day ∧ day ≤ 1048575 := by
  unfold asksF at h
  cases hc : (checkF l).2 != 0 with
  | true => rw [hc] at h; simp at h
  | false =>
    rw [hc] at h
    refine ⟨by simpa using hc, ?_⟩
    cases hd : (decide (0 ≤ day) && decide (day ≤ 1048575)) with
    | false => rw [hd] at h; simp at h
    | true => simpa using hd
theorem nameOk_ne {s : Str} (h : nameOk s = true) : (s == ([] : Str)) = false := by
  simp only [nameOk, Bool.and_eq_true, decide_eq_true_eq] at h
  cases s with
  | nil => simp at h
  | cons c r => rfl
theorem on_text {a : Aut} {day : Int} (h : namesF a = 0) : pon_S a day = some (match onF a day with | some x => (x.Text, true) | none => ([], false)) ∧ ron_S a day = some (match onF a day with | some x => x.Text | none => []) ∧ ∀ x, onF a day = some x → (x.Text == ([] : Str)) = false := by
  obtain ⟨h1, _, h2, h3⟩ := names_good h
  exact ⟨pon_eq h2 (by omega), ron_eq (by omega), fun x hx => nameOk_ne (h3 x (List.mem_of_find?_eq_some hx)).1⟩
def nameF (l : List Aut) (id day : Int) : Str × Int :=
  bif asksF l day != 0 then ([], asksF l day) else match findA l id with
    | none => ([], 7)
    | some a => bif !(onSpan a.In day) then ([], 11) else match onF a day with
      | none => ([], 9)
      | some x => (x.Text, 0)
theorem pName_eq {l : List Aut} (h : okAuts l) (hf : few l = true) (id day : Int) : pName_S l id day = some (nameF l id day) := by
  simp only [pName_S, pName_F, pasks_eq h hf, Option.bind_some, nameF, pindex_eq h.1]
  cases ha : asksF l day != 0 with
  | true => rfl
  | false =>
    have hr := (asks_right (by simpa using ha)).1
    simp only [cond_false]
    cases hq : findA l id with
    | none => rw [decide_eq_true (idx_find.1.2 hq)]; rfl
    | some a =>
      have hn : ¬ idxOf (fun a => a.ID == id) l < 0 := fun hc => by rw [idx_find.1.1 hc] at hq; exact nomatch hq
      have hm : a ∈ l := List.mem_of_find?_eq_some hq
      rw [decide_eq_false hn]
      simp only [cond_false, idx_find.2 a hq, Option.bind_some, pin_eq, (on_text (day := day) (right_names hr hm)).1]
      cases onSpan a.In day with
      | false => rfl
      | true => cases onF a day <;> rfl
theorem rName_eq {l : List Aut} (h : okAuts l) (hf : few l = true) (id day : Int) : rName_S l id day = some (nameF l id day) := by
  simp only [rName_S, rName_F, rbasic_eq h hf, Option.bind_some, nameF, rFind_eq h.1]
  cases ha : asksF l day != 0 with
  | true => rfl
  | false =>
    have hr := (asks_right (by simpa using ha)).1
    simp only [cond_false]
    cases hq : findA l id with
    | none => rfl
    | some a =>
      have hm : a ∈ l := List.mem_of_find?_eq_some hq
      obtain ⟨_, t1, t2⟩ := on_text (day := day) (right_names hr hm)
      simp only [Bool.not_true, cond_false, Option.bind_some, rOn_eq, t1]
      cases onSpan a.In day with
      | false => rfl
      | true =>
        cases ho : onF a day with
        | none => rfl
        | some x => simp only [Bool.not_true, cond_false, t2 x ho]
end Go.Proofs.YtgpojnenbmlcbaaDoor
