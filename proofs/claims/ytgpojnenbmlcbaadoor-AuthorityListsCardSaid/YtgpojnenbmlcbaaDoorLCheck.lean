/- The check of a list: both ways agree. -/
import Derived.Test.YtgpojnenbmlcbaaDoorLNames1
namespace Go.Proofs.YtgpojnenbmlcbaaDoor
open Go Go.Abs

theorem loop_scanP1 {α β : Type} (lo : Nat) (L : Nat → Int → Option β) (l : List α) (b : Nat → α → Option β) (done : β)
    (hs : ∀ (fu i : Nat) (hi : i < l.length), lo ≤ i → L (fu + 1) (i : Int) = match b i l[i] with | some y => some y | none => L fu ((i + 1 : Nat) : Int))
    (he : ∀ fu, L (fu + 1) (l.length : Int) = some done) : ∀ (n i fu : Nat), l.length - i = n → lo ≤ i → i ≤ l.length → n < fu → L fu (i : Int) = some (scanP b done i (l.drop i))
  | n, i, 0, _, _, _, h => by omega
  | 0, i, fu + 1, h, _, hi, _ => by
    have : i = l.length := by omega
    subst this
    rw [he, List.drop_length]; rfl
  | n + 1, i, fu + 1, h, hlo, _, hf => by
    have hi : i < l.length := by omega
    rw [hs fu i hi hlo, List.drop_eq_getElem_cons hi]
    simp only [scanP]
    cases b i l[i] with
    | some y => rfl
    | none => exact loop_scanP1 lo L l b done hs he n (i + 1) fu (by omega) (by omega) (by omega) (by omega)
theorem scanP_any {α β : Type} (p : α → Bool) (c done : β) : ∀ (l : List α) (i : Nat), scanP (fun _ x => bif p x then some c else none) done i l = bif l.any p then c else done
  | [], _ => rfl
  | x :: r, i => by
    simp only [scanP, List.any_cons]
    cases p x with
    | true => rfl
    | false => exact scanP_any p c done r (i + 1)

def incB (l : List Int) (i : Nat) (x : Int) : Option Int := match l[i - 1]? with
  | some y => bif decide (x ≤ y) then some 5 else none
  | none => none
def nextOrd (a : Aut) : Int := scanP (incB a.Next) 0 1 (a.Next.drop 1)
theorem next_loop {a : Aut} (h : a.Next.length ≤ 9223372036854775807) (L : Nat → Int → Option Int) (fu : Nat) (hfu : a.Next.length < fu)
    (hL : ∀ fu (v : Int), L (fu + 1) v = bif decide (v < ((a.Next.map cInt).length : Int)) then (Option.bind (ix a.Next v) fun x20 => Option.bind (ix a.Next (IntKind.i64.wrap (v - 1))) fun x22 => bif decide (x20 ≤ x22) then some (5) else L fu (IntKind.i64.wrap (v + 1))) else some (0)) :
    L fu 1 = some (nextOrd a) := by
  by_cases h0 : a.Next.length = 0
  · obtain ⟨f, rfl⟩ : ∃ f, fu = f + 1 := ⟨fu - 1, by omega⟩
    have hn : a.Next = [] := List.length_eq_zero_iff.1 h0
    rw [hL]
    simp [nextOrd, hn, scanP]
  · have h1 := loop_scanP1 1 L a.Next (incB a.Next) 0 (fun fu i hi hlo => by
        have h0 : decide ((i : Int) < (a.Next.length : Int)) = true := decide_eq_true (by omega)
        have hi' : i - 1 < a.Next.length := by omega
        simp only [hL, List.length_map, ix_at hi, Option.bind_some, h0, cond_true, wrap_succ h hi, wrap_pred h hi, ix_pred hi hlo, incB, List.getElem?_eq_getElem hi']
        cases decide (a.Next[i] ≤ a.Next[i - 1]) <;> rfl)
      (fun fu => by
        have h0 : decide ((a.Next.length : Int) < (a.Next.length : Int)) = false := decide_eq_false (by omega)
        simp only [hL, List.length_map, h0, cond_false]) (a.Next.length - 1) 1 fu rfl (Nat.le_refl 1) (by omega) (by omega)
    exact h1
def idKind (a : Aut) : Bool := (decide (1 ≤ a.ID) && decide (a.ID ≤ 1073741824)) && ((decide (1 ≤ a.Kind) && decide (a.Kind ≤ 3)) && spanOk a.In)
def tailF (a : Aut) : Int := bif namesF a != 0 then namesF a else bif decide (a.Next.length > 16) then 8 else nextOrd a
def aloneF (prev : Option Aut) (a : Aut) : Int :=
  bif idKind a then (match prev with
    | some b => bif decide (a.ID ≤ b.ID) then 5 else tailF a
    | none => tailF a) else 2
def prevOf (l : List Aut) (i : Nat) : Option Aut := if 0 < i then l[i - 1]? else none
theorem tail_p {a : Aut} (_h : okAut a) (x : Option Int) (hx : x = some (nextOrd a)) :
    (Option.bind (some (namesF a)) fun y16 => bif (y16 != 0) then some (y16) else (bif decide (((a.Next.map cInt).length : Int) > 16) then some (8) else x)) = some (tailF a) := by
  subst hx
  simp only [Option.bind_some, List.length_map, tailF]
  cases namesF a != 0 with
  | true => rfl
  | false =>
    by_cases h2 : a.Next.length > 16
    · have e : decide ((a.Next.length : Int) > 16) = true := decide_eq_true (by omega)
      simp [e, h2]
    · have e : decide ((a.Next.length : Int) > 16) = false := decide_eq_false (by omega)
      simp [e, h2]
theorem palone_eq {l : List Aut} (h : okAuts l) (hf : few l = true) {i : Nat} (hi : i < l.length) : palone_S l (i : Int) = some (aloneF (prevOf l i) l[i]) := by
  have ha := h.2 _ (List.getElem_mem hi)
  have hn := (fewOf_names (few_mem hf (List.getElem_mem hi))).2.1
  have t1 := next_loop (a := l[i]) (by omega) (palone_L1 l[i]) (l.length + 100) (by omega) (fun fu v => by simp only [palone_L1])
  have t2 := next_loop (a := l[i]) (by omega) (palone_L2 l[i]) (l.length + 100) (by omega) (fun fu v => by simp only [palone_L2])
  simp only [palone_S, palone_F, ix_at hi, Option.bind_some, pwithin_eq, pspans_eq, pnames_eq ha.2.2.2.1.1]
  have u1 := tail_p ha _ t1
  have u2 := tail_p ha _ t2
  simp only [Option.bind_some] at u1 u2
  unfold aloneF idKind
  cases (decide (1 ≤ l[i].ID) && decide (l[i].ID ≤ 1073741824)) with
  | false => rfl
  | true => cases (decide (1 ≤ l[i].Kind) && decide (l[i].Kind ≤ 3)) with
    | false => rfl
    | true => cases spanOk l[i].In with
      | false => rfl
      | true =>
        simp only [Bool.not_true, cond_false, Bool.true_and, cond_true]
        by_cases h3 : 0 < i
        · have e3 : decide ((i : Int) > 0) = true := decide_eq_true (by omega)
          have hi' : i - 1 < l.length := by omega
          simp only [e3, cond_true, wrap_pred h.1 hi, ix_pred hi h3, Option.bind_some, prevOf, h3, if_true, List.getElem?_eq_getElem hi']
          cases decide (l[i].ID ≤ l[i - 1].ID) with
          | true => rfl
          | false => exact u1
        · have e3 : decide ((i : Int) > 0) = false := decide_eq_false (by omega)
          simp only [e3, cond_false, prevOf, h3, if_false]
          exact u2
theorem rown_eq {l : List Aut} (h : okAuts l) (hf : few l = true) {i : Nat} (hi : i < l.length) : rown_S l (i : Int) = some (aloneF (prevOf l i) l[i]) := by
  have ha := h.2 _ (List.getElem_mem hi)
  have hn := (fewOf_names (few_mem hf (List.getElem_mem hi))).2.1
  have t1 := next_loop (a := l[i]) (by omega) (rown_L1 l[i]) 100 (by omega) (fun fu v => by simp only [rown_L1])
  have t2 := next_loop (a := l[i]) (by omega) (rown_L2 l[i]) 100 (by omega) (fun fu v => by simp only [rown_L2])
  simp only [rown_S, rown_F, ix_at hi, Option.bind_some, rIsSpan_eq, rnames_eq ha.2.2.2.1.1]
  have u1 := tail_p ha _ t1
  have u2 := tail_p ha _ t2
  simp only [Option.bind_some] at u1 u2
  unfold aloneF idKind
  by_cases q1 : 1 ≤ l[i].ID
  · by_cases q2 : l[i].ID ≤ 1073741824
    · by_cases q3 : 1 ≤ l[i].Kind
      · by_cases q4 : l[i].Kind ≤ 3
        · have e1 : decide (l[i].ID < 1) = false := decide_eq_false (by omega)
          have e2 : decide (l[i].ID > 1073741824) = false := decide_eq_false (by omega)
          have e4 : decide (l[i].Kind < 1) = false := decide_eq_false (by omega)
          have e5 : decide (l[i].Kind > 3) = false := decide_eq_false (by omega)
          simp only [e1, e2, e4, e5, cond_false, q1, q2, q3, q4, decide_true, Bool.true_and]
          cases spanOk l[i].In with
          | false => rfl
          | true =>
            simp only [Bool.not_true, cond_false, cond_true]
            by_cases h3 : 0 < i
            · have e3 : decide ((i : Int) > 0) = true := decide_eq_true (by omega)
              have hi' : i - 1 < l.length := by omega
              simp only [e3, cond_true, wrap_pred h.1 hi, ix_pred hi h3, Option.bind_some, prevOf, h3, if_true, List.getElem?_eq_getElem hi']
              cases decide (l[i].ID ≤ l[i - 1].ID) with
              | true => rfl
              | false => exact u1
            · have e3 : decide ((i : Int) > 0) = false := decide_eq_false (by omega)
              simp only [e3, cond_false, prevOf, h3, if_false]
              exact u2
        · have e1 : decide (l[i].ID < 1) = false := decide_eq_false (by omega)
          have e2 : decide (l[i].ID > 1073741824) = false := decide_eq_false (by omega)
          have e4 : decide (l[i].Kind < 1) = false := decide_eq_false (by omega)
          have e5 : decide (l[i].Kind > 3) = true := decide_eq_true (by omega)
          simp [e1, e2, e4, e5, q4]
      · have e1 : decide (l[i].ID < 1) = false := decide_eq_false (by omega)
        have e2 : decide (l[i].ID > 1073741824) = false := decide_eq_false (by omega)
        have e4 : decide (l[i].Kind < 1) = true := decide_eq_true (by omega)
        simp [e1, e2, e4, q3]
    · have e1 : decide (l[i].ID < 1) = false := decide_eq_false (by omega)
      have e2 : decide (l[i].ID > 1073741824) = true := decide_eq_true (by omega)
      simp [e1, e2, q2]
  · have e1 : decide (l[i].ID < 1) = true := decide_eq_true (by omega)
    simp [e1, q1]
end Go.Proofs.YtgpojnenbmlcbaaDoor
