/- Loops by fuel and index as recursions over lists; who is few; the copy. -/
import Derived.Test.YtgpojnenbmlcbaaDoorRowTy
import Derived.Test.YtgpojnenbmlcbaaDoorGD
namespace Go.Proofs.YtgpojnenbmlcbaaDoor
open Go Go.Abs

theorem wrap_id {n : Int} (h : okI n) : IntKind.i64.wrap n = n := by
  obtain ⟨h1, h2⟩ := h
  show (if (true && decide (n % (2 ^ 64 : Int) ≥ (2 ^ 63 : Int))) = true then n % (2 ^ 64 : Int) - (2 ^ 64 : Int) else n % (2 ^ 64 : Int)) = n
  simp only [Bool.true_and, decide_eq_true_eq]
  split <;> omega
theorem wrap_succ {n i : Nat} (hn : n ≤ 9223372036854775807) (hi : i < n) : IntKind.i64.wrap ((i : Int) + 1) = ((i + 1 : Nat) : Int) := by
  rw [wrap_id (by unfold okI; omega)]; rfl
theorem wrap_pred {n i : Nat} (hn : n ≤ 9223372036854775807) (hi : i < n) : IntKind.i64.wrap ((i : Int) - 1) = (i : Int) - 1 := wrap_id (by unfold okI; omega)
theorem ix_at {α : Type} {l : List α} {i : Nat} (h : i < l.length) : ix l (i : Int) = some l[i] := by
  unfold ix
  rw [if_neg (by omega), Int.toNat_natCast, List.getElem?_eq_getElem h]
theorem ix_pred {α : Type} {l : List α} {i : Nat} (h : i < l.length) (h0 : 0 < i) : ix l ((i : Int) - 1) = some (l[i - 1]'(by omega)) := by
  have : (i : Int) - 1 = ((i - 1 : Nat) : Int) := by omega
  rw [this]; exact ix_at _

/-- A loop that leaves at the first element for which b says so. -/
def scanP {α β : Type} (b : Nat → α → Option β) (done : β) : Nat → List α → β
  | _, [] => done
  | i, x :: r => match b i x with
    | some y => y
    | none => scanP b done (i + 1) r
theorem loop_scanP {α β : Type} (L : Nat → Int → Option β) (l : List α) (b : Nat → α → Option β) (done : β) (hl : l.length ≤ 9223372036854775807)
    (hs : ∀ (fu i : Nat) (hi : i < l.length), L (fu + 1) (i : Int) = match b i l[i] with | some y => some y | none => L fu ((i + 1 : Nat) : Int))
    (he : ∀ fu, L (fu + 1) (l.length : Int) = some done) : ∀ (n i fu : Nat), l.length - i = n → i ≤ l.length → n < fu → L fu (i : Int) = some (scanP b done i (l.drop i))
  | n, i, 0, _, _, h => by omega
  | 0, i, fu + 1, h, hi, _ => by
    have : i = l.length := by omega
    subst this
    rw [he, List.drop_length]; rfl
  | n + 1, i, fu + 1, h, _, hf => by
    have hi : i < l.length := by omega
    rw [hs fu i hi, List.drop_eq_getElem_cons hi]
    simp only [scanP]
    cases b i l[i] with
    | some y => rfl
    | none => exact loop_scanP L l b done hl hs he n (i + 1) fu (by omega) (by omega) (by omega)
theorem scanP_all {α : Type} (p : α → Bool) (done : Bool) : ∀ (l : List α) (i : Nat), scanP (fun _ x => bif p x then none else some false) done i l = (l.all p && done)
  | [], _ => rfl
  | x :: r, i => by
    simp only [scanP, List.all_cons]
    cases hp : p x
    · rfl
    · simpa using scanP_all p done r (i + 1)

def fewOf (a : Aut) : Bool := a.Names.all (fun n => decide (n.Text.length ≤ 100)) && (decide (a.Names.length ≤ 17) && decide (a.Next.length ≤ 17))
def few (l : List Aut) : Bool := l.all fewOf && (decide (l.length ≤ 12) || decide (l.length = 65))
theorem rFewOf_eq {a : Aut} (h : a.Names.length ≤ 9223372036854775807) : rFewOf_S a = some (fewOf a) := by
  have h1 := loop_scanP (rFewOf_L1 a) a.Names (fun _ x => bif decide (x.Text.length ≤ 100) then none else some false) (decide (a.Names.length ≤ 17) && decide (a.Next.length ≤ 17)) h (fun fu i hi => by
      have h0 : decide ((i : Int) < (a.Names.length : Int)) = true := decide_eq_true (by omega)
      simp only [rFewOf_L1, List.length_map, ix_at hi, Option.bind_some, h0, cond_true, wrap_succ h hi]
      by_cases hq : a.Names[i].Text.length ≤ 100
      · have e1 : decide ((a.Names[i].Text.length : Int) > 100) = false := decide_eq_false (by omega)
        simp [e1, hq]
      · have e1 : decide ((a.Names[i].Text.length : Int) > 100) = true := decide_eq_true (by omega)
        simp [e1, hq])
    (fun fu => by
      have h0 : decide ((a.Names.length : Int) < (a.Names.length : Int)) = false := decide_eq_false (by omega)
      simp only [rFewOf_L1, List.length_map, h0, cond_false]
      by_cases h2 : a.Names.length ≤ 17 <;> by_cases h3 : a.Next.length ≤ 17
      all_goals
        have e2 : ((a.Names.length : Int) ≤ 17) ↔ a.Names.length ≤ 17 := by omega
        have e3 : ((a.Next.length : Int) ≤ 17) ↔ a.Next.length ≤ 17 := by omega
        simp [e2, e3, h2, h3]) a.Names.length 0 (a.Names.length + 1) (by omega) (by omega) (by omega)
  show rFewOf_L1 a (a.Names.length + 1) 0 = _
  rw [show (0 : Int) = ((0 : Nat) : Int) from rfl, h1, List.drop_zero, scanP_all]; rfl
theorem rFew_eq {l : List Aut} (h : okAuts l) : rFew_S l = some (few l) := by
  have h1 := loop_scanP (rFew_L1 l) l (fun _ x => bif fewOf x then none else some false) (decide (l.length ≤ 12) || decide (l.length = 65)) h.1 (fun fu i hi => by
      have h0 : decide ((i : Int) < (l.length : Int)) = true := decide_eq_true (by omega)
      have hk := rFewOf_eq (a := l[i]) (h.2 _ (List.getElem_mem hi)).2.2.2.1.1
      simp only [rFew_L1, List.length_map, ix_at hi, Option.bind_some, h0, cond_true, wrap_succ h.1 hi, hk]
      cases fewOf l[i] <;> rfl)
    (fun fu => by
      have h0 : decide ((l.length : Int) < (l.length : Int)) = false := decide_eq_false (by omega)
      simp only [rFew_L1, List.length_map, h0, cond_false]
      by_cases h2 : l.length ≤ 12 <;> by_cases h3 : l.length = 65
      all_goals
        have e2 : ((l.length : Int) ≤ 12) ↔ l.length ≤ 12 := by omega
        have e3 : ((l.length : Int) = 65) ↔ l.length = 65 := by omega
        simp [e2, e3, h2, h3]) l.length 0 (l.length + 1) (by omega) (by omega) (by omega)
  show rFew_L1 l (l.length + 1) 0 = _
  rw [show (0 : Int) = ((0 : Nat) : Int) from rfl, h1, List.drop_zero, scanP_all]; rfl
end Go.Proofs.YtgpojnenbmlcbaaDoor
