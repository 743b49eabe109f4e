/- What is common to the laws of this seat: bounds, loops as recursions over lists, searches. -/
import Derived.Test.YtjoacimgcepjdaaGreatDoorGL
import Derived.Lib.TrimAscii
set_option linter.unusedSimpArgs false
set_option linter.unusedVariables false
namespace Go.Proofs.YtjoacimgcepjdaaGreatDoor
open Go Go.Abs

def okI (n : Int) : Prop := -9223372036854775808 ≤ n ∧ n ≤ 9223372036854775807
def okS (s : Str) : Prop := s.length ≤ 9223372036854775807
def okInts (l : List Int) : Prop := l.length ≤ 9223372036854775807 ∧ ∀ n ∈ l, okI n
def okStrs (l : List Str) : Prop := l.length ≤ 9223372036854775807 ∧ ∀ n ∈ l, okS n
theorem wrap_id {n : Int} (h : okI n) : IntKind.i64.wrap n = n := by
  obtain ⟨h1, h2⟩ := h
  show (if (true && decide (n % (2 ^ 64 : Int) ≥ (2 ^ 63 : Int))) = true then n % (2 ^ 64 : Int) - (2 ^ 64 : Int) else n % (2 ^ 64 : Int)) = n
  simp only [Bool.true_and, decide_eq_true_eq]
  split <;> omega
theorem wrap_succ {n i : Nat} (hn : n ≤ 9223372036854775807) (hi : i < n) : IntKind.i64.wrap ((i : Int) + 1) = ((i + 1 : Nat) : Int) := by
  rw [wrap_id (by unfold okI; omega)]; rfl
theorem wrap_pred {n i : Nat} (hn : n ≤ 9223372036854775807) (hi : i < n) : IntKind.i64.wrap ((i : Int) - 1) = (i : Int) - 1 := wrap_id (by unfold okI; omega)
theorem ix_at {α : Type} {l : List α} {i : Nat} (h : i < l.length) : ix l (i : Int) = some l[i] := by
  unfold ix
  rw [if_neg (by omega), Int.toNat_natCast, List.getElem?_eq_getElem h]
theorem ix_pred {α : Type} {l : List α} {i : Nat} (h : i < l.length) (h0 : 0 < i) : ix l ((i : Int) - 1) = some (l[i - 1]'(by omega)) := by
  have : (i : Int) - 1 = ((i - 1 : Nat) : Int) := by omega
  rw [this]; exact ix_at _
/-- A loop that leaves at the first element for which b says so. -/
def scanP {α β : Type} (b : Nat → α → Option β) (done : β) : Nat → List α → β
  | _, [] => done
  | i, x :: r => match b i x with
    | some y => y
    | none => scanP b done (i + 1) r
theorem loop_scanP {α β : Type} (L : Nat → Int → Option β) (l : List α) (b : Nat → α → Option β) (done : β) (hl : l.length ≤ 9223372036854775807)
    (hs : ∀ (fu i : Nat) (hi : i < l.length), L (fu + 1) (i : Int) = match b i l[i] with | some y => some y | none => L fu ((i + 1 : Nat) : Int))
    (he : ∀ fu, L (fu + 1) (l.length : Int) = some done) : ∀ (n i fu : Nat), l.length - i = n → i ≤ l.length → n < fu → L fu (i : Int) = some (scanP b done i (l.drop i))
  | n, i, 0, _, _, h => by omega
  | 0, i, fu + 1, h, hi, _ => by
    have : i = l.length := by omega
    subst this
    rw [he, List.drop_length]; rfl
  | n + 1, i, fu + 1, h, _, hf => by
    have hi : i < l.length := by omega
    rw [hs fu i hi, List.drop_eq_getElem_cons hi]
    simp only [scanP]
    cases b i l[i] with
    | some y => rfl
    | none => exact loop_scanP L l b done hl hs he n (i + 1) fu (by omega) (by omega) (by omega)
theorem scanP_all {α : Type} (p : α → Bool) (done : Bool) : ∀ (l : List α) (i : Nat), scanP (fun _ x => bif p x then none else some false) done i l = (l.all p && done)
  | [], _ => rfl
  | x :: r, i => by
    simp only [scanP, List.all_cons]
    cases hp : p x
    · rfl
    · simpa using scanP_all p done r (i + 1)
/-- The first that p holds of, with its index. -/
theorem scanP_find {α : Type} (p : α → Bool) : ∀ (l : List α) (i : Nat), scanP (fun i x => bif p x then some (i : Int) else none) (-1) i l = match l.findIdx? p with | some k => ((i + k : Nat) : Int) | none => -1
  | [], _ => rfl
  | x :: r, i => by
    simp only [scanP, List.findIdx?_cons]
    cases p x with
    | true => simp
    | false =>
      simp only [cond_false, scanP_find p r (i + 1), Bool.false_eq_true, if_false]
      cases r.findIdx? p with
      | none => rfl
      | some k => show (((i + 1 + k : Nat)) : Int) = ((i + (k + 1) : Nat) : Int); omega
def idxOf {α : Type} (p : α → Bool) (l : List α) : Int := match l.findIdx? p with | some k => (k : Int) | none => -1
theorem scanP_any {α β : Type} (p : α → Bool) (c done : β) : ∀ (l : List α) (i : Nat), scanP (fun _ x => bif p x then some c else none) done i l = bif l.any p then c else done
  | [], _ => rfl
  | x :: r, i => by
    simp only [scanP, List.any_cons]
    cases p x with
    | true => rfl
    | false => exact scanP_any p c done r (i + 1)
theorem idxOf_nn {α : Type} (p : α → Bool) (l : List α) : decide (idxOf p l ≥ 0) = l.any p := by
  unfold idxOf
  cases hq : l.findIdx? p with
  | none =>
    rw [List.findIdx?_eq_none_iff] at hq
    have : l.any p = false := by rw [List.any_eq_false]; intro x hx; simp [hq x hx]
    rw [this]; decide
  | some k =>
    obtain ⟨h1, h2, _⟩ := List.findIdx?_eq_some_iff_getElem.1 hq
    have : l.any p = true := List.any_eq_true.2 ⟨l[k], List.getElem_mem h1, h2⟩
    rw [this]
    exact decide_eq_true (show (k : Int) ≥ 0 by omega)
end Go.Proofs.YtjoacimgcepjdaaGreatDoor
