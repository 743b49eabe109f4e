/- The faults of the names of an authority; index and find. -/
import Derived.Test.YtgpojnenbmlcbaaDoorLName2
namespace Go.Proofs.YtgpojnenbmlcbaaDoor
open Go Go.Abs

def nameB (a : Aut) (i : Nat) (x : Nam) : Option Int :=
  bif !(nameOk x.Text) then some 4 else bif !(spanOk x.In) then some 2 else bif decide (x.In.From < a.In.From) then some 10 else bif decide (x.In.Until > a.In.Until) then some 10 else
  match decide (0 < i), a.Names[i - 1]? with
  | true, some y => bif decide (x.In.From < y.In.Until) then some 5 else none
  | _, _ => none
def namesF (a : Aut) : Int := bif decide (a.Names.length = 0) then 9 else bif decide (a.Names.length > 16) then 8 else scanP (nameB a) 0 0 a.Names
theorem names_loop {a : Aut} (h : a.Names.length ≤ 9223372036854775807) (L : Nat → Int → Option Int)
    (hL : ∀ fu (v : Int), L (fu + 1) v = bif decide (v < ((a.Names.map cNam).length : Int)) then (Option.bind (ix a.Names v) fun x5 => Option.bind (some (nameOk x5.Text)) fun y7 => bif (!y7) then some (4) else (Option.bind (some (spanOk x5.In)) fun y10 => bif (!y10) then some (2) else (bif decide (x5.In.From < a.In.From) then some (10) else (bif decide (x5.In.Until > a.In.Until) then some (10) else (bif decide (v > 0) then (Option.bind (ix a.Names (IntKind.i64.wrap (v - 1))) fun x16 => bif decide (x5.In.From < x16.In.Until) then some (5) else L fu (IntKind.i64.wrap (v + 1))) else L fu (IntKind.i64.wrap (v + 1))))))) else some (0)) :
    L (a.Names.length + 1) 0 = some (scanP (nameB a) 0 0 a.Names) := by
  have h1 := loop_scanP L a.Names (nameB a) 0 h (fun fu i hi => by
      have h0 : decide ((i : Int) < (a.Names.length : Int)) = true := decide_eq_true (by omega)
      simp only [hL, List.length_map, ix_at hi, Option.bind_some, h0, cond_true, wrap_succ h hi, nameB]
      cases nameOk a.Names[i].Text with
      | false => rfl
      | true => cases spanOk a.Names[i].In with
        | false => rfl
        | true =>
          simp only [Bool.not_true, cond_false]
          cases decide (a.Names[i].In.From < a.In.From) with
          | true => rfl
          | false => cases decide (a.Names[i].In.Until > a.In.Until) with
            | true => rfl
            | false =>
              simp only [cond_false]
              by_cases h3 : 0 < i
              · have e3 : decide ((i : Int) > 0) = true := decide_eq_true (by omega)
                have hi' : i - 1 < a.Names.length := by omega
                simp only [e3, cond_true, wrap_pred h hi, ix_pred hi h3, Option.bind_some, h3, decide_true, List.getElem?_eq_getElem hi']
                cases decide (a.Names[i].In.From < a.Names[i - 1].In.Until) <;> rfl
              · have e3 : decide ((i : Int) > 0) = false := decide_eq_false (by omega)
                simp only [e3, cond_false, h3, decide_false])
    (fun fu => by
      have h0 : decide ((a.Names.length : Int) < (a.Names.length : Int)) = false := decide_eq_false (by omega)
      simp only [hL, List.length_map, h0, cond_false]) a.Names.length 0 (a.Names.length + 1) (by omega) (by omega) (by omega)
  simpa using h1
theorem names_head {a : Aut} {x : Option Int} (h : x = some (scanP (nameB a) 0 0 a.Names)) :
    (bif (((a.Names.map cNam).length : Int) == 0) then some (9) else (bif decide (((a.Names.map cNam).length : Int) > 16) then some (8) else x)) = some (namesF a) := by
  rw [h, List.length_map]
  unfold namesF
  by_cases h1 : a.Names.length = 0
  · have e : ((a.Names.length : Int) == 0) = true := by simp [h1]
    simp [h1]
  · have e : ((a.Names.length : Int) == 0) = false := beq_eq_false_iff_ne.2 (by omega)
    by_cases h2 : a.Names.length > 16
    · have e2 : decide ((a.Names.length : Int) > 16) = true := decide_eq_true (by omega)
      simp [e, e2, h1, h2]
    · have e2 : decide ((a.Names.length : Int) > 16) = false := decide_eq_false (by omega)
      simp [e, e2, h1, h2]
theorem pnames_eq {a : Aut} (h : a.Names.length ≤ 9223372036854775807) : pnames_S a = some (namesF a) :=
  names_head (names_loop h (pnames_L1 a) fun fu v => by simp only [pnames_L1, pname_eq, pspans_eq])
theorem rnames_eq {a : Aut} (h : a.Names.length ≤ 9223372036854775807) : rnames_S a = some (namesF a) :=
  names_head (names_loop h (rnames_L1 a) fun fu v => by simp only [rnames_L1, rIsName_eq, rIsSpan_eq])

/-- The first that p holds of, with its index. -/
theorem scanP_find {α : Type} (p : α → Bool) : ∀ (l : List α) (i : Nat), scanP (fun i x => bif p x then some (i : Int) else none) (-1) i l = match l.findIdx? p with | some k => ((i + k : Nat) : Int) | none => -1
  | [], _ => rfl
  | x :: r, i => by
    simp only [scanP, List.findIdx?_cons]
    cases p x with
    | true => simp
    | false =>
      simp only [cond_false, scanP_find p r (i + 1), Bool.false_eq_true, if_false]
      cases r.findIdx? p with
      | none => rfl
      | some k => show (((i + 1 + k : Nat)) : Int) = ((i + (k + 1) : Nat) : Int); omega
def idxOf {α : Type} (p : α → Bool) (l : List α) : Int := match l.findIdx? p with | some k => (k : Int) | none => -1
theorem slIndexFuncA_eq {l : List Aut} {f : Aut → Option Bool} {p : Aut → Bool} (h : l.length ≤ 9223372036854775807) (hf : ∀ x ∈ l, f x = some (p x)) : slIndexFuncA_S l f = some (idxOf p l) := by
  have h1 := loop_scanP (slIndexFuncA_L1 l f) l (fun i x => bif p x then some (i : Int) else none) (-1) h (fun fu i hi => by
      have h0 : decide ((i : Int) < (l.length : Int)) = true := decide_eq_true (by omega)
      simp only [slIndexFuncA_L1, List.length_map, ix_at hi, Option.bind_some, h0, cond_true, wrap_succ h hi, hf _ (List.getElem_mem hi)]
      cases p l[i] <;> rfl)
    (fun fu => by
      have h0 : decide ((l.length : Int) < (l.length : Int)) = false := decide_eq_false (by omega)
      simp only [slIndexFuncA_L1, List.length_map, h0, cond_false]) l.length 0 (l.length + 1) (by omega) (by omega) (by omega)
  show slIndexFuncA_L1 l f (l.length + 1) 0 = _
  rw [show (0 : Int) = ((0 : Nat) : Int) from rfl, h1, List.drop_zero, scanP_find]
  unfold idxOf
  cases l.findIdx? p <;> simp
theorem slIndexFuncI_eq {l : List Int} {f : Int → Option Bool} {p : Int → Bool} (h : l.length ≤ 9223372036854775807) (hf : ∀ x ∈ l, f x = some (p x)) : slIndexFuncI_S l f = some (idxOf p l) := by
  have h1 := loop_scanP (slIndexFuncI_L1 l f) l (fun i x => bif p x then some (i : Int) else none) (-1) h (fun fu i hi => by
      have h0 : decide ((i : Int) < (l.length : Int)) = true := decide_eq_true (by omega)
      simp only [slIndexFuncI_L1, List.length_map, ix_at hi, Option.bind_some, h0, cond_true, wrap_succ h hi, hf _ (List.getElem_mem hi)]
      cases p l[i] <;> rfl)
    (fun fu => by
      have h0 : decide ((l.length : Int) < (l.length : Int)) = false := decide_eq_false (by omega)
      simp only [slIndexFuncI_L1, List.length_map, h0, cond_false]) l.length 0 (l.length + 1) (by omega) (by omega) (by omega)
  show slIndexFuncI_L1 l f (l.length + 1) 0 = _
  rw [show (0 : Int) = ((0 : Nat) : Int) from rfl, h1, List.drop_zero, scanP_find]
  unfold idxOf
  cases l.findIdx? p <;> simp
theorem slContainsFuncI_eq {l : List Int} {f : Int → Option Bool} {p : Int → Bool} (h : l.length ≤ 9223372036854775807) (hf : ∀ x ∈ l, f x = some (p x)) : slContainsFuncI_S l f = some (l.any p) := by
  simp only [slContainsFuncI_S, slContainsFuncI_F, slIndexFuncI_eq h hf, Option.bind_some, Option.some.injEq]
  unfold idxOf
  cases hq : l.findIdx? p with
  | none =>
    rw [List.findIdx?_eq_none_iff] at hq
    have : l.any p = false := by rw [List.any_eq_false]; intro x hx; simp [hq x hx]
    rw [this]; decide
  | some k =>
    have hk := List.findIdx?_eq_some_iff_getElem.1 hq
    obtain ⟨h1, h2, _⟩ := hk
    have : l.any p = true := List.any_eq_true.2 ⟨l[k], List.getElem_mem h1, h2⟩
    rw [this]
    exact decide_eq_true (show (k : Int) ≥ 0 by omega)
theorem pindex_eq {l : List Aut} (h : l.length ≤ 9223372036854775807) (id : Int) : pindex_S l id = some (idxOf (fun a => a.ID == id) l) := by
  have h1 := slIndexFuncA_eq (f := fun z0 => pindex_1_S z0 id) (p := fun a => a.ID == id) h fun x _ => rfl
  simp only [pindex_S, pindex_F, h1, Option.bind_some]
def zeroAut : Aut := ⟨0, 0, ⟨0, 0⟩, [], []⟩
def findA (l : List Aut) (id : Int) : Option Aut := l.find? fun a => a.ID == id
theorem scanP_first {α β : Type} (p : α → Bool) (g : α → β) (done : β) : ∀ (l : List α) (i : Nat), scanP (fun _ x => bif p x then some (g x) else none) done i l = match l.find? p with | some x => g x | none => done
  | [], _ => rfl
  | x :: r, i => by
    simp only [scanP, List.find?_cons]
    cases p x with
    | true => rfl
    | false => exact scanP_first p g done r (i + 1)
theorem rFind_eq {l : List Aut} (h : l.length ≤ 9223372036854775807) (id : Int) : rFind_S l id = some (match findA l id with | some a => (a, true) | none => (zeroAut, false)) := by
  have h1 := loop_scanP (rFind_L1 l id) l (fun _ x => bif x.ID == id then some (x, true) else none) (zeroAut, false) h (fun fu i hi => by
      have h0 : decide ((i : Int) < (l.length : Int)) = true := decide_eq_true (by omega)
      simp only [rFind_L1, List.length_map, ix_at hi, Option.bind_some, h0, cond_true, wrap_succ h hi]
      cases l[i].ID == id <;> rfl)
    (fun fu => by
      have h0 : decide ((l.length : Int) < (l.length : Int)) = false := decide_eq_false (by omega)
      simp only [rFind_L1, List.length_map, h0, cond_false, zeroAut]) l.length 0 (l.length + 1) (by omega) (by omega) (by omega)
  show rFind_L1 l id (l.length + 1) 0 = _
  rw [show (0 : Int) = ((0 : Nat) : Int) from rfl, h1, List.drop_zero]
  have := scanP_first (fun a : Aut => a.ID == id) (fun a => (a, true)) (zeroAut, false) l 0
  rw [this]; unfold findA; cases l.find? (fun a : Aut => a.ID == id) <;> rfl
theorem idx_find {l : List Aut} {id : Int} : (idxOf (fun a => a.ID == id) l < 0 ↔ findA l id = none) ∧ ∀ a, findA l id = some a → ix l (idxOf (fun a => a.ID == id) l) = some a := by
  unfold idxOf findA
  cases hq : l.findIdx? (fun a => a.ID == id) with
  | none =>
    rw [List.findIdx?_eq_none_iff] at hq
    have hn : l.find? (fun a => a.ID == id) = none := List.find?_eq_none.2 fun x hx => by simp [hq x hx]
    exact ⟨⟨fun _ => hn, fun _ => by decide⟩, fun a ha => by rw [hn] at ha; exact nomatch ha⟩
  | some k =>
    obtain ⟨h1, h2, h3⟩ := List.findIdx?_eq_some_iff_getElem.1 hq
    have hs : l.find? (fun a => a.ID == id) = some l[k] := by
      rw [List.find?_eq_some_iff_getElem]
      exact ⟨h2, k, h1, rfl, fun j hj => by simpa using h3 j hj⟩
    refine ⟨⟨fun h => ?_, fun h => ?_⟩, fun a ha => ?_⟩
    · exact absurd h (show ¬ ((k : Int) < 0) by omega)
    · rw [hs] at h; exact nomatch h
    · rw [hs] at ha; rw [← Option.some.inj ha]; exact ix_at h1
end Go.Proofs.YtgpojnenbmlcbaaDoor
