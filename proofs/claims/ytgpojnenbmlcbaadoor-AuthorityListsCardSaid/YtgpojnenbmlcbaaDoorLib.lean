/- Contracts of the library, as Holds. -/
import Derived.Test.YtgpojnenbmlcbaaDoorTy
namespace Go.Proofs.YtgpojnenbmlcbaaDoor
open Go Go.Abs Go.RowKit

theorem calls_holds {f : FuncId} {args : List CV} {r : CV} {u : Value} (hb : HasBody Tryd.prog f) (hr : r = .v u)
    (h : ∀ (Z : Zone) (w : World) (vs : List Value), RepL Z w args vs → (∀ b o, Z b o → b < w.heap.size) → Gw w → Calls Tryd.prog f vs.toArray w fun e w' => e = .returned u ∧ Below w.heap.size w w') : Holds Tryd.prog Gw f args r :=
  holds_mk hb fun Z w vs h1 h2 h3 => (h Z w vs h1 h2 h3).mono fun _ _ ⟨he, hw⟩ =>
    ⟨u, Z, he, hr ▸ .v u, fun _ _ hz => hz, fun b o hz => ⟨.inl hz, Nat.lt_of_lt_of_le (h2 b o hz) hw.size⟩, hw⟩
theorem repv {Z : Zone} {w : World} {x y : Value} (h : Rep Z w (.v x) y) : y = x := by cases h; rfl

def sContains_S (s sub : Str) : Option Bool := bif decide (s.length < 4294967281) then some (Lib.contains s sub) else none
theorem sContains_h {s sub : Str} {r : Bool} (h : sContains_S s sub = some r) : Holds Tryd.prog Gw 84 [S s, S sub] (B r) := by
  refine gpos h fun hl h => ?_
  refine calls_holds (u := .bool r) ⟨_, Tryd.func84, by decide, rfl⟩ rfl fun Z w vs h1 h2 h3 => ?_
  match vs, h1 with
  | [x, y], h1 =>
    have e1 := repv h1.head
    have e2 := repv h1.tail.head
    subst e1; subst e2
    obtain ⟨⟨m, hm⟩, -⟩ := h3
    refine (Tryd.strings_Contains ⟨⟨s⟩⟩ ⟨⟨sub⟩⟩ m w (of_decide_eq_true hl) hm).mono fun e w' ⟨he, hw⟩ => ⟨he.trans ?_, hw ▸ Below.refl _ _⟩
    rw [← Option.some.inj h]

def badRune (x : Nat) : Bool := decide (x < 32) || decide (126 < x)
theorem name1 (w : World) : PredAtRunes Tryd.prog 86 #[] badRune w := fun W r _ _ => by
  unfold FnGives
  by_cases h1 : r < 32 <;> by_cases h2 : 126 < r
  all_goals
    have z1 : (r : Int) < 32 ↔ r < 32 := by omega
    have z2 : (r : Int) > 126 ↔ 126 < r := by omega
    go_enter Tryd.func86, Tryd.ntmps86
    go_wp2
    all_goals first | (exfalso; omega) | (go_ret; exact ⟨by simp [badRune, h1, h2], 0, rfl⟩)
def sContainsFunc_S (s : Str) (_ : Int → Option Bool) : Option Bool := some (decide (0 ≤ Lib.idxFunc badRune true ⟨⟨s⟩⟩))
theorem sContainsFunc_h {s : Str} {f : Int → Option Bool} {r : Bool} (_ : ∀ z0 y, f z0 = some y → Holds Tryd.prog Gw 86 [.v (.int .i32 z0)] (B y)) (h : sContainsFunc_S s f = some r) : Holds Tryd.prog Gw 85 [S s, .fn 86 []] (B r) := by
  refine calls_holds (u := .bool r) ⟨_, Tryd.func85, by decide, rfl⟩ rfl fun Z w vs h1 h2 h3 => ?_
  match vs, h1 with
  | [x, y], h1 =>
    have e1 := repv h1.head
    have e2 := h1.tail.head
    subst e1
    cases e2 with
    | fn _ _ us hl _ =>
      have : us = [] := by cases us with | nil => rfl | cons => simp at hl
      subst this
      refine (Tryd.strings_ContainsFunc_runes 86 #[] (enters_of Tryd.func86 (by kernel_rfl) rfl) badRune _ w (name1 w)).mono fun e w' ⟨he, hw⟩ => ⟨he.trans ?_, hw⟩
      rw [← Option.some.inj h]

def itoa_S (n : Int) : Option Str := bif decide (-9223372036854775808 ≤ n) && decide (n ≤ 9223372036854775807) then some (Lib.itoa n) else none
theorem itoa_h {n : Int} {r : Str} (h : itoa_S n = some r) : Holds Tryd.prog Gw 43 [I n] (S r) := by
  refine gpos h fun hl h => ?_
  refine calls_holds (u := .string ⟨⟨r⟩⟩) ⟨_, Tryd.func43, by decide, rfl⟩ rfl fun Z w vs h1 h2 h3 => ?_
  match vs, h1 with
  | [x], h1 =>
    have e1 := repv h1.head
    subst e1
    simp only [Bool.and_eq_true, decide_eq_true_eq] at hl
    refine (Tryd.strconv_Itoa n hl.1 hl.2 w h3.2).mono fun e w' ⟨he, k, os, hw⟩ => ⟨he.trans ?_, ?_⟩
    · rw [Option.some.inj h]
    · rw [hw]; exact below_grown w k os

def join_S (l : List Str) (sep : Str) : Option Str := bif decide (l.length ≤ 140737488355328) && decide ((Lib.join l sep).length ≤ 140737488355328) then some (Lib.join l sep) else none
theorem join_h {l : List Str} {sep r : Str} (h : join_S l sep = some r) : Holds Tryd.prog Gw 44 [.sl 1 (l.map cStr), S sep] (S r) := by
  refine gpos h fun hl h => ?_
  refine calls_holds (u := .string ⟨⟨r⟩⟩) ⟨_, Tryd.func44, by decide, rfl⟩ rfl fun Z w vs h1 h2 h3 => ?_
  simp only [Bool.and_eq_true, decide_eq_true_eq] at hl
  match vs, h1 with
  | [x, y], h1 =>
    have e1 := h1.head
    have e2 := repv h1.tail.head
    subst e2
    generalize hds : l.map cStr = ds at e1
    cases e1 with
    | nil _ a cap =>
      have : l = [] := by simpa using hds
      subst this
      refine (Tryd.strings_Join_none a cap _ w).mono fun e w' ⟨he, hw⟩ => ⟨he.trans ?_, hw ▸ Below.refl _ _⟩
      rw [← Option.some.inj h]; rfl
    | sl _ _ b o cap f hcap hsz hc hrep =>
      subst hds
      have hcell : ∀ (j : Nat) (x : ByteArray), (l.map fun s : Str => (ByteArray.mk ⟨s⟩))[j]? = some x → Z b (o + j) ∧ w.cell? ⟨b, o + j, none⟩ = some (.string x) := by
        intro j x hj
        rw [List.getElem?_map] at hj
        obtain ⟨s, hs, rfl⟩ := Option.map_eq_some_iff.1 hj
        have hd : (l.map cStr)[j]? = some [S s] := by rw [List.getElem?_map, hs]; rfl
        have h1 := hc j 0 _ _ hd rfl
        have h2 := repv (hrep j 0 _ _ hd rfl)
        rw [h2] at h1
        rw [Nat.mul_one, Nat.add_zero] at h1
        exact ⟨h1.1, h1.2.1⟩
      have hmm : (l.map fun s : Str => (ByteArray.mk ⟨s⟩)).map (·.data.toList) = l := by simp [List.map_map, Function.comp_def]
      cases l with
      | nil =>
        refine (Tryd.strings_Join_none _ cap _ w).mono fun e w' ⟨he, hw⟩ => ⟨he.trans ?_, hw ▸ Below.refl _ _⟩
        rw [← Option.some.inj h]; rfl
      | cons s l =>
        have hb : b < w.heap.size := h2 _ _ (hcell 0 _ rfl).1
        have hJ := Tryd.strings_Join b o cap ((s :: l).map fun s : Str => (ByteArray.mk ⟨s⟩)) ⟨⟨sep⟩⟩ w (fun j x hj => (hcell j x hj).2) hb (by simpa using hl.1) (by simpa using hcap) (by rw [hmm]; exact hl.2)
        rw [hmm] at hJ
        simp only [List.length_map] at hJ ⊢
        refine hJ.mono fun e w' ⟨he, hw⟩ => ⟨he.trans ?_, hw⟩
        rw [← Option.some.inj h]
def sTrimSpace_S (s : Str) : Option Str := bif decide (s.length ≤ 9223372036854775807) then some (Lib.trimSpaceD s) else none
theorem sTrimSpace_h {s r : Str} (h : sTrimSpace_S s = some r) : Holds Tryd.prog Gw2 35 [S s] (S r) := by
  refine gpos h fun hl h => ?_
  refine holds_mk ⟨_, Tryd.func35, by decide, rfl⟩ fun Z w vs h1 h2 h3 => ?_
  match vs, h1 with
  | [x], h1 =>
    have e1 := repv h1.head
    subst e1
    refine (Tryd.strings_TrimSpace_any ⟨⟨s⟩⟩ w (of_decide_eq_true hl) h3.2.1 h3.2.2.1 h3.2.2.2).mono fun e w' ⟨he, hw⟩ => ⟨_, Z, he, ?_, fun _ _ hz => hz, fun b o hz => ⟨.inl hz, Nat.lt_of_lt_of_le (h2 b o hz) hw.size⟩, hw⟩
    rw [← Option.some.inj h]
    exact .v _
end Go.Proofs.YtgpojnenbmlcbaaDoor
