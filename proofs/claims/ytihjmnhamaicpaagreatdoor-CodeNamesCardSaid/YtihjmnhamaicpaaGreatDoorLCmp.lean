/- Comparisons: total ones, by a key, one behind another, over lists. -/
import Derived.Test.YtihjmnhamaicpaaGreatDoorLFree
set_option linter.unusedVariables false
set_option linter.unusedSimpArgs false
namespace Go.Proofs.YtihjmnhamaicpaaGreatDoor
open Go Go.Abs
structure TotC {α : Type} (c : α → α → Int) : Prop where
  neg : ∀ x y, c y x = - c x y
  lo : ∀ x y, -1 ≤ c x y
  tr : ∀ x y z, c x y ≤ 0 → c y z ≤ 0 → c x z ≤ 0
namespace TotC
variable {α β : Type} {c : α → α → Int}
theorem hi (h : TotC c) (x y : α) : c x y ≤ 1 := by have := h.lo y x; have := h.neg x y; omega
theorem refl (h : TotC c) (x : α) : c x x = 0 := by have := h.neg x x; omega
theorem mid (h : TotC c) {x y z : α} (h1 : c x y ≤ 0) (h2 : c y z ≤ 0) (h3 : c x z = 0) : c x y = 0 ∧ c y z = 0 := by
  have n1 := h.neg x z
  have n2 := h.neg x y
  have n3 := h.neg y z
  have a := h.tr y z x h2 (by omega)
  have b := h.tr z x y (by omega) h1
  omega
theorem by_ (h : TotC c) (k : β → α) : TotC fun x y => c (k x) (k y) := ⟨fun x y => h.neg _ _, fun x y => h.lo _ _, fun x y z => h.tr _ _ _⟩
theorem or_ {d : α → α → Int} (h : TotC c) (g : TotC d) : TotC fun x y => if c x y = 0 then d x y else c x y := by
  refine ⟨fun x y => ?_, fun x y => ?_, fun x y z h1 h2 => ?_⟩
  · have := h.neg x y
    by_cases h0 : c x y = 0
    · rw [if_pos h0, if_pos (by omega)]; exact g.neg x y
    · rw [if_neg h0, if_neg (by omega)]; exact this
  · split
    · exact g.lo x y
    · exact h.lo x y
  · have e1 : c x y ≤ 0 := by
      split at h1
      · omega
      · exact h1
    have e2 : c y z ≤ 0 := by
      split at h2
      · omega
      · exact h2
    split
    · rename_i h0
      obtain ⟨q1, q2⟩ := h.mid e1 e2 h0
      rw [if_pos q1] at h1
      rw [if_pos q2] at h2
      exact g.tr x y z h1 h2
    · exact h.tr x y z e1 e2
end TotC
/-- Element by element, the shorter one first. -/
def lexL {α : Type} (c : α → α → Int) : List α → List α → Int
  | [], [] => 0
  | [], _ :: _ => -1
  | _ :: _, [] => 1
  | x :: r, y :: t => if c x y = 0 then lexL c r t else c x y
theorem TotC.lex {α : Type} {c : α → α → Int} (h : TotC c) : TotC (lexL c) := by
  refine ⟨?_, ?_, ?_⟩
  · intro x
    induction x with
    | nil => intro y; cases y <;> simp [lexL]
    | cons a r ih =>
      intro y
      cases y with
      | nil => simp [lexL]
      | cons b t =>
        have := h.neg a b
        rw [lexL, lexL]
        by_cases h0 : c a b = 0
        · rw [if_pos h0, if_pos (by omega)]; exact ih t
        · rw [if_neg h0, if_neg (by omega)]; exact this
  · intro x
    induction x with
    | nil => intro y; cases y <;> simp [lexL]
    | cons a r ih =>
      intro y
      cases y with
      | nil => simp [lexL]
      | cons b t =>
        rw [lexL]
        split
        · exact ih t
        · exact h.lo a b
  · intro x
    induction x with
    | nil => intro y z _ _; cases z <;> simp [lexL]
    | cons a r ih =>
      intro y z h1 h2
      cases y with
      | nil => simp [lexL] at h1
      | cons b t =>
        cases z with
        | nil => simp [lexL] at h2
        | cons d u =>
          rw [lexL] at h1 h2 ⊢
          have e1 : c a b ≤ 0 := by
            split at h1
            · omega
            · exact h1
          have e2 : c b d ≤ 0 := by
            split at h2
            · omega
            · exact h2
          split
          · rename_i h0
            obtain ⟨q1, q2⟩ := h.mid e1 e2 h0
            rw [if_pos q1] at h1
            rw [if_pos q2] at h2
            exact ih t u h1 h2
          · exact h.tr a b d e1 e2
def natC (a b : Nat) : Int := if a < b then -1 else if a > b then 1 else 0
theorem natC_tot : TotC natC := by
  refine ⟨fun x y => ?_, fun x y => ?_, fun x y z => ?_⟩ <;> unfold natC
  · (repeat' split) <;> omega
  · (repeat' split) <;> omega
  · (repeat' split) <;> omega
def byteC : Str → Str → Int := lexL fun a b => natC a.toNat b.toNat
theorem byteC_tot : TotC byteC := (natC_tot.by_ fun a : UInt8 => a.toNat).lex
theorem byteC_zero : ∀ {a b : Str}, byteC a b = 0 ↔ a = b
  | [], [] => by simp [byteC, lexL]
  | [], _ :: _ => by simp [byteC, lexL]
  | _ :: _, [] => by simp [byteC, lexL]
  | x :: r, y :: t => by
    have ih := byteC_zero (a := r) (b := t)
    unfold byteC at ih ⊢
    rw [lexL]
    unfold natC at ih ⊢
    by_cases h1 : x.toNat < y.toNat
    · rw [if_pos h1, if_neg (by omega)]
      constructor
      · intro h; omega
      · intro h; rw [(List.cons.inj h).1] at h1; omega
    · rw [if_neg h1]
      by_cases h2 : x.toNat > y.toNat
      · rw [if_pos h2, if_neg (by omega)]
        constructor
        · intro h; omega
        · intro h; rw [(List.cons.inj h).1] at h2; omega
      · rw [if_neg h2, if_pos rfl, ih]
        have : x = y := UInt8.toNat_inj.1 (by omega)
        rw [this]; simp
end Go.Proofs.YtihjmnhamaicpaaGreatDoor
