/- symMerge: two sorted stretches that stand side by side are merged in their place. -/
import Derived.Test.YtihjmnhamaicpaaGreatDoorLMrg8
set_option linter.unusedVariables false
set_option linter.unusedSimpArgs false
namespace Go.Proofs.YtihjmnhamaicpaaGreatDoor
open Go Go.Abs
theorem sym_eq : ∀ (N : Nat) (x y p q : List Str), x ≠ [] → y ≠ [] → x.length + y.length < N → p.length + x.length + y.length ≤ 900 → NSorted x → NSorted y → (∀ z ∈ x, z.length ≤ 800) → (∀ z ∈ y, z.length ≤ 800) →
    ∃ t, slSymMerge_F N (p ++ (x ++ (y ++ q))) (p.length : Int) ((p.length + x.length : Nat) : Int) ((p.length + x.length + y.length : Nat) : Int) = some (p ++ (t ++ q)) ∧ t.Perm (x ++ y) ∧ NSorted t
  | 0, _, _, _, _, _, _, h, _, _, _, _, _ => by omega
  | N + 1, x, y, p, q, nx, ny, hN, h9, hx, hy, zx, zy => by
    have px := List.length_pos_iff.2 nx
    have py := List.length_pos_iff.2 ny
    have w1 : IntKind.i64.wrap (((p.length + x.length : Nat) : Int) - (p.length : Int)) = (x.length : Int) := by rw [wrap_id (by unfold okI; omega)]; omega
    have w2 : IntKind.i64.wrap (((p.length + x.length + y.length : Nat) : Int) - ((p.length + x.length : Nat) : Int)) = (y.length : Int) := by rw [wrap_id (by unfold okI; omega)]; omega
    rw [slSymMerge_F, w1, w2]
    by_cases h1 : x.length = 1
    · obtain ⟨x0, rfl⟩ := List.length_eq_one_iff.1 h1
      rw [show (((([x0] : List Str).length : Nat) : Int) == 1) = true from rfl, cond_true]
      obtain ⟨t, t1, t2, t3⟩ := merge_one (p := p) (q := q) (N := N) (zx x0 (by simp)) zy hy (by simpa using h9) (by simp at hN; omega)
      exact ⟨t, t1, t2, t3⟩
    · rw [show ((x.length : Int) == 1) = false by simp; omega, cond_false]
      by_cases h2 : y.length = 1
      · obtain ⟨y0, rfl⟩ := List.length_eq_one_iff.1 h2
        rw [show (((([y0] : List Str).length : Nat) : Int) == 1) = true from rfl, cond_true]
        obtain ⟨t, t1, t2, t3⟩ := merge_oneR (p := p) (q := q) (N := N) (zy y0 (by simp)) zx hx (by simp at h9; omega) (by simp at hN; omega)
        exact ⟨t, t1, t2, t3⟩
      · rw [show ((y.length : Int) == 1) = false by simp; omega, cond_false]
        have e1 := mid_eq (i := p.length) (j := p.length + x.length + y.length) (by omega) (by omega)
        obtain ⟨mid, hmid⟩ : ∃ mid, mid = (p.length + (p.length + x.length + y.length)) / 2 := ⟨_, rfl⟩
        rw [← hmid] at e1
        rw [e1]
        have ih := fun (x' y' p' q' : List Str) (a1 : x' ≠ []) (a2 : y' ≠ []) (a3 : x'.length + y'.length < x.length + y.length) (a4 : p'.length + x'.length + y'.length ≤ 900) (a5 : NSorted x') (a6 : NSorted y') (a7 : ∀ z ∈ x', z.length ≤ 800) (a8 : ∀ z ∈ y', z.length ≤ 800) => sym_eq N x' y' p' q' a1 a2 (by omega) a4 a5 a6 a7 a8
        by_cases hgt : p.length + x.length > mid
        · rw [decide_eq_true (show ((p.length + x.length : Nat) : Int) > (mid : Int) by omega), cond_true]
          have e2 : IntKind.i64.wrap ((IntKind.i64.wrap ((mid : Int) + ((p.length + x.length : Nat) : Int))) - ((p.length + x.length + y.length : Nat) : Int)) = ((mid + (p.length + x.length) - (p.length + x.length + y.length) : Nat) : Int) := by
            rw [wrap_id (n := (mid : Int) + _) (by unfold okI; omega), wrap_id (by unfold okI; omega)]; omega
          rw [e2]
          exact part_L5 hx hy px py h9 zx zy ih rfl rfl rfl hmid (by omega) (by omega) (by omega) (by omega) (by omega) (.inr (by omega)) (.inr rfl) (by omega) (by omega)
        · rw [decide_eq_false (show ¬ ((p.length + x.length : Nat) : Int) > (mid : Int) by omega), cond_false]
          exact part_L6 hx hy px py h9 zx zy ih rfl rfl rfl hmid (by omega) (by omega) (by omega) (by omega) (by omega) (.inl rfl) (.inl rfl) (by omega) (by omega)
end Go.Proofs.YtihjmnhamaicpaaGreatDoor
