/- symMerge's short moves: one element past a stretch, to the right and to the left. -/
import Derived.Test.YtihjmnhamaicpaaGreatDoorLIns
set_option linter.unusedVariables false
set_option linter.unusedSimpArgs false
namespace Go.Proofs.YtihjmnhamaicpaaGreatDoor
open Go Go.Abs
theorem move_right {i : Nat} (hi : i ≤ 1000) : ∀ (y p : List Str) (x : Str) (q : List Str) (k fu : Nat), k = p.length → i = k + 1 + y.length → y.length < fu →
    slSymMerge_L2 (i : Int) fu (k : Int) (p ++ x :: (y ++ q)) = some (p ++ (y ++ x :: q))
  | y, p, x, q, k, 0, _, _, h => by omega
  | [], p, x, q, k, fu + 1, hk, h, _ => by
    simp only [List.length_nil] at h
    simp only [slSymMerge_L2]
    rw [wrap_id (n := (i : Int) - 1) (by unfold okI; omega), decide_eq_false (show ¬ (k : Int) < (i : Int) - 1 by omega), cond_false]
    rfl
  | y0 :: y, p, x, q, k, fu + 1, hk, h, hf => by
    simp only [List.length_cons] at h hf
    have w : IntKind.i64.wrap ((k : Int) + 1) = ((k + 1 : Nat) : Int) := by rw [wrap_id (by unfold okI; omega)]; rfl
    have e1 : p ++ x :: (y0 :: y ++ q) = (p ++ [x]) ++ y0 :: (y ++ q) := by simp
    have g1 : ix (p ++ x :: (y0 :: y ++ q)) ((k + 1 : Nat) : Int) = some y0 := by rw [e1]; exact ix_mid (by simp; omega)
    have g2 : ix (p ++ x :: (y0 :: y ++ q)) (k : Int) = some x := ix_mid (by omega)
    have s1 : (p ++ x :: (y0 :: y ++ q)).set ((k : Int)).toNat y0 = (p ++ [y0]) ++ y0 :: (y ++ q) := by rw [set_mid (by omega)]; simp
    have g3 : ix ((p ++ [y0]) ++ y0 :: (y ++ q)) ((k + 1 : Nat) : Int) = some y0 := ix_mid (by simp; omega)
    have s2 : ((p ++ [y0]) ++ y0 :: (y ++ q)).set (((k + 1 : Nat) : Int)).toNat x = (p ++ [y0]) ++ x :: (y ++ q) := by rw [set_mid (by simp; omega)]
    simp only [slSymMerge_L2]
    rw [wrap_id (n := (i : Int) - 1) (by unfold okI; omega), decide_eq_true (show (k : Int) < (i : Int) - 1 by omega), cond_true, w]
    simp only [g1, g2, Option.bind_some, s1, g3, s2]
    rw [move_right hi y (p ++ [y0]) x q (k + 1) fu (by simp; omega) (by omega) (by omega)]
    simp
theorem move_left {i : Nat} (hi : i ≤ 1000) : ∀ (n : Nat) (x p : List Str) (y : Str) (q : List Str) (k fu : Nat), x.length = n → i = p.length → k = i + x.length → k ≤ 1000 → n < fu →
    slSymMerge_L4 (i : Int) fu (k : Int) (p ++ (x ++ y :: q)) = some (p ++ y :: (x ++ q))
  | n, x, p, y, q, k, 0, _, _, _, _, h => by omega
  | 0, x, p, y, q, k, fu + 1, hn, hp, hk, _, _ => by
    have : x = [] := List.length_eq_zero_iff.1 hn
    subst this
    simp only [List.length_nil] at hk
    simp only [slSymMerge_L4]
    rw [decide_eq_false (show ¬ (k : Int) > (i : Int) by omega), cond_false]
    rfl
  | n + 1, x, p, y, q, k, fu + 1, hn, hp, hk, h9, hf => by
    obtain ⟨z, x0, rfl⟩ : ∃ z x0, x = x0 ++ [z] := ⟨x.getLast (by intro h; rw [h] at hn; simp at hn), x.dropLast, (List.dropLast_concat_getLast _).symm⟩
    simp only [List.length_append, List.length_singleton] at hn hk
    have w : IntKind.i64.wrap ((k : Int) - 1) = ((k - 1 : Nat) : Int) := by rw [wrap_id (by unfold okI; omega)]; omega
    have e0 : p ++ (x0 ++ [z] ++ y :: q) = (p ++ x0) ++ z :: (y :: q) := by simp
    have e1 : p ++ (x0 ++ [z] ++ y :: q) = (p ++ x0 ++ [z]) ++ y :: q := by simp
    have g1 : ix (p ++ (x0 ++ [z] ++ y :: q)) ((k - 1 : Nat) : Int) = some z := by rw [e0]; exact ix_mid (by simp; omega)
    have g2 : ix (p ++ (x0 ++ [z] ++ y :: q)) (k : Int) = some y := by rw [e1]; exact ix_mid (by simp; omega)
    have s1 : (p ++ (x0 ++ [z] ++ y :: q)).set ((k : Int)).toNat z = (p ++ x0) ++ z :: (z :: q) := by rw [e1, set_mid (by simp; omega)]; simp
    have g3 : ix ((p ++ x0) ++ z :: (z :: q)) ((k - 1 : Nat) : Int) = some z := ix_mid (by simp; omega)
    have s2 : ((p ++ x0) ++ z :: (z :: q)).set (((k - 1 : Nat) : Int)).toNat y = p ++ (x0 ++ y :: (z :: q)) := by rw [set_mid (by simp; omega)]; simp
    simp only [slSymMerge_L4]
    rw [decide_eq_true (show (k : Int) > (i : Int) by omega), cond_true, w]
    simp only [g1, g2, Option.bind_some, s1, g3, s2]
    rw [move_left hi n x0 p y (z :: q) (k - 1) fu (by omega) hp (by omega) (by omega) (by omega)]
    simp
end Go.Proofs.YtihjmnhamaicpaaGreatDoor
