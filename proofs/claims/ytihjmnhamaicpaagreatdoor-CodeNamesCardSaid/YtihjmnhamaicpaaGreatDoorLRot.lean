/- The sort's moves: swapping two stretches, turning one over another. -/
import Derived.Test.YtihjmnhamaicpaaGreatDoorLNat3
import Derived.Test.YtihjmnhamaicpaaGreatDoorGS
set_option linter.unusedVariables false
set_option linter.unusedSimpArgs false
namespace Go.Proofs.YtihjmnhamaicpaaGreatDoor
open Go Go.Abs
theorem ix_mid {α : Type} {A B : List α} {z : α} {n : Int} (h : n = (A.length : Int)) : ix (A ++ z :: B) n = some z := by
  subst h
  rw [ix_at (by simp)]
  simp
theorem set_mid {α : Type} {A B : List α} {z w : α} {n : Int} (h : n = (A.length : Int)) : (A ++ z :: B).set n.toNat w = A ++ w :: B := by
  subst h
  rw [Int.toNat_natCast, List.set_append_right _ _ (Nat.le_refl _), Nat.sub_self]
  rfl
theorem swap_loop : ∀ (x : List Str) (p m y q : List Str) (a b n i fu : Nat), a + i = p.length → b + i = p.length + x.length + m.length → n = i + x.length → x.length = y.length → x.length < fu → b + n ≤ 100000 →
    slSwapRange_L1 (a : Int) (b : Int) (n : Int) fu (i : Int) (p ++ (x ++ (m ++ (y ++ q)))) = some (p ++ (y ++ (m ++ (x ++ q))))
  | [], p, m, y, q, a, b, n, i, 0, _, _, _, _, h, _ => by simp at h
  | [], p, m, y, q, a, b, n, i, fu + 1, ha, hb, hn, hy, _, _ => by
    have : y = [] := List.length_eq_zero_iff.1 (by simpa using hy.symm)
    subst this
    simp only [slSwapRange_L1, decide_eq_false (show ¬ (i : Int) < (n : Int) by simp at hn; omega), cond_false]
  | x0 :: xs, p, m, [], q, a, b, n, i, fu, _, _, _, hy, _, _ => by simp at hy
  | x0 :: xs, p, m, y0 :: ys, q, a, b, n, i, 0, _, _, _, _, h, _ => by omega
  | x0 :: xs, p, m, y0 :: ys, q, a, b, n, i, fu + 1, ha, hb, hn, hy, hf, hm => by
    simp only [List.length_cons] at hb hn hy hf
    have w1 : IntKind.i64.wrap ((b : Int) + (i : Int)) = ((p ++ (x0 :: xs ++ m)).length : Int) := by
      rw [wrap_id (by unfold okI; omega)]; simp; omega
    have w2 : IntKind.i64.wrap ((a : Int) + (i : Int)) = (p.length : Int) := by
      rw [wrap_id (by unfold okI; omega)]; omega
    have w3 : IntKind.i64.wrap ((i : Int) + 1) = ((i + 1 : Nat) : Int) := by rw [wrap_id (by unfold okI; omega)]; rfl
    have e1 : p ++ (x0 :: xs ++ (m ++ (y0 :: ys ++ q))) = (p ++ (x0 :: xs ++ m)) ++ y0 :: (ys ++ q) := by simp
    have e2 : p ++ (x0 :: xs ++ (m ++ (y0 :: ys ++ q))) = p ++ x0 :: (xs ++ (m ++ (y0 :: ys ++ q))) := by simp
    have g1 : ix (p ++ (x0 :: xs ++ (m ++ (y0 :: ys ++ q)))) ((p ++ (x0 :: xs ++ m)).length : Int) = some y0 := by rw [e1]; exact ix_mid rfl
    have g2 : ix (p ++ (x0 :: xs ++ (m ++ (y0 :: ys ++ q)))) (p.length : Int) = some x0 := by rw [e2]; exact ix_mid rfl
    have s1 : (p ++ (x0 :: xs ++ (m ++ (y0 :: ys ++ q)))).set ((p.length : Int)).toNat y0 = (p ++ (y0 :: xs ++ m)) ++ y0 :: (ys ++ q) := by
      rw [e2, set_mid rfl]; simp
    have hlen : ((p ++ (x0 :: xs ++ m)).length : Int) = ((p ++ (y0 :: xs ++ m)).length : Int) := by simp
    have g3 : ix ((p ++ (y0 :: xs ++ m)) ++ y0 :: (ys ++ q)) ((p ++ (x0 :: xs ++ m)).length : Int) = some y0 := ix_mid hlen
    have s2 : ((p ++ (y0 :: xs ++ m)) ++ y0 :: (ys ++ q)).set ((p ++ (x0 :: xs ++ m)).length : Int).toNat x0 = (p ++ [y0]) ++ (xs ++ ((m ++ [x0]) ++ (ys ++ q))) := by
      rw [set_mid hlen]; simp
    simp only [slSwapRange_L1, decide_eq_true (show (i : Int) < (n : Int) by omega), cond_true, w1, w2, w3, g1, g2, Option.bind_some, s1, g3, s2]
    rw [swap_loop xs (p ++ [y0]) (m ++ [x0]) ys q a b n (i + 1) fu (by simp; omega) (by simp; omega) (by omega) (by omega) (by omega) hm]
    simp
theorem swap_eq {p x m y q : List Str} {a b n : Int} (ha : a = (p.length : Int)) (hb : b = (p.length : Int) + x.length + m.length) (hn : n = (x.length : Int)) (hy : x.length = y.length) (hx : x.length ≤ 900) (hm : p.length + x.length + m.length ≤ 10000) :
    slSwapRange_XS (p ++ (x ++ (m ++ (y ++ q)))) a b n = some (p ++ (y ++ (m ++ (x ++ q)))) := by
  have := swap_loop x p m y q p.length (p.length + x.length + m.length) x.length 0 1000 (by omega) (by omega) (by omega) hy (by omega) (by omega)
  subst ha; subst hn
  rw [show b = ((p.length + x.length + m.length : Nat) : Int) by omega]
  exact this
theorem rot_loop {m : Nat} (hm : m ≤ 1000) : ∀ (k : Nat) (x p y q : List Str) (fu : Nat), x.length + y.length = k → 1 ≤ x.length → 1 ≤ y.length → m = p.length + x.length → k < fu → k ≤ 900 →
    slRotate_L1 (m : Int) fu (x.length : Int) (y.length : Int) (p ++ (x ++ (y ++ q))) = some (p ++ (y ++ (x ++ q)))
  | k, x, p, y, q, 0, _, _, _, _, h, _ => by omega
  | k, x, p, y, q, fu + 1, hk, hx, hy, hmp, hf, h9 => by
    by_cases he : x.length = y.length
    · have e : (((x.length : Nat) : Int) != ((y.length : Nat) : Int)) = false := by simp; omega
      simp only [slRotate_L1, e, cond_false]
      have := swap_eq (p := p) (x := x) (m := []) (y := y) (q := q) (a := IntKind.i64.wrap ((m : Int) - (x.length : Int))) (b := (m : Int)) (n := (x.length : Int)) (by rw [wrap_id (by unfold okI; omega)]; omega) (by simp; omega) rfl he (by omega) (by simp; omega)
      simp only [List.nil_append] at this
      rw [this]; rfl
    · have e : (((x.length : Nat) : Int) != ((y.length : Nat) : Int)) = true := by simp; omega
      by_cases hgt : x.length > y.length
      · obtain ⟨x1, x2, rfl, h1⟩ : ∃ x1 x2, x = x1 ++ x2 ∧ x1.length = y.length := ⟨x.take y.length, x.drop y.length, (List.take_append_drop _ _).symm, by simp; omega⟩
        simp only [slRotate_L1, e, cond_true, decide_eq_true (show (((x1 ++ x2).length : Nat) : Int) > ((y.length : Nat) : Int) by omega)]
        simp only [List.length_append] at hk hx hmp hgt
        have sw := swap_eq (p := p) (x := x1) (m := x2) (y := y) (q := q) (a := IntKind.i64.wrap ((m : Int) - ((x1 ++ x2).length : Int))) (b := (m : Int)) (n := (y.length : Int)) (by rw [wrap_id (by unfold okI; simp; omega)]; simp; omega) (by omega) (by omega) h1 (by omega) (by omega)
        rw [show p ++ (x1 ++ x2 ++ (y ++ q)) = p ++ (x1 ++ (x2 ++ (y ++ q))) by simp, sw, Option.bind_some]
        have w : IntKind.i64.wrap (((x1 ++ x2).length : Int) - (y.length : Int)) = (x2.length : Int) := by rw [wrap_id (by unfold okI; simp; omega)]; simp; omega
        rw [w, ← h1]
        have ih := rot_loop hm (x2.length + x1.length) x2 (p ++ y) x1 q fu rfl (by omega) (by omega) (by simp; omega) (by omega) (by omega)
        rw [show p ++ (y ++ (x2 ++ (x1 ++ q))) = p ++ y ++ (x2 ++ (x1 ++ q)) by simp, ih]
        simp
      · obtain ⟨y1, y2, rfl, h1⟩ : ∃ y1 y2, y = y1 ++ y2 ∧ y2.length = x.length := ⟨y.take (y.length - x.length), y.drop (y.length - x.length), (List.take_append_drop _ _).symm, by simp; omega⟩
        simp only [slRotate_L1, e, cond_true, decide_eq_false (show ¬ ((x.length : Nat) : Int) > (((y1 ++ y2).length : Nat) : Int) by omega), cond_false]
        simp only [List.length_append] at hk hy hgt he
        have sw := swap_eq (p := p) (x := x) (m := y1) (y := y2) (q := q) (a := IntKind.i64.wrap ((m : Int) - (x.length : Int))) (b := IntKind.i64.wrap ((IntKind.i64.wrap ((m : Int) + ((y1 ++ y2).length : Int))) - (x.length : Int))) (n := (x.length : Int)) (by rw [wrap_id (by unfold okI; omega)]; omega) (by rw [wrap_id (n := (m : Int) + _) (by unfold okI; simp; omega), wrap_id (by unfold okI; simp; omega)]; simp; omega) rfl h1.symm (by omega) (by omega)
        rw [show p ++ (x ++ (y1 ++ y2 ++ q)) = p ++ (x ++ (y1 ++ (y2 ++ q))) by simp, sw, Option.bind_some]
        have w : IntKind.i64.wrap (((y1 ++ y2).length : Int) - (x.length : Int)) = (y1.length : Int) := by rw [wrap_id (by unfold okI; simp; omega)]; simp; omega
        rw [w, ← h1]
        have ih := rot_loop hm (y2.length + y1.length) y2 p y1 (x ++ q) fu rfl (by omega) (by omega) (by omega) (by omega) (by omega)
        rw [ih]
        simp
theorem rot_eq {p x y q : List Str} {a m b : Int} (ha : a = (p.length : Int)) (hm : m = (p.length : Int) + x.length) (hb : b = (p.length : Int) + x.length + y.length) (hx : 1 ≤ x.length) (hy : 1 ≤ y.length) (h9 : p.length + x.length + y.length ≤ 900) :
    slRotate_XS (p ++ (x ++ (y ++ q))) a m b = some (p ++ (y ++ (x ++ q))) := by
  simp only [slRotate_XS, slRotate_F]
  rw [wrap_id (n := m - a) (by unfold okI; omega), wrap_id (n := b - m) (by unfold okI; omega), show m - a = (x.length : Int) by omega, show b - m = (y.length : Int) by omega, show m = ((p.length + x.length : Nat) : Int) by omega]
  exact rot_loop (by omega) (x.length + y.length) x p y q 1000 rfl hx hy rfl (by omega) (by omega)
end Go.Proofs.YtihjmnhamaicpaaGreatDoor
