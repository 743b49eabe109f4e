/- The insertion sort of one block. -/
import Derived.Test.YtihjmnhamaicpaaGreatDoorLRot
set_option linter.unusedVariables false
set_option linter.unusedSimpArgs false
namespace Go.Proofs.YtihjmnhamaicpaaGreatDoor
open Go Go.Abs
/-- In the natural order. -/
def NSorted (l : List Str) : Prop := l.Pairwise fun a b => natV a b ≤ 0
/-- The place of x from behind: r is the sorted part ahead of it, back to front. -/
def insR (x : Str) : List Str → List Str
  | [] => [x]
  | y :: r => if natV x y < 0 then y :: insR x r else x :: y :: r
theorem insR_perm (x : Str) : ∀ r : List Str, (insR x r).Perm (x :: r)
  | [] => List.Perm.refl _
  | y :: r => by
    rw [insR]
    split
    · exact ((insR_perm x r).cons y).trans (List.Perm.swap _ _ _)
    · exact List.Perm.refl _
/-- Back to front in the natural order. -/
def RSorted (l : List Str) : Prop := l.Pairwise fun a b => natV b a ≤ 0
theorem insR_sorted {x : Str} : ∀ {r : List Str}, RSorted r → RSorted (insR x r)
  | [], _ => List.pairwise_singleton _ _
  | y :: r, h => by
    rw [RSorted, List.pairwise_cons] at h
    rw [insR]
    split
    · rename_i hlt
      rw [RSorted, List.pairwise_cons]
      refine ⟨fun z hz => ?_, insR_sorted h.2⟩
      rcases List.mem_cons.1 ((insR_perm x r).mem_iff.1 hz) with rfl | hz
      · omega
      · exact h.1 z hz
    · rename_i hge
      have hxy : natV y x ≤ 0 := by have := natV_tot.neg x y; omega
      rw [RSorted, List.pairwise_cons, List.pairwise_cons]
      refine ⟨fun z hz => ?_, h.1, h.2⟩
      rcases List.mem_cons.1 hz with rfl | hz
      · exact hxy
      · exact natV_tot.tr _ _ _ (h.1 z hz) hxy
theorem insert_L2 {a i : Nat} {p q : List Str} (hp : a = p.length) (hall : ∀ z ∈ p ++ q, True) {k : Int → List Str → Option (List Str)} {x : Str} (hx : x.length ≤ 800) :
    ∀ (r t : List Str) (fu : Nat), (∀ z ∈ r, z.length ≤ 800) → r.length < fu → a + r.length ≤ 1000 →
      slInsertion_L2 (a : Int) (i : Int) k fu ((a + r.length : Nat) : Int) (p ++ (r.reverse ++ x :: (t ++ q))) = k (IntKind.i64.wrap ((i : Int) + 1)) (p ++ ((insR x r).reverse ++ (t ++ q)))
  | r, t, 0, _, h, _ => by omega
  | [], t, fu + 1, _, _, _ => by
    simp only [slInsertion_L2, List.length_nil, Nat.add_zero, decide_eq_false (show ¬ ((a : Nat) : Int) > (a : Int) by omega), cond_false]
    simp [insR]
  | y :: r, t, fu + 1, hz, hf, hm => by
    simp only [List.length_cons] at hf hm ⊢
    have w : IntKind.i64.wrap (((a + (r.length + 1) : Nat) : Int) - 1) = ((a + r.length : Nat) : Int) := by rw [wrap_id (by unfold okI; omega)]; omega
    have e1 : p ++ ((y :: r).reverse ++ x :: (t ++ q)) = (p ++ r.reverse ++ [y]) ++ x :: (t ++ q) := by simp
    have e2 : p ++ ((y :: r).reverse ++ x :: (t ++ q)) = (p ++ r.reverse) ++ y :: (x :: (t ++ q)) := by simp
    have g1 : ix (p ++ ((y :: r).reverse ++ x :: (t ++ q))) ((a + (r.length + 1) : Nat) : Int) = some x := by rw [e1]; exact ix_mid (by simp; omega)
    have g2 : ix (p ++ ((y :: r).reverse ++ x :: (t ++ q))) ((a + r.length : Nat) : Int) = some y := by rw [e2]; exact ix_mid (by simp; omega)
    have s1 : (p ++ ((y :: r).reverse ++ x :: (t ++ q))).set (((a + (r.length + 1) : Nat) : Int)).toNat y = (p ++ r.reverse) ++ y :: (y :: (t ++ q)) := by
      rw [e1, set_mid (by simp; omega)]; simp
    have g3 : ix ((p ++ r.reverse) ++ y :: (y :: (t ++ q))) ((a + r.length : Nat) : Int) = some y := ix_mid (by simp; omega)
    have s2 : ((p ++ r.reverse) ++ y :: (y :: (t ++ q))).set (((a + r.length : Nat) : Int)).toNat x = p ++ (r.reverse ++ x :: ((y :: t) ++ q)) := by
      rw [set_mid (by simp; omega)]; simp
    simp only [slInsertion_L2, decide_eq_true (show ((a + (r.length + 1) : Nat) : Int) > (a : Int) by omega), cond_true, g1, w, g2, Option.bind_some, pNatural_eq hx (hz y (by simp)), s1, g3, s2, insR]
    by_cases hlt : natV x y < 0
    · rw [decide_eq_true hlt, cond_true, if_pos hlt, insert_L2 hp (fun _ _ => trivial) hx r (y :: t) fu (fun z h => hz z (List.mem_cons_of_mem _ h)) (by omega) (by omega)]
      simp
    · rw [decide_eq_false hlt, cond_false, if_neg hlt]
      simp
def sortR : List Str → List Str → List Str
  | r, [] => r
  | r, x :: s => sortR (insR x r) s
theorem sortR_perm : ∀ (s r : List Str), (sortR r s).Perm (s ++ r)
  | [], r => List.Perm.refl _
  | x :: s, r => by
    refine (sortR_perm s (insR x r)).trans ?_
    refine ((insR_perm x r).append_left s).trans ?_
    simp
theorem sortR_sorted : ∀ {s r : List Str}, RSorted r → RSorted (sortR r s)
  | [], _, h => h
  | x :: s, _, h => sortR_sorted (s := s) (insR_sorted h)
theorem insert_L1 {a b : Nat} {p q : List Str} (hp : a = p.length) (hb : b ≤ 900) : ∀ (s r : List Str) (fu : Nat), b = a + r.length + s.length → 1 ≤ r.length → (∀ z ∈ r ++ s, z.length ≤ 800) → s.length < fu →
    slInsertion_L1 (a : Int) (b : Int) 1000 fu ((a + r.length : Nat) : Int) (p ++ (r.reverse ++ (s ++ q))) = some (p ++ ((sortR r s).reverse ++ q))
  | s, r, 0, _, _, _, h => by omega
  | [], r, fu + 1, h, hr, hz, _ => by
    simp only [List.length_nil, Nat.add_zero] at h
    simp only [slInsertion_L1, decide_eq_false (show ¬ ((a + r.length : Nat) : Int) < (b : Int) by omega), cond_false, sortR, List.nil_append]
  | x :: s, r, fu + 1, h, hr, hz, hf => by
    simp only [List.length_cons] at h hf
    simp only [slInsertion_L1, decide_eq_true (show ((a + r.length : Nat) : Int) < (b : Int) by omega), cond_true]
    have := insert_L2 (a := a) (i := a + r.length) (p := p) (q := s ++ q) hp (fun _ _ => trivial) (k := fun q_i1 q_v2 => slInsertion_L1 (a : Int) (b : Int) 1000 fu q_i1 q_v2) (x := x) (hz x (by simp)) r [] 1000 (fun z h => hz z (List.mem_append_left _ h)) (by omega) (by omega)
    simp only [List.nil_append] at this
    rw [show p ++ (r.reverse ++ (x :: s ++ q)) = p ++ (r.reverse ++ x :: (s ++ q)) by simp, this]
    have w : IntKind.i64.wrap (((a + r.length : Nat) : Int) + 1) = ((a + (insR x r).length : Nat) : Int) := by
      rw [(insR_perm x r).length_eq, wrap_id (by unfold okI; omega)]; simp; omega
    rw [w]
    exact insert_L1 hp hb s (insR x r) fu (by rw [(insR_perm x r).length_eq]; simp; omega) (by rw [(insR_perm x r).length_eq]; simp) (fun z h => by
      rcases List.mem_append.1 h with h | h
      · rcases List.mem_cons.1 ((insR_perm x r).mem_iff.1 h) with rfl | h
        · exact hz _ (by simp)
        · exact hz z (List.mem_append_left _ h)
      · exact hz z (by simp [h])) (by omega)
/-- A block is sorted in its place. -/
theorem insertion_eq {p s q : List Str} {a b : Nat} (hp : a = p.length) (hs : b = a + s.length) (hb : b ≤ 900) (hz : ∀ z ∈ s, z.length ≤ 800) : ∃ t : List Str, slInsertion_XS (p ++ (s ++ q)) (a : Int) (b : Int) = some (p ++ (t ++ q)) ∧ t.Perm s ∧ NSorted t := by
  cases s with
  | nil =>
    refine ⟨[], ?_, List.Perm.refl _, List.Pairwise.nil⟩
    simp only [List.length_nil, Nat.add_zero] at hs
    simp only [slInsertion_XS, slInsertion_F]
    rw [wrap_id (by unfold okI; omega)]
    have key : ∀ (N fu : Nat) (v : List Str), slInsertion_L1 (a : Int) (b : Int) N (fu + 1) ((a : Int) + 1) v = some v := fun N fu v => by
      simp only [slInsertion_L1, decide_eq_false (show ¬ ((a : Int) + 1 < (b : Int)) by omega), cond_false]
    exact key 1000 999 _
  | cons x s =>
    simp only [List.length_cons] at hs
    refine ⟨(sortR [x] s).reverse, ?_, (List.reverse_perm _).trans ((sortR_perm s [x]).trans (by simp)), ?_⟩
    · have := insert_L1 (a := a) (b := b) (p := p) (q := q) hp hb s [x] 1000 (by simp; omega) (by simp) (fun z h => hz z (by simpa using h)) (by omega)
      simp only [slInsertion_XS, slInsertion_F]
      rw [wrap_id (by unfold okI; omega), show (a : Int) + 1 = ((a + ([x] : List Str).length : Nat) : Int) by simp]
      simpa using this
    · have := sortR_sorted (s := s) (r := [x]) (List.pairwise_singleton _ _)
      unfold NSorted
      rw [List.pairwise_reverse]
      exact this
end Go.Proofs.YtihjmnhamaicpaaGreatDoor
