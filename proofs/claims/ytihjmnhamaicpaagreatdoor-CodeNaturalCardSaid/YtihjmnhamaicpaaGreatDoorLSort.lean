/- Sort; CodeNatural: true for every input. -/
import Derived.Test.YtihjmnhamaicpaaGreatDoorLStab2
import Derived.Test.YtihjmnhamaicpaaGreatDoorLDec2
import Derived.Test.YtihjmnhamaicpaaGreatDoorLFreeL
import Derived.Test.YtihjmnhamaicpaaGreatDoorGN
set_option linter.unusedVariables false
set_option linter.unusedSimpArgs false
namespace Go.Proofs.YtihjmnhamaicpaaGreatDoor
open Go Go.Abs
theorem pSort_eq {l : List Str} (h : l.length ≤ 30) (hz : ∀ z ∈ l, z.length ≤ 800) : ∃ t, pSort_S l = some t ∧ t.Perm l ∧ NSorted t := by
  obtain ⟨t, h1, h2, h3⟩ := stable_eq h hz
  refine ⟨t, ?_, h2, h3⟩
  simp only [pSort_S, pSort_F, psort_XS, psort_F, cloneS_eq (l := l) (by omega), Option.bind_some, slSortStable_XS, slSortStable_F, List.length_map, h1]
theorem count_loop {l : List Str} (c : Str) (h : l.length ≤ 1000) : ∀ (n i fu k : Nat), l.length - i = n → i ≤ l.length → k ≤ i → n < fu → lCodeNatural_1_L1 l c fu (k : Int) (i : Int) = some (((k + (l.drop i).count c : Nat)) : Int)
  | n, i, 0, _, _, _, _, h => by omega
  | 0, i, fu + 1, k, h1, hi, _, _ => by
    have : i = l.length := by omega
    subst this
    simp only [lCodeNatural_1_L1, List.length_map, decide_eq_false (show ¬ (l.length : Int) < (l.length : Int) by omega), cond_false, List.drop_length, List.count_nil, Nat.add_zero]
  | n + 1, i, fu + 1, k, h1, _, hk, hf => by
    have hi : i < l.length := by omega
    simp only [lCodeNatural_1_L1, List.length_map, decide_eq_true (show (i : Int) < (l.length : Int) by omega), cond_true, ix_at hi, Option.bind_some, wrap_succ (n := l.length) (by omega) hi, wrap_succ (n := 1000) (i := k) (by omega) (by omega)]
    rw [List.drop_eq_getElem_cons hi, List.count_cons]
    cases hb : l[i] == c with
    | true => rw [cond_true, count_loop c h n (i + 1) fu (k + 1) (by omega) (by omega) (by omega) (by omega)]; simp; omega
    | false => rw [cond_false, count_loop c h n (i + 1) fu k (by omega) (by omega) (by omega) (by omega)]; simp
theorem count_eq {l : List Str} (c : Str) (h : l.length ≤ 1000) : lCodeNatural_1_S l c = some ((l.count c : Nat) : Int) := by
  have := count_loop c h l.length 0 (l.length + 1) 0 (by omega) (by omega) (by omega) (by omega)
  simpa [lCodeNatural_1_S, lCodeNatural_1_F] using this
theorem NSorted.step {t : List Str} (h : NSorted t) {i : Nat} (hi : i + 1 < t.length) : natV t[i] t[i + 1] ≤ 0 :=
  List.pairwise_iff_getElem.1 h i (i + 1) (by omega) hi (by omega)
theorem loop1_go {l t : List Str} (h : t.length ≤ 30) (hz : ∀ z ∈ t, z.length ≤ 800) (hp : t.Perm l) (hs : NSorted t) : ∀ (n i fu : Nat), t.length - i = n → i ≤ t.length → n < fu → lCodeNatural_L1 l t fu (i : Int) = some true
  | n, i, 0, _, _, h => by omega
  | 0, i, fu + 1, h1, hi, _ => by
    have : i = t.length := by omega
    subst this
    simp only [lCodeNatural_L1, List.length_map, decide_eq_false (show ¬ (t.length : Int) < (t.length : Int) by omega), cond_false]
  | n + 1, i, fu + 1, h1, _, hf => by
    have hi : i < t.length := by omega
    have hl := hp.length_eq
    have hc : ∀ c : Str, t.count c = l.count c := fun c => hp.count_eq c
    have ih := loop1_go h hz hp hs n (i + 1) fu (by omega) (by omega) (by omega)
    simp only [lCodeNatural_L1, List.length_map, decide_eq_true (show (i : Int) < (t.length : Int) by omega), cond_true, ix_at hi, Option.bind_some, wrap_succ (n := t.length) (by omega) hi, count_eq _ (show t.length ≤ 1000 by omega), count_eq _ (show l.length ≤ 1000 by omega), hc, bne_self_eq_false, cond_false, ih]
    cases i with
    | zero => rfl
    | succ j =>
      have hj : j < t.length := by omega
      have hst := hs.step (i := j) hi
      rw [decide_eq_true (show ((j + 1 : Nat) : Int) > 0 by omega), cond_true, wrap_id (by unfold okI; omega), show (((j + 1 : Nat) : Int) - 1) = (j : Int) by omega, ix_at hj, Option.bind_some, pNatural_eq (hz _ (List.getElem_mem hj)) (hz _ (List.getElem_mem hi)), Option.bind_some, decide_eq_false (show ¬ natV t[j] t[j + 1] > 0 by omega), cond_false]
theorem loop1 {l t : List Str} (h : t.length ≤ 30) (hz : ∀ z ∈ t, z.length ≤ 800) (hp : t.Perm l) (hs : NSorted t) : lCodeNatural_L1 l t 100 0 = some true := loop1_go h hz hp hs t.length 0 100 (by omega) (by omega) (by omega)
theorem loop2_go {l t : List Str} (h : t.length ≤ 30) (hz : ∀ z ∈ t, z.length ≤ 800) (hp : t.Perm l) (hs : NSorted t) : ∀ (n i fu : Nat), t.length - i = n → i ≤ t.length → n < fu → lCodeNatural_L2 l t fu (i : Int) = some true
  | n, i, 0, _, _, h => by omega
  | 0, i, fu + 1, h1, hi, _ => by
    have : i = t.length := by omega
    subst this
    simp only [lCodeNatural_L2, List.length_map, decide_eq_false (show ¬ (t.length : Int) < (t.length : Int) by omega), cond_false]
  | n + 1, i, fu + 1, h1, _, hf => by
    have hi : i < t.length := by omega
    have hl := hp.length_eq
    have hc : ∀ c : Str, t.count c = l.count c := fun c => hp.count_eq c
    have ih := loop2_go h hz hp hs n (i + 1) fu (by omega) (by omega) (by omega)
    simp only [lCodeNatural_L2, List.length_map, decide_eq_true (show (i : Int) < (t.length : Int) by omega), cond_true, ix_at hi, Option.bind_some, wrap_succ (n := t.length) (by omega) hi, count_eq _ (show t.length ≤ 1000 by omega), count_eq _ (show l.length ≤ 1000 by omega), hc, bne_self_eq_false, cond_false, ih]
    cases i with
    | zero => rfl
    | succ j =>
      have hj : j < t.length := by omega
      have hst := hs.step (i := j) hi
      rw [decide_eq_true (show ((j + 1 : Nat) : Int) > 0 by omega), cond_true, wrap_id (by unfold okI; omega), show (((j + 1 : Nat) : Int) - 1) = (j : Int) by omega, ix_at hj, Option.bind_some, pNatural_eq (hz _ (List.getElem_mem hj)) (hz _ (List.getElem_mem hi)), Option.bind_some, decide_eq_false (show ¬ natV t[j] t[j + 1] > 0 by omega), cond_false]
theorem loop2 {l t : List Str} (h : t.length ≤ 30) (hz : ∀ z ∈ t, z.length ≤ 800) (hp : t.Perm l) (hs : NSorted t) : lCodeNatural_L2 l t 100 0 = some true := loop2_go h hz hp hs t.length 0 100 (by omega) (by omega) (by omega)
theorem loop3_go {l t : List Str} (h : t.length ≤ 30) (hz : ∀ z ∈ t, z.length ≤ 800) (hp : t.Perm l) (hs : NSorted t) : ∀ (n i fu : Nat), t.length - i = n → i ≤ t.length → n < fu → lCodeNatural_L3 l t fu (i : Int) = some true
  | n, i, 0, _, _, h => by omega
  | 0, i, fu + 1, h1, hi, _ => by
    have : i = t.length := by omega
    subst this
    simp only [lCodeNatural_L3, List.length_map, decide_eq_false (show ¬ (t.length : Int) < (t.length : Int) by omega), cond_false]
  | n + 1, i, fu + 1, h1, _, hf => by
    have hi : i < t.length := by omega
    have hl := hp.length_eq
    have hc : ∀ c : Str, t.count c = l.count c := fun c => hp.count_eq c
    have ih := loop3_go h hz hp hs n (i + 1) fu (by omega) (by omega) (by omega)
    simp only [lCodeNatural_L3, List.length_map, decide_eq_true (show (i : Int) < (t.length : Int) by omega), cond_true, ix_at hi, Option.bind_some, wrap_succ (n := t.length) (by omega) hi, count_eq _ (show t.length ≤ 1000 by omega), count_eq _ (show l.length ≤ 1000 by omega), hc, bne_self_eq_false, cond_false, ih]
    cases i with
    | zero => rfl
    | succ j =>
      have hj : j < t.length := by omega
      have hst := hs.step (i := j) hi
      rw [decide_eq_true (show ((j + 1 : Nat) : Int) > 0 by omega), cond_true, wrap_id (by unfold okI; omega), show (((j + 1 : Nat) : Int) - 1) = (j : Int) by omega, ix_at hj, Option.bind_some, pNatural_eq (hz _ (List.getElem_mem hj)) (hz _ (List.getElem_mem hi)), Option.bind_some, decide_eq_false (show ¬ natV t[j] t[j + 1] > 0 by omega), cond_false]
theorem loop3 {l t : List Str} (h : t.length ≤ 30) (hz : ∀ z ∈ t, z.length ≤ 800) (hp : t.Perm l) (hs : NSorted t) : lCodeNatural_L3 l t 100 0 = some true := loop3_go h hz hp hs t.length 0 100 (by omega) (by omega) (by omega)
theorem tail_eq {l : List Str} {x y : Int} (hl : l.length ≤ 30) (hz : ∀ z ∈ l, z.length ≤ 800) (hx : okU16 x) (hy : okU16 y) (L : List Str → Option Bool) (hL : ∀ t, t.Perm l → NSorted t → L t = some true) :
    (Option.bind (rDecimal_S (IntKind.i64.wrap x)) fun y26 => bif decide (([78, 32] : Str).length + y26.length ≤ 9223372036854775807) then Option.bind (rDecimal_S (IntKind.i64.wrap y)) fun y29 => bif decide (([78, 32] : Str).length + y29.length ≤ 9223372036854775807) then Option.bind (pNatural_S (([78, 32] : Str) ++ y26) (([78, 32] : Str) ++ y29)) fun y32 => bif (!((decide (y32 < 0)) == (decide (x < y)))) then some false else (Option.bind (pSort_S l) fun y35 => bif (((y35.map cStr).length : Int) != ((l.map cStr).length : Int)) then some false else L y35) else none else none) = some true := by
  obtain ⟨x1, x2⟩ := hx
  obtain ⟨y1, y2⟩ := hy
  obtain ⟨a, rfl⟩ : ∃ a : Nat, x = a := ⟨x.toNat, by omega⟩
  obtain ⟨b, rfl⟩ : ∃ b : Nat, y = b := ⟨y.toNat, by omega⟩
  obtain ⟨s, t, e1, e2, e3, e4, e5, e6⟩ := names_order (x := a) (y := b) (by omega) (by omega)
  obtain ⟨u, u1, u2, u3⟩ := pSort_eq hl hz
  rw [wrap_id (by unfold okI; omega), wrap_id (by unfold okI; omega), e1, e2, Option.bind_some, Option.bind_some]
  rw [decide_eq_true (show ([78, 32] : Str).length + s.length ≤ 9223372036854775807 by simp; omega), cond_true, decide_eq_true (show ([78, 32] : Str).length + t.length ≤ 9223372036854775807 by simp; omega), cond_true, e5, Option.bind_some, e6]
  rw [show decide ((a : Int) < (b : Int)) = decide (a < b) by simp, beq_self_eq_true, Bool.not_true, cond_false, u1, Option.bind_some, List.length_map, List.length_map, u2.length_eq, bne_self_eq_false, cond_false]
  exact hL u u2 u3
end Go.Proofs.YtihjmnhamaicpaaGreatDoor
namespace Go.Proofs.YtihjmnhamaicpaaGreatDoor.codeNatural
open Go Go.Abs
theorem law (a b c : Str) (l : List Str) (x y : Int) (_ : okS a) (_ : okS b) (_ : okS c) (hl : okStrs l) (hx : okU16 x) (hy : okU16 y) : lCodeNatural_S a b c l x y = some true := by
  simp only [lCodeNatural_S, lCodeNatural_F, awake_true, Option.bind_some, Bool.not_true, cond_false]
  by_cases h1 : a.length ≤ 100
  · rw [decide_eq_false (show ¬ (a.length : Int) > 100 by omega), cond_false]
    by_cases h2 : b.length ≤ 100
    · rw [decide_eq_false (show ¬ (b.length : Int) > 100 by omega), cond_false]
      by_cases h3 : c.length ≤ 100
      · rw [decide_eq_false (show ¬ (c.length : Int) > 100 by omega), cond_false]
        by_cases h4 : l.length ≤ 30
        · rw [List.length_map, decide_eq_false (show ¬ (l.length : Int) > 30 by omega), cond_false, rFew_eq hl, Option.bind_some]
          cases hf : few l with
          | false => rfl
          | true =>
            obtain ⟨q1, q2⟩ := few_spec hf
            have hz : ∀ z ∈ l, z.length ≤ 800 := fun z hm => by have := q2 z hm; omega
            rw [Bool.not_true, cond_false, pNatural_eq (a := a) (b := b) (by omega) (by omega), pNatural_eq (a := b) (b := a) (by omega) (by omega), pNatural_eq (a := b) (b := c) (by omega) (by omega), pNatural_eq (a := a) (b := c) (by omega) (by omega)]
            simp only [Option.bind_some]
            have n1 := natV_tot.neg b a
            have n2 := natV_tot.lo a b
            have n3 := natV_tot.hi a b
            have n4 := natV_tot.tr a b c
            have hw : IntKind.i64.wrap (0 - natV b a) = natV a b := by rw [wrap_id (by unfold okI; omega)]; omega
            rw [hw, bne_self_eq_false, cond_false, decide_eq_false (show ¬ natV a b < -1 by omega), cond_false, decide_eq_false (show ¬ natV a b > 1 by omega), cond_false]
            have he : ((natV a b == 0) == (a == b)) = true := by
              rw [beq_iff_eq, Bool.eq_iff_iff, beq_iff_eq, beq_iff_eq]; exact natV_zero
            rw [he, Bool.not_true, cond_false]
            have T1 := tail_eq h4 hz hx hy (fun t => lCodeNatural_L1 l t 100 0) (fun t p s => loop1 (by have := p.length_eq; omega) (fun z hm => hz z (p.mem_iff.1 hm)) p s)
            have T2 := tail_eq h4 hz hx hy (fun t => lCodeNatural_L2 l t 100 0) (fun t p s => loop2 (by have := p.length_eq; omega) (fun z hm => hz z (p.mem_iff.1 hm)) p s)
            have T3 := tail_eq h4 hz hx hy (fun t => lCodeNatural_L3 l t 100 0) (fun t p s => loop3 (by have := p.length_eq; omega) (fun z hm => hz z (p.mem_iff.1 hm)) p s)
            by_cases g1 : natV a b ≤ 0
            · rw [decide_eq_true g1, cond_true]
              by_cases g2 : natV b c ≤ 0
              · rw [decide_eq_true g2, cond_true, decide_eq_false (show ¬ natV a c > 0 by have := n4 g1 g2; omega), cond_false]
                simpa only [List.length_map] using T1
              · rw [decide_eq_false g2, cond_false]
                simpa only [List.length_map] using T2
            · rw [decide_eq_false g1, cond_false]
              simpa only [List.length_map] using T3
        · rw [List.length_map, decide_eq_true (show (l.length : Int) > 30 by omega), cond_true]
      · rw [decide_eq_true (show (c.length : Int) > 100 by omega), cond_true]
    · rw [decide_eq_true (show (b.length : Int) > 100 by omega), cond_true]
  · rw [decide_eq_true (show (a.length : Int) > 100 by omega), cond_true]
end Go.Proofs.YtihjmnhamaicpaaGreatDoor.codeNatural
