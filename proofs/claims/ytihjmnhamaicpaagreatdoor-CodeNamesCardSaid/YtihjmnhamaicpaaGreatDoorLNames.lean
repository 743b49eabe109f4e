/- Sort of the second kind, by insertion; both sorts give the same list; CodeNames: true for every input. -/
import Derived.Test.YtihjmnhamaicpaaGreatDoorLSortP
import Derived.Test.YtihjmnhamaicpaaGreatDoorAw
import Derived.Test.YtihjmnhamaicpaaGreatDoorLName5
import Derived.Test.YtihjmnhamaicpaaGreatDoorLNatR
import Derived.Test.YtihjmnhamaicpaaGreatDoorGM
set_option linter.unusedVariables false
set_option linter.unusedSimpArgs false
namespace Go.Proofs.YtihjmnhamaicpaaGreatDoor
open Go Go.Abs
theorem mixset {p q : List Str} {x e : Str} {j n : Nat} (hj : j = p.length) (hn : n = q.length) : (mix ((p ++ q) ++ [e]) (j + 1) j n).set j x = p ++ x :: q := by
  subst hj; subst hn
  unfold mix
  obtain ⟨h, t, ht⟩ : ∃ h t, q ++ [e] = h :: t := by cases q with
    | nil => exact ⟨e, [], rfl⟩
    | cons a b => exact ⟨a, b ++ [e], rfl⟩
  have e1 : ((p ++ q) ++ [e]).take (p.length + 1) = p ++ [h] := by rw [List.append_assoc, ht, List.take_append, List.take_of_length_le (by omega)]; simp
  have e2 : (((p ++ q) ++ [e]).drop p.length).take q.length = q := by simp [List.append_assoc]
  have e3 : ((p ++ q) ++ [e]).drop (p.length + 1 + q.length) = [] := List.drop_of_length_le (by simp; omega)
  rw [e1, e2, e3]
  simp [List.set_append]
theorem ins_fin {p q : List Str} {x : Str} (h : p.length + q.length ≤ 900) (k : List Str → Option (List Str)) (f : Option Str) (hf : f = some x) :
    (bif decide ((p ++ q).length + ([([] : Str)] : List Str).length ≤ 4294967296) then bif decide (0 ≤ IntKind.i64.wrap ((p.length : Int) + 1) ∧ IntKind.i64.wrap ((p.length : Int) + 1) ≤ (((p ++ q) ++ [([] : Str)]).length : Int)) && !((p ++ q) ++ [([] : Str)]).isEmpty then
      bif decide (0 ≤ (p.length : Int) ∧ (p.length : Int) ≤ (((p ++ q) ++ [([] : Str)]).length : Int)) && !((p ++ q) ++ [([] : Str)]).isEmpty then Option.bind f fun x15 =>
        Option.bind (ix (mix ((p ++ q) ++ [([] : Str)]) (IntKind.i64.wrap ((p.length : Int) + 1)).toNat ((p.length : Int)).toNat (min (((p ++ q) ++ [([] : Str)]).length - ((p.length : Int)).toNat) (((p ++ q) ++ [([] : Str)]).length - (IntKind.i64.wrap ((p.length : Int) + 1)).toNat))) (p.length : Int)) fun x17 =>
          k ((mix ((p ++ q) ++ [([] : Str)]) (IntKind.i64.wrap ((p.length : Int) + 1)).toNat ((p.length : Int)).toNat (min (((p ++ q) ++ [([] : Str)]).length - ((p.length : Int)).toNat) (((p ++ q) ++ [([] : Str)]).length - (IntKind.i64.wrap ((p.length : Int) + 1)).toNat))).set ((p.length : Int)).toNat x15) else none else none else none) = k (p ++ x :: q) := by
  have hw : IntKind.i64.wrap ((p.length : Int) + 1) = ((p.length + 1 : Nat) : Int) := by rw [wrap_id (by unfold okI; omega)]; rfl
  have hl : ((p ++ q) ++ [([] : Str)]).length = p.length + q.length + 1 := by simp; omega
  have hne : ((p ++ q) ++ [([] : Str)]).isEmpty = false := by cases p <;> cases q <;> rfl
  have hl2 : (p ++ q).length = p.length + q.length := List.length_append
  have hmn : min (p.length + q.length + 1 - p.length) (p.length + q.length + 1 - (p.length + 1)) = q.length := by omega
  rw [hw, hf, hl, hne, hl2, Int.toNat_natCast, Int.toNat_natCast, hmn]
  rw [decide_eq_true (show p.length + q.length + ([([] : Str)] : List Str).length ≤ 4294967296 by simp; omega), cond_true]
  rw [decide_eq_true (show (0 : Int) ≤ ((p.length + 1 : Nat) : Int) ∧ ((p.length + 1 : Nat) : Int) ≤ ((p.length + q.length + 1 : Nat) : Int) by omega)]
  rw [decide_eq_true (show (0 : Int) ≤ (p.length : Int) ∧ (p.length : Int) ≤ ((p.length + q.length + 1 : Nat) : Int) by omega)]
  simp only [Bool.not_false, Bool.and_true, cond_true, Option.bind_some]
  have hm : (mix ((p ++ q) ++ [([] : Str)]) (p.length + 1) p.length q.length).length = p.length + q.length + 1 := by rw [mix_len (by omega) (by omega), hl]
  rw [ix_at (by omega), Option.bind_some, mixset rfl rfl]
theorem ins_loop {l : List Str} {x : Str} {i : Nat} (hi : i < l.length) (hx : l[i] = x) (hx8 : x.length ≤ 800) {k : Int → List Str → Option (List Str)} :
    ∀ (n : Nat) (p q : List Str) (fu : Nat), p.length = n → p.length + q.length ≤ 900 → NSorted (p ++ q) → (∀ z ∈ q, natV x z ≤ 0) → (∀ z ∈ p, z.length ≤ 800) → n < fu →
      ∃ t, rSort_L2 l (p ++ q) (i : Int) k fu (n : Int) = k (IntKind.i64.wrap ((i : Int) + 1)) t ∧ t.Perm (x :: (p ++ q)) ∧ NSorted t
  | n, p, q, 0, _, _, _, _, _, h => by omega
  | 0, p, q, fu + 1, hn, hm, hs, hq, hp, hf => by
    have := List.eq_nil_of_length_eq_zero hn
    subst this
    refine ⟨x :: q, ?_, List.Perm.refl _, List.pairwise_cons.2 ⟨fun z hz => hq z hz, hs⟩⟩
    have := ins_fin (p := []) (q := q) (x := x) hm (fun t => k (IntKind.i64.wrap ((i : Int) + 1)) t) (ix l (i : Int)) (by rw [ix_at hi, hx])
    rw [rSort_L2]
    exact this
  | n + 1, p, q, fu + 1, hn, hm, hs, hq, hp, hf => by
    obtain ⟨p', z, rfl⟩ : ∃ p' z, p = p' ++ [z] := by
      rcases List.eq_nil_or_concat p with h | ⟨a, b, h⟩
      · subst h; simp at hn
      · exact ⟨a, b, by simpa using h⟩
    have hpl : p'.length = n := by simpa using hn
    have hz8 : z.length ≤ 800 := hp z (by simp)
    have hw : IntKind.i64.wrap (((n + 1 : Nat) : Int) - 1) = (n : Int) := by rw [wrap_id (by unfold okI; simp at hm; omega)]; omega
    have hg : ix ((p' ++ [z]) ++ q) (n : Int) = some z := by
      rw [ix_at (by simp; omega)]
      simp [hpl]
    rw [rSort_L2, hw, hg, ix_at hi, hx, decide_eq_true (show ((n + 1 : Nat) : Int) > 0 by omega), cond_true, Option.bind_some, Option.bind_some, rNatural_eq hz8 hx8, Option.bind_some]
    by_cases hc : natV z x > 0
    · rw [decide_eq_true hc, cond_true]
      have hzx : natV x z ≤ 0 := by have := natV_tot.neg z x; omega
      obtain ⟨t, h1, h2, h3⟩ := ins_loop hi hx hx8 (k := k) n p' (z :: q) fu hpl (by simp at hm ⊢; omega) (by simpa using hs) (fun y hy => by
        rcases List.mem_cons.1 hy with rfl | hy
        · exact hzx
        · exact hq y hy) (fun y hy => hp y (by simp [hy])) (by omega)
      refine ⟨t, ?_, by simpa using h2, h3⟩
      rw [← h1]
      simp
    · rw [decide_eq_false hc, cond_false]
      have hzx : natV z x ≤ 0 := by omega
      refine ⟨(p' ++ [z]) ++ x :: q, ?_, List.perm_middle, ?_⟩
      · have := ins_fin (p := p' ++ [z]) (q := q) (x := x) (by simpa using hm) (fun t => k (IntKind.i64.wrap ((i : Int) + 1)) t) (some x) rfl
        rw [hn] at this
        exact this
      · unfold NSorted at hs ⊢
        rw [List.pairwise_append] at hs ⊢
        refine ⟨hs.1, List.pairwise_cons.2 ⟨fun y hy => hq y hy, hs.2.1⟩, fun a ha b hb => ?_⟩
        have haz : natV a z ≤ 0 := by
          rcases List.mem_append.1 ha with ha' | ha'
          · exact (List.pairwise_append.1 hs.1).2.2 a ha' z (by simp)
          · rw [List.mem_singleton.1 ha']
            have := natV_zero.2 (rfl : z = z)
            omega
        rcases List.mem_cons.1 hb with rfl | hb
        · exact natV_tot.tr _ _ _ haz hzx
        · exact hs.2.2 a ha b hb
theorem rsort_loop {l : List Str} (hl : l.length ≤ 30) (hz : ∀ z ∈ l, z.length ≤ 800) {N : Nat} (hN : 100 ≤ N) : ∀ (n i : Nat) (y : List Str) (fu : Nat), l.length - i = n → i ≤ l.length → y.Perm (l.take i) → NSorted y → n < fu →
    ∃ t, rSort_L1 l N fu (i : Int) y = some t ∧ t.Perm l ∧ NSorted t
  | n, i, y, 0, _, _, _, _, h => by omega
  | 0, i, y, fu + 1, hn, hi, hp, hs, _ => by
    have he : i = l.length := by omega
    subst he
    rw [List.take_length] at hp
    refine ⟨y, ?_, hp, hs⟩
    rw [rSort_L1, List.length_map, decide_eq_false (by omega), cond_false]
  | n + 1, i, y, fu + 1, hn, hi, hp, hs, hf => by
    have hlt : i < l.length := by omega
    have hyl : y.length = i := by rw [hp.length_eq, List.length_take]; omega
    obtain ⟨t, h1, h2, h3⟩ := ins_loop (l := l) hlt rfl (hz _ (List.getElem_mem hlt)) (k := fun q_i1 q_v2 => rSort_L1 l N fu q_i1 q_v2) y.length y [] N rfl (by simp; omega) (by simpa using hs) (by simp) (fun z hm => hz z (List.mem_of_mem_take (hp.mem_iff.1 hm))) (by omega)
    have hp2 : t.Perm (l.take (i + 1)) := by
      rw [List.take_succ_eq_append_getElem hlt]
      rw [List.append_nil] at h2
      exact h2.trans (((hp.cons _).trans (List.perm_append_singleton _ _).symm))
    obtain ⟨t', g1, g2, g3⟩ := rsort_loop hl hz hN n (i + 1) t fu (by omega) (by omega) hp2 h3 (by omega)
    refine ⟨t', ?_, g2, g3⟩
    rw [rSort_L1, List.length_map, decide_eq_true (by omega), cond_true]
    rw [List.append_nil] at h1
    simp only [List.length_map]
    rw [h1, wrap_succ (n := l.length) (by omega) hlt]
    exact g1
theorem rSort_eq {l : List Str} (hl : l.length ≤ 30) (hz : ∀ z ∈ l, z.length ≤ 800) : ∃ t, rSort_S l = some t ∧ t.Perm l ∧ NSorted t := by
  have key : ∀ N, 100 ≤ N → ∃ t, rSort_F N l = some t ∧ t.Perm l ∧ NSorted t := fun N hN => rsort_loop hl hz hN l.length 0 [] N (by omega) (by omega) (by simp) List.Pairwise.nil (by omega)
  exact key 1000 (by omega)
theorem sorted_uniq : ∀ {s t : List Str}, NSorted s → NSorted t → s.Perm t → s = t
  | [], t, _, _, h => (List.nil_perm.1 h).symm
  | a :: s, [], _, _, h => (List.Perm.eq_nil h)
  | a :: s, b :: t, hs, ht, h => by
    have h1 := List.pairwise_cons.1 hs
    have h2 := List.pairwise_cons.1 ht
    have e : a = b := by
      rcases List.mem_cons.1 (h.mem_iff.1 (List.mem_cons_self)) with e | ha
      · exact e
      · rcases List.mem_cons.1 (h.mem_iff.2 (List.mem_cons_self)) with e | hb
        · exact e.symm
        · have g1 := h1.1 b hb
          have g2 := h2.1 a ha
          have := natV_tot.neg a b
          exact natV_zero.1 (by omega)
    subst e
    rw [sorted_uniq h1.2 h2.2 (List.Perm.cons_inv h)]
theorem same_loop {a : List Str} (h : a.length ≤ 1000) : ∀ (n i fu : Nat), a.length - i = n → n < fu → i ≤ a.length → rSameStrings_L1 a a fu (i : Int) = some true
  | n, i, 0, _, h, _ => by omega
  | 0, i, fu + 1, hn, _, hi => by
    rw [rSameStrings_L1, List.length_map, decide_eq_false (by omega), cond_false]
  | n + 1, i, fu + 1, hn, hf, hi => by
    rw [rSameStrings_L1, List.length_map, decide_eq_true (by omega), cond_true, ix_at (by omega), Option.bind_some, Option.bind_some, beq_self_eq_true, Bool.not_true, cond_false, wrap_succ (n := a.length) (by omega) (by omega)]
    exact same_loop h n (i + 1) fu (by omega) (by omega) (by omega)
theorem same_eq {a : List Str} (h : a.length ≤ 1000) : rSameStrings_S a a = some true := by
  simp only [rSameStrings_S, rSameStrings_F, bne_self_eq_false, cond_false]
  exact same_loop h a.length 0 _ (by omega) (by omega) (by omega)
end Go.Proofs.YtihjmnhamaicpaaGreatDoor
namespace Go.Proofs.YtihjmnhamaicpaaGreatDoor.codeNames
open Go Go.Abs
theorem law (a b : Str) (l : List Str) (_ : okS a) (_ : okS b) (hl : okStrs l) : lCodeNames_S a b l = some true := by
  simp only [lCodeNames_S, lCodeNames_F, awake_true, Option.bind_some, Bool.not_true, cond_false]
  by_cases h1 : a.length ≤ 100
  · rw [decide_eq_false (show ¬ (a.length : Int) > 100 by omega), cond_false]
    by_cases h2 : b.length ≤ 100
    · rw [decide_eq_false (show ¬ (b.length : Int) > 100 by omega), cond_false]
      by_cases h4 : l.length ≤ 30
      · rw [List.length_map, decide_eq_false (show ¬ (l.length : Int) > 30 by omega), cond_false, rFew_eq hl, Option.bind_some]
        cases hf : few l with
        | false => rfl
        | true =>
          obtain ⟨q1, q2⟩ := few_spec hf
          have hz : ∀ z ∈ l, z.length ≤ 800 := fun z hm => by have := q2 z hm; omega
          obtain ⟨t, t1, t2, t3⟩ := pSort_eq h4 hz
          obtain ⟨u, u1, u2, u3⟩ := rSort_eq h4 hz
          have e := sorted_uniq t3 u3 (t2.trans u2.symm)
          subst e
          rw [Bool.not_true, cond_false, pName_eq5 h1, rName_eq h1, Option.bind_some, Option.bind_some, beq_self_eq_true, cond_true, pNatural_eq (a := a) (b := b) (by omega) (by omega), rNatural_eq (a := a) (b := b) (by omega) (by omega), Option.bind_some, Option.bind_some, beq_self_eq_true, cond_true, t1, u1, Option.bind_some, Option.bind_some, same_eq (by have := t2.length_eq; omega), Option.bind_some]
      · rw [List.length_map, decide_eq_true (show (l.length : Int) > 30 by omega), cond_true]
    · rw [decide_eq_true (show (b.length : Int) > 100 by omega), cond_true]
  · rw [decide_eq_true (show (a.length : Int) > 100 by omega), cond_true]
end Go.Proofs.YtihjmnhamaicpaaGreatDoor.codeNames
