/- symMerge with one element on the right. -/
import Derived.Test.YtihjmnhamaicpaaGreatDoorLMrg2
set_option linter.unusedVariables false
set_option linter.unusedSimpArgs false
namespace Go.Proofs.YtihjmnhamaicpaaGreatDoor
open Go Go.Abs
theorem ix_inx {p x r : List Str} {h : Nat} (hh : h < x.length) : ix (p ++ (x ++ r)) (((p.length + h : Nat)) : Int) = some x[h] := by
  rw [ix_at (by simp; omega)]
  congr 1
  rw [List.getElem_append_right (by omega)]
  have : p.length + h - p.length = h := by omega
  simp only [this]
  rw [List.getElem_append_left hh]
theorem lt_of_lt_le {a b c : Str} (h1 : natV a b < 0) (h2 : natV b c ≤ 0) : natV a c < 0 := by
  have h3 := natV_tot.tr a b c (by omega) h2
  rcases Int.lt_or_le (natV a c) 0 with h | h
  · exact h
  · have := (natV_tot.mid (by omega) h2 (show natV a c = 0 by omega)).1
    omega
theorem search_L3 {p x q : List Str} {y : Str} {N : Nat} (hy : y.length ≤ 800) (hz : ∀ z ∈ x, z.length ≤ 800) (hx : NSorted x) (hm : p.length + x.length ≤ 900) :
    ∀ (n u w fu : Nat), w - u = n → u ≤ w → w ≤ x.length → n < fu → (∀ k (hk : k < x.length), k < u → 0 ≤ natV y x[k]) → (∀ k (hk : k < x.length), w ≤ k → natV y x[k] < 0) →
      ∃ v, v ≤ x.length ∧ (∀ k (hk : k < x.length), k < v → 0 ≤ natV y x[k]) ∧ (∀ k (hk : k < x.length), v ≤ k → natV y x[k] < 0) ∧
        slSymMerge_L3 (p ++ (x ++ y :: q)) ((p.length + x.length : Nat) : Int) N fu ((p.length + u : Nat) : Int) ((p.length + w : Nat) : Int) = slSymMerge_L4 ((p.length + v : Nat) : Int) N ((p.length + x.length : Nat) : Int) (p ++ (x ++ y :: q)) := by
  intro n
  induction n using Nat.strongRecOn with
  | _ n ih =>
    intro u w fu hn hu hw hf h1 h2
    obtain ⟨fu, rfl⟩ : ∃ f, fu = f + 1 := ⟨fu - 1, by omega⟩
    by_cases huw : u < w
    · have hmid := mid_eq (i := p.length + u) (j := p.length + w) (by omega) (by omega)
      obtain ⟨h, hh, hhu, hhw⟩ : ∃ h, (p.length + u + (p.length + w)) / 2 = p.length + h ∧ u ≤ h ∧ h < w := ⟨(u + w) / 2, by omega, by omega, by omega⟩
      rw [hh] at hmid
      have hly : h < x.length := by omega
      have e0 : ix (p ++ (x ++ y :: q)) ((p.length + x.length : Nat) : Int) = some y := by
        rw [← List.append_assoc]; exact ix_mid (by simp)
      simp only [slSymMerge_L3]
      rw [decide_eq_true (show ((p.length + u : Nat) : Int) < ((p.length + w : Nat) : Int) by omega), cond_true, hmid, ix_inx hly]
      simp only [e0, Option.bind_some, pNatural_eq hy (hz _ (List.getElem_mem hly))]
      by_cases hlt : natV y x[h] < 0
      · rw [decide_eq_true hlt, Bool.not_true, cond_false]
        exact ih (h - u) (by omega) u h fu rfl hhu (by omega) (by omega) h1 (fun k hk hkh => lt_of_lt_le hlt (sorted_get hx hk hkh))
      · rw [decide_eq_false hlt, Bool.not_false, cond_true]
        have ew : IntKind.i64.wrap (((p.length + h : Nat) : Int) + 1) = ((p.length + (h + 1) : Nat) : Int) := by rw [wrap_id (by unfold okI; omega)]; omega
        rw [ew]
        refine ih (w - (h + 1)) (by omega) (h + 1) w fu rfl (by omega) hw (by omega) (fun k hk hkh => ?_) h2
        rcases Int.lt_or_le (natV y x[k]) 0 with hc | hc
        · exact absurd (lt_of_lt_le hc (sorted_get hx hly (by omega))) hlt
        · exact hc
    · refine ⟨u, by omega, h1, fun k hk hku => h2 k hk (by omega), ?_⟩
      simp only [slSymMerge_L3]
      rw [decide_eq_false (show ¬ ((p.length + u : Nat) : Int) < ((p.length + w : Nat) : Int) by omega), cond_false]
theorem merge_oneR {p x q : List Str} {y : Str} {N : Nat} (hy : y.length ≤ 800) (hz : ∀ z ∈ x, z.length ≤ 800) (hx : NSorted x) (hm : p.length + x.length ≤ 900) (hN : x.length < N) :
    ∃ t, slSymMerge_L3 (p ++ (x ++ y :: q)) ((p.length + x.length : Nat) : Int) N N (p.length : Int) ((p.length + x.length : Nat) : Int) = some (p ++ (t ++ q)) ∧ t.Perm (x ++ [y]) ∧ NSorted t := by
  obtain ⟨v, v1, v2, v3, v4⟩ := search_L3 (p := p) (q := q) (N := N) hy hz hx hm x.length 0 x.length N rfl (by omega) (by omega) hN (fun k hk h => by omega) (fun k hk h => by omega)
  rw [Nat.add_zero] at v4
  have hsp : x.take v ++ x.drop v = x := List.take_append_drop _ _
  refine ⟨x.take v ++ y :: x.drop v, ?_, ?_, ?_⟩
  · rw [v4]
    have := move_left (i := p.length + v) (by omega) (x.drop v).length (x.drop v) (p ++ x.take v) y q (p.length + x.length) N rfl (by simp; omega) (by simp; omega) (by omega) (by simp; omega)
    have hrew : p ++ (x ++ y :: q) = (p ++ x.take v) ++ (x.drop v ++ y :: q) := by rw [List.append_assoc, ← List.append_assoc (x.take v), hsp]
    rw [hrew, this]
    simp
  · have := List.perm_middle (a := y) (l₁ := x.take v) (l₂ := x.drop v)
    rw [hsp] at this
    exact this.trans (List.perm_append_comm (l₁ := [y]) (l₂ := x))
  · unfold NSorted at hx ⊢
    rw [← hsp] at hx
    obtain ⟨s1, s2, s3⟩ := List.pairwise_append.1 hx
    rw [List.pairwise_append, List.pairwise_cons]
    refine ⟨s1, ⟨fun b hb => ?_, s2⟩, fun a ha b hb => ?_⟩
    · obtain ⟨k, hk, rfl⟩ := List.getElem_of_mem hb
      rw [List.getElem_drop]
      have := v3 (v + k) (by simp at hk; omega) (by omega)
      omega
    · rcases List.mem_cons.1 hb with rfl | hb
      · obtain ⟨k, hk, rfl⟩ := List.getElem_of_mem ha
        rw [List.getElem_take]
        have := v2 k (by simp at hk; omega) (by simp at hk; omega)
        have := natV_tot.neg b (x[k]'(by simp at hk; omega))
        omega
      · exact s3 a ha b hb
end Go.Proofs.YtihjmnhamaicpaaGreatDoor
