/- symMerge with one element on the left: its place is found and it goes there. -/
import Derived.Test.YtihjmnhamaicpaaGreatDoorLMrg
set_option linter.unusedVariables false
set_option linter.unusedSimpArgs false
namespace Go.Proofs.YtihjmnhamaicpaaGreatDoor
open Go Go.Abs
theorem wrap_u64 {n : Int} (h : 0 ≤ n ∧ n ≤ 9223372036854775807) : IntKind.u64.wrap n = n := by
  obtain ⟨h1, h2⟩ := h
  show (if (false && decide (n % (2 ^ 64 : Int) ≥ (2 ^ 63 : Int))) = true then n % (2 ^ 64 : Int) - (2 ^ 64 : Int) else n % (2 ^ 64 : Int)) = n
  simp only [Bool.false_and, Bool.false_eq_true, if_false]
  omega
theorem mid_eq {i j : Nat} (hi : i ≤ 1000) (hj : j ≤ 1000) : IntKind.i64.wrap (Int.fdiv (IntKind.u64.wrap (IntKind.i64.wrap ((i : Int) + (j : Int)))) 2) = (((i + j) / 2 : Nat) : Int) := by
  rw [wrap_id (n := (i : Int) + j) (by unfold okI; omega), wrap_u64 (by omega), Int.fdiv_eq_ediv_of_nonneg _ (by omega), wrap_id (by unfold okI; omega)]
  omega
theorem lt_of_le_lt {a b c : Str} (h1 : natV a b ≤ 0) (h2 : natV b c < 0) : natV a c < 0 := by
  have h3 := natV_tot.tr a b c h1 (by omega)
  rcases Int.lt_or_le (natV a c) 0 with h | h
  · exact h
  · have := (natV_tot.mid h1 (by omega) (show natV a c = 0 by omega)).2
    omega
theorem sorted_get {y : List Str} (hy : NSorted y) {i j : Nat} (hj : j < y.length) (hij : i ≤ j) : natV (y[i]'(by omega)) y[j] ≤ 0 := by
  by_cases h : i = j
  · subst h; rw [natV_tot.refl]; omega
  · exact List.pairwise_iff_getElem.1 hy i j (by omega) hj (by omega)
theorem ix_in {p y q : List Str} {z : Str} {h : Nat} (hh : h < y.length) : ix (p ++ z :: (y ++ q)) (((p.length + 1 + h : Nat)) : Int) = some y[h] := by
  rw [ix_at (by simp; omega)]
  congr 1
  rw [List.getElem_append_right (by omega)]
  have : p.length + 1 + h - p.length = h + 1 := by omega
  simp only [this, List.getElem_cons_succ]
  rw [List.getElem_append_left hh]
/-- Where x goes in y: u of y's elements are less, the rest are not. -/
theorem search_L1 {p y q : List Str} {x : Str} {N : Nat} (hx : x.length ≤ 800) (hz : ∀ z ∈ y, z.length ≤ 800) (hy : NSorted y) (hm : p.length + 1 + y.length ≤ 900) :
    ∀ (n u w fu : Nat), w - u = n → u ≤ w → w ≤ y.length → n < fu → (∀ k (hk : k < y.length), k < u → natV y[k] x < 0) → (∀ k (hk : k < y.length), w ≤ k → 0 ≤ natV y[k] x) →
      ∃ v, v ≤ y.length ∧ (∀ k (hk : k < y.length), k < v → natV y[k] x < 0) ∧ (∀ k (hk : k < y.length), v ≤ k → 0 ≤ natV y[k] x) ∧
        slSymMerge_L1 (p ++ x :: (y ++ q)) (p.length : Int) N fu ((p.length + 1 + u : Nat) : Int) ((p.length + 1 + w : Nat) : Int) = slSymMerge_L2 ((p.length + 1 + v : Nat) : Int) N (p.length : Int) (p ++ x :: (y ++ q)) := by
  intro n
  induction n using Nat.strongRecOn with
  | _ n ih =>
    intro u w fu hn hu hw hf h1 h2
    obtain ⟨fu, rfl⟩ : ∃ f, fu = f + 1 := ⟨fu - 1, by omega⟩
    by_cases huw : u < w
    · have hmid := mid_eq (i := p.length + 1 + u) (j := p.length + 1 + w) (by omega) (by omega)
      obtain ⟨h, hh, hhu, hhw⟩ : ∃ h, (p.length + 1 + u + (p.length + 1 + w)) / 2 = p.length + 1 + h ∧ u ≤ h ∧ h < w := ⟨(u + w) / 2, by omega, by omega, by omega⟩
      rw [hh] at hmid
      have hly : h < y.length := by omega
      have e0 : ix (p ++ x :: (y ++ q)) (p.length : Int) = some x := ix_mid rfl
      simp only [slSymMerge_L1]
      rw [decide_eq_true (show ((p.length + 1 + u : Nat) : Int) < ((p.length + 1 + w : Nat) : Int) by omega), cond_true, hmid, ix_in hly]
      simp only [e0, Option.bind_some, pNatural_eq (hz _ (List.getElem_mem hly)) hx]
      by_cases hlt : natV y[h] x < 0
      · rw [decide_eq_true hlt, cond_true]
        have ew : IntKind.i64.wrap (((p.length + 1 + h : Nat) : Int) + 1) = ((p.length + 1 + (h + 1) : Nat) : Int) := by rw [wrap_id (by unfold okI; omega)]; omega
        rw [ew]
        exact ih (w - (h + 1)) (by omega) (h + 1) w fu rfl (by omega) hw (by omega) (fun k hk hkh => lt_of_le_lt (sorted_get hy hly (by omega)) hlt) h2
      · rw [decide_eq_false hlt, cond_false]
        refine ih (h - u) (by omega) u h fu rfl hhu (by omega) (by omega) h1 (fun k hk hkh => ?_)
        rcases Int.lt_or_le (natV y[k] x) 0 with hc | hc
        · exact absurd (lt_of_le_lt (sorted_get hy hk hkh) hc) hlt
        · exact hc
    · refine ⟨u, by omega, h1, fun k hk hku => h2 k hk (by omega), ?_⟩
      simp only [slSymMerge_L1]
      rw [decide_eq_false (show ¬ ((p.length + 1 + u : Nat) : Int) < ((p.length + 1 + w : Nat) : Int) by omega), cond_false]
/-- One element and a sorted list, merged in their place. -/
theorem merge_one {p y q : List Str} {x : Str} {N : Nat} (hx : x.length ≤ 800) (hz : ∀ z ∈ y, z.length ≤ 800) (hy : NSorted y) (hm : p.length + 1 + y.length ≤ 900) (hN : y.length < N) :
    ∃ t, slSymMerge_L1 (p ++ x :: (y ++ q)) (p.length : Int) N N ((p.length + 1 : Nat) : Int) ((p.length + 1 + y.length : Nat) : Int) = some (p ++ (t ++ q)) ∧ t.Perm (x :: y) ∧ NSorted t := by
  obtain ⟨v, v1, v2, v3, v4⟩ := search_L1 (p := p) (q := q) (N := N) hx hz hy hm y.length 0 y.length N rfl (by omega) (by omega) hN (fun k hk h => by omega) (fun k hk h => by omega)
  rw [Nat.add_zero] at v4
  refine ⟨y.take v ++ x :: y.drop v, ?_, ?_, ?_⟩
  · rw [v4]
    have := move_right (i := p.length + 1 + v) (by omega) (y.take v) p x (y.drop v ++ q) p.length N rfl (by simp; omega) (by simp; omega)
    rw [show p ++ x :: (y ++ q) = p ++ x :: (y.take v ++ (y.drop v ++ q)) by rw [← List.append_assoc, List.take_append_drop], this]
    simp
  · have := List.perm_middle (a := x) (l₁ := y.take v) (l₂ := y.drop v)
    rw [List.take_append_drop] at this
    exact this
  · unfold NSorted at hy ⊢
    have hsp : y.take v ++ y.drop v = y := List.take_append_drop _ _
    rw [← hsp] at hy
    obtain ⟨s1, s2, s3⟩ := List.pairwise_append.1 hy
    rw [List.pairwise_append, List.pairwise_cons]
    refine ⟨s1, ⟨fun b hb => ?_, s2⟩, fun a ha b hb => ?_⟩
    · obtain ⟨k, hk, rfl⟩ := List.getElem_of_mem hb
      rw [List.getElem_drop]
      have := v3 (v + k) (by simp at hk; omega) (by omega)
      have := natV_tot.neg x (y[v + k]'(by simp at hk; omega))
      omega
    · rcases List.mem_cons.1 hb with rfl | hb
      · obtain ⟨k, hk, rfl⟩ := List.getElem_of_mem ha
        rw [List.getElem_take]
        have := v2 k (by simp at hk; omega) (by simp at hk; omega)
        omega
      · exact s3 a ha b hb
end Go.Proofs.YtihjmnhamaicpaaGreatDoor
