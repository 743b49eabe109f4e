/- What the laws share: equal lists, who is asked for, few. -/
import Derived.Test.YtdoldlbcjcfmdaaGreatLG7
import Derived.Test.YtdoldlbcjcfmdaaGreatAw
set_option linter.unusedVariables false
set_option linter.unusedSimpArgs false
namespace Go.Proofs.YtdoldlbcjcfmdaaGreat
open Go Go.Abs
theorem slEqual_refl {l : List Int} (h : l.length ≤ 9223372036854775807) : slEqual_S l l = some true := by
  have h1 := loop_scanP (slEqual_L1 l l) l (fun _ _ => none) true h (fun fu i hi => by
      have h0 : decide ((i : Int) < (l.length : Int)) = true := decide_eq_true (by omega)
      simp only [slEqual_L1, List.length_map, ix_at hi, Option.bind_some, h0, cond_true, wrap_succ h hi, bne_self_eq_false, cond_false])
    (fun fu => by
      have h0 : decide ((l.length : Int) < (l.length : Int)) = false := decide_eq_false (by omega)
      simp only [slEqual_L1, List.length_map, h0, cond_false]) l.length 0 (l.length + 1) (by omega) (by omega) (by omega)
  have hn : ∀ (s : List Int) (i : Nat), scanP (fun (_ : Nat) (_ : Int) => (none : Option Bool)) true i s = true := by
    intro s
    induction s with
    | nil => intro i; rfl
    | cons x s ih => intro i; exact ih (i + 1)
  rw [List.drop_zero, hn] at h1
  simp only [slEqual_S, slEqual_F, bne_self_eq_false, cond_false]
  exact h1
section
variable {l : List Aut}
theorem asks_one (h : Good l) {x : Int} : asksG l [x] = 0 ↔ x ∈ ids l := by
  constructor
  · intro h1; exact (asks_zero h1).2 x (by simp)
  · intro hx
    unfold asksG
    rw [show ((checkF l).2 != 0) = false by rw [h.right]; rfl]
    simp [gone_iff.2 hx]
theorem asks_two (h : Good l) {x y : Int} (hx : x ∈ ids l) (hy : y ∈ ids l) : asksG l [x, y] = 0 := by
  unfold asksG
  rw [show ((checkF l).2 != 0) = false by rw [h.right]; rfl]
  simp [gone_iff.2 hx, gone_iff.2 hy]
theorem asks_swap (x y : Int) : asksG l [x, y] = asksG l [y, x] := by
  unfold asksG
  simp only [List.any_cons, List.any_nil, Bool.or_false]
  rw [Bool.or_comm]
theorem anyReach {V : List Int} {nx pv : Int → List Int} {rk : Int → Int} (D : Dag V nx pv rk) {x y : Int} (hx : x ∈ V) : ((reachL V nx x).any fun z => y == z) = reachB nx x y := by
  rw [Bool.eq_iff_iff, anyB, mem_reachL D hx, reachB_iff]
theorem reach_rev (h : Good l) (x y : Int) : reachB (pvA l) y x = reachB (nxA l) x y := by
  rw [Bool.eq_iff_iff, reachB_iff, reachB_iff]
  constructor
  · rintro ⟨k, hk⟩; exact ⟨k, hk.rev h.dag.rev⟩
  · rintro ⟨k, hk⟩; exact ⟨k, hk.rev h.dag⟩
theorem h12_of (hl : okAuts l) (hf : few l = true) : (checkF l).2 = 0 → l.length ≤ 12 := fun hr => (good_of hl hf hr).len
theorem slContains_reach {V : List Int} {nx pv : Int → List Int} {rk : Int → Int} (D : Dag V nx pv rk) {x : Int} (y : Int) (hx : x ∈ V) : slContains_S (reachL V nx x) y = some (reachB nx x y) := by
  rw [slContains_eq (by have := reachL_len D x; omega), anyReach D hx]
end
end Go.Proofs.YtdoldlbcjcfmdaaGreat
