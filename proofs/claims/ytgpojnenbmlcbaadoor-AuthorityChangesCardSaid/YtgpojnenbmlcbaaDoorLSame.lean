/- A list is the same as itself. -/
import Derived.Test.YtgpojnenbmlcbaaDoorLText
namespace Go.Proofs.YtgpojnenbmlcbaaDoor
open Go Go.Abs

theorem same3 {i2 : Int} {x : Aut} {k : Int → Option Bool} (hx : x.Next.length ≤ 900) : ∀ (n i fu : Nat), x.Next.length - i = n → i ≤ x.Next.length → n < fu → rSame_L3 i2 x x k fu (i : Int) = k (IntKind.i64.wrap (i2 + 1))
  | _, _, 0, _, _, h => by omega
  | n, i, fu + 1, hn, hi, hf => by
    rw [rSame_L3, List.length_map]
    by_cases h : i < x.Next.length
    · rw [bT (by omega), ix_at h]
      simp only [Option.bind_some, bne_self_eq_false, cond_false, wrap_succ (n := x.Next.length) (by omega) h]
      exact same3 hx (n - 1) (i + 1) fu (by omega) (by omega) (by omega)
    · rw [bF (by omega)]
theorem same2 {i2 : Int} {x : Aut} {k : Int → Option Bool} (hx : x.Names.length ≤ 900) (hy : x.Next.length ≤ 900) : ∀ (n i fu : Nat), x.Names.length - i = n → i ≤ x.Names.length → n < fu → rSame_L2 i2 x x k 1000 fu (i : Int) = k (IntKind.i64.wrap (i2 + 1))
  | _, _, 0, _, _, h => by omega
  | n, i, fu + 1, hn, hi, hf => by
    rw [rSame_L2, List.length_map]
    by_cases h : i < x.Names.length
    · rw [bT (by omega), ix_at h]
      simp only [Option.bind_some, beq_self_eq_true, Bool.not_true, cond_false, wrap_succ (n := x.Names.length) (by omega) h]
      exact same2 hx hy (n - 1) (i + 1) fu (by omega) (by omega) (by omega)
    · rw [bF (by omega)]
      exact same3 hy x.Next.length 0 1000 (by omega) (by omega) (by omega)
theorem same1 {l : List Aut} (hl : l.length ≤ 900) (hx : ∀ x ∈ l, x.Names.length ≤ 900 ∧ x.Next.length ≤ 900) : ∀ (n i fu : Nat), l.length - i = n → i ≤ l.length → n < fu → rSame_L1 l l 1000 fu (i : Int) = some true
  | _, _, 0, _, _, h => by omega
  | n, i, fu + 1, hn, hi, hf => by
    rw [rSame_L1, List.length_map]
    by_cases h : i < l.length
    · have hm := hx _ (List.getElem_mem h)
      rw [bT (by omega), ix_at h]
      simp only [Option.bind_some, bne_self_eq_false, beq_self_eq_true, Bool.not_true, cond_false]
      rw [show (0 : Int) = ((0 : Nat) : Int) from rfl, same2 hm.1 hm.2 l[i].Names.length 0 1000 (by omega) (by omega) (by omega), wrap_succ (n := l.length) (by omega) h]
      exact same1 hl hx (n - 1) (i + 1) fu (by omega) (by omega) (by omega)
    · rw [bF (by omega)]
theorem rSame_refl {l : List Aut} (hl : l.length ≤ 900) (hx : ∀ x ∈ l, x.Names.length ≤ 900 ∧ x.Next.length ≤ 900) : rSame_S l l = some true := by
  simp only [rSame_S, rSame_F, bne_self_eq_false, cond_false]
  exact same1 hl hx l.length 0 1000 (by omega) (by omega) (by omega)
theorem found_small {l : List Aut} (hf : few l = true) (id : Int) : (found l id).Names.length ≤ 900 ∧ (found l id).Next.length ≤ 900 := by
  unfold found
  cases hq : findA l id with
  | none => decide
  | some a =>
    have hm : a ∈ l := List.mem_of_find?_eq_some hq
    obtain ⟨h1, h2, _⟩ := fewOf_names (few_mem hf hm)
    constructor
    · show a.Names.length ≤ 900; omega
    · show a.Next.length ≤ 900; omega
theorem authorityChecks.law (l : List Aut) (id : Int) (a : Aut) (hl : okAuts l) (_ : okI id) (ha : okAut a) : lAuthorityChecks_S l id a = some true := by
  simp only [lAuthorityChecks_S, lAuthorityChecks_F, awake_true, Option.bind_some, Bool.not_true, cond_false, rFew_eq hl]
  cases hf : few l with
  | false => rfl
  | true =>
    simp only [Bool.not_true, cond_false, rFewOf_eq ha.2.2.2.1.1, Option.bind_some]
    cases hg : fewOf a with
    | false => rfl
    | true =>
      have hs : rSame_S [found l id] [found l id] = some true := rSame_refl (by simp) (fun x hx => by
        rw [List.mem_singleton] at hx
        subst hx
        exact found_small hf id)
      simp only [Bool.not_true, cond_false, rCopy_eq hf, Option.bind_some, pCheck_eq hl hf, rCheck_eq hl hf, pFind_eq hl hf, rFind_eq' hl.1, beq_self_eq_true, cond_true, hs, pText_eq ha hg, rText_eq ha hg]
end Go.Proofs.YtgpojnenbmlcbaaDoor
