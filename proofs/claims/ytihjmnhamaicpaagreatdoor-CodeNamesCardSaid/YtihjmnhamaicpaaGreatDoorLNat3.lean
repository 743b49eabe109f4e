/- Natural in closed form, a total order. -/
import Derived.Test.YtihjmnhamaicpaaGreatDoorLNat2
set_option linter.unusedVariables false
set_option linter.unusedSimpArgs false
namespace Go.Proofs.YtihjmnhamaicpaaGreatDoor
open Go Go.Abs
theorem parts_ne : ∀ (n : Nat) (s : Str), ∀ p ∈ partsN n s, p ≠ []
  | 0, _, p, h => by simp [partsN] at h
  | _ + 1, [], p, h => by simp [partsN] at h
  | n + 1, c :: r, p, h => by
    rw [partsN] at h
    rcases List.mem_cons.1 h with rfl | h
    · have := (runL_pos (s := c :: r) (by simp)).1
      intro hq
      have := congrArg List.length hq
      simp at this
      omega
    · exact parts_ne n _ p h
theorem parts_len : ∀ (n : Nat) (s : Str), (partsN n s).length ≤ n
  | 0, _ => Nat.le_refl _
  | n + 1, [] => by simp [partsN]
  | n + 1, c :: r => by
    have := parts_len n ((c :: r).drop (runL (c :: r)))
    rw [partsN]; simp only [List.length_cons]; omega
theorem collect_eq {s : Str} (h : s.length ≤ 800) : slCollect_XS s = some (partsF s, []) := by
  simp only [slCollect_XS, slCollect_F, slAppendSeq_XS, slAppendSeq_F, pparts_1_XS, pparts_1_F]
  rw [parts_L1 s.length 1000 s [] rfl (by omega) (by simp; omega)]
  rfl
theorem compareFunc_loop {a b : List Str} (hl : a.length ≤ 1000) (hb : b.length ≤ 1000) (na : ∀ p ∈ a, p ≠ []) (nb : ∀ p ∈ b, p ≠ []) : ∀ (n i fu : Nat), a.length - i = n → i ≤ a.length → i ≤ b.length → n < fu →
    slCompareFunc_L1 a b (fun z0 z1 => ppart_S z0 z1) fu (i : Int) = some (lexL partC (a.drop i) (b.drop i))
  | n, i, 0, _, _, _, h => by omega
  | 0, i, fu + 1, h, hi, hib, _ => by
    have e : i = a.length := by omega
    subst e
    have h0 : decide ((a.length : Int) < (a.length : Int)) = false := decide_eq_false (by omega)
    simp only [slCompareFunc_L1, List.length_map, h0, cond_false, List.drop_length]
    by_cases hq : a.length < b.length
    · rw [decide_eq_true (by omega), cond_true, List.drop_eq_getElem_cons hq]; rfl
    · rw [decide_eq_false (by omega), cond_false, List.drop_of_length_le (by omega)]; rfl
  | n + 1, i, fu + 1, h, _, hib, hf => by
    have hi : i < a.length := by omega
    have h0 : decide ((i : Int) < (a.length : Int)) = true := decide_eq_true (by omega)
    have hws : IntKind.i64.wrap ((i : Int) + 1) = ((i + 1 : Nat) : Int) := wrap_succ (n := a.length) (by omega) hi
    simp only [slCompareFunc_L1, List.length_map, h0, cond_true, ix_at hi, Option.bind_some, hws]
    rw [List.drop_eq_getElem_cons hi]
    by_cases hq : i < b.length
    · rw [decide_eq_false (by omega), cond_false, ix_at hq, List.drop_eq_getElem_cons hq, Option.bind_some, ppart_eq (na _ (List.getElem_mem hi)) (nb _ (List.getElem_mem hq)), Option.bind_some, lexL]
      by_cases h1 : partC a[i] b[i] = 0
      · rw [if_pos h1, h1, show ((0 : Int) != 0) = false from rfl, cond_false]
        exact compareFunc_loop hl hb na nb n (i + 1) fu (by omega) (by omega) (by omega) (by omega)
      · rw [if_neg h1, show (partC a[i] b[i] != 0) = true by simpa using h1, cond_true]
    · rw [decide_eq_true (by omega), cond_true, List.drop_of_length_le (show b.length ≤ i by omega)]
      rfl
/-- The natural order. -/
def natV (a b : Str) : Int := if lexL partC (partsF a) (partsF b) = 0 then byteC a b else lexL partC (partsF a) (partsF b)
theorem natV_tot : TotC natV := (partC_tot.lex.by_ partsF).or_ byteC_tot
theorem natV_zero {a b : Str} : natV a b = 0 ↔ a = b := by
  unfold natV
  constructor
  · intro h
    split at h
    · exact byteC_zero.1 h
    · rename_i h0; exact absurd h h0
  · rintro rfl
    rw [if_pos (partC_tot.lex.refl _)]; exact byteC_tot.refl _
theorem pNatural_eq {a b : Str} (ha : a.length ≤ 800) (hb : b.length ≤ 800) : pNatural_S a b = some (natV a b) := by
  have la := parts_len a.length a
  have lb := parts_len b.length b
  have hc : slCompareFunc_S (partsF a) (partsF b) (fun z0 z1 => ppart_S z0 z1) = some (lexL partC (partsF a) (partsF b)) := by
    have := compareFunc_loop (a := partsF a) (b := partsF b) (by unfold partsF; omega) (by unfold partsF; omega) (parts_ne _ _) (parts_ne _ _) (partsF a).length 0 ((partsF a).length + 1) rfl (by omega) (by omega) (by omega)
    rw [List.drop_zero, List.drop_zero] at this
    exact this
  simp only [pNatural_S, pNatural_F, collect_eq ha, collect_eq hb, Option.bind_some, hc, cmpCompareS_eq, cmpOr_eq]
  rfl
end Go.Proofs.YtihjmnhamaicpaaGreatDoor
