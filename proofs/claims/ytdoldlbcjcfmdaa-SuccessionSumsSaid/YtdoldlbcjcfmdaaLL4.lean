/- The law of SuccessionSums. -/
import Derived.Test.YtdoldlbcjcfmdaaLL0
import Derived.Test.YtdoldlbcjcfmdaaRowTyW
import Derived.Test.YtdoldlbcjcfmdaaGS
set_option linter.unusedVariables false
set_option linter.unusedSimpArgs false
namespace Go.Proofs.Ytdoldlbcjcfmdaa
open Go Go.Abs
theorem rCopyB_loop {l : List Aut} (hl : l.length ≤ 1000) (hr : ∀ a ∈ l, roomA a) : ∀ (n i fu : Nat) (out : List Aut), l.length - i = n → i ≤ l.length → n < fu → out.length = i → rCopyB_L1 l fu out (i : Int) = some (out ++ l.drop i)
  | n, i, 0, _, _, _, h, _ => by omega
  | 0, i, fu + 1, out, h, hi, _, _ => by
    have : i = l.length := by omega
    subst this
    have h0 : decide ((l.length : Int) < (l.length : Int)) = false := decide_eq_false (by omega)
    simp only [rCopyB_L1, List.length_map, h0, cond_false, List.drop_length, List.append_nil]
  | n + 1, i, fu + 1, out, h, _, hf, ho => by
    have hi : i < l.length := by omega
    obtain ⟨r1, r2⟩ := hr _ (List.getElem_mem hi)
    have h0 : decide ((i : Int) < (l.length : Int)) = true := decide_eq_true (by omega)
    have e1 : decide (([] : List Nam).length + l[i].Names.length ≤ 140737488355328 ∧ (([] : List Nam).length + l[i].Names.length) * 32 ≤ 140737488355328) = true := decide_eq_true (by simp only [List.length_nil, Nat.zero_add]; omega)
    have e2 : decide (([] : List Int).length + l[i].Next.length ≤ 140737488355328 ∧ (([] : List Int).length + l[i].Next.length) * 8 ≤ 140737488355328) = true := decide_eq_true (by simp only [List.length_nil, Nat.zero_add]; omega)
    have e3 : ∀ x : Aut, decide (out.length + ([x] : List Aut).length ≤ 4294967296) = true := fun x => decide_eq_true (by simp; omega)
    have hw : IntKind.i64.wrap ((i : Int) + 1) = ((i + 1 : Nat) : Int) := wrap_succ (n := l.length) (by omega) hi
    simp only [rCopyB_L1, List.length_map, h0, cond_true, ix_at hi, Option.bind_some, e1, e2, e3, hw]
    rw [rCopyB_loop hl hr n (i + 1) fu _ (by omega) (by omega) (by omega) (by simp [ho])]
    rw [List.drop_eq_getElem_cons hi, List.append_assoc]
    rfl
theorem rCopyB_eq {l : List Aut} (hl : l.length ≤ 1000) (hr : ∀ a ∈ l, roomA a) : rCopyB_S l = some l := by
  show rCopyB_L1 l (l.length + 1) [] ((0 : Nat) : Int) = _
  rw [rCopyB_loop hl hr l.length 0 (l.length + 1) [] (by omega) (by omega) (by omega) rfl]
  rfl
section
variable {l : List Aut}
def sumTo (l : List Aut) (from_ to : Int) (i : Nat) : Nat := ((l.take i).map fun a => if isNx to a = true then tot (nxA l) from_ a.ID else 0).sum
theorem sumTo_succ {from_ to : Int} {i : Nat} (hi : i < l.length) : sumTo l from_ to (i + 1) = sumTo l from_ to i + if isNx to l[i] = true then tot (nxA l) from_ l[i].ID else 0 := by
  unfold sumTo
  rw [List.take_succ_eq_append_getElem hi, List.map_append, List.sum_append]
  simp
theorem sumTo_le {from_ to : Int} (i : Nat) : sumTo l from_ to i ≤ sumTo l from_ to l.length := by
  have h : (l.map fun a => if isNx to a = true then tot (nxA l) from_ a.ID else 0).sum = sumTo l from_ to i + ((l.drop i).map fun a => if isNx to a = true then tot (nxA l) from_ a.ID else 0).sum := by
    unfold sumTo
    rw [← List.sum_append, ← List.map_append, List.take_append_drop]
  have h2 : sumTo l from_ to l.length = (l.map fun a => if isNx to a = true then tot (nxA l) from_ a.ID else 0).sum := by unfold sumTo; rw [List.take_length]
  omega
theorem sumTo_all (h : Good l) {from_ to : Int} (hf : from_ ∈ ids l) (hne : from_ ≠ to) : sumTo l from_ to l.length = tot (nxA l) from_ to := by
  rw [tot_bwd h.dag to hf, if_neg hne, Nat.zero_add, pvA_sum (f := fun p => tot (nxA l) from_ p)]
  unfold sumTo; rw [List.take_length]
namespace successionSums
theorem loop1 (h : Good l) (hroom : ∀ a ∈ l, roomA a) {from_ to : Int} (hf : from_ ∈ ids l) (hne : from_ ≠ to) {y11 : Int × Int} (hy : y11.1 = (tot (nxA l) from_ to : Int)) : ∀ (n i fu : Nat), l.length - i = n → i ≤ l.length → n < fu →
    lSuccessionSums_L1 l from_ to y11 fu (sumTo l from_ to i : Int) (i : Int) = some true
  | n, i, 0, _, _, h => by omega
  | 0, i, fu + 1, hn, hi, _ => by
    have : i = l.length := by omega
    subst this
    have h0 : decide ((l.length : Int) < (l.length : Int)) = false := decide_eq_false (by omega)
    simp only [lSuccessionSums_L1, List.length_map, h0, cond_false, hy, sumTo_all h hf hne, beq_self_eq_true]
  | n + 1, i, fu + 1, hn, _, hfu => by
    have hi : i < l.length := by omega
    have h0 : decide ((i : Int) < (l.length : Int)) = true := decide_eq_true (by omega)
    have hlen := h.len
    have hid : l[i].ID ∈ ids l := List.mem_map.2 ⟨_, List.getElem_mem hi, rfl⟩
    have ih := loop1 h hroom hf hne hy n (i + 1) fu (by omega) (by omega) (by omega)
    have hs := sumTo_succ (from_ := from_) (to := to) hi
    have hle := sumTo_le (l := l) (from_ := from_) (to := to) (i + 1)
    rw [sumTo_all h hf hne] at hle
    have hbd := tot_bd h.dag from_ to
    have hsh : sShare_S l from_ l[i].ID = some ((tot (nxA l) from_ l[i].ID : Int), 0) := by
      rw [sShare_eq h.ok (fun _ => h.len)]
      unfold shareG
      rw [asks_two h hf hid]; rfl
    have hnx : (l[i].Next.any fun z => to == z) = isNx to l[i] := rfl
    simp only [lSuccessionSums_L1, List.length_map, h0, cond_true, ix_at hi, Option.bind_some, contains_ok h (List.getElem_mem hi), wrap_succ h.l63 hi, hnx, rCopyB_eq (show l.length ≤ 1000 by omega) hroom, hsh, bne_self_eq_false, cond_false]
    cases hc : isNx to l[i] with
    | true =>
      rw [hc, if_pos rfl] at hs
      have hw : IntKind.i64.wrap ((sumTo l from_ to i : Int) + (tot (nxA l) from_ l[i].ID : Int)) = (sumTo l from_ to (i + 1) : Int) := by
        rw [wrap_id (by unfold okI; omega)]; omega
      rw [cond_true, hw]
      exact ih
    | false =>
      rw [hc, if_neg (by simp)] at hs
      rw [hs] at ih
      exact ih
theorem law (l : List Aut) (from_ to : Int) (hlw : okAutsW l) (_ : okI from_) (_ : okI to) : lSuccessionSums_S l from_ to = some true := by
  obtain ⟨hl, hroom⟩ := hlw
  simp only [lSuccessionSums_S, lSuccessionSums_F, awake_true, Option.bind_some, Bool.not_true, cond_false, List.length_map]
  by_cases h12 : l.length > 12
  · rw [decide_eq_true (show (l.length : Int) > 12 by omega)]; rfl
  · rw [decide_eq_false (show ¬ (l.length : Int) > 12 by omega), cond_false, rCopyB_eq (by omega) hroom]
    simp only [Option.bind_some, sShare_eq hl (fun _ => (by omega : l.length ≤ 12))]
    cases ha : asksG l [from_, to] != 0 with
    | true =>
      have e1 : shareG l from_ to = (0, asksG l [from_, to]) := by unfold shareG; rw [ha]; rfl
      rw [e1]
      simp only [ha, cond_true]
      rfl
    | false =>
      have ha0 : asksG l [from_, to] = 0 := by simpa using ha
      obtain ⟨hr, hi⟩ := asks_zero ha0
      have h : Good l := ⟨hl, by omega, hr⟩
      have haV := hi from_ (by simp)
      have e1 : shareG l from_ to = ((tot (nxA l) from_ to : Int), 0) := by unfold shareG; rw [ha]; rfl
      rw [e1]
      simp only [bne_self_eq_false, cond_false]
      by_cases hft : from_ = to
      · subst hft
        simp only [beq_self_eq_true, cond_true, tot_self h.dag haV]
        rfl
      · have hb : (from_ == to) = false := by rw [beq_eq_false_iff_ne]; exact hft
        simp only [hb, cond_false]
        exact loop1 h hroom haV hft rfl l.length 0 1000 (by omega) (by omega) (by omega)
end successionSums
end
end Go.Proofs.Ytdoldlbcjcfmdaa
