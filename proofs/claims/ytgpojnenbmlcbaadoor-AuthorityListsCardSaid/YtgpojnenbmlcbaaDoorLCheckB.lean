/- Check of any list; Copy of any list that the memory holds. -/
import Derived.Test.YtgpojnenbmlcbaaDoorLName3
import Derived.Test.YtgpojnenbmlcbaaDoorGL
import Derived.Lib.TrimAscii
set_option linter.unusedVariables false
set_option linter.unusedSimpArgs false
namespace Go.Proofs.YtgpojnenbmlcbaaDoor
open Go Go.Abs
theorem tail_any {a : Aut} (_h : okAut a) (x : Option Int) (hx : a.Next.length ≤ 16 → x = some (nextOrd a)) :
    (Option.bind (some (namesF a)) fun y16 => bif (y16 != 0) then some (y16) else (bif decide (((a.Next.map cInt).length : Int) > 16) then some (8) else x)) = some (tailF a) := by
  simp only [Option.bind_some, List.length_map, tailF]
  cases namesF a != 0 with
  | true => rfl
  | false =>
    by_cases h2 : a.Next.length > 16
    · have e : decide ((a.Next.length : Int) > 16) = true := decide_eq_true (by omega)
      simp [e, h2]
    · rw [hx (by omega)]
      have e : decide ((a.Next.length : Int) > 16) = false := decide_eq_false (by omega)
      simp [e, h2]
theorem palone_any {l : List Aut} (h : okAuts l) {i : Nat} (hi : i < l.length) : palone_S l (i : Int) = some (aloneF (prevOf l i) l[i]) := by
  have ha := h.2 _ (List.getElem_mem hi)
  have t1 := fun hn : l[i].Next.length ≤ 16 => next_loop (a := l[i]) (by omega) (palone_L1 l[i]) (l.length + 100) (by omega) (fun fu v => by simp only [palone_L1])
  have t2 := fun hn : l[i].Next.length ≤ 16 => next_loop (a := l[i]) (by omega) (palone_L2 l[i]) (l.length + 100) (by omega) (fun fu v => by simp only [palone_L2])
  simp only [palone_S, palone_F, ix_at hi, Option.bind_some, pwithin_eq, pspans_eq, pnames_eq ha.2.2.2.1.1]
  have u1 := tail_any ha _ t1
  have u2 := tail_any ha _ t2
  simp only [Option.bind_some] at u1 u2
  unfold aloneF idKind
  cases (decide (1 ≤ l[i].ID) && decide (l[i].ID ≤ 1073741824)) with
  | false => rfl
  | true => cases (decide (1 ≤ l[i].Kind) && decide (l[i].Kind ≤ 3)) with
    | false => rfl
    | true => cases spanOk l[i].In with
      | false => rfl
      | true =>
        simp only [Bool.not_true, cond_false, Bool.true_and, cond_true]
        by_cases h3 : 0 < i
        · have e3 : decide ((i : Int) > 0) = true := decide_eq_true (by omega)
          have hi' : i - 1 < l.length := by omega
          simp only [e3, cond_true, wrap_pred h.1 hi, ix_pred hi h3, Option.bind_some, prevOf, h3, if_true, List.getElem?_eq_getElem hi']
          cases decide (l[i].ID ≤ l[i - 1].ID) with
          | true => rfl
          | false => exact u1
        · have e3 : decide ((i : Int) > 0) = false := decide_eq_false (by omega)
          simp only [e3, cond_false, prevOf, h3, if_false]
          exact u2
theorem pCheck_any {l : List Aut} (h : okAuts l) : pCheck_S l = some (checkF l) := by
  simp only [pCheck_S, pCheck_F, checkF, List.length_map]
  by_cases h64 : l.length > 64
  · have e : decide ((l.length : Int) > 64) = true := decide_eq_true (by omega)
    simp [e, h64]
  · have e : decide ((l.length : Int) > 64) = false := decide_eq_false (by omega)
    simp only [e, h64, decide_false, cond_false]
    have k2 : ∀ fu, pCheck_L1 l (l.length + 3) (fu + 1) 2 = some ((-1), 0) := fun fu => by simp only [pCheck_L1]; rfl
    have k1 : ∀ fu, pCheck_L1 l (l.length + 3) (fu + 2) 1 = some (scanP (faultB fun _ a => nextF l a) (-1, 0) 0 l) := fun fu => by
      show pCheck_L2 l 1 38 (fun v2 => pCheck_L1 l (l.length + 3) (fu + 1) v2) (l.length + 3) 0 = _
      exact pCheck_L2_eq h.1 (by omega) (fun i hi => psucc_eq h hi) (k2 fu)
    show pCheck_L2 l 0 37 (fun v2 => pCheck_L1 l (l.length + 3) (l.length + 2) v2) (l.length + 3) 0 = _
    exact pCheck_L2_eq h.1 (by omega) (fun i hi => palone_any h hi) (k1 l.length)

/-- The lists of an authority have room. -/
def roomA (a : Aut) : Prop := a.Names.length * 32 ≤ 140737488351232 ∧ a.Next.length * 8 ≤ 140737488351232
theorem rCopyB_loop {l : List Aut} (hl : l.length ≤ 1000) (hr : ∀ a ∈ l, roomA a) : ∀ (n i fu : Nat) (out : List Aut), l.length - i = n → i ≤ l.length → n < fu → out.length = i → rCopyB_L1 l fu out (i : Int) = some (out ++ l.drop i)
  | n, i, 0, _, _, _, h, _ => by omega
  | 0, i, fu + 1, out, h, hi, _, _ => by
    have : i = l.length := by omega
    subst this
    have h0 : decide ((l.length : Int) < (l.length : Int)) = false := decide_eq_false (by omega)
    simp only [rCopyB_L1, List.length_map, h0, cond_false, List.drop_length, List.append_nil]
  | n + 1, i, fu + 1, out, h, _, hf, ho => by
    have hi : i < l.length := by omega
    obtain ⟨r1, r2⟩ := hr _ (List.getElem_mem hi)
    have h0 : decide ((i : Int) < (l.length : Int)) = true := decide_eq_true (by omega)
    have e1 : decide (([] : List Nam).length + l[i].Names.length ≤ 140737488355328 ∧ (([] : List Nam).length + l[i].Names.length) * 32 ≤ 140737488355328) = true := decide_eq_true (by simp only [List.length_nil, Nat.zero_add]; omega)
    have e2 : decide (([] : List Int).length + l[i].Next.length ≤ 140737488355328 ∧ (([] : List Int).length + l[i].Next.length) * 8 ≤ 140737488355328) = true := decide_eq_true (by simp only [List.length_nil, Nat.zero_add]; omega)
    have e3 : ∀ x : Aut, decide (out.length + ([x] : List Aut).length ≤ 4294967296) = true := fun x => decide_eq_true (by simp; omega)
    have hw : IntKind.i64.wrap ((i : Int) + 1) = ((i + 1 : Nat) : Int) := wrap_succ (n := l.length) (by omega) hi
    simp only [rCopyB_L1, List.length_map, h0, cond_true, ix_at hi, Option.bind_some, e1, e2, e3, hw]
    rw [rCopyB_loop hl hr n (i + 1) fu _ (by omega) (by omega) (by omega) (by simp [ho])]
    rw [List.drop_eq_getElem_cons hi, List.append_assoc]
    rfl
theorem rCopyB_eq {l : List Aut} (hl : l.length ≤ 1000) (hr : ∀ a ∈ l, roomA a) : rCopyB_S l = some l := by
  show rCopyB_L1 l (l.length + 1) [] ((0 : Nat) : Int) = _
  rw [rCopyB_loop hl hr l.length 0 (l.length + 1) [] (by omega) (by omega) (by omega) rfl]
  rfl
theorem isSp_good {c : UInt8} (hg : goodByte c = true) (hs : c ≠ 32) : Lib.isSp c = false ∧ c.toNat < 128 := by
  simp only [goodByte, Bool.and_eq_true, decide_eq_true_eq] at hg
  refine ⟨?_, by omega⟩
  have h : c ≠ 9 ∧ c ≠ 10 ∧ c ≠ 11 ∧ c ≠ 12 ∧ c ≠ 13 := by refine ⟨?_, ?_, ?_, ?_, ?_⟩ <;> (rintro rfl; exact absurd hg.1 (by decide))
  simp [Lib.isSp, h, hs]
theorem trim_name {s : Str} (h : nameOk s = true) : sTrimSpace_S s = some s := by
  simp only [nameOk, Bool.and_eq_true, decide_eq_true_eq, Bool.not_eq_true'] at h
  obtain ⟨h1, h2, h3, h4, h5, -⟩ := h
  unfold sTrimSpace_S
  rw [decide_eq_true (show s.length ≤ 9223372036854775807 by omega), cond_true]
  unfold Lib.trimSpaceD
  congr 1
  have hne : s ≠ [] := by rintro rfl; simp at h1
  have hall := List.all_eq_true.1 h5
  have hL : Lib.trimLeftD s.length s = s := by
    cases s with
    | nil => exact absurd rfl hne
    | cons c r =>
      obtain ⟨q1, q2⟩ := isSp_good (hall c (by simp)) (by simpa using h3)
      exact Lib.left_stop r.length c r q1 q2
  rw [hL]
  have hsp : s = s.dropLast ++ [s.getLast hne] := (List.dropLast_concat_getLast hne).symm
  have hlast : s.getLast hne ≠ 32 := by
    intro hq
    rw [List.getLast?_eq_some_getLast hne, hq] at h4
    simp at h4
  obtain ⟨q1, q2⟩ := isSp_good (hall _ (List.getLast_mem hne)) hlast
  obtain ⟨k, hk⟩ : ∃ k, s.length = k + 1 := ⟨s.length - 1, by omega⟩
  rw [hk]
  conv => lhs; rw [hsp]
  rw [Lib.right_stop _ _ _ q1 q2, ← hsp]
/-- Whether an ID is in a list. -/
theorem has_eq {l : List Aut} (h : l.length ≤ 9223372036854775807) (id : Int) : lAuthorityLists_1_S id l = some (l.any fun a => a.ID == id) := by
  simp only [lAuthorityLists_1_S, lAuthorityLists_1_F, slContainsFuncA_S, slContainsFuncA_F, slIndexFuncA_eq (f := fun z0 => lAuthorityLists_1_1_S z0 id) (p := fun a => a.ID == id) h (fun x _ => rfl), Option.bind_some, Option.some.injEq]
  unfold idxOf
  cases hq : l.findIdx? (fun a => a.ID == id) with
  | none =>
    rw [List.findIdx?_eq_none_iff] at hq
    have : (l.any fun a => a.ID == id) = false := by rw [List.any_eq_false]; intro x hx; simp [hq x hx]
    rw [this]; decide
  | some k =>
    obtain ⟨h1, h2, _⟩ := List.findIdx?_eq_some_iff_getElem.1 hq
    have : (l.any fun a => a.ID == id) = true := List.any_eq_true.2 ⟨l[k], List.getElem_mem h1, h2⟩
    rw [this]
    exact decide_eq_true (show (k : Int) ≥ 0 by omega)
end Go.Proofs.YtgpojnenbmlcbaaDoor
