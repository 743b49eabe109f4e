/- CodeFree: true for every input. -/
import Derived.Test.YtihjmnhamaicpaaGreatDoorLReads
import Derived.Test.YtihjmnhamaicpaaGreatDoorGE
set_option linter.unusedSimpArgs false
set_option linter.unusedVariables false
namespace Go.Proofs.YtihjmnhamaicpaaGreatDoor
open Go Go.Abs
theorem pParseN_loop {y : List Str} (hy : y.length ≤ 100) (hp : ∀ p ∈ y, p.length ≤ 100) : ∀ (n i fu : Nat) (out : List Int), y.length - i = n → i ≤ y.length → n < fu → out.length = i → pParseN_L1 y fu (i : Int) out = some (after out (nums (y.drop i)))
  | n, i, 0, _, _, _, h, _ => by omega
  | 0, i, fu + 1, out, h, hi, _, _ => by
    have : i = y.length := by omega
    subst this
    have h0 : decide ((y.length : Int) < (y.length : Int)) = false := decide_eq_false (by omega)
    simp only [pParseN_L1, List.length_map, h0, cond_false, List.drop_length, nums, after, castL, List.map_nil, List.append_nil]
  | n + 1, i, fu + 1, out, h, _, hf, ho => by
    have hi : i < y.length := by omega
    have h0 : decide ((i : Int) < (y.length : Int)) = true := decide_eq_true (by omega)
    have hm := hp _ (List.getElem_mem hi)
    obtain ⟨v, hv, hc⟩ := atoi_part (s := y[i]) (by omega)
    have hw : IntKind.i64.wrap ((i : Int) + 1) = ((i + 1 : Nat) : Int) := wrap_succ (n := y.length) (by omega) hi
    simp only [pParseN_L1, List.length_map, h0, cond_true, ix_at hi, Option.bind_some, hv, hw]
    rw [List.drop_eq_getElem_cons hi]
    rcases hc with ⟨k, hk, rfl⟩ | ⟨hk, hc⟩
    · obtain ⟨hd, k1, k2⟩ := num_spec hk
      have e1 : decide ((k : Int) < 1) = false := decide_eq_false (by omega)
      have e2 : decide ((k : Int) > 999) = false := decide_eq_false (by omega)
      have e3 : decide (out.length + ([(k : Int)] : List Int).length ≤ 4294967296) = true := decide_eq_true (by simp; omega)
      simp only [cond_false, e1, e2, itoa_ok k2, Option.bind_some, ← hd, beq_self_eq_true, Bool.not_true, e3, cond_true]
      rw [pParseN_loop hy hp n (i + 1) fu (out ++ [(k : Int)]) (by omega) (by omega) (by omega) (by simp [ho])]
      rw [nums_some hk]
      cases nums (y.drop (i + 1)) with
      | none => rfl
      | some l => simp [after]
    · rw [nums_none hk]
      show _ = some (([] : List Int), (3 : Int))
      rcases hc with h1 | h1 | h1 | ⟨h1, h2, t, h3, h4⟩
      · rw [h1, cond_true]
      · cases v.2
        · simp only [cond_false, decide_eq_true h1, cond_true]
        · rfl
      · cases v.2
        · have e1 : decide (v.1 < 1) = false := decide_eq_false (by omega)
          simp only [cond_false, e1, decide_eq_true h1, cond_true]
        · rfl
      · cases v.2
        · have e1 : decide (v.1 < 1) = false := decide_eq_false (by omega)
          have e2 : decide (v.1 > 999) = false := decide_eq_false (by omega)
          simp only [cond_false, e1, e2, h3, Option.bind_some, h4, Bool.not_false, cond_true]
        · rfl
theorem pParseN_eq {s : Str} (h : s.length ≤ 100) : pParseN_XS s = some (parseF (codeV s)) := by
  show pParseN_F _ s = _
  have hl := pieces_len s
  unfold pParseN_F codeV
  rw [sSplit_eq (by omega)]
  simp only [Option.bind_some, List.length_map]
  by_cases h6 : (pieces s).length ≤ 6
  · have e : decide (((pieces s).length : Int) > 6) = false := decide_eq_false (by omega)
    rw [e, cond_false, if_pos h6]
    rw [show (0 : Int) = ((0 : Nat) : Int) from rfl, pParseN_loop (y := pieces s) (by omega) (fun p hp => by have := hl.2 p hp; omega) (pieces s).length 0 1000 [] rfl (by omega) (by omega) rfl, List.drop_zero]
    cases nums (pieces s) with
    | none => rfl
    | some l => simp [after, parseF]
  · have e : decide (((pieces s).length : Int) > 6) = true := decide_eq_true (by omega)
    rw [e, cond_true, if_neg h6]
    rfl


def okU16 (n : Int) : Prop := 0 ≤ n ∧ n ≤ 65535
theorem firstF_spec (t : Nat → Str) (taken : List Str) : ∀ (c n : Nat), firstF t taken c n = ([], 12) ∨ ∃ m, n ≤ m ∧ m < n + c ∧ firstF t taken c n = (t m, 0) ∧ taken.contains (t m) = false ∧ ∀ j, n ≤ j → j < m → taken.contains (t j) = true
  | 0, _ => .inl rfl
  | c + 1, n => by
    rw [firstF]
    cases hc : taken.contains (t n) with
    | false => exact .inr ⟨n, by omega, by omega, by rw [if_neg (by decide)], hc, fun j h1 h2 => by omega⟩
    | true =>
      rw [if_pos rfl]
      rcases firstF_spec t taken c (n + 1) with h | ⟨m, h1, h2, h3, h4, h5⟩
      · exact .inl h
      · refine .inr ⟨m, by omega, by omega, h3, h4, fun j h6 h7 => ?_⟩
        by_cases hj : j = n
        · rw [hj]; exact hc
        · exact h5 j (by omega) h7
/-- What Free answers: an error and no text, or the first text that is not taken. -/
theorem freeF_spec {taken : List Str} {above : Str} : ((freeF taken above).1 = [] ∧ (freeF taken above).2 ≠ 0) ∨
    ∃ (l : List Nat) (m : Nat), l.length ≤ 5 ∧ (∀ n ∈ l, 1 ≤ n ∧ n < 1000) ∧ 1 ≤ m ∧ m < 1000 ∧ above = fmt l ∧ (∀ n, textF above n = fmt (l ++ [n])) ∧ freeF taken above = (fmt (l ++ [m]), 0) ∧
      taken.contains (fmt (l ++ [m])) = false ∧ ∀ j, 1 ≤ j → j < m → taken.contains (fmt (l ++ [j])) = true := by
  unfold freeF
  by_cases h1 : taken.length > 1024
  · rw [if_pos h1]; exact .inl ⟨rfl, by decide⟩
  · rw [if_neg h1]
    by_cases h2 : taken.any (fun x => (codeV x).isNone) = true
    · rw [if_pos h2]; exact .inl ⟨rfl, by decide⟩
    · rw [if_neg h2]
      by_cases h3 : above ≠ [] ∧ codeV above = none
      · rw [if_pos h3]; exact .inl ⟨rfl, by decide⟩
      · rw [if_neg h3]
        by_cases h4 : ((codeV above).getD []).length = 6
        · rw [if_pos h4]; exact .inl ⟨rfl, by decide⟩
        · rw [if_neg h4]
          have key : ∃ l : List Nat, l.length ≤ 5 ∧ (∀ n ∈ l, 1 ≤ n ∧ n < 1000) ∧ above = fmt l ∧ ∀ n, textF above n = fmt (l ++ [n]) := by
            by_cases hn : above = []
            · exact ⟨[], by simp, by simp, hn, fun n => by rw [hn, text_nil]⟩
            · cases hc : codeV above with
              | none => exact absurd ⟨hn, hc⟩ h3
              | some l =>
                obtain ⟨g1, g2, g3, g4⟩ := codeV_spec hc
                rw [hc] at h4
                simp only [Option.getD_some] at h4
                exact ⟨l, by omega, g4, g1, fun n => by rw [text_code hc]⟩
          obtain ⟨l, k1, k2, k3, k4⟩ := key
          rcases firstF_spec (textF above) taken 999 1 with h | ⟨m, q1, q2, q3, q4, q5⟩
          · rw [h]; exact .inl ⟨rfl, by decide⟩
          · rw [k4] at q3 q4
            exact .inr ⟨l, m, k1, k2, q1, by omega, k3, k4, q3, q4, fun j h6 h7 => by rw [← k4]; exact q5 j h6 h7⟩
theorem parent_snoc {l : List Nat} (m : Nat) : parentF (some (l ++ [m])) = (fmt l, decide (l ≠ [])) := by
  unfold parentF
  cases l with
  | nil => rfl
  | cons x r =>
    have h1 : (x :: r ++ [m]).length ≠ 1 := by simp
    simp only
    rw [if_neg h1]
    have : ((x :: r) ++ [m]).take (((x :: r) ++ [m]).length - 1) = x :: r := List.take_left' (by simp)
    rw [this]; rfl
end Go.Proofs.YtihjmnhamaicpaaGreatDoor
namespace Go.Proofs.YtihjmnhamaicpaaGreatDoor.codeFree
open Go Go.Abs
theorem law (taken : List Str) (above : Str) (n : Int) (ht : okStrs taken) (_ : okS above) (hn : okU16 n) : lCodeFree_S taken above n = some true := by
  simp only [lCodeFree_S, lCodeFree_F, awake_true, Option.bind_some, Bool.not_true, cond_false, List.length_map]
  by_cases h0 : taken.length ≤ 30
  · rw [decide_eq_false (show ¬ (taken.length : Int) > 30 by omega), cond_false, rFew_eq ht, Option.bind_some]
    cases hf : few taken with
    | false => rfl
    | true =>
      obtain ⟨h3, h4⟩ := few_spec hf
      rw [Bool.not_true, cond_false]
      by_cases h1 : above.length ≤ 100
      · rw [decide_eq_false (show ¬ (above.length : Int) > 100 by omega), cond_false, pFree_eq ht.1 h4 h1, Option.bind_some]
        rcases freeF_spec (taken := taken) (above := above) with ⟨q1, q2⟩ | ⟨l, m, k1, k2, k3, k4, k5, k6, k7, k8, k9⟩
        · rw [show ((freeF taken above).2 != 0) = true by simpa using q2, cond_true, q1]; rfl
        · rw [k7]
          have hgood : ∀ j, 1 ≤ j → j < 1000 → ∀ n ∈ l ++ [j], 1 ≤ n ∧ n < 1000 := fun j h5 h6 n hn => by
            rcases List.mem_append.1 hn with h | h
            · exact k2 n h
            · rw [List.mem_singleton.1 h]; exact ⟨h5, h6⟩
          have hv : codeV (fmt (l ++ [m])) = some (l ++ [m]) := codeV_fmt (by simp) (by simp; omega) (hgood m k3 k4)
          have hlen : (fmt (l ++ [m])).length ≤ 100 := by
            have := fmt_len (l := l ++ [m]) (fun n hn => (hgood m k3 k4 n hn).2)
            simp only [List.length_append, List.length_singleton] at this; omega
          have hlast : ix (castL (l ++ [m])) (IntKind.i64.wrap (((l ++ [m]).length : Int) - 1)) = some (m : Int) := by
            rw [wrap_id (by unfold okI; simp; omega), show (((l ++ [m]).length : Int) - 1) = ((l.length : Nat) : Int) by simp, castL_get (by simp)]
            simp
          have hk : IntKind.i64.wrap (1 + Int.tmod (IntKind.i64.wrap n) 999) = ((1 + n.toNat % 999 : Nat) : Int) := by
            obtain ⟨n1, n2⟩ := hn
            rw [wrap_id (n := n) (by unfold okI; omega), Int.tmod_eq_emod_of_nonneg n1, wrap_id (by unfold okI; omega)]
            omega
          rw [show ((fmt (l ++ [m]), (0 : Int)).2 != 0) = false from rfl, cond_false, pParseN_eq hlen, pParent_eq hlen, hv, parent_snoc]
          simp only [Option.bind_some, parseF, List.length_map, slContainsS_eq ht.1, k8, hk]
          rw [show ((0 : Int) != 0) = false from rfl, cond_false, show ((((l ++ [m]).length : Nat) : Int) == 0) = false by simp; omega, cond_false, ← k5, beq_self_eq_true, Bool.not_true, cond_false, cond_false, hlast, Option.bind_some]
          by_cases hge : m ≤ 1 + n.toNat % 999
          · rw [decide_eq_true (show ((1 + n.toNat % 999 : Nat) : Int) ≥ (m : Int) by omega), cond_true]
          · rw [decide_eq_false (show ¬ ((1 + n.toNat % 999 : Nat) : Int) ≥ (m : Int) by omega), cond_false]
            have hset : (castL (l ++ [m])).set (IntKind.i64.wrap (((l ++ [m]).length : Int) - 1)).toNat ((1 + n.toNat % 999 : Nat) : Int) = castL (l ++ [1 + n.toNat % 999]) := by
              rw [wrap_id (by unfold okI; simp; omega), show (((l ++ [m]).length : Int) - 1) = ((l.length : Nat) : Int) by simp, Int.toNat_natCast]
              simp only [castL, List.map_append, List.map_cons, List.map_nil]
              rw [List.set_append_right _ _ (by simp)]
              simp
            have hg := hgood (1 + n.toNat % 999) (by omega) (by omega)
            rw [hset, pFormat_eq (by simp; omega), formatF_good (by simp) (by simp; omega) hg, Option.bind_some]
            simp only [slContainsS_eq ht.1, k9 (1 + n.toNat % 999) (by omega) (by omega), Option.bind_some]
            rfl
      · rw [decide_eq_true (show (above.length : Int) > 100 by omega), cond_true]
  · rw [decide_eq_true (show (taken.length : Int) > 30 by omega), cond_true]
end Go.Proofs.YtihjmnhamaicpaaGreatDoor.codeFree
