/- Parse as the program has it. -/
import Derived.Test.YtmdhahfminiilaaDoorL50D
set_option linter.unusedSimpArgs false
set_option linter.unusedVariables false
namespace Go.Proofs.YtmdhahfminiilaaDoor
open Go Go.Abs
theorem has_all : ∀ i : Fin 256, ascHas_S digC (i.val : Int) = some (decide (48 ≤ i.val) && decide (i.val ≤ 57)) := by decide +kernel
theorem has_eq (c : UInt8) : ascHas_S digC (c.toNat : Int) = some (d0 c) := has_all ⟨c.toNat, c.toNat_lt⟩
attribute [local irreducible] digC
theorem trimRA_nil (fu : Nat) : trimRA_L1 digC (fu + 1) [] = some [] := by
  simp only [trimRA_L1, List.length_nil]; rfl
theorem trimRA_snoc {fu : Nat} {s : Str} {c : UInt8} (h : s.length ≤ 1000) : trimRA_L1 digC (fu + 1) (s ++ [c]) = if d0 c = true then trimRA_L1 digC fu s else some (s ++ [c]) := by
  have hl : (s ++ [c]).length = s.length + 1 := by simp
  have hw : IntKind.i64.wrap ((((s ++ [c]).length : Nat) : Int) - 1) = (s.length : Int) := by rw [hl, wrap_id (by unfold okI; omega)]; omega
  have hix : ix (s ++ [c]) (s.length : Int) = some c := by rw [ix_at (by omega)]; simp
  simp only [trimRA_L1, hw, hix, Option.bind_some, has_eq]
  rw [decide_eq_true (show (((s ++ [c]).length : Nat) : Int) > 0 by omega), cond_true]
  cases d0 c with
  | false => rfl
  | true =>
    have hsl : slc (s ++ [c]) 0 (s.length : Int) = some s := by
      have := slc_cut (s := s ++ [c]) (v := 0) (i := s.length) (by omega) (by omega)
      simpa using this
    rw [Bool.not_true, cond_false, hsl, Option.bind_some, if_pos rfl]
theorem trimLA_nil (fu : Nat) : trimLA_L1 digC (fu + 1) [] = some [] := by
  simp only [trimLA_L1, List.length_nil]; rfl
theorem trimLA_cons {fu : Nat} {s : Str} {c : UInt8} : trimLA_L1 digC (fu + 1) (c :: s) = if d0 c = true then trimLA_L1 digC fu s else some (c :: s) := by
  have hix : ix (c :: s) 0 = some c := ix_at (l := c :: s) (i := 0) (by simp)
  simp only [trimLA_L1, hix, Option.bind_some, has_eq]
  rw [decide_eq_true (show (((c :: s).length : Nat) : Int) > 0 by simp), cond_true]
  cases d0 c with
  | false => rfl
  | true =>
    have hsl : slc (c :: s) 1 ((c :: s).length : Int) = some s := by
      have := slc_cut (s := c :: s) (v := 1) (i := (c :: s).length) (by simp) (by omega)
      simpa using this
    rw [Bool.not_true, cond_false, hsl, Option.bind_some, if_pos rfl]
theorem trim_two (a b : UInt8) : ∃ y, sTrim_S [a, b] digs = some y ∧ (y == ([] : Str)) = (d0 a && d0 b) := by
  have hR : trimRA_S [a, b] digC = trimRA_L1 digC 3 ([a] ++ [b]) := rfl
  have hL : ∀ s : Str, trimLA_S s digC = trimLA_L1 digC (s.length + 1) s := fun s => rfl
  simp only [sTrim_S, beq_self_eq_true, cond_true, sTrimC_S, sTrimC_F]
  rw [show (([a, b] : Str) == []) = false from rfl, cond_false, show (digs == ([] : Str)) = false by decide, cond_false, show ((digs.length : Int) == 1) = false by decide, cond_false]
  simp only [mkAscii_S, beq_self_eq_true, cond_true, Option.bind_some]
  rw [hR, trimRA_snoc (by simp)]
  cases hb : d0 b with
  | false =>
    rw [if_neg (by simp), Option.bind_some, hL]
    show ∃ y, Option.bind (trimLA_L1 digC 3 [a, b]) _ = some y ∧ _
    rw [trimLA_cons]
    cases ha : d0 a with
    | false => exact ⟨[a, b], rfl, rfl⟩
    | true =>
      rw [if_pos rfl, trimLA_cons, hb, if_neg (by simp)]
      exact ⟨[b], rfl, rfl⟩
  | true =>
    rw [if_pos rfl, show ([a] : Str) = [] ++ [a] from rfl, trimRA_snoc (by simp)]
    cases ha : d0 a with
    | false =>
      rw [if_neg (by simp), Option.bind_some, hL]
      show ∃ y, Option.bind (trimLA_L1 digC 2 [a]) _ = some y ∧ _
      rw [trimLA_cons, ha, if_neg (by simp)]
      exact ⟨[a], rfl, rfl⟩
    | true =>
      rw [if_pos rfl, trimRA_nil, Option.bind_some, hL]
      show ∃ y, Option.bind (trimLA_L1 digC 1 []) _ = some y ∧ _
      rw [trimLA_nil]
      exact ⟨[], rfl, rfl⟩
def okN (s : Str) (m : Nat) : Bool := canon s && decide (valS s ≤ m)
/-- What the pieces of a code say. -/
def parse3 : List Str → Int × Int × Int
  | [p, q, [a, b]] => if okN p 1073741824 && okN q 64 && d0 a && d0 b then (if ([a, b] : Str) == chk (valS p) (valS q) then (((valS p : Nat) : Int), ((valS q : Nat) : Int), 0) else (0, 0, 14)) else (0, 0, 3)
  | _ => (0, 0, 3)
theorem ranged_num (p q : Str) : ranged ((numP p : Nat) : Int) ((numP q : Nat) : Int) = (okN p 1073741824 && okN q 64) := by
  have key : ∀ (s : Str) (m : Nat), m ≤ 1099511627775 → (decide (1 ≤ ((numP s : Nat) : Int)) && decide (((numP s : Nat) : Int) ≤ (m : Int))) = okN s m := by
    intro s m hm
    unfold numP okN
    by_cases h : canon s = true
    · have hp := canon_pos h
      by_cases h2 : valS s ≤ 1099511627775
      · rw [if_pos ⟨h, h2⟩, h, Bool.true_and, decide_eq_true (by omega), Bool.true_and]
        simp
      · rw [if_neg (fun q => h2 q.2), h, Bool.true_and, decide_eq_false (by omega), Bool.false_and, decide_eq_false (by omega)]
    · rw [if_neg (fun q => h q.1), decide_eq_false (by omega), Bool.false_and]
      have : canon s = false := by simpa using h
      rw [this, Bool.false_and]
  have h1 := key p 1073741824 (by omega)
  have h2 := key q 64 (by omega)
  rw [← h1, ← h2, ranged, Bool.and_assoc]
  rfl
theorem num_val {s : Str} {m : Nat} (hm : m ≤ 1099511627775) (h : okN s m = true) : numP s = valS s ∧ 1 ≤ valS s ∧ valS s ≤ m := by
  unfold okN at h
  rw [Bool.and_eq_true, decide_eq_true_eq] at h
  exact ⟨by unfold numP; rw [if_pos ⟨h.1, by omega⟩], canon_pos h.1, h.2⟩
theorem pParse_eq {s : Str} (h : s.length ≤ 1000) : pParse_S s = some (parse3 (pieces s)) := by
  have hl := pieces_len s
  simp only [pParse_S, pParse_F, sSplit_eq (show s.length ≤ 4294967280 by omega), Option.bind_some, List.length_map]
  generalize hps : pieces s = ps at hl
  match ps, hl with
  | [], _ => rfl
  | [_], _ => rfl
  | [_, _], _ => rfl
  | _ :: _ :: _ :: _ :: r, _ =>
    have e : ((((r.length + 1 + 1 + 1 + 1 : Nat) : Int)) != 3) = true := by rw [bne_iff_ne]; omega
    simp only [List.length_cons, e, cond_true, parse3]
  | [p, q, x], hl =>
    have hp := hl.2 p (by simp)
    have hq := hl.2 q (by simp)
    have i0 : ix [p, q, x] 0 = some p := ix_at (l := [p, q, x]) (i := 0) (by simp)
    have i1 : ix [p, q, x] 1 = some q := ix_at (l := [p, q, x]) (i := 1) (by simp)
    have i2 : ix [p, q, x] 2 = some x := ix_at (l := [p, q, x]) (i := 2) (by simp)
    simp only [List.length_cons, List.length_nil, i0, i1, i2, Option.bind_some]
    rw [show (((0 + 1 + 1 + 1 : Nat) : Int) != 3) = false by decide, cond_false]
    match x with
    | [] => rfl
    | [_] => rfl
    | _ :: _ :: _ :: r =>
      have e : ((((r.length + 1 + 1 + 1 : Nat) : Int)) != 2) = true := by rw [bne_iff_ne]; omega
      simp only [List.length_cons, e, cond_true]; rfl
    | [a, b] =>
      simp only [List.length_cons, List.length_nil]
      rw [show (((0 + 1 + 1 : Nat) : Int) != 2) = false by decide, cond_false, parse1_eq (by omega), parse1_eq (by omega)]
      simp only [Option.bind_some, pranged_eq, ranged_num, parse3]
      cases hr : (okN p 1073741824 && okN q 64) with
      | false => rfl
      | true =>
        rw [Bool.and_eq_true] at hr
        obtain ⟨v1, v2, v3⟩ := num_val (by omega) hr.1
        obtain ⟨w1, w2, w3⟩ := num_val (by omega) hr.2
        obtain ⟨y, hy, hyd⟩ := trim_two a b
        rw [Bool.not_true, cond_false, show ([48, 49, 50, 51, 52, 53, 54, 55, 56, 57] : Str) = digs from rfl, hy, Option.bind_some, hyd, Bool.true_and]
        cases hd : (d0 a && d0 b) with
        | false => rfl
        | true =>
          rw [Bool.not_true, cond_false, v1, w1, pcheck_eq ⟨v2, v3, w2, w3⟩, Option.bind_some]
          rw [if_pos rfl]
          cases hc : (([a, b] : Str) == chk (valS p) (valS q)) with
          | true => rfl
          | false => rfl
end Go.Proofs.YtmdhahfminiilaaDoor
