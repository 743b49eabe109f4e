/- Parse: both ways of reading a code. -/
import Derived.Test.YtjoacimgcepjdaaGreatDoorLPart
set_option linter.unusedSimpArgs false
set_option linter.unusedVariables false
namespace Go.Proofs.YtjoacimgcepjdaaGreatDoor
open Go Go.Abs

def nums : List Str → Option (List Nat)
  | [] => some []
  | p :: r => match numV p, nums r with
    | some n, some l => some (n :: l)
    | _, _ => none
theorem nums_some {p : Str} {r : List Str} {n : Nat} (h : numV p = some n) : nums (p :: r) = (nums r).map (n :: ·) := by
  rw [nums, h]; cases nums r <;> rfl
theorem nums_none {p : Str} {r : List Str} (h : numV p = none) : nums (p :: r) = none := by
  rw [nums, h]
theorem nums_len : ∀ {ps : List Str} {l : List Nat}, nums ps = some l → l.length = ps.length
  | [], l, h => by rw [nums] at h; obtain rfl := Option.some.inj h; rfl
  | p :: r, l, h => by
    cases hn : numV p with
    | none => rw [nums_none hn] at h; cases h
    | some n =>
      rw [nums_some hn] at h
      cases hr : nums r with
      | none => rw [hr] at h; cases h
      | some l' => rw [hr] at h; obtain rfl := Option.some.inj h; simp [nums_len hr]
theorem nums_digs : ∀ {ps : List Str} {l : List Nat}, nums ps = some l → ps = l.map digs ∧ ∀ n ∈ l, 1 ≤ n ∧ n < 1000
  | [], l, h => by rw [nums] at h; obtain rfl := Option.some.inj h; exact ⟨rfl, by simp⟩
  | p :: r, l, h => by
    cases hn : numV p with
    | none => rw [nums_none hn] at h; cases h
    | some n =>
      rw [nums_some hn] at h
      cases hr : nums r with
      | none => rw [hr] at h; cases h
      | some l' =>
        rw [hr] at h; obtain rfl := Option.some.inj h
        obtain ⟨h1, h2, h3⟩ := num_spec hn
        obtain ⟨h4, h5⟩ := nums_digs hr
        exact ⟨by rw [h1, h4]; rfl, fun m hm => by
          rcases List.mem_cons.1 hm with rfl | hm
          · exact ⟨h2, h3⟩
          · exact h5 m hm⟩
theorem nums_map : ∀ {l : List Nat}, (∀ n ∈ l, 1 ≤ n ∧ n < 1000) → nums (l.map digs) = some l
  | [], _ => rfl
  | n :: l, h => by
    have h1 := h n (by simp)
    rw [List.map_cons, nums_some (num_digs n h1.2 h1.1), nums_map (fun m hm => h m (List.mem_cons_of_mem _ hm))]
    rfl
/-- The numbers of a code, or nothing. -/
def codeV (s : Str) : Option (List Nat) := if (pieces s).length ≤ 6 then nums (pieces s) else none
abbrev castL (l : List Nat) : List Int := List.map (fun n : Nat => (n : Int)) l
def parseF : Option (List Nat) → List Int × Int
  | some l => (castL l, 0)
  | none => ([], 3)
theorem codeV_spec {s : Str} {l : List Nat} (h : codeV s = some l) : s = fmt l ∧ 1 ≤ l.length ∧ l.length ≤ 6 ∧ ∀ n ∈ l, 1 ≤ n ∧ n < 1000 := by
  unfold codeV at h
  split at h
  · rename_i h6
    have hl := nums_len h
    obtain ⟨h1, h2⟩ := nums_digs h
    obtain ⟨p, ps, hp⟩ := pieces_ne s
    refine ⟨by rw [← glue_pieces s, h1, glue_digs], by rw [hl, hp]; simp, by omega, h2⟩
  · cases h
theorem codeV_fmt {l : List Nat} (h1 : 1 ≤ l.length) (h6 : l.length ≤ 6) (h : ∀ n ∈ l, 1 ≤ n ∧ n < 1000) : codeV (fmt l) = some l := by
  have := pieces_fmt l (by rintro rfl; simp at h1) (fun n hn => (h n hn).2)
  unfold codeV
  rw [this, nums_map h, if_pos (by rw [List.length_map]; exact h6)]

def after (out : List Int) : Option (List Nat) → List Int × Int
  | some l => (out ++ castL l, 0)
  | none => ([], 3)
theorem pParse_loop {y : List Str} (hy : y.length ≤ 100) (hp : ∀ p ∈ y, p.length ≤ 4000000000) : ∀ (n i fu : Nat) (out : List Int), y.length - i = n → i ≤ y.length → n < fu → out.length = i → pParse_L1 y fu out (i : Int) = some (after out (nums (y.drop i)))
  | n, i, 0, _, _, _, h, _ => by omega
  | 0, i, fu + 1, out, h, hi, _, _ => by
    have : i = y.length := by omega
    subst this
    have h0 : decide ((y.length : Int) < (y.length : Int)) = false := decide_eq_false (by omega)
    simp only [pParse_L1, List.length_map, h0, cond_false, List.drop_length, nums, after, castL, List.map_nil, List.append_nil]
  | n + 1, i, fu + 1, out, h, _, hf, ho => by
    have hi : i < y.length := by omega
    have h0 : decide ((i : Int) < (y.length : Int)) = true := decide_eq_true (by omega)
    have hm := hp _ (List.getElem_mem hi)
    obtain ⟨v, hv, hc⟩ := atoi_part (s := y[i]) (by omega)
    have hw : IntKind.i64.wrap ((i : Int) + 1) = ((i + 1 : Nat) : Int) := wrap_succ (n := y.length) (by omega) hi
    simp only [pParse_L1, List.length_map, h0, cond_true, ix_at hi, Option.bind_some, hv, hw]
    rw [List.drop_eq_getElem_cons hi]
    rcases hc with ⟨k, hk, rfl⟩ | ⟨hk, hc⟩
    · obtain ⟨hd, k1, k2⟩ := num_spec hk
      have e1 : decide ((k : Int) < 1) = false := decide_eq_false (by omega)
      have e2 : decide ((k : Int) > 999) = false := decide_eq_false (by omega)
      have e3 : decide (out.length + ([(k : Int)] : List Int).length ≤ 4294967296) = true := decide_eq_true (by simp; omega)
      simp only [cond_false, e1, e2, itoa_ok k2, Option.bind_some, ← hd, beq_self_eq_true, Bool.not_true, e3, cond_true]
      rw [pParse_loop hy hp n (i + 1) fu (out ++ [(k : Int)]) (by omega) (by omega) (by omega) (by simp [ho])]
      rw [nums_some hk]
      cases nums (y.drop (i + 1)) with
      | none => rfl
      | some l => simp [after]
    · rw [nums_none hk]
      show _ = some (([] : List Int), (3 : Int))
      rcases hc with h1 | h1 | h1 | ⟨h1, h2, t, h3, h4⟩
      · rw [h1, cond_true]
      · cases v.2
        · simp only [cond_false, decide_eq_true h1, cond_true]
        · rfl
      · cases v.2
        · have e1 : decide (v.1 < 1) = false := decide_eq_false (by omega)
          simp only [cond_false, e1, decide_eq_true h1, cond_true]
        · rfl
      · cases v.2
        · have e1 : decide (v.1 < 1) = false := decide_eq_false (by omega)
          have e2 : decide (v.1 > 999) = false := decide_eq_false (by omega)
          simp only [cond_false, e1, e2, h3, Option.bind_some, h4, Bool.not_false, cond_true]
        · rfl
theorem pParse_eqB {s : Str} (h : s.length ≤ 4000000000) : pParse_S s = some (parseF (codeV s)) := by
  show pParse_F _ s = _
  have hl := pieces_len s
  unfold pParse_F codeV
  rw [sSplit_eq (by omega)]
  simp only [Option.bind_some, List.length_map]
  by_cases h6 : (pieces s).length ≤ 6
  · have e : decide (((pieces s).length : Int) > 6) = false := decide_eq_false (by omega)
    rw [e, cond_false, if_pos h6]
    rw [show (0 : Int) = ((0 : Nat) : Int) from rfl, pParse_loop (y := pieces s) (by omega) (fun p hp => by have := hl.2 p hp; omega) (pieces s).length 0 1000 [] rfl (by omega) (by omega) rfl, List.drop_zero]
    cases nums (pieces s) with
    | none => rfl
    | some l => simp [after, parseF]
  · have e : decide (((pieces s).length : Int) > 6) = true := decide_eq_true (by omega)
    rw [e, cond_true, if_neg h6]
    rfl

theorem pParse_eq {s : Str} (h : s.length ≤ 100) : pParse_S s = some (parseF (codeV s)) := pParse_eqB (by omega)
theorem u8_sub {a : UInt8} (h : d0 a = true) : IntKind.i64.wrap (IntKind.u8.wrap ((a.toNat : Int) - 48)) = ((a.toNat - 48 : Nat) : Int) := by
  rw [d0_iff] at h
  have h1 : IntKind.u8.wrap ((a.toNat : Int) - 48) = ((a.toNat - 48 : Nat) : Int) := by
    show (if (false && decide (((a.toNat : Int) - 48) % (2 ^ 8 : Int) ≥ (2 ^ 7 : Int))) = true then ((a.toNat : Int) - 48) % (2 ^ 8 : Int) - (2 ^ 8 : Int) else ((a.toNat : Int) - 48) % (2 ^ 8 : Int)) = _
    simp only [Bool.false_and, Bool.false_eq_true, if_false]
    omega
  rw [h1, wrap_id (by unfold okI; omega)]
theorem rpart_step {s : Str} {fu i k : Nat} (hs : s.length ≤ 3) (hi : i < s.length) (hk : k ≤ 99) : rpart_L1 s (fu + 1) (k : Int) (i : Int) = if d0 s[i] = true then rpart_L1 s fu ((10 * k + (s[i].toNat - 48) : Nat) : Int) ((i + 1 : Nat) : Int) else some (0, false) := by
  have h0 : decide ((i : Int) < (s.length : Int)) = true := decide_eq_true (by omega)
  have hw : IntKind.i64.wrap ((i : Int) + 1) = ((i + 1 : Nat) : Int) := wrap_succ (n := s.length) (by omega) hi
  simp only [rpart_L1, h0, cond_true, ix_at hi, Option.bind_some, hw]
  by_cases hd : d0 s[i] = true
  · rw [if_pos hd, u8_sub hd]
    rw [d0_iff] at hd
    have e1 : decide ((s[i].toNat : Int) < 48) = false := decide_eq_false (by omega)
    have e2 : decide ((s[i].toNat : Int) > 57) = false := decide_eq_false (by omega)
    rw [e1, e2, cond_false, cond_false, wrap_id (n := 10 * (k : Int)) (by unfold okI; omega), wrap_id (by unfold okI; omega)]
    congr 1
  · rw [if_neg hd]
    have : ¬ (48 ≤ s[i].toNat ∧ s[i].toNat ≤ 57) := fun h => hd (d0_iff.2 h)
    by_cases h1 : s[i].toNat < 48
    · rw [decide_eq_true (show (s[i].toNat : Int) < 48 by omega), cond_true]
    · rw [decide_eq_false (show ¬ (s[i].toNat : Int) < 48 by omega), cond_false, decide_eq_true (show (s[i].toNat : Int) > 57 by omega), cond_true]
theorem rpart_end {s : Str} {fu : Nat} (k : Int) : rpart_L1 s (fu + 1) k (s.length : Int) = some (k, true) := by
  have h0 : decide ((s.length : Int) < (s.length : Int)) = false := decide_eq_false (by omega)
  simp only [rpart_L1, h0, cond_false]
def rpartV (s : Str) : Int × Bool := match numV s with
  | some n => ((n : Int), true)
  | none => (0, false)
theorem numV1 (a : UInt8) : numV [a] = if d1 a = true then some (a.toNat - 48) else none := rfl
theorem numV2 (a b : UInt8) : numV [a, b] = if d1 a = true ∧ d0 b = true then some (10 * (a.toNat - 48) + (b.toNat - 48)) else none := rfl
theorem numV3 (a b c : UInt8) : numV [a, b, c] = if d1 a = true ∧ d0 b = true ∧ d0 c = true then some (100 * (a.toNat - 48) + 10 * (b.toNat - 48) + (c.toNat - 48)) else none := rfl
theorem rpart_eq (s : Str) (hs : s.length ≤ 100) : rpart_S s = some (rpartV s) := by
  show rpart_F _ s = _
  unfold rpart_F
  match s, hs with
  | [], _ => rfl
  | a :: b :: c :: d :: r, _ =>
    have e1 : decide (((a :: b :: c :: d :: r).length : Int) < 1) = false := decide_eq_false (by simp only [List.length_cons]; omega)
    have e2 : decide (((a :: b :: c :: d :: r).length : Int) > 3) = true := decide_eq_true (by simp only [List.length_cons]; omega)
    rw [e1, e2]; rfl
  | [a], _ =>
    have e : ix [a] 0 = some a := rfl
    rw [show (decide ((([a] : Str).length : Int) < 1)) = false from rfl, show (decide ((([a] : Str).length : Int) > 3)) = false from rfl, e]
    simp only [cond_false, Option.bind_some]
    have hst := rpart_step (s := [a]) (fu := 1) (i := 0) (k := 0) (by simp) (by simp) (by omega)
    simp only [List.getElem_cons_zero] at hst
    show (bif (a.toNat : Int) == 48 then _ else rpart_L1 [a] (1 + 1) ((0 : Nat) : Int) ((0 : Nat) : Int)) = _
    rw [hst]
    have hen := rpart_end (s := [a]) (fu := 0)
    simp only [List.length_singleton] at hen
    simp only [hen]
    unfold rpartV
    rw [numV1]
    by_cases h48 : a.toNat = 48
    · have : ¬ (d1 a = true) := by rw [d1_iff]; omega
      have e5 : ((a.toNat : Int) == 48) = true := by rw [h48]; rfl
      rw [e5, cond_true, if_neg this]
    · have e4 : ((a.toNat : Int) == 48) = false := by simp; omega
      rw [e4, cond_false]
      by_cases h0 : d0 a = true
      · have h1 : d1 a = true := by rw [d0_iff] at h0; rw [d1_iff]; omega
        rw [if_pos h0, if_pos h1]; simp
      · have h1 : ¬ d1 a = true := by rw [d0_iff] at h0; rw [d1_iff]; omega
        rw [if_neg h0, if_neg h1]
  | [a, b], _ =>
    have e : ix [a, b] 0 = some a := rfl
    rw [show (decide ((([a, b] : Str).length : Int) < 1)) = false from rfl, show (decide ((([a, b] : Str).length : Int) > 3)) = false from rfl, e]
    simp only [cond_false, Option.bind_some]
    have hst := rpart_step (s := [a, b]) (fu := 2) (i := 0) (k := 0) (by simp) (by simp) (by omega)
    simp only [List.getElem_cons_zero] at hst
    show (bif (a.toNat : Int) == 48 then _ else rpart_L1 [a, b] (2 + 1) ((0 : Nat) : Int) ((0 : Nat) : Int)) = _
    rw [hst]
    have hen := rpart_end (s := [a, b]) (fu := 0)
    simp only [List.length_cons, List.length_nil] at hen
    unfold rpartV
    rw [numV2]
    by_cases h48 : a.toNat = 48
    · have : ¬ (d1 a = true) := by rw [d1_iff]; omega
      have e5 : ((a.toNat : Int) == 48) = true := by rw [h48]; rfl
      rw [e5, cond_true, if_neg (fun h => this h.1)]
    · have e4 : ((a.toNat : Int) == 48) = false := by simp; omega
      rw [e4, cond_false]
      by_cases h0 : d0 a = true
      · have h1 : d1 a = true := by rw [d0_iff] at h0; rw [d1_iff]; omega
        rw [if_pos h0]
        rw [d0_iff] at h0
        have hs2 := rpart_step (s := [a, b]) (fu := 1) (i := 1) (k := 10 * 0 + (a.toNat - 48)) (by simp) (by simp) (by omega)
        simp only [List.getElem_cons_succ, List.getElem_cons_zero] at hs2
        rw [show (0 : Nat) + 1 = 1 from rfl, hs2]
        simp only [h1, true_and]
        by_cases hb : d0 b = true
        · rw [if_pos hb, if_pos hb, hen]; simp
        · rw [if_neg hb, if_neg hb]
      · have h1 : ¬ d1 a = true := by rw [d0_iff] at h0; rw [d1_iff]; omega
        rw [if_neg h0, if_neg (fun h => h1 h.1)]
  | [a, b, c], _ =>
    have e : ix [a, b, c] 0 = some a := rfl
    rw [show (decide ((([a, b, c] : Str).length : Int) < 1)) = false from rfl, show (decide ((([a, b, c] : Str).length : Int) > 3)) = false from rfl, e]
    simp only [cond_false, Option.bind_some]
    have hst := rpart_step (s := [a, b, c]) (fu := 3) (i := 0) (k := 0) (by simp) (by simp) (by omega)
    simp only [List.getElem_cons_zero] at hst
    show (bif (a.toNat : Int) == 48 then _ else rpart_L1 [a, b, c] (3 + 1) ((0 : Nat) : Int) ((0 : Nat) : Int)) = _
    rw [hst]
    have hen := rpart_end (s := [a, b, c]) (fu := 0)
    simp only [List.length_cons, List.length_nil] at hen
    unfold rpartV
    rw [numV3]
    by_cases h48 : a.toNat = 48
    · have : ¬ (d1 a = true) := by rw [d1_iff]; omega
      have e5 : ((a.toNat : Int) == 48) = true := by rw [h48]; rfl
      rw [e5, cond_true, if_neg (fun h => this h.1)]
    · have e4 : ((a.toNat : Int) == 48) = false := by simp; omega
      rw [e4, cond_false]
      by_cases h0 : d0 a = true
      · have h1 : d1 a = true := by rw [d0_iff] at h0; rw [d1_iff]; omega
        rw [if_pos h0]
        rw [d0_iff] at h0
        have hs2 := rpart_step (s := [a, b, c]) (fu := 2) (i := 1) (k := 10 * 0 + (a.toNat - 48)) (by simp) (by simp) (by omega)
        simp only [List.getElem_cons_succ, List.getElem_cons_zero] at hs2
        rw [show (0 : Nat) + 1 = 1 from rfl, hs2]
        simp only [h1, true_and]
        by_cases hb : d0 b = true
        · rw [if_pos hb]
          have hb' := d0_iff.1 hb
          have hs3 := rpart_step (s := [a, b, c]) (fu := 1) (i := 2) (k := 10 * (10 * 0 + (a.toNat - 48)) + (b.toNat - 48)) (by simp) (by simp) (by omega)
          simp only [List.getElem_cons_succ, List.getElem_cons_zero] at hs3
          rw [show (1 : Nat) + 1 = 2 from rfl, hs3]
          simp only [hb, true_and]
          by_cases hc : d0 c = true
          · rw [if_pos hc, if_pos hc, hen]
            simp only [Option.some.injEq, Prod.mk.injEq, and_true]
            omega
          · rw [if_neg hc, if_neg hc]
        · rw [if_neg hb, if_neg (fun h => hb h.1)]
      · have h1 : ¬ d1 a = true := by rw [d0_iff] at h0; rw [d1_iff]; omega
        rw [if_neg h0, if_neg (fun h => h1 h.1)]

def afterR (out : List Int) : Option (List Nat) → List Int × Int
  | some l => if out.length + l.length > 6 then ([], 3) else (out ++ castL l, 0)
  | none => ([], 3)
theorem slc_cut {α : Type} {s : List α} {v i : Nat} (h1 : v ≤ i) (h2 : i ≤ s.length) : slc s (v : Int) (i : Int) = some ((s.drop v).take (i - v)) := by
  unfold slc
  rw [decide_eq_true (show (0 : Int) ≤ v ∧ (v : Int) ≤ i ∧ (i : Int) ≤ s.length by omega), cond_true, Int.toNat_natCast, Int.toNat_natCast]
theorem rParse_loop {s : Str} (hs : s.length ≤ 100) : ∀ (n i fu v : Nat) (out : List Int), s.length - i = n → i ≤ s.length → n + 1 < fu → v ≤ i → out.length ≤ v → ((s.drop v).take (i - v)).all (fun c => c != 46) = true →
    rParse_L1 s fu out (v : Int) (i : Int) = some (afterR out (nums (pieces (s.drop v))))
  | _, _, 0, _, _, _, _, hf, _, _, _ => by omega
  | 0, i, fu + 1, v, out, h, hi, hf, hv, ho, hd => by
    have : i = s.length := by omega
    subst this
    have e0 : decide ((s.length : Int) ≤ (s.length : Int)) = true := decide_eq_true (by omega)
    have ht : (s.drop v).take (s.length - v) = s.drop v := List.take_of_length_le (by simp)
    rw [ht] at hd
    have hlen : (s.drop v).length ≤ 100 := by simp; omega
    simp only [rParse_L1, e0, cond_true, beq_self_eq_true, slc_cut hv (Nat.le_refl _), ht, Option.bind_some, rpart_eq _ hlen, pieces_one hd]
    unfold rpartV
    cases hn : numV (s.drop v) with
    | none => rw [nums_none hn]; rfl
    | some k =>
      rw [nums_some hn]
      obtain ⟨fu, rfl⟩ : ∃ f, fu = f + 1 := ⟨fu - 1, by omega⟩
      have e3 : decide (out.length + ([(k : Int)] : List Int).length ≤ 4294967296) = true := decide_eq_true (by simp; omega)
      have hw : IntKind.i64.wrap ((s.length : Int) + 1) = ((s.length + 1 : Nat) : Int) := by rw [wrap_id (by unfold okI; omega)]; rfl
      have e4 : decide (((s.length + 1 : Nat) : Int) ≤ (s.length : Int)) = false := decide_eq_false (by omega)
      simp only [Bool.not_true, cond_false, e3, cond_true, hw, rParse_L1, e4, List.length_map, nums, Option.map_some]
      show (bif decide (((out ++ [(k : Int)]).length : Int) > 6) then _ else _) = some (if out.length + [k].length > 6 then _ else _)
      by_cases h6 : out.length + 1 > 6
      · rw [decide_eq_true (by simp; omega), cond_true, if_pos (by simpa using h6)]
      · rw [decide_eq_false (by simp; omega), cond_false, if_neg (by simpa using h6)]
        simp
  | n + 1, i, fu + 1, v, out, h, _, hf, hv, ho, hd => by
    have hi : i < s.length := by omega
    have e0 : decide ((i : Int) ≤ (s.length : Int)) = true := decide_eq_true (by omega)
    have e1 : ((i : Int) == (s.length : Int)) = false := by simp; omega
    have hw : IntKind.i64.wrap ((i : Int) + 1) = ((i + 1 : Nat) : Int) := wrap_succ (n := s.length) (by omega) hi
    simp only [rParse_L1, e0, cond_true, e1, cond_false, ix_at hi, Option.bind_some, hw]
    by_cases hc : s[i] = 46
    · have e2 : ((s[i].toNat : Int) == 46) = true := by rw [hc]; rfl
      have hsp : s.drop v = (s.drop v).take (i - v) ++ 46 :: s.drop (i + 1) := by
        rw [← hc, ← List.drop_eq_getElem_cons hi]
        have : s.drop i = (s.drop v).drop (i - v) := by rw [List.drop_drop]; congr 1; omega
        rw [this, List.take_append_drop]
      have hp : pieces (s.drop v) = (s.drop v).take (i - v) :: pieces (s.drop (i + 1)) := by
        conv => lhs; rw [hsp]
        exact pieces_app hd _
      have hlen : ((s.drop v).take (i - v)).length ≤ 100 := by simp; omega
      simp only [e2, cond_true, slc_cut hv (Nat.le_of_lt hi), Option.bind_some, rpart_eq _ hlen, hp]
      unfold rpartV
      cases hn : numV ((s.drop v).take (i - v)) with
      | none => rw [nums_none hn]; rfl
      | some k =>
        rw [nums_some hn]
        have e3 : decide (out.length + ([(k : Int)] : List Int).length ≤ 4294967296) = true := decide_eq_true (by simp; omega)
        simp only [Bool.not_true, cond_false, e3, cond_true]
        rw [rParse_loop hs n (i + 1) fu (i + 1) (out ++ [(k : Int)]) (by omega) (by omega) (by omega) (by omega) (by simp; omega) (by simp)]
        cases nums (pieces (s.drop (i + 1))) with
        | none => rfl
        | some l =>
          simp only [afterR, Option.map_some, List.length_append, List.length_cons, List.length_nil, List.map_cons, List.append_assoc, List.singleton_append, castL]
          have : out.length + (0 + 1) + l.length = out.length + (l.length + 1) := by omega
          rw [this]
    · have e2 : ((s[i].toNat : Int) == 46) = false := by
        cases hq : ((s[i].toNat : Int) == 46) with
        | false => rfl
        | true =>
          have h1 : (s[i].toNat : Int) = 46 := by simpa using hq
          have h2 : s[i].toNat = 46 := by omega
          exact absurd (UInt8.toNat_inj.1 h2) hc
      rw [e2, cond_false]
      refine rParse_loop hs n (i + 1) fu v out (by omega) (by omega) (by omega) (by omega) ho ?_
      have hi' : i - v < (s.drop v).length := by simp; omega
      have hg : (s.drop v)[i - v] = s[i] := by
        rw [List.getElem_drop]; congr 1; omega
      rw [show i + 1 - v = (i - v) + 1 by omega, List.take_succ_eq_append_getElem hi', List.all_append, hd, hg]
      simp [hc]
theorem rParse_eq {s : Str} (h : s.length ≤ 100) : rParse_S s = some (parseF (codeV s)) := by
  show rParse_L1 s _ [] ((0 : Nat) : Int) ((0 : Nat) : Int) = _
  rw [rParse_loop h s.length 0 _ 0 [] (by omega) (by omega) (by omega) (by omega) (by simp) (by simp)]
  rw [List.drop_zero]
  unfold codeV
  cases hn : nums (pieces s) with
  | none => split <;> rfl
  | some l =>
    have := nums_len hn
    simp only [afterR]
    by_cases h6 : (pieces s).length ≤ 6
    · rw [if_pos h6, if_neg (by simp; omega)]; rfl
    · rw [if_neg h6, if_pos (by simp; omega)]; rfl
end Go.Proofs.YtjoacimgcepjdaaGreatDoor
