/- Format, Parent, Compare, Within: both ways. -/
import Derived.Test.YtihjmnhamaicpaaGreatDoorLParse
set_option linter.unusedSimpArgs false
set_option linter.unusedVariables false
namespace Go.Proofs.YtihjmnhamaicpaaGreatDoor
open Go Go.Abs

def tl : List Nat → Str
  | [] => []
  | n :: r => 46 :: (digs n ++ tl r)
theorem fmt_tl : ∀ (n : Nat) (r : List Nat), fmt (n :: r) = digs n ++ tl r
  | _, [] => by simp [fmt, tl]
  | n, m :: r => by rw [fmt, fmt_tl m r, tl]
theorem tl_len : ∀ {l : List Nat}, (∀ n ∈ l, n < 1000) → (tl l).length ≤ 4 * l.length
  | [], _ => Nat.le_refl _
  | n :: r, h => by
    have h1 := (digs_nodot n (h n (by simp))).2.2
    have h2 := tl_len (l := r) (fun m hm => h m (List.mem_cons_of_mem _ hm))
    rw [tl]; simp only [List.length_cons, List.length_append]; omega
theorem fmt_len {l : List Nat} (h : ∀ n ∈ l, n < 1000) : (fmt l).length ≤ 4 * l.length := by
  cases l with
  | nil => exact Nat.le_refl _
  | cons n r =>
    rw [fmt_tl]
    have h1 := (digs_nodot n (h n (by simp))).2.2
    have h2 := tl_len (l := r) (fun m hm => h m (List.mem_cons_of_mem _ hm))
    simp only [List.length_cons, List.length_append]; omega
theorem join_glue : ∀ l : List Str, Lib.join l [46] = glue l
  | [] => rfl
  | [p] => by simp [Lib.join, glue]
  | p :: q :: r => by
    have := join_glue (q :: r)
    rw [glue, ← this]; simp [Lib.join]
theorem castL_get {l : List Nat} {i : Nat} (h : i < l.length) : ix (castL l) (i : Int) = some ((l[i] : Nat) : Int) := by
  rw [ix_at (by simpa using h)]; simp [castL]
theorem pformat_loop {l : List Nat} (hl : l.length ≤ 100) (hp : ∀ n ∈ l, n < 1000) : ∀ (n i fu : Nat) (w : List Str), l.length - i = n → i ≤ l.length → n < fu → w = (l.take i).map digs → pformat_L1 (castL l) fu w (i : Int) = some (fmt l)
  | n, i, 0, _, _, _, h, _ => by omega
  | 0, i, fu + 1, w, h, hi, _, hw => by
    have : i = l.length := by omega
    subst this
    have h0 : decide ((l.length : Int) < (l.length : Int)) = false := decide_eq_false (by omega)
    rw [List.take_length] at hw
    simp only [pformat_L1, List.length_map, h0, cond_false]
    unfold join_S
    rw [hw, join_glue, glue_digs]
    have := fmt_len hp
    have e : (decide ((l.map digs).length ≤ 140737488355328) && decide ((fmt l).length ≤ 140737488355328)) = true := by simp; omega
    rw [e]; rfl
  | n + 1, i, fu + 1, w, h, _, hf, hw => by
    have hi : i < l.length := by omega
    have h0 : decide ((i : Int) < (l.length : Int)) = true := decide_eq_true (by omega)
    have hws : IntKind.i64.wrap ((i : Int) + 1) = ((i + 1 : Nat) : Int) := wrap_succ (n := l.length) (by omega) hi
    have hwl : w.length ≤ 100 := by rw [hw]; simp; omega
    have e3 : decide (w.length + ([digs l[i]] : List Str).length ≤ 4294967296) = true := decide_eq_true (by simp; omega)
    simp only [pformat_L1, List.length_map, h0, cond_true, castL_get hi, Option.bind_some, hws, itoa_ok (hp _ (List.getElem_mem hi)), e3]
    refine pformat_loop hl hp n (i + 1) fu _ (by omega) (by omega) (by omega) ?_
    rw [List.take_succ_eq_append_getElem hi, hw, List.map_append]; rfl
theorem pformat_eq {l : List Nat} (hl : l.length ≤ 100) (hp : ∀ n ∈ l, n < 1000) : pformat_S (castL l) = some (fmt l) :=
  pformat_loop hl hp l.length 0 _ [] (by omega) (by omega) (by simp) (by simp)

def badI (n : Int) : Bool := decide (n < 1) || decide (n > 999)
def formatF (l : List Int) : Str × Int := if l.length < 1 ∨ l.length > 6 ∨ l.any badI = true then ([], 2) else (fmt (l.map Int.toNat), 0)
theorem good_cast : ∀ {l : List Int}, l.any badI = false → l = castL (l.map Int.toNat) ∧ ∀ n ∈ l.map Int.toNat, 1 ≤ n ∧ n < 1000
  | [], _ => ⟨rfl, by simp⟩
  | x :: r, h => by
    rw [List.any_cons, Bool.or_eq_false_iff] at h
    obtain ⟨h1, h2⟩ := good_cast h.2
    have hb := h.1
    simp only [badI, Bool.or_eq_false_iff, decide_eq_false_iff_not] at hb
    refine ⟨?_, fun n hn => ?_⟩
    · simp only [castL, List.map_cons]
      rw [← castL, ← h1]
      congr 1; omega
    · rw [List.map_cons] at hn
      rcases List.mem_cons.1 hn with rfl | hn
      · omega
      · exact h2 n hn
theorem pFormat_1_eq (n : Int) : pFormat_1_S n = some (badI n) := by
  simp only [pFormat_1_S, pFormat_1_F, badI]
  cases decide (n < 1) <;> rfl
theorem pFormat_eq {l : List Int} (h : l.length ≤ 100) : pFormat_S l = some (formatF l) := by
  simp only [pFormat_S, pFormat_F, formatF, List.length_map]
  by_cases h1 : l.length < 1
  · rw [decide_eq_true (show (l.length : Int) < 1 by omega), cond_true, if_pos (.inl h1)]
  · rw [decide_eq_false (show ¬ (l.length : Int) < 1 by omega), cond_false]
    by_cases h2 : l.length > 6
    · rw [decide_eq_true (show (l.length : Int) > 6 by omega), cond_true, if_pos (.inr (.inl h2))]
    · rw [decide_eq_false (show ¬ (l.length : Int) > 6 by omega), cond_false, slContainsFuncI_eq (p := badI) (by omega) (fun x _ => pFormat_1_eq x), Option.bind_some]
      cases hb : l.any badI with
      | true => rw [cond_true, if_pos (by simp)]
      | false =>
        obtain ⟨hc, hg⟩ := good_cast hb
        rw [cond_false, if_neg (fun h => by rcases h with h | h | h <;> first | omega | (exact absurd h (by decide)))]
        have := pformat_eq (l := l.map Int.toNat) (by simp; omega) (fun n hn => (hg n hn).2)
        rw [← hc] at this
        rw [this]; rfl
theorem rFormat_loop {l : List Int} (hl : l.length ≤ 6) : ∀ (n i fu : Nat) (out : Str), l.length - i = n → i ≤ l.length → n < fu → out.length ≤ 4 * i →
    rFormat_L1 l fu out (i : Int) = some (if (l.drop i).any badI = true then ([], 2) else (out ++ (if i = 0 then fmt (l.map Int.toNat) else tl ((l.drop i).map Int.toNat)), 0))
  | n, i, 0, _, _, _, h, _ => by omega
  | 0, i, fu + 1, out, h, hi, _, _ => by
    have : i = l.length := by omega
    subst this
    have h0 : decide ((l.length : Int) < (l.length : Int)) = false := decide_eq_false (by omega)
    simp only [rFormat_L1, List.length_map, h0, cond_false, List.drop_length, List.any_nil, List.map_nil, tl]
    rw [if_neg (by decide)]
    by_cases hq : l.length = 0
    · have : l = [] := List.length_eq_zero_iff.1 hq
      subst this; simp [fmt]
    · rw [if_neg hq, List.append_nil]
  | n + 1, i, fu + 1, out, h, _, hf, ho => by
    have hi : i < l.length := by omega
    have h0 : decide ((i : Int) < (l.length : Int)) = true := decide_eq_true (by omega)
    have hws : IntKind.i64.wrap ((i : Int) + 1) = ((i + 1 : Nat) : Int) := wrap_succ (n := l.length) (by omega) hi
    simp only [rFormat_L1, List.length_map, h0, cond_true, ix_at hi, Option.bind_some, hws]
    rw [List.drop_eq_getElem_cons hi, List.any_cons]
    by_cases h1 : l[i] < 1
    · rw [decide_eq_true h1, cond_true, if_pos (by simp [badI, h1])]
    · rw [decide_eq_false h1, cond_false]
      by_cases h2 : l[i] > 999
      · rw [decide_eq_true h2, cond_true, if_pos (by simp [badI, h2])]
      · rw [decide_eq_false h2, cond_false]
        have hbi : badI l[i] = false := by simp [badI]; omega
        rw [hbi, Bool.false_or]
        have hd := digs_nodot l[i].toNat (by omega)
        have hr : rDecimal_S l[i] = some (digs l[i].toNat) := by
          have := dec_digs l[i].toNat (by omega)
          rwa [show ((l[i].toNat : Nat) : Int) = l[i] by omega] at this
        rw [hr]
        by_cases hz : i = 0
        · subst hz
          have ho' : out.length = 0 := by omega
          have : out = [] := List.length_eq_zero_iff.1 ho'
          subst this
          rw [show (decide (((0 : Nat) : Int) > 0)) = false from rfl, cond_false, Option.bind_some, decide_eq_true (by simp; omega), cond_true, rFormat_loop hl n 1 fu _ (by omega) (by omega) (by omega) (by simp; omega)]
          rw [if_neg (show ¬ (1 = 0) by omega), if_pos (rfl : (0 : Nat) = 0)]
          cases l with
          | nil => simp at hi
          | cons x r =>
            simp only [List.map_cons, fmt_tl, List.drop_succ_cons, List.drop_zero, List.getElem_cons_zero, List.nil_append]
        · rw [decide_eq_true (show (i : Int) > 0 by omega), cond_true, decide_eq_true (by simp; omega), cond_true, Option.bind_some, decide_eq_true (by simp; omega), cond_true, rFormat_loop hl n (i + 1) fu _ (by omega) (by omega) (by omega) (by simp; omega)]
          rw [if_neg hz, if_neg (show ¬ (i + 1 = 0) by omega), List.map_cons, tl]
          simp
theorem rFormat_eq {l : List Int} : rFormat_S l = some (formatF l) := by
  simp only [rFormat_S, rFormat_F, formatF, List.length_map]
  by_cases h1 : l.length < 1
  · rw [decide_eq_true (show (l.length : Int) < 1 by omega), cond_true, if_pos (.inl h1)]
  · rw [decide_eq_false (show ¬ (l.length : Int) < 1 by omega), cond_false]
    by_cases h2 : l.length > 6
    · rw [decide_eq_true (show (l.length : Int) > 6 by omega), cond_true, if_pos (.inr (.inl h2))]
    · rw [decide_eq_false (show ¬ (l.length : Int) > 6 by omega), cond_false, show (0 : Int) = ((0 : Nat) : Int) from rfl, rFormat_loop (by omega) l.length 0 _ [] (by omega) (by omega) (by omega) (by simp), List.drop_zero]
      cases hb : l.any badI with
      | true => rw [if_pos rfl, if_pos (by simp)]
      | false => rw [if_neg (by simp), if_pos (rfl : (0 : Nat) = 0), if_neg (fun h => by rcases h with h | h | h <;> first | omega | (exact absurd h (by decide)))]; rfl
theorem formatF_good {l : List Nat} (h1 : 1 ≤ l.length) (h6 : l.length ≤ 6) (h : ∀ n ∈ l, 1 ≤ n ∧ n < 1000) : formatF (castL l) = (fmt l, 0) := by
  unfold formatF
  have hb : (castL l).any badI = false := by
    rw [List.any_eq_false]
    intro x hx
    obtain ⟨n, hn, rfl⟩ := List.mem_map.1 hx
    have := h n hn
    simp [badI]; omega
  have hm : (castL l).map Int.toNat = l := by simp [castL, Function.comp_def]
  rw [if_neg (fun h => by rw [hb] at h; simp only [castL, List.length_map] at h; rcases h with h | h | h <;> first | omega | (exact absurd h (by decide))), hm]

/-- Above. -/
def parentF : Option (List Nat) → Str × Bool
  | some l => if l.length = 1 then ([], false) else (fmt (l.take (l.length - 1)), true)
  | none => ([], false)
theorem slc_front {l : List Nat} (h1 : 1 ≤ l.length) (h6 : l.length ≤ 6) : slc (castL l) 0 (IntKind.i64.wrap ((l.length : Int) - 1)) = some (castL (l.take (l.length - 1))) := by
  rw [wrap_id (by unfold okI; omega), show (l.length : Int) - 1 = ((l.length - 1 : Nat) : Int) by omega, show (0 : Int) = ((0 : Nat) : Int) from rfl, slc_cut (by omega) (by simp)]
  simp [castL, List.map_take]
theorem pParent_eq {s : Str} (h : s.length ≤ 100) : pParent_S s = some (parentF (codeV s)) := by
  simp only [pParent_S, pParent_F, pParse_eq h, Option.bind_some]
  cases hc : codeV s with
  | none => rfl
  | some l =>
    obtain ⟨h1, h2, h3, h4⟩ := codeV_spec hc
    simp only [parseF, parentF, List.length_map]
    rw [show ((0 : Int) != 0) = false from rfl, cond_false]
    by_cases hl : l.length = 1
    · rw [show ((l.length : Int) == 1) = true by simp; omega, cond_true, if_pos hl]
    · rw [show ((l.length : Int) == 1) = false by simp; omega, cond_false, if_neg hl, slc_front h2 h3, Option.bind_some, pformat_eq (by simp; omega) (fun n hn => (h4 n (List.mem_of_mem_take hn)).2)]
      rfl
theorem rParent_eq {s : Str} (h : s.length ≤ 100) : rParent_S s = some (parentF (codeV s)) := by
  simp only [rParent_S, rParent_F, rParse_eq h, Option.bind_some]
  cases hc : codeV s with
  | none => rfl
  | some l =>
    obtain ⟨h1, h2, h3, h4⟩ := codeV_spec hc
    simp only [parseF, parentF, List.length_map]
    rw [show ((0 : Int) != 0) = false from rfl, cond_false]
    by_cases hl : l.length = 1
    · rw [decide_eq_true (show (l.length : Int) < 2 by omega), cond_true, if_pos hl]
    · rw [decide_eq_false (show ¬ (l.length : Int) < 2 by omega), cond_false, if_neg hl, slc_front h2 h3, Option.bind_some, rFormat_eq, formatF_good (by simp; omega) (by simp; omega) (fun n hn => h4 n (List.mem_of_mem_take hn))]
      rfl

def lexC : List Int → List Int → Int
  | [], [] => 0
  | [], _ :: _ => -1
  | _ :: _, [] => 1
  | x :: r, y :: t => if x < y then -1 else if x > y then 1 else lexC r t
theorem cmpCompare_eq (x y : Int) : cmpCompare_S x y = some (if x < y then -1 else if x > y then 1 else 0) := by
  simp only [cmpCompare_S, cmpCompare_F, cmpIsNaN_S, cmpIsNaN_F, bne_self_eq_false, Option.bind_some, cond_false]
  by_cases h1 : x < y
  · rw [decide_eq_true h1, cond_true, if_pos h1]
  · rw [decide_eq_false h1, cond_false, if_neg h1]
    by_cases h2 : x > y
    · rw [decide_eq_true h2, cond_true, if_pos h2]
    · rw [decide_eq_false h2, cond_false, if_neg h2]
theorem lexC_end (a b : List Int) (i : Nat) (ha : i = a.length) (h : i ≤ b.length) : lexC (a.drop i) (b.drop i) = if a.length < b.length then -1 else 0 := by
  subst ha
  rw [List.drop_length]
  by_cases hb : a.length < b.length
  · rw [List.drop_eq_getElem_cons hb, if_pos hb]; rfl
  · rw [List.drop_of_length_le (by omega), if_neg hb]; rfl
theorem slCompare_loop {a b : List Int} (hl : a.length ≤ 100) (hb : b.length ≤ 100) : ∀ (n i fu : Nat), a.length - i = n → i ≤ a.length → i ≤ b.length → n < fu → slCompare_L1 a b fu (i : Int) = some (lexC (a.drop i) (b.drop i))
  | n, i, 0, _, _, _, h => by omega
  | 0, i, fu + 1, h, hi, hib, _ => by
    have e : i = a.length := by omega
    rw [lexC_end a b i e hib]
    subst e
    have h0 : decide ((a.length : Int) < (a.length : Int)) = false := decide_eq_false (by omega)
    simp only [slCompare_L1, List.length_map, h0, cond_false]
    by_cases hq : a.length < b.length
    · rw [decide_eq_true (by omega), cond_true, if_pos hq]
    · rw [decide_eq_false (by omega), cond_false, if_neg hq]
  | n + 1, i, fu + 1, h, _, hib, hf => by
    have hi : i < a.length := by omega
    have h0 : decide ((i : Int) < (a.length : Int)) = true := decide_eq_true (by omega)
    have hws : IntKind.i64.wrap ((i : Int) + 1) = ((i + 1 : Nat) : Int) := wrap_succ (n := a.length) (by omega) hi
    simp only [slCompare_L1, List.length_map, h0, cond_true, ix_at hi, Option.bind_some, hws]
    rw [List.drop_eq_getElem_cons hi]
    by_cases hq : i < b.length
    · rw [decide_eq_false (by omega), cond_false, ix_at hq, List.drop_eq_getElem_cons hq]
      simp only [Option.bind_some, cmpCompare_eq, lexC]
      by_cases h1 : a[i] < b[i]
      · rw [if_pos h1, if_pos h1]; rfl
      · rw [if_neg h1, if_neg h1]
        by_cases h2 : a[i] > b[i]
        · rw [if_pos h2, if_pos h2]; rfl
        · rw [if_neg h2, if_neg h2]
          show (bif ((0 : Int) != 0) then _ else _) = _
          rw [show ((0 : Int) != 0) = false from rfl, cond_false]
          exact slCompare_loop hl hb n (i + 1) fu (by omega) (by omega) (by omega) (by omega)
    · rw [decide_eq_true (by omega), cond_true, List.drop_of_length_le (show b.length ≤ i by omega)]
      rfl
theorem slCompare_eq {a b : List Int} (hl : a.length ≤ 100) (hb : b.length ≤ 100) : slCompare_S a b = some (lexC a b) :=
  slCompare_loop hl hb a.length 0 _ (by omega) (by omega) (by omega) (by omega)
theorem rless_loop {a b : List Int} (hl : a.length ≤ 100) (hb : b.length ≤ 100) : ∀ (n i fu : Nat), a.length - i = n → i ≤ a.length → i ≤ b.length → n < fu → rless_L1 a b fu (i : Int) = some (lexC (a.drop i) (b.drop i))
  | n, i, 0, _, _, _, h => by omega
  | 0, i, fu + 1, h, hi, hib, _ => by
    have e : i = a.length := by omega
    rw [lexC_end a b i e hib]
    subst e
    have h0 : decide ((a.length : Int) < (a.length : Int)) = false := decide_eq_false (by omega)
    simp only [rless_L1, List.length_map, h0, cond_false]
    by_cases hq : a.length < b.length
    · rw [decide_eq_true (by omega), cond_true, if_pos hq]
    · rw [decide_eq_false (by omega), cond_false, if_neg hq, decide_eq_false (by omega), cond_false]
  | n + 1, i, fu + 1, h, _, hib, hf => by
    have hi : i < a.length := by omega
    have h0 : decide ((i : Int) < (a.length : Int)) = true := decide_eq_true (by omega)
    have hws : IntKind.i64.wrap ((i : Int) + 1) = ((i + 1 : Nat) : Int) := wrap_succ (n := a.length) (by omega) hi
    simp only [rless_L1, List.length_map, h0, cond_true, hws]
    rw [List.drop_eq_getElem_cons hi]
    by_cases hq : i < b.length
    · rw [decide_eq_true (show (i : Int) < (b.length : Int) by omega), cond_true, ix_at hq, ix_at hi, List.drop_eq_getElem_cons hq]
      simp only [Option.bind_some, lexC]
      by_cases h1 : a[i] < b[i]
      · rw [decide_eq_true h1, if_pos h1]; rfl
      · rw [decide_eq_false h1, if_neg h1, cond_false]
        by_cases h2 : a[i] > b[i]
        · rw [decide_eq_true h2, if_pos h2]; rfl
        · rw [decide_eq_false h2, if_neg h2, cond_false]
          exact rless_loop hl hb n (i + 1) fu (by omega) (by omega) (by omega) (by omega)
    · rw [decide_eq_false (show ¬ (i : Int) < (b.length : Int) by omega), cond_false, decide_eq_false (by omega), cond_false, decide_eq_true (by omega), cond_true, List.drop_of_length_le (show b.length ≤ i by omega)]
      rfl
theorem rless_eq {a b : List Int} (hl : a.length ≤ 100) (hb : b.length ≤ 100) : rless_S a b = some (lexC a b) :=
  rless_loop hl hb a.length 0 _ (by omega) (by omega) (by omega) (by omega)
theorem lexC_zero : ∀ {a b : List Int}, lexC a b = 0 ↔ a = b
  | [], [] => by simp [lexC]
  | [], _ :: _ => by simp [lexC]
  | _ :: _, [] => by simp [lexC]
  | x :: r, y :: t => by
    have := lexC_zero (a := r) (b := t)
    rw [lexC]
    by_cases h1 : x < y
    · rw [if_pos h1]
      constructor
      · intro h; omega
      · intro h; obtain ⟨rfl, -⟩ := List.cons.inj h; omega
    · rw [if_neg h1]
      by_cases h2 : x > y
      · rw [if_pos h2]
        constructor
        · intro h; omega
        · intro h; obtain ⟨rfl, -⟩ := List.cons.inj h; omega
      · rw [if_neg h2, this]
        have : x = y := by omega
        subst this; simp
/-- Equal, by either loop. -/
theorem slEqual_eq {a b : List Int} (hl : a.length ≤ 1000) : slEqual_S a b = some (a == b) := by
  simp only [slEqual_S, slEqual_F, List.length_map]
  by_cases he : a.length = b.length
  · rw [show ((a.length : Int) != (b.length : Int)) = false by simp; omega, cond_false]
    have key : ∀ (n i fu : Nat), a.length - i = n → i ≤ a.length → n < fu → slEqual_L1 a b fu (i : Int) = some (a.drop i == b.drop i) := by
      intro n
      induction n with
      | zero =>
        intro i fu h hi hf
        have e : i = a.length := by omega
        subst e
        cases fu with
        | zero => omega
        | succ fu =>
          have h0 : decide ((a.length : Int) < (a.length : Int)) = false := decide_eq_false (by omega)
          simp only [slEqual_L1, List.length_map, h0, cond_false, List.drop_length, List.drop_of_length_le (show b.length ≤ a.length by omega)]
          rfl
      | succ n ih =>
        intro i fu h _ hf
        cases fu with
        | zero => omega
        | succ fu =>
          have hi : i < a.length := by omega
          have hq : i < b.length := by omega
          have h0 : decide ((i : Int) < (a.length : Int)) = true := decide_eq_true (by omega)
          have hws : IntKind.i64.wrap ((i : Int) + 1) = ((i + 1 : Nat) : Int) := wrap_succ (n := a.length) (by omega) hi
          simp only [slEqual_L1, List.length_map, h0, cond_true, hws, ix_at hi, ix_at hq, Option.bind_some]
          rw [List.drop_eq_getElem_cons hi, List.drop_eq_getElem_cons hq, ih (i + 1) fu (by omega) (by omega) (by omega)]
          by_cases hx : a[i] = b[i]
          · rw [show (a[i] != b[i]) = false by simp [hx], cond_false, List.cons_beq_cons, hx, beq_self_eq_true, Bool.true_and]
          · rw [show (a[i] != b[i]) = true by simp [hx], cond_true, List.cons_beq_cons, show (a[i] == b[i]) = false by simp [hx]]; rfl
    exact key a.length 0 _ (by omega) (by omega) (by omega)
  · rw [show ((a.length : Int) != (b.length : Int)) = true by simp; omega, cond_true]
    have : (a == b) = false := by
      cases hq : a == b with
      | false => rfl
      | true => exact absurd (congrArg List.length (by simpa using hq)) he
    rw [this]
theorem rSameInts_eq {a b : List Int} (hl : a.length ≤ 1000) : rSameInts_S a b = some (a == b) := by
  simp only [rSameInts_S, rSameInts_F, List.length_map]
  by_cases he : a.length = b.length
  · rw [show ((a.length : Int) != (b.length : Int)) = false by simp; omega, cond_false]
    have key : ∀ (n i fu : Nat), a.length - i = n → i ≤ a.length → n < fu → rSameInts_L1 a b fu (i : Int) = some (a.drop i == b.drop i) := by
      intro n
      induction n with
      | zero =>
        intro i fu h hi hf
        have e : i = a.length := by omega
        subst e
        cases fu with
        | zero => omega
        | succ fu =>
          have h0 : decide ((a.length : Int) < (a.length : Int)) = false := decide_eq_false (by omega)
          simp only [rSameInts_L1, List.length_map, h0, cond_false, List.drop_length, List.drop_of_length_le (show b.length ≤ a.length by omega)]
          rfl
      | succ n ih =>
        intro i fu h _ hf
        cases fu with
        | zero => omega
        | succ fu =>
          have hi : i < a.length := by omega
          have hq : i < b.length := by omega
          have h0 : decide ((i : Int) < (a.length : Int)) = true := decide_eq_true (by omega)
          have hws : IntKind.i64.wrap ((i : Int) + 1) = ((i + 1 : Nat) : Int) := wrap_succ (n := a.length) (by omega) hi
          simp only [rSameInts_L1, List.length_map, h0, cond_true, hws, ix_at hi, ix_at hq, Option.bind_some]
          rw [List.drop_eq_getElem_cons hi, List.drop_eq_getElem_cons hq, ih (i + 1) fu (by omega) (by omega) (by omega)]
          by_cases hx : a[i] = b[i]
          · rw [show (a[i] != b[i]) = false by simp [hx], cond_false, List.cons_beq_cons, hx, beq_self_eq_true, Bool.true_and]
          · rw [show (a[i] != b[i]) = true by simp [hx], cond_true, List.cons_beq_cons, show (a[i] == b[i]) = false by simp [hx]]; rfl
    exact key a.length 0 _ (by omega) (by omega) (by omega)
  · rw [show ((a.length : Int) != (b.length : Int)) = true by simp; omega, cond_true]
    have : (a == b) = false := by
      cases hq : a == b with
      | false => rfl
      | true => exact absurd (congrArg List.length (by simpa using hq)) he
    rw [this]

def compareF : Option (List Nat) → Option (List Nat) → Int × Int
  | some x, some y => (lexC (castL x) (castL y), 0)
  | _, _ => (0, 3)
def withinF : Option (List Nat) → Option (List Nat) → Bool
  | some x, some y => decide (y.length ≤ x.length) && (castL x).take y.length == castL y
  | _, _ => false
theorem pCompare_eq {a b : Str} (ha : a.length ≤ 100) (hb : b.length ≤ 100) : pCompare_S a b = some (compareF (codeV a) (codeV b)) := by
  simp only [pCompare_S, pCompare_F, pboth_S, pboth_F, pParse_eq ha, pParse_eq hb, Option.bind_some]
  cases hx : codeV a with
  | none => cases codeV b <;> rfl
  | some x =>
    cases hy : codeV b with
    | none => rfl
    | some y =>
      obtain ⟨-, -, h1, -⟩ := codeV_spec hx
      obtain ⟨-, -, h2, -⟩ := codeV_spec hy
      simp only [parseF, compareF]
      rw [show ((0 : Int) == 0) = true from rfl, cond_true, Option.bind_some, slCompare_eq (by simp; omega) (by simp; omega)]
      rfl
theorem rCompare_eq {a b : Str} (ha : a.length ≤ 100) (hb : b.length ≤ 100) : rCompare_S a b = some (compareF (codeV a) (codeV b)) := by
  simp only [rCompare_S, rCompare_F, rParse_eq ha, rParse_eq hb, Option.bind_some]
  cases hx : codeV a with
  | none => cases codeV b <;> rfl
  | some x =>
    cases hy : codeV b with
    | none => rfl
    | some y =>
      obtain ⟨-, -, h1, -⟩ := codeV_spec hx
      obtain ⟨-, -, h2, -⟩ := codeV_spec hy
      simp only [parseF, compareF]
      rw [show ((0 : Int) != 0) = false from rfl, cond_false, cond_false, rless_eq (by simp; omega) (by simp; omega)]
      rfl
theorem slc_pre {x : List Nat} {k : Nat} (h : k ≤ x.length) : slc (castL x) 0 (k : Int) = some ((castL x).take k) := by
  have := slc_cut (s := castL x) (v := 0) (i := k) (by omega) (by simpa using h)
  simpa using this
theorem pWithin_eq {a b : Str} (ha : a.length ≤ 100) (hb : b.length ≤ 100) : pWithin_S a b = some (withinF (codeV a) (codeV b)) := by
  simp only [pWithin_S, pWithin_F, pboth_S, pboth_F, pParse_eq ha, pParse_eq hb, Option.bind_some]
  cases hx : codeV a with
  | none => cases codeV b <;> rfl
  | some x =>
    cases hy : codeV b with
    | none => rfl
    | some y =>
      obtain ⟨-, -, h1, -⟩ := codeV_spec hx
      obtain ⟨-, -, h2, -⟩ := codeV_spec hy
      simp only [parseF, withinF]
      rw [show ((0 : Int) == 0) = true from rfl, cond_true, Option.bind_some]
      simp only [List.length_map, cond_true]
      by_cases hq : y.length ≤ x.length
      · rw [decide_eq_true (show (x.length : Int) ≥ (y.length : Int) by omega), cond_true, decide_eq_true hq, Bool.true_and, slc_pre hq, Option.bind_some, slEqual_eq (by simp; omega)]
        rfl
      · rw [decide_eq_false (show ¬ (x.length : Int) ≥ (y.length : Int) by omega), cond_false, decide_eq_false hq, Bool.false_and]
theorem rWithin_eq {a b : Str} (ha : a.length ≤ 100) (hb : b.length ≤ 100) : rWithin_S a b = some (withinF (codeV a) (codeV b)) := by
  simp only [rWithin_S, rWithin_F, rParse_eq ha, rParse_eq hb, Option.bind_some]
  cases hx : codeV a with
  | none => cases codeV b <;> rfl
  | some x =>
    cases hy : codeV b with
    | none => rfl
    | some y =>
      obtain ⟨-, -, h1, -⟩ := codeV_spec hx
      obtain ⟨-, -, h2, -⟩ := codeV_spec hy
      simp only [parseF, withinF, List.length_map]
      rw [show ((0 : Int) == 0) = true from rfl, cond_true, cond_true]
      by_cases hq : y.length ≤ x.length
      · rw [decide_eq_true (show (x.length : Int) ≥ (y.length : Int) by omega), cond_true, decide_eq_true hq, Bool.true_and, slc_pre hq, Option.bind_some, rless_eq (by simp; omega) (by simp; omega), Option.bind_some]
        congr 1
        rw [Bool.eq_iff_iff, beq_iff_eq, beq_iff_eq, lexC_zero]
      · rw [decide_eq_false (show ¬ (x.length : Int) ≥ (y.length : Int) by omega), cond_false, decide_eq_false hq, Bool.false_and]
end Go.Proofs.YtihjmnhamaicpaaGreatDoor
