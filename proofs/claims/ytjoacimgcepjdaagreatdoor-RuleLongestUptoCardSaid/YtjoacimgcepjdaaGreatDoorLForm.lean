/- Format, Parent, Compare, Within: both ways. -/
import Derived.Test.YtjoacimgcepjdaaGreatDoorLParse
set_option linter.unusedSimpArgs false
set_option linter.unusedVariables false
namespace Go.Proofs.YtjoacimgcepjdaaGreatDoor
open Go Go.Abs

def tl : List Nat → Str
  | [] => []
  | n :: r => 46 :: (digs n ++ tl r)
theorem fmt_tl : ∀ (n : Nat) (r : List Nat), fmt (n :: r) = digs n ++ tl r
  | _, [] => by simp [fmt, tl]
  | n, m :: r => by rw [fmt, fmt_tl m r, tl]
theorem tl_len : ∀ {l : List Nat}, (∀ n ∈ l, n < 1000) → (tl l).length ≤ 4 * l.length
  | [], _ => Nat.le_refl _
  | n :: r, h => by
    have h1 := (digs_nodot n (h n (by simp))).2.2
    have h2 := tl_len (l := r) (fun m hm => h m (List.mem_cons_of_mem _ hm))
    rw [tl]; simp only [List.length_cons, List.length_append]; omega
theorem fmt_len {l : List Nat} (h : ∀ n ∈ l, n < 1000) : (fmt l).length ≤ 4 * l.length := by
  cases l with
  | nil => exact Nat.le_refl _
  | cons n r =>
    rw [fmt_tl]
    have h1 := (digs_nodot n (h n (by simp))).2.2
    have h2 := tl_len (l := r) (fun m hm => h m (List.mem_cons_of_mem _ hm))
    simp only [List.length_cons, List.length_append]; omega
theorem castL_get {l : List Nat} {i : Nat} (h : i < l.length) : ix (castL l) (i : Int) = some ((l[i] : Nat) : Int) := by
  rw [ix_at (by simpa using h)]; simp [castL]
def badI (n : Int) : Bool := decide (n < 1) || decide (n > 999)
def lexC : List Int → List Int → Int
  | [], [] => 0
  | [], _ :: _ => -1
  | _ :: _, [] => 1
  | x :: r, y :: t => if x < y then -1 else if x > y then 1 else lexC r t
theorem lexC_end (a b : List Int) (i : Nat) (ha : i = a.length) (h : i ≤ b.length) : lexC (a.drop i) (b.drop i) = if a.length < b.length then -1 else 0 := by
  subst ha
  rw [List.drop_length]
  by_cases hb : a.length < b.length
  · rw [List.drop_eq_getElem_cons hb, if_pos hb]; rfl
  · rw [List.drop_of_length_le (by omega), if_neg hb]; rfl
theorem rless_loop {a b : List Int} (hl : a.length ≤ 100) (hb : b.length ≤ 100) : ∀ (n i fu : Nat), a.length - i = n → i ≤ a.length → i ≤ b.length → n < fu → rless_L1 a b fu (i : Int) = some (lexC (a.drop i) (b.drop i))
  | n, i, 0, _, _, _, h => by omega
  | 0, i, fu + 1, h, hi, hib, _ => by
    have e : i = a.length := by omega
    rw [lexC_end a b i e hib]
    subst e
    have h0 : decide ((a.length : Int) < (a.length : Int)) = false := decide_eq_false (by omega)
    simp only [rless_L1, List.length_map, h0, cond_false]
    by_cases hq : a.length < b.length
    · rw [decide_eq_true (by omega), cond_true, if_pos hq]
    · rw [decide_eq_false (by omega), cond_false, if_neg hq, decide_eq_false (by omega), cond_false]
  | n + 1, i, fu + 1, h, _, hib, hf => by
    have hi : i < a.length := by omega
    have h0 : decide ((i : Int) < (a.length : Int)) = true := decide_eq_true (by omega)
    have hws : IntKind.i64.wrap ((i : Int) + 1) = ((i + 1 : Nat) : Int) := wrap_succ (n := a.length) (by omega) hi
    simp only [rless_L1, List.length_map, h0, cond_true, hws]
    rw [List.drop_eq_getElem_cons hi]
    by_cases hq : i < b.length
    · rw [decide_eq_true (show (i : Int) < (b.length : Int) by omega), cond_true, ix_at hq, ix_at hi, List.drop_eq_getElem_cons hq]
      simp only [Option.bind_some, lexC]
      by_cases h1 : a[i] < b[i]
      · rw [decide_eq_true h1, if_pos h1]; rfl
      · rw [decide_eq_false h1, if_neg h1, cond_false]
        by_cases h2 : a[i] > b[i]
        · rw [decide_eq_true h2, if_pos h2]; rfl
        · rw [decide_eq_false h2, if_neg h2, cond_false]
          exact rless_loop hl hb n (i + 1) fu (by omega) (by omega) (by omega) (by omega)
    · rw [decide_eq_false (show ¬ (i : Int) < (b.length : Int) by omega), cond_false, decide_eq_false (by omega), cond_false, decide_eq_true (by omega), cond_true, List.drop_of_length_le (show b.length ≤ i by omega)]
      rfl
theorem rless_eq {a b : List Int} (hl : a.length ≤ 100) (hb : b.length ≤ 100) : rless_S a b = some (lexC a b) :=
  rless_loop hl hb a.length 0 _ (by omega) (by omega) (by omega) (by omega)
theorem lexC_zero : ∀ {a b : List Int}, lexC a b = 0 ↔ a = b
  | [], [] => by simp [lexC]
  | [], _ :: _ => by simp [lexC]
  | _ :: _, [] => by simp [lexC]
  | x :: r, y :: t => by
    have := lexC_zero (a := r) (b := t)
    rw [lexC]
    by_cases h1 : x < y
    · rw [if_pos h1]
      constructor
      · intro h; omega
      · intro h; obtain ⟨rfl, -⟩ := List.cons.inj h; omega
    · rw [if_neg h1]
      by_cases h2 : x > y
      · rw [if_pos h2]
        constructor
        · intro h; omega
        · intro h; obtain ⟨rfl, -⟩ := List.cons.inj h; omega
      · rw [if_neg h2, this]
        have : x = y := by omega
        subst this; simp
/-- Equal, by either loop. -/
theorem slEqual_eq {a b : List Int} (hl : a.length ≤ 1000) : slEqual_S a b = some (a == b) := by
  simp only [slEqual_S, slEqual_F, List.length_map]
  by_cases he : a.length = b.length
  · rw [show ((a.length : Int) != (b.length : Int)) = false by simp; omega, cond_false]
    have key : ∀ (n i fu : Nat), a.length - i = n → i ≤ a.length → n < fu → slEqual_L1 a b fu (i : Int) = some (a.drop i == b.drop i) := by
      intro n
      induction n with
      | zero =>
        intro i fu h hi hf
        have e : i = a.length := by omega
        subst e
        cases fu with
        | zero => omega
        | succ fu =>
          have h0 : decide ((a.length : Int) < (a.length : Int)) = false := decide_eq_false (by omega)
          simp only [slEqual_L1, List.length_map, h0, cond_false, List.drop_length, List.drop_of_length_le (show b.length ≤ a.length by omega)]
          rfl
      | succ n ih =>
        intro i fu h _ hf
        cases fu with
        | zero => omega
        | succ fu =>
          have hi : i < a.length := by omega
          have hq : i < b.length := by omega
          have h0 : decide ((i : Int) < (a.length : Int)) = true := decide_eq_true (by omega)
          have hws : IntKind.i64.wrap ((i : Int) + 1) = ((i + 1 : Nat) : Int) := wrap_succ (n := a.length) (by omega) hi
          simp only [slEqual_L1, List.length_map, h0, cond_true, hws, ix_at hi, ix_at hq, Option.bind_some]
          rw [List.drop_eq_getElem_cons hi, List.drop_eq_getElem_cons hq, ih (i + 1) fu (by omega) (by omega) (by omega)]
          by_cases hx : a[i] = b[i]
          · rw [show (a[i] != b[i]) = false by simp [hx], cond_false, List.cons_beq_cons, hx, beq_self_eq_true, Bool.true_and]
          · rw [show (a[i] != b[i]) = true by simp [hx], cond_true, List.cons_beq_cons, show (a[i] == b[i]) = false by simp [hx]]; rfl
    exact key a.length 0 _ (by omega) (by omega) (by omega)
  · rw [show ((a.length : Int) != (b.length : Int)) = true by simp; omega, cond_true]
    have : (a == b) = false := by
      cases hq : a == b with
      | false => rfl
      | true => exact absurd (congrArg List.length (by simpa using hq)) he
    rw [this]
theorem rSameInts_eq {a b : List Int} (hl : a.length ≤ 1000) : rSameInts_S a b = some (a == b) := by
  simp only [rSameInts_S, rSameInts_F, List.length_map]
  by_cases he : a.length = b.length
  · rw [show ((a.length : Int) != (b.length : Int)) = false by simp; omega, cond_false]
    have key : ∀ (n i fu : Nat), a.length - i = n → i ≤ a.length → n < fu → rSameInts_L1 a b fu (i : Int) = some (a.drop i == b.drop i) := by
      intro n
      induction n with
      | zero =>
        intro i fu h hi hf
        have e : i = a.length := by omega
        subst e
        cases fu with
        | zero => omega
        | succ fu =>
          have h0 : decide ((a.length : Int) < (a.length : Int)) = false := decide_eq_false (by omega)
          simp only [rSameInts_L1, List.length_map, h0, cond_false, List.drop_length, List.drop_of_length_le (show b.length ≤ a.length by omega)]
          rfl
      | succ n ih =>
        intro i fu h _ hf
        cases fu with
        | zero => omega
        | succ fu =>
          have hi : i < a.length := by omega
          have hq : i < b.length := by omega
          have h0 : decide ((i : Int) < (a.length : Int)) = true := decide_eq_true (by omega)
          have hws : IntKind.i64.wrap ((i : Int) + 1) = ((i + 1 : Nat) : Int) := wrap_succ (n := a.length) (by omega) hi
          simp only [rSameInts_L1, List.length_map, h0, cond_true, hws, ix_at hi, ix_at hq, Option.bind_some]
          rw [List.drop_eq_getElem_cons hi, List.drop_eq_getElem_cons hq, ih (i + 1) fu (by omega) (by omega) (by omega)]
          by_cases hx : a[i] = b[i]
          · rw [show (a[i] != b[i]) = false by simp [hx], cond_false, List.cons_beq_cons, hx, beq_self_eq_true, Bool.true_and]
          · rw [show (a[i] != b[i]) = true by simp [hx], cond_true, List.cons_beq_cons, show (a[i] == b[i]) = false by simp [hx]]; rfl
    exact key a.length 0 _ (by omega) (by omega) (by omega)
  · rw [show ((a.length : Int) != (b.length : Int)) = true by simp; omega, cond_true]
    have : (a == b) = false := by
      cases hq : a == b with
      | false => rfl
      | true => exact absurd (congrArg List.length (by simpa using hq)) he
    rw [this]

def withinF : Option (List Nat) → Option (List Nat) → Bool
  | some x, some y => decide (y.length ≤ x.length) && (castL x).take y.length == castL y
  | _, _ => false
theorem slc_pre {x : List Nat} {k : Nat} (h : k ≤ x.length) : slc (castL x) 0 (k : Int) = some ((castL x).take k) := by
  have := slc_cut (s := castL x) (v := 0) (i := k) (by omega) (by simpa using h)
  simpa using this
theorem pWithin_eq {a b : Str} (ha : a.length ≤ 100) (hb : b.length ≤ 100) : pWithin_S a b = some (withinF (codeV a) (codeV b)) := by
  simp only [pWithin_S, pWithin_F, pboth_S, pboth_F, pParse_eq ha, pParse_eq hb, Option.bind_some]
  cases hx : codeV a with
  | none => cases codeV b <;> rfl
  | some x =>
    cases hy : codeV b with
    | none => rfl
    | some y =>
      obtain ⟨-, -, h1, -⟩ := codeV_spec hx
      obtain ⟨-, -, h2, -⟩ := codeV_spec hy
      simp only [parseF, withinF]
      rw [show ((0 : Int) == 0) = true from rfl, cond_true, Option.bind_some]
      simp only [List.length_map, cond_true]
      by_cases hq : y.length ≤ x.length
      · rw [decide_eq_true (show (x.length : Int) ≥ (y.length : Int) by omega), cond_true, decide_eq_true hq, Bool.true_and, slc_pre hq, Option.bind_some, slEqual_eq (by simp; omega)]
        rfl
      · rw [decide_eq_false (show ¬ (x.length : Int) ≥ (y.length : Int) by omega), cond_false, decide_eq_false hq, Bool.false_and]
theorem rWithin_eq {a b : Str} (ha : a.length ≤ 100) (hb : b.length ≤ 100) : rWithin_S a b = some (withinF (codeV a) (codeV b)) := by
  simp only [rWithin_S, rWithin_F, rParse_eq ha, rParse_eq hb, Option.bind_some]
  cases hx : codeV a with
  | none => cases codeV b <;> rfl
  | some x =>
    cases hy : codeV b with
    | none => rfl
    | some y =>
      obtain ⟨-, -, h1, -⟩ := codeV_spec hx
      obtain ⟨-, -, h2, -⟩ := codeV_spec hy
      simp only [parseF, withinF, List.length_map]
      rw [show ((0 : Int) == 0) = true from rfl, cond_true, cond_true]
      by_cases hq : y.length ≤ x.length
      · rw [decide_eq_true (show (x.length : Int) ≥ (y.length : Int) by omega), cond_true, decide_eq_true hq, Bool.true_and, slc_pre hq, Option.bind_some, rless_eq (by simp; omega) (by simp; omega), Option.bind_some]
        congr 1
        rw [Bool.eq_iff_iff, beq_iff_eq, beq_iff_eq, lexC_zero]
      · rw [decide_eq_false (show ¬ (x.length : Int) ≥ (y.length : Int) by omega), cond_false, decide_eq_false hq, Bool.false_and]
end Go.Proofs.YtjoacimgcepjdaaGreatDoor
