/- What is common to the laws of this seat: bounds, loops as recursions over lists, searches, names. -/
import Derived.Test.YtmcolhhmlpicaaaDoorGE
import Derived.Test.YtmcolhhmlpicaaaDoorAw
import Derived.Lib.TrimAscii
namespace Go.Proofs.YtmcolhhmlpicaaaDoor
open Go Go.Abs

def okI (n : Int) : Prop := -9223372036854775808 ≤ n ∧ n ≤ 9223372036854775807
def okS (s : Str) : Prop := s.length ≤ 9223372036854775807
def okSpan (x : Span) : Prop := okI x.From ∧ okI x.Until
def okInts (l : List Int) : Prop := l.length ≤ 9223372036854775807 ∧ ∀ n ∈ l, okI n
def okOff (x : Off) : Prop := okI x.ID ∧ x.Name.length ≤ 9223372036854775807 ∧ okSpan x.In ∧ okInts x.Next
def okOffs (l : List Off) : Prop := l.length ≤ 9223372036854775807 ∧ ∀ a ∈ l, okOff a
theorem wrap_id {n : Int} (h : okI n) : IntKind.i64.wrap n = n := by
  obtain ⟨h1, h2⟩ := h
  show (if (true && decide (n % (2 ^ 64 : Int) ≥ (2 ^ 63 : Int))) = true then n % (2 ^ 64 : Int) - (2 ^ 64 : Int) else n % (2 ^ 64 : Int)) = n
  simp only [Bool.true_and, decide_eq_true_eq]
  split <;> omega
theorem wrap_succ {n i : Nat} (hn : n ≤ 9223372036854775807) (hi : i < n) : IntKind.i64.wrap ((i : Int) + 1) = ((i + 1 : Nat) : Int) := by
  rw [wrap_id (by unfold okI; omega)]; rfl
theorem wrap_pred {n i : Nat} (hn : n ≤ 9223372036854775807) (hi : i < n) : IntKind.i64.wrap ((i : Int) - 1) = (i : Int) - 1 := wrap_id (by unfold okI; omega)
theorem ix_at {α : Type} {l : List α} {i : Nat} (h : i < l.length) : ix l (i : Int) = some l[i] := by
  unfold ix
  rw [if_neg (by omega), Int.toNat_natCast, List.getElem?_eq_getElem h]
theorem ix_pred {α : Type} {l : List α} {i : Nat} (h : i < l.length) (h0 : 0 < i) : ix l ((i : Int) - 1) = some (l[i - 1]'(by omega)) := by
  have : (i : Int) - 1 = ((i - 1 : Nat) : Int) := by omega
  rw [this]; exact ix_at _
/-- A loop that leaves at the first element for which b says so. -/
def scanP {α β : Type} (b : Nat → α → Option β) (done : β) : Nat → List α → β
  | _, [] => done
  | i, x :: r => match b i x with
    | some y => y
    | none => scanP b done (i + 1) r
theorem loop_scanP {α β : Type} (L : Nat → Int → Option β) (l : List α) (b : Nat → α → Option β) (done : β) (hl : l.length ≤ 9223372036854775807)
    (hs : ∀ (fu i : Nat) (hi : i < l.length), L (fu + 1) (i : Int) = match b i l[i] with | some y => some y | none => L fu ((i + 1 : Nat) : Int))
    (he : ∀ fu, L (fu + 1) (l.length : Int) = some done) : ∀ (n i fu : Nat), l.length - i = n → i ≤ l.length → n < fu → L fu (i : Int) = some (scanP b done i (l.drop i))
  | n, i, 0, _, _, h => by omega
  | 0, i, fu + 1, h, hi, _ => by
    have : i = l.length := by omega
    subst this
    rw [he, List.drop_length]; rfl
  | n + 1, i, fu + 1, h, _, hf => by
    have hi : i < l.length := by omega
    rw [hs fu i hi, List.drop_eq_getElem_cons hi]
    simp only [scanP]
    cases b i l[i] with
    | some y => rfl
    | none => exact loop_scanP L l b done hl hs he n (i + 1) fu (by omega) (by omega) (by omega)
theorem scanP_all {α : Type} (p : α → Bool) (done : Bool) : ∀ (l : List α) (i : Nat), scanP (fun _ x => bif p x then none else some false) done i l = (l.all p && done)
  | [], _ => rfl
  | x :: r, i => by
    simp only [scanP, List.all_cons]
    cases hp : p x
    · rfl
    · simpa using scanP_all p done r (i + 1)
/-- The first that p holds of, with its index. -/
theorem scanP_find {α : Type} (p : α → Bool) : ∀ (l : List α) (i : Nat), scanP (fun i x => bif p x then some (i : Int) else none) (-1) i l = match l.findIdx? p with | some k => ((i + k : Nat) : Int) | none => -1
  | [], _ => rfl
  | x :: r, i => by
    simp only [scanP, List.findIdx?_cons]
    cases p x with
    | true => simp
    | false =>
      simp only [cond_false, scanP_find p r (i + 1), Bool.false_eq_true, if_false]
      cases r.findIdx? p with
      | none => rfl
      | some k => show (((i + 1 + k : Nat)) : Int) = ((i + (k + 1) : Nat) : Int); omega
def idxOf {α : Type} (p : α → Bool) (l : List α) : Int := match l.findIdx? p with | some k => (k : Int) | none => -1
theorem slIndexFuncI_eq {l : List Int} {f : Int → Option Bool} {p : Int → Bool} (h : l.length ≤ 9223372036854775807) (hf : ∀ x ∈ l, f x = some (p x)) : slIndexFuncI_S l f = some (idxOf p l) := by
  have h1 := loop_scanP (slIndexFuncI_L1 l f) l (fun i x => bif p x then some (i : Int) else none) (-1) h (fun fu i hi => by
      have h0 : decide ((i : Int) < (l.length : Int)) = true := decide_eq_true (by omega)
      simp only [slIndexFuncI_L1, List.length_map, ix_at hi, Option.bind_some, h0, cond_true, wrap_succ h hi, hf _ (List.getElem_mem hi)]
      cases p l[i] <;> rfl)
    (fun fu => by
      have h0 : decide ((l.length : Int) < (l.length : Int)) = false := decide_eq_false (by omega)
      simp only [slIndexFuncI_L1, List.length_map, h0, cond_false]) l.length 0 (l.length + 1) (by omega) (by omega) (by omega)
  show slIndexFuncI_L1 l f (l.length + 1) 0 = _
  rw [show (0 : Int) = ((0 : Nat) : Int) from rfl, h1, List.drop_zero, scanP_find]
  unfold idxOf
  cases l.findIdx? p <;> simp
theorem slContainsFuncI_eq {l : List Int} {f : Int → Option Bool} {p : Int → Bool} (h : l.length ≤ 9223372036854775807) (hf : ∀ x ∈ l, f x = some (p x)) : slContainsFuncI_S l f = some (l.any p) := by
  simp only [slContainsFuncI_S, slContainsFuncI_F, slIndexFuncI_eq h hf, Option.bind_some, Option.some.injEq]
  unfold idxOf
  cases hq : l.findIdx? p with
  | none =>
    rw [List.findIdx?_eq_none_iff] at hq
    have : l.any p = false := by rw [List.any_eq_false]; intro x hx; simp [hq x hx]
    rw [this]; decide
  | some k =>
    have hk := List.findIdx?_eq_some_iff_getElem.1 hq
    obtain ⟨h1, h2, _⟩ := hk
    have : l.any p = true := List.any_eq_true.2 ⟨l[k], List.getElem_mem h1, h2⟩
    rw [this]
    exact decide_eq_true (show (k : Int) ≥ 0 by omega)
theorem scanP_any {α β : Type} (p : α → Bool) (c done : β) : ∀ (l : List α) (i : Nat), scanP (fun _ x => bif p x then some c else none) done i l = bif l.any p then c else done
  | [], _ => rfl
  | x :: r, i => by
    simp only [scanP, List.any_cons]
    cases p x with
    | true => rfl
    | false => exact scanP_any p c done r (i + 1)
theorem slIndex_eq {l : List Int} (h : l.length ≤ 9223372036854775807) (v : Int) : slIndex_S l v = some (idxOf (fun x => v == x) l) := by
  have h1 := loop_scanP (slIndex_L1 l v) l (fun i x => bif v == x then some (i : Int) else none) (-1) h (fun fu i hi => by
      have h0 : decide ((i : Int) < (l.length : Int)) = true := decide_eq_true (by omega)
      simp only [slIndex_L1, List.length_map, ix_at hi, Option.bind_some, h0, cond_true, wrap_succ h hi]
      cases v == l[i] <;> rfl)
    (fun fu => by
      have h0 : decide ((l.length : Int) < (l.length : Int)) = false := decide_eq_false (by omega)
      simp only [slIndex_L1, List.length_map, h0, cond_false]) l.length 0 (l.length + 1) (by omega) (by omega) (by omega)
  show slIndex_L1 l v (l.length + 1) 0 = _
  rw [show (0 : Int) = ((0 : Nat) : Int) from rfl, h1, List.drop_zero, scanP_find (fun x => v == x)]
  unfold idxOf
  cases l.findIdx? (fun x => v == x) <;> simp
theorem idxOf_nn {α : Type} (p : α → Bool) (l : List α) : decide (idxOf p l ≥ 0) = l.any p := by
  unfold idxOf
  cases hq : l.findIdx? p with
  | none =>
    rw [List.findIdx?_eq_none_iff] at hq
    have : l.any p = false := by rw [List.any_eq_false]; intro x hx; simp [hq x hx]
    rw [this]; decide
  | some k =>
    obtain ⟨h1, h2, _⟩ := List.findIdx?_eq_some_iff_getElem.1 hq
    have : l.any p = true := List.any_eq_true.2 ⟨l[k], List.getElem_mem h1, h2⟩
    rw [this]
    exact decide_eq_true (show (k : Int) ≥ 0 by omega)
theorem slContains_eq {l : List Int} (h : l.length ≤ 9223372036854775807) (v : Int) : slContains_S l v = some (l.any fun x => v == x) := by
  simp only [slContains_S, slContains_F, slIndex_eq h, Option.bind_some, idxOf_nn]
theorem cmpLess_eq (x y : Int) : cmpLess_S x y = some (decide (x < y)) := by
  simp only [cmpLess_S, cmpLess_F, cmpIsNaN_S, cmpIsNaN_F, Option.bind_some, bne_self_eq_false, cond_false]
theorem sorted_loop {l : List Int} (hl : l.length ≤ 9223372036854775807) (hs : ∀ (i : Nat) (h : i + 1 < l.length), l[i] ≤ l[i + 1]) : ∀ (fu i : Nat), i < l.length → i < fu → slIsSorted_L1 l fu (i : Int) = some true
  | 0, i, _, h => by omega
  | fu + 1, 0, _, _ => by
    have h0 : decide (((0 : Nat) : Int) > 0) = false := by decide
    simp only [slIsSorted_L1, h0, cond_false]
  | fu + 1, i + 1, hi, hf => by
    have h0 : decide (((i + 1 : Nat) : Int) > 0) = true := decide_eq_true (by omega)
    have hw : IntKind.i64.wrap (((i + 1 : Nat) : Int) - 1) = (i : Int) := by rw [wrap_pred hl hi]; omega
    have hi' : i < l.length := by omega
    have h2 : decide (l[i + 1] < l[i]) = false := decide_eq_false (by have := hs i hi; omega)
    simp only [slIsSorted_L1, h0, cond_true, ix_at hi, ix_at hi', Option.bind_some, hw, cmpLess_eq, h2, cond_false]
    exact sorted_loop hl hs fu i (by omega) (by omega)
theorem slIsSorted_eq {l : List Int} (hl : l.length ≤ 9223372036854775807) (hs : ∀ (i : Nat) (h : i + 1 < l.length), l[i] ≤ l[i + 1]) : slIsSorted_S l = some true := by
  simp only [slIsSorted_S, slIsSorted_F, List.length_map]
  by_cases h0 : l.length = 0
  · rw [h0]; rfl
  · have : IntKind.i64.wrap ((l.length : Int) - 1) = ((l.length - 1 : Nat) : Int) := by
      rw [wrap_id (by unfold okI; omega)]; omega
    rw [this]
    exact sorted_loop hl hs _ _ (by omega) (by omega)
def goodByte (c : UInt8) : Bool := decide (32 ≤ c.toNat) && decide (c.toNat ≤ 126)
/-- No two spaces side by side; p is the byte before. -/
def noTwo : Bool → Str → Bool
  | _, [] => true
  | p, c :: r => !(p && c == 32) && noTwo (c == 32) r
/-- The loop of IsName: all bytes good, no two spaces side by side. -/
def nameLoop : Bool → Str → Bool
  | _, [] => true
  | p, c :: r => goodByte c && (!(p && c == 32) && nameLoop (c == 32) r)
theorem nameLoop_eq : ∀ (p : Bool) (s : Str), nameLoop p s = (s.all goodByte && noTwo p s)
  | _, [] => rfl
  | p, c :: r => by
    simp only [nameLoop, List.all_cons, noTwo, nameLoop_eq (c == 32) r]
    cases goodByte c <;> cases (p && c == 32) <;> simp
def nameOk (s : Str) : Bool := decide (1 ≤ s.length) && (decide (s.length ≤ 64) && (!(s.head? == some 32) && (!(s.getLast? == some 32) && (s.all goodByte && noTwo false s))))
theorem b32 (c : UInt8) : ((c.toNat : Int) == 32) = (c == 32) := by
  rw [Bool.eq_iff_iff]
  simp only [beq_iff_eq]
  constructor
  · intro h
    apply UInt8.toNat_inj.1
    show c.toNat = 32
    omega
  · rintro rfl; rfl
def prevSp (s : Str) (i : Nat) : Bool := decide (0 < i) && (s[i - 1]? == some 32)
theorem rName_loop {s : Str} (hs : s.length ≤ 9223372036854775807) : ∀ (n i fu : Nat), s.length - i = n → i ≤ s.length → n < fu → rName_L1 s fu (i : Int) = some (nameLoop (prevSp s i) (s.drop i))
  | n, i, 0, _, _, h => by omega
  | 0, i, fu + 1, hn, hi, _ => by
    have : i = s.length := by omega
    subst this
    have h0 : decide ((s.length : Int) < (s.length : Int)) = false := decide_eq_false (by omega)
    simp only [rName_L1, h0, cond_false, List.drop_length, nameLoop]
  | n + 1, i, fu + 1, hn, _, hf => by
    have hi : i < s.length := by omega
    have h0 : decide ((i : Int) < (s.length : Int)) = true := decide_eq_true (by omega)
    have ih := rName_loop hs n (i + 1) fu (by omega) (by omega) (by omega)
    have hp : prevSp s (i + 1) = (s[i] == 32) := by
      simp [prevSp, List.getElem?_eq_getElem hi]
    rw [hp] at ih
    rw [List.drop_eq_getElem_cons hi]
    simp only [rName_L1, ix_at hi, Option.bind_some, h0, cond_true, wrap_succ hs hi, nameLoop, b32, ih]
    by_cases h1 : 32 ≤ s[i].toNat
    · have e1 : decide ((s[i].toNat : Int) < 32) = false := decide_eq_false (by omega)
      by_cases h2 : s[i].toNat ≤ 126
      · have e2 : decide ((s[i].toNat : Int) > 126) = false := decide_eq_false (by omega)
        have eg : goodByte s[i] = true := by simp [goodByte, h1, h2]
        simp only [e1, e2, eg, cond_false, Bool.true_and]
        by_cases h3 : 0 < i
        · have e3 : decide ((i : Int) > 0) = true := decide_eq_true (by omega)
          have hi' : i - 1 < s.length := by omega
          have e4 : prevSp s i = (s[i - 1] == 32) := by simp [prevSp, h3, List.getElem?_eq_getElem hi']
          simp only [e3, cond_true, wrap_pred hs hi, ix_pred hi h3, Option.bind_some, e4, b32]
          cases (s[i] == 32) <;> cases (s[i - 1] == 32) <;> simp
        · have e3 : decide ((i : Int) > 0) = false := decide_eq_false (by omega)
          have e4 : prevSp s i = false := by simp [prevSp, h3]
          simp only [e3, cond_false, e4, Bool.false_and, Bool.not_false, Bool.true_and]
      · have e2 : decide ((s[i].toNat : Int) > 126) = true := decide_eq_true (by omega)
        have eg : goodByte s[i] = false := by simp [goodByte, h2]
        simp only [e1, e2, eg, cond_false, cond_true, Bool.false_and]
    · have e1 : decide ((s[i].toNat : Int) < 32) = true := decide_eq_true (by omega)
      have eg : goodByte s[i] = false := by simp [goodByte, h1]
      simp only [e1, eg, cond_true, Bool.false_and]
theorem rName_eq (s : Str) : rName_S s = some (nameOk s) := by
  simp only [rName_S, rName_F, nameOk]
  by_cases h1 : 1 ≤ s.length
  · have e1 : decide ((s.length : Int) < 1) = false := decide_eq_false (by omega)
    by_cases h2 : s.length ≤ 64
    · have e2 : decide ((s.length : Int) > 64) = false := decide_eq_false (by omega)
      have hi : 0 < s.length := h1
      have hl : s.length - 1 < s.length := by omega
      have q0 : ix s 0 = some s[0] := ix_at hi
      have ql : ix s ((s.length : Int) - 1) = some s[s.length - 1] := ix_pred (l := s ++ [0]) (by simp) h1 |> fun _ => by
        have : (s.length : Int) - 1 = ((s.length - 1 : Nat) : Int) := by omega
        rw [this]; exact ix_at hl
      have e3 : s.head? = some s[0] := by rw [List.head?_eq_getElem?, List.getElem?_eq_getElem hi]
      have e4 : s.getLast? = some s[s.length - 1] := by rw [List.getLast?_eq_getElem?, List.getElem?_eq_getElem hl]
      have hL := rName_loop (s := s) (by omega) s.length 0 (s.length + 1) (by omega) (by omega) (by omega)
      have hw : IntKind.i64.wrap ((s.length : Int) - 1) = (s.length : Int) - 1 := wrap_id (by unfold okI; omega)
      have hL' : rName_L1 s (s.length + 1) 0 = some (s.all goodByte && noTwo false s) := by
        rw [← nameLoop_eq]; simpa [prevSp] using hL
      simp only [e1, e2, cond_false, q0, hw, ql, Option.bind_some, b32, e3, e4, h1, h2, decide_true, Bool.true_and, hL']
      have z0 : (some s[0] == some (32 : UInt8)) = (s[0] == 32) := rfl
      have zl : (some s[s.length - 1] == some (32 : UInt8)) = (s[s.length - 1] == 32) := rfl
      rw [z0, zl]
      cases (s[0] == 32) <;> cases (s[s.length - 1] == 32) <;> simp
    · have e2 : decide ((s.length : Int) > 64) = true := decide_eq_true (by omega)
      simp [e1, e2, h1, h2]
  · have e1 : decide ((s.length : Int) < 1) = true := decide_eq_true (by omega)
    simp [e1, h1]
theorem noTwo_true : ∀ l : Str, noTwo true l = (!(l.head? == some 32) && noTwo false l)
  | [] => rfl
  | c :: r => by
    simp only [noTwo, List.head?_cons, Bool.true_and, Bool.false_and, Bool.not_false]
    rfl
theorem contains_eq : ∀ s : Str, Lib.contains s [32, 32] = !(noTwo false s)
  | [] => by decide
  | b :: l => by
    have ih := contains_eq l
    have hge := Lib.index_ge l [32, 32]
    unfold Lib.contains at ih ⊢
    unfold Lib.index
    simp only [noTwo, Bool.false_and, Bool.not_false, Bool.true_and]
    cases hb : b == 32 with
    | false =>
      have hp : List.isPrefixOf [32, 32] (b :: l) = false := by
        have : (32 == b) = false := by rw [BEq.comm]; exact hb
        simp [List.isPrefixOf, this]
      rw [hp, ← ih]
      by_cases hi : Lib.index l [32, 32] = -1
      · simp [hi]
      · simp only [Bool.false_eq_true, if_false, beq_iff_eq, hi, decide_eq_decide]
        omega
    | true =>
      have hb' : b = 32 := by simpa using hb
      subst hb'
      rw [noTwo_true, Bool.not_and, ← ih]
      cases l with
      | nil => decide
      | cons c r =>
        cases hc : c == 32 with
        | true =>
          have hc' : c = 32 := by simpa using hc
          subst hc'
          have hp : List.isPrefixOf [32, 32] (32 :: 32 :: r) = true := by simp [List.isPrefixOf]
          rw [if_pos hp]
          simp
        | false =>
          have hp : List.isPrefixOf [32, 32] (32 :: c :: r) = false := by
            have : (32 == c) = false := by rw [BEq.comm]; exact hc
            simp [List.isPrefixOf, this]
          have hh : ((c :: r).head? == some (32 : UInt8)) = false := hc
          rw [hp, hh]
          by_cases hi : Lib.index (c :: r) [32, 32] = -1
          · simp [hi]
          · simp only [Bool.false_eq_true, if_false, beq_iff_eq, hi, Bool.not_false, Bool.not_true, Bool.false_or, decide_eq_decide]
            omega
end Go.Proofs.YtmcolhhmlpicaaaDoor
