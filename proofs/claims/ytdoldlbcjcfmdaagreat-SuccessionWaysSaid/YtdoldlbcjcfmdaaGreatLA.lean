/- Plain laws: loops by fuel and index, who is few, the copy, the check of a list. -/
import Derived.Test.YtdoldlbcjcfmdaaGreatRowTy
import Derived.Test.YtdoldlbcjcfmdaaGreatGI
set_option linter.unusedVariables false
set_option linter.unusedSimpArgs false
namespace Go.Proofs.YtdoldlbcjcfmdaaGreat
open Go Go.Abs

def smallAut (a : Aut) : Bool := decide (a.Names.length ≤ 4294967296) && decide (a.Next.length ≤ 4294967296)
theorem pown_some {a : Aut} (h : smallAut a = true) : pown_S a = some a := by
  simp only [smallAut, Bool.and_eq_true] at h
  simp [pown_S, pown_F, cloneName_S, cloneName_F, cloneInt_S, cloneInt_F, h.1, h.2]
theorem wrap_id {n : Int} (h : okI n) : IntKind.i64.wrap n = n := by
  obtain ⟨h1, h2⟩ := h
  show (if (true && decide (n % (2 ^ 64 : Int) ≥ (2 ^ 63 : Int))) = true then n % (2 ^ 64 : Int) - (2 ^ 64 : Int) else n % (2 ^ 64 : Int)) = n
  simp only [Bool.true_and, decide_eq_true_eq]
  split <;> omega
theorem wrap_succ {n i : Nat} (hn : n ≤ 9223372036854775807) (hi : i < n) : IntKind.i64.wrap ((i : Int) + 1) = ((i + 1 : Nat) : Int) := by
  rw [wrap_id (by unfold okI; omega)]; rfl
theorem wrap_pred {n i : Nat} (hn : n ≤ 9223372036854775807) (hi : i < n) : IntKind.i64.wrap ((i : Int) - 1) = (i : Int) - 1 := wrap_id (by unfold okI; omega)
theorem ix_at {α : Type} {l : List α} {i : Nat} (h : i < l.length) : ix l (i : Int) = some l[i] := by
  unfold ix
  rw [if_neg (by omega), Int.toNat_natCast, List.getElem?_eq_getElem h]
theorem ix_pred {α : Type} {l : List α} {i : Nat} (h : i < l.length) (h0 : 0 < i) : ix l ((i : Int) - 1) = some (l[i - 1]'(by omega)) := by
  have : (i : Int) - 1 = ((i - 1 : Nat) : Int) := by omega
  rw [this]; exact ix_at _
/-- A loop that leaves at the first element for which b says so. -/
def scanP {α β : Type} (b : Nat → α → Option β) (done : β) : Nat → List α → β
  | _, [] => done
  | i, x :: r => match b i x with
    | some y => y
    | none => scanP b done (i + 1) r
theorem loop_scanP {α β : Type} (L : Nat → Int → Option β) (l : List α) (b : Nat → α → Option β) (done : β) (hl : l.length ≤ 9223372036854775807)
    (hs : ∀ (fu i : Nat) (hi : i < l.length), L (fu + 1) (i : Int) = match b i l[i] with | some y => some y | none => L fu ((i + 1 : Nat) : Int))
    (he : ∀ fu, L (fu + 1) (l.length : Int) = some done) : ∀ (n i fu : Nat), l.length - i = n → i ≤ l.length → n < fu → L fu (i : Int) = some (scanP b done i (l.drop i))
  | n, i, 0, _, _, h => by omega
  | 0, i, fu + 1, h, hi, _ => by
    have : i = l.length := by omega
    subst this
    rw [he, List.drop_length]; rfl
  | n + 1, i, fu + 1, h, _, hf => by
    have hi : i < l.length := by omega
    rw [hs fu i hi, List.drop_eq_getElem_cons hi]
    simp only [scanP]
    cases b i l[i] with
    | some y => rfl
    | none => exact loop_scanP L l b done hl hs he n (i + 1) fu (by omega) (by omega) (by omega)
theorem scanP_all {α : Type} (p : α → Bool) (done : Bool) : ∀ (l : List α) (i : Nat), scanP (fun _ x => bif p x then none else some false) done i l = (l.all p && done)
  | [], _ => rfl
  | x :: r, i => by
    simp only [scanP, List.all_cons]
    cases hp : p x
    · rfl
    · simpa using scanP_all p done r (i + 1)
def fewOf (a : Aut) : Bool := a.Names.all (fun n => decide (n.Text.length ≤ 100)) && (decide (a.Names.length ≤ 17) && decide (a.Next.length ≤ 17))
def few (l : List Aut) : Bool := l.all fewOf && (decide (l.length ≤ 12) || decide (l.length = 65))
theorem rFewOf_eq {a : Aut} (h : a.Names.length ≤ 9223372036854775807) : rFewOf_S a = some (fewOf a) := by
  have h1 := loop_scanP (rFewOf_L1 a) a.Names (fun _ x => bif decide (x.Text.length ≤ 100) then none else some false) (decide (a.Names.length ≤ 17) && decide (a.Next.length ≤ 17)) h (fun fu i hi => by
      have h0 : decide ((i : Int) < (a.Names.length : Int)) = true := decide_eq_true (by omega)
      simp only [rFewOf_L1, List.length_map, ix_at hi, Option.bind_some, h0, cond_true, wrap_succ h hi]
      by_cases hq : a.Names[i].Text.length ≤ 100
      · have e1 : decide ((a.Names[i].Text.length : Int) > 100) = false := decide_eq_false (by omega)
        simp [e1, hq]
      · have e1 : decide ((a.Names[i].Text.length : Int) > 100) = true := decide_eq_true (by omega)
        simp [e1, hq])
    (fun fu => by
      have h0 : decide ((a.Names.length : Int) < (a.Names.length : Int)) = false := decide_eq_false (by omega)
      simp only [rFewOf_L1, List.length_map, h0, cond_false]
      by_cases h2 : a.Names.length ≤ 17 <;> by_cases h3 : a.Next.length ≤ 17
      all_goals
        have e2 : ((a.Names.length : Int) ≤ 17) ↔ a.Names.length ≤ 17 := by omega
        have e3 : ((a.Next.length : Int) ≤ 17) ↔ a.Next.length ≤ 17 := by omega
        simp [e2, e3, h2, h3]) a.Names.length 0 (a.Names.length + 1) (by omega) (by omega) (by omega)
  show rFewOf_L1 a (a.Names.length + 1) 0 = _
  rw [show (0 : Int) = ((0 : Nat) : Int) from rfl, h1, List.drop_zero, scanP_all]; rfl
theorem rFew_eq {l : List Aut} (h : okAuts l) : rFew_S l = some (few l) := by
  have h1 := loop_scanP (rFew_L1 l) l (fun _ x => bif fewOf x then none else some false) (decide (l.length ≤ 12) || decide (l.length = 65)) h.1 (fun fu i hi => by
      have h0 : decide ((i : Int) < (l.length : Int)) = true := decide_eq_true (by omega)
      have hk := rFewOf_eq (a := l[i]) (h.2 _ (List.getElem_mem hi)).2.2.2.1.1
      simp only [rFew_L1, List.length_map, ix_at hi, Option.bind_some, h0, cond_true, wrap_succ h.1 hi, hk]
      cases fewOf l[i] <;> rfl)
    (fun fu => by
      have h0 : decide ((l.length : Int) < (l.length : Int)) = false := decide_eq_false (by omega)
      simp only [rFew_L1, List.length_map, h0, cond_false]
      by_cases h2 : l.length ≤ 12 <;> by_cases h3 : l.length = 65
      all_goals
        have e2 : ((l.length : Int) ≤ 12) ↔ l.length ≤ 12 := by omega
        have e3 : ((l.length : Int) = 65) ↔ l.length = 65 := by omega
        simp [e2, e3, h2, h3]) l.length 0 (l.length + 1) (by omega) (by omega) (by omega)
  show rFew_L1 l (l.length + 1) 0 = _
  rw [show (0 : Int) = ((0 : Nat) : Int) from rfl, h1, List.drop_zero, scanP_all]; rfl
theorem few_mem {l : List Aut} (h : few l = true) {a : Aut} (ha : a ∈ l) : fewOf a = true := by
  simp only [few, Bool.and_eq_true, List.all_eq_true] at h
  exact h.1 a ha
theorem few_len {l : List Aut} (h : few l = true) : l.length ≤ 65 := by
  simp only [few, Bool.and_eq_true, Bool.or_eq_true, decide_eq_true_eq] at h
  omega
theorem fewOf_names {a : Aut} (h : fewOf a = true) : a.Names.length ≤ 17 ∧ a.Next.length ≤ 17 ∧ ∀ n ∈ a.Names, n.Text.length ≤ 100 := by
  simp only [fewOf, Bool.and_eq_true, List.all_eq_true, decide_eq_true_eq] at h
  exact ⟨h.2.1, h.2.2, h.1⟩
theorem rCopy_loop {l : List Aut} (h : few l = true) : ∀ (n i fu : Nat) (out : List Aut), l.length - i = n → i ≤ l.length → n < fu → out.length = i → rCopy_L1 l fu out (i : Int) = some (out ++ l.drop i)
  | n, i, 0, _, _, _, h, _ => by omega
  | 0, i, fu + 1, out, hn, hi, _, _ => by
    have : i = l.length := by omega
    subst this
    have h0 : decide ((l.length : Int) < (l.length : Int)) = false := decide_eq_false (by omega)
    simp only [rCopy_L1, List.length_map, h0, cond_false, List.drop_length, List.append_nil]
  | n + 1, i, fu + 1, out, hn, _, hf, ho => by
    have hl := few_len h
    have hi : i < l.length := by omega
    have h0 : decide ((i : Int) < (l.length : Int)) = true := decide_eq_true (by omega)
    obtain ⟨f1, f2, _⟩ := fewOf_names (few_mem h (List.getElem_mem hi))
    have e1 : decide (([] : List Nam).length + l[i].Names.length ≤ 4294967296) = true := decide_eq_true (by simp; omega)
    have e2 : decide (([] : List Int).length + l[i].Next.length ≤ 4294967296) = true := decide_eq_true (by simp; omega)
    have e3 : ∀ a : Aut, decide (out.length + ([a] : List Aut).length ≤ 4294967296) = true := fun a => decide_eq_true (by simp; omega)
    have hL : l.length ≤ 9223372036854775807 := by omega
    simp only [rCopy_L1, List.length_map, ix_at hi, Option.bind_some, h0, cond_true, e1, e2, e3, wrap_succ hL hi, List.nil_append]
    rw [rCopy_loop h n (i + 1) fu _ (by omega) (by omega) (by omega) (by simp [ho]), List.drop_eq_getElem_cons hi, List.append_assoc]
    rfl
theorem rCopy_eq {l : List Aut} (h : few l = true) : rCopy_S l = some l := by
  have := rCopy_loop h l.length 0 (l.length + 1) [] (by omega) (by omega) (by omega) rfl
  show rCopy_L1 l (l.length + 1) [] 0 = some l
  simpa using this
def spanOk (x : Span) : Bool := decide (0 ≤ x.From) && (decide (x.From < x.Until) && decide (x.Until ≤ 1048576))
theorem pspans_eq (x : Span) : pspans_S x = some (spanOk x) := by
  simp only [pspans_S, pspans_F, spanOk]
  by_cases h1 : 0 ≤ x.From <;> by_cases h2 : x.From < x.Until <;> simp [h1, h2]
theorem rIsSpan_eq (x : Span) : rIsSpan_S x = some (spanOk x) := by
  simp only [rIsSpan_S, rIsSpan_F, spanOk]
  by_cases h1 : 0 ≤ x.From <;> by_cases h2 : x.From < x.Until <;> simp [h1, h2]
theorem pwithin_eq (n a b : Int) : pwithin_S n a b = some (decide (a ≤ n) && decide (n ≤ b)) := by
  simp only [pwithin_S, pwithin_F]
  by_cases h1 : a ≤ n <;> simp [h1]
def onSpan (x : Span) (day : Int) : Bool := decide (x.From ≤ day) && decide (day < x.Until)
theorem rOn_eq (x : Span) (day : Int) : rOn_S x day = some (onSpan x day) := by
  simp only [rOn_S, rOn_F, onSpan]
  by_cases h1 : x.From ≤ day <;> simp [h1]
def goodByte (c : UInt8) : Bool := decide (32 ≤ c.toNat) && decide (c.toNat ≤ 126)
/-- No two spaces side by side; p is the byte before. -/
def noTwo : Bool → Str → Bool
  | _, [] => true
  | p, c :: r => !(p && c == 32) && noTwo (c == 32) r
/-- The loop of IsName: all bytes good, no two spaces side by side. -/
def nameLoop : Bool → Str → Bool
  | _, [] => true
  | p, c :: r => goodByte c && (!(p && c == 32) && nameLoop (c == 32) r)
theorem nameLoop_eq : ∀ (p : Bool) (s : Str), nameLoop p s = (s.all goodByte && noTwo p s)
  | _, [] => rfl
  | p, c :: r => by
    simp only [nameLoop, List.all_cons, noTwo, nameLoop_eq (c == 32) r]
    cases goodByte c <;> cases (p && c == 32) <;> simp
def nameOk (s : Str) : Bool := decide (1 ≤ s.length) && (decide (s.length ≤ 64) && (!(s.head? == some 32) && (!(s.getLast? == some 32) && (s.all goodByte && noTwo false s))))
theorem b32 (c : UInt8) : ((c.toNat : Int) == 32) = (c == 32) := by
  rw [Bool.eq_iff_iff]
  simp only [beq_iff_eq]
  constructor
  · intro h
    apply UInt8.toNat_inj.1
    show c.toNat = 32
    omega
  · rintro rfl; rfl
def prevSp (s : Str) (i : Nat) : Bool := decide (0 < i) && (s[i - 1]? == some 32)
theorem rIsName_loop {s : Str} (hs : s.length ≤ 9223372036854775807) : ∀ (n i fu : Nat), s.length - i = n → i ≤ s.length → n < fu → rIsName_L1 s fu (i : Int) = some (nameLoop (prevSp s i) (s.drop i))
  | n, i, 0, _, _, h => by omega
  | 0, i, fu + 1, hn, hi, _ => by
    have : i = s.length := by omega
    subst this
    have h0 : decide ((s.length : Int) < (s.length : Int)) = false := decide_eq_false (by omega)
    simp only [rIsName_L1, h0, cond_false, List.drop_length, nameLoop]
  | n + 1, i, fu + 1, hn, _, hf => by
    have hi : i < s.length := by omega
    have h0 : decide ((i : Int) < (s.length : Int)) = true := decide_eq_true (by omega)
    have ih := rIsName_loop hs n (i + 1) fu (by omega) (by omega) (by omega)
    have hp : prevSp s (i + 1) = (s[i] == 32) := by
      simp [prevSp, List.getElem?_eq_getElem hi]
    rw [hp] at ih
    rw [List.drop_eq_getElem_cons hi]
    simp only [rIsName_L1, ix_at hi, Option.bind_some, h0, cond_true, wrap_succ hs hi, nameLoop, b32, ih]
    by_cases h1 : 32 ≤ s[i].toNat
    · have e1 : decide ((s[i].toNat : Int) < 32) = false := decide_eq_false (by omega)
      by_cases h2 : s[i].toNat ≤ 126
      · have e2 : decide ((s[i].toNat : Int) > 126) = false := decide_eq_false (by omega)
        have eg : goodByte s[i] = true := by simp [goodByte, h1, h2]
        simp only [e1, e2, eg, cond_false, Bool.true_and]
        by_cases h3 : 0 < i
        · have e3 : decide ((i : Int) > 0) = true := decide_eq_true (by omega)
          have hi' : i - 1 < s.length := by omega
          have e4 : prevSp s i = (s[i - 1] == 32) := by simp [prevSp, h3, List.getElem?_eq_getElem hi']
          simp only [e3, cond_true, wrap_pred hs hi, ix_pred hi h3, Option.bind_some, e4]
          cases (s[i] == 32) <;> cases (s[i - 1] == 32) <;> simp
        · have e3 : decide ((i : Int) > 0) = false := decide_eq_false (by omega)
          have e4 : prevSp s i = false := by simp [prevSp, h3]
          simp only [e3, cond_false, e4, Bool.false_and, Bool.not_false, Bool.true_and]
      · have e2 : decide ((s[i].toNat : Int) > 126) = true := decide_eq_true (by omega)
        have eg : goodByte s[i] = false := by simp [goodByte, h2]
        simp only [e1, e2, eg, cond_false, cond_true, Bool.false_and]
    · have e1 : decide ((s[i].toNat : Int) < 32) = true := decide_eq_true (by omega)
      have eg : goodByte s[i] = false := by simp [goodByte, h1]
      simp only [e1, eg, cond_true, Bool.false_and]
theorem rIsName_eq (s : Str) : rIsName_S s = some (nameOk s) := by
  simp only [rIsName_S, rIsName_F, nameOk]
  by_cases h1 : 1 ≤ s.length
  · have e1 : decide ((s.length : Int) < 1) = false := decide_eq_false (by omega)
    by_cases h2 : s.length ≤ 64
    · have e2 : decide ((s.length : Int) > 64) = false := decide_eq_false (by omega)
      have hi : 0 < s.length := h1
      have hl : s.length - 1 < s.length := by omega
      have q0 : ix s 0 = some s[0] := ix_at hi
      have ql : ix s ((s.length : Int) - 1) = some s[s.length - 1] := ix_pred (l := s ++ [0]) (by simp) h1 |> fun _ => by
        have : (s.length : Int) - 1 = ((s.length - 1 : Nat) : Int) := by omega
        rw [this]; exact ix_at hl
      have e3 : s.head? = some s[0] := by rw [List.head?_eq_getElem?, List.getElem?_eq_getElem hi]
      have e4 : s.getLast? = some s[s.length - 1] := by rw [List.getLast?_eq_getElem?, List.getElem?_eq_getElem hl]
      have hL := rIsName_loop (s := s) (by omega) s.length 0 (s.length + 1) (by omega) (by omega) (by omega)
      have hw : IntKind.i64.wrap ((s.length : Int) - 1) = (s.length : Int) - 1 := wrap_id (by unfold okI; omega)
      have hL' : rIsName_L1 s (s.length + 1) 0 = some (s.all goodByte && noTwo false s) := by
        rw [← nameLoop_eq]; simpa [prevSp] using hL
      simp only [e1, e2, cond_false, q0, hw, ql, Option.bind_some, b32, e3, e4, h1, h2, decide_true, Bool.true_and, hL']
      have z0 : (some s[0] == some (32 : UInt8)) = (s[0] == 32) := rfl
      have zl : (some s[s.length - 1] == some (32 : UInt8)) = (s[s.length - 1] == 32) := rfl
      rw [z0, zl]
      cases (s[0] == 32) <;> cases (s[s.length - 1] == 32) <;> simp
    · have e2 : decide ((s.length : Int) > 64) = true := decide_eq_true (by omega)
      simp [e1, e2, h1, h2]
  · have e1 : decide ((s.length : Int) < 1) = true := decide_eq_true (by omega)
    simp [e1, h1]
theorem noTwo_true : ∀ l : Str, noTwo true l = (!(l.head? == some 32) && noTwo false l)
  | [] => rfl
  | c :: r => by
    simp only [noTwo, List.head?_cons, Bool.true_and, Bool.false_and, Bool.not_false]
    rfl
theorem contains_eq : ∀ s : Str, Lib.contains s [32, 32] = !(noTwo false s)
  | [] => by decide
  | b :: l => by
    have ih := contains_eq l
    have hge := Lib.index_ge l [32, 32]
    unfold Lib.contains at ih ⊢
    unfold Lib.index
    simp only [noTwo, Bool.false_and, Bool.not_false, Bool.true_and]
    cases hb : b == 32 with
    | false =>
      have hp : List.isPrefixOf [32, 32] (b :: l) = false := by
        have : (32 == b) = false := by rw [BEq.comm]; exact hb
        simp [List.isPrefixOf, this]
      rw [hp, ← ih]
      by_cases hi : Lib.index l [32, 32] = -1
      · simp [hi]
      · simp only [Bool.false_eq_true, if_false, beq_iff_eq, hi, decide_eq_decide]
        omega
    | true =>
      have hb' : b = 32 := by simpa using hb
      subst hb'
      rw [noTwo_true, Bool.not_and, ← ih]
      cases l with
      | nil => decide
      | cons c r =>
        cases hc : c == 32 with
        | true =>
          have hc' : c = 32 := by simpa using hc
          subst hc'
          have hp : List.isPrefixOf [32, 32] (32 :: 32 :: r) = true := by simp [List.isPrefixOf]
          rw [if_pos hp]
          simp
        | false =>
          have hp : List.isPrefixOf [32, 32] (32 :: c :: r) = false := by
            have : (32 == c) = false := by rw [BEq.comm]; exact hc
            simp [List.isPrefixOf, this]
          have hh : ((c :: r).head? == some (32 : UInt8)) = false := hc
          rw [hp, hh]
          by_cases hi : Lib.index (c :: r) [32, 32] = -1
          · simp [hi]
          · simp only [Bool.false_eq_true, if_false, beq_iff_eq, hi, Bool.not_false, Bool.not_true, Bool.false_or, decide_eq_decide]
            omega
theorem get_at {s : Str} {i : Nat} (h : i < s.length) : (ByteArray.mk ⟨s⟩).get! i = s[i] := by
  show (Array.mk s)[i]! = s[i]
  rw [getElem!_pos (Array.mk s) i h]
  rfl
theorem decode_hi {n b0 b1 b2 b3 : Nat} (h : 128 ≤ b0) : 126 < (Lib.decodeN n b0 b1 b2 b3).1 := by
  unfold Lib.decodeN
  rw [if_neg (by omega)]
  repeat' split
  all_goals (simp only; omega)
theorem idx_eq (s : Str) : ∀ (f pos : Nat), s.length - pos ≤ f → decide (0 ≤ Lib.idxFuncFrom badRune true ⟨⟨s⟩⟩ f pos) = !((s.drop pos).all goodByte)
  | 0, pos, h => by
    rw [List.drop_eq_nil_of_le (by omega)]; rfl
  | f + 1, pos, h => by
    have hsz : (ByteArray.mk ⟨s⟩).size = s.length := rfl
    unfold Lib.idxFuncFrom
    rw [hsz]
    by_cases hp : pos < s.length
    · rw [if_pos hp, List.drop_eq_getElem_cons hp, List.all_cons, Lib.decode_at, hsz, get_at hp]
      by_cases hb : s[pos].toNat < 128
      · have hd : ∀ n b1 b2 b3, Lib.decodeN n s[pos].toNat b1 b2 b3 = (s[pos].toNat, 1) := fun n b1 b2 b3 => by simp [Lib.decodeN, hb]
        rw [hd]
        have hg : badRune s[pos].toNat = !goodByte s[pos] := by
          unfold badRune goodByte
          by_cases h1 : s[pos].toNat < 32 <;> by_cases h2 : 126 < s[pos].toNat <;> simp [h1, h2] <;> omega
        simp only [hg]
        cases goodByte s[pos] with
        | false => simp
        | true => simpa using idx_eq s f (pos + 1) (by omega)
      · have hr := decode_hi (n := s.length - pos) (b1 := ((ByteArray.mk ⟨s⟩).get! (pos + 1)).toNat) (b2 := ((ByteArray.mk ⟨s⟩).get! (pos + 2)).toNat) (b3 := ((ByteArray.mk ⟨s⟩).get! (pos + 3)).toNat) (Nat.le_of_not_lt hb)
        have hbad : ∀ x, 126 < x → badRune x = true := fun x hx => by simp [badRune, hx]
        have hg : goodByte s[pos] = false := by
          unfold goodByte
          have : ¬ s[pos].toNat ≤ 126 := by omega
          simp [this]
        rw [hbad _ hr, hg]
        simp
    · rw [if_neg hp, List.drop_eq_nil_of_le (by omega)]; rfl
theorem pname_eq (s : Str) : pname_S s = some (nameOk s) := by
  simp only [pname_S, pname_F, nameOk]
  by_cases h1 : 1 ≤ s.length
  · have e1 : decide ((s.length : Int) < 1) = false := decide_eq_false (by omega)
    by_cases h2 : s.length ≤ 64
    · have e2 : decide ((s.length : Int) > 64) = false := decide_eq_false (by omega)
      have hi : 0 < s.length := h1
      have hl : s.length - 1 < s.length := by omega
      have q0 : ix s 0 = some s[0] := ix_at hi
      have ql : ix s ((s.length : Int) - 1) = some s[s.length - 1] := by
        have : (s.length : Int) - 1 = ((s.length - 1 : Nat) : Int) := by omega
        rw [this]; exact ix_at hl
      have e3 : s.head? = some s[0] := by rw [List.head?_eq_getElem?, List.getElem?_eq_getElem hi]
      have e4 : s.getLast? = some s[s.length - 1] := by rw [List.getLast?_eq_getElem?, List.getElem?_eq_getElem hl]
      have hw : IntKind.i64.wrap ((s.length : Int) - 1) = (s.length : Int) - 1 := wrap_id (by unfold okI; omega)
      have hc : sContains_S s [32, 32] = some (!(noTwo false s)) := by
        unfold sContains_S
        rw [decide_eq_true (by omega), contains_eq]; rfl
      have hf : ∀ g, sContainsFunc_S s g = some (!(s.all goodByte)) := fun g => by
        unfold sContainsFunc_S Lib.idxFunc
        rw [idx_eq s _ 0 (by show s.length - 0 ≤ s.length; omega), List.drop_zero]
      simp only [e1, e2, cond_false, q0, hw, ql, Option.bind_some, b32, e3, e4, h1, h2, decide_true, Bool.true_and, hc, hf]
      have z0 : (some s[0] == some (32 : UInt8)) = (s[0] == 32) := rfl
      have zl : (some s[s.length - 1] == some (32 : UInt8)) = (s[s.length - 1] == 32) := rfl
      rw [z0, zl]
      cases (s[0] == 32) <;> cases (s[s.length - 1] == 32) <;> cases s.all goodByte <;> cases noTwo false s <;> simp
    · have e2 : decide ((s.length : Int) > 64) = true := decide_eq_true (by omega)
      simp [e1, e2, h1, h2]
  · have e1 : decide ((s.length : Int) < 1) = true := decide_eq_true (by omega)
    simp [e1, h1]
def nameB (a : Aut) (i : Nat) (x : Nam) : Option Int :=
  bif !(nameOk x.Text) then some 4 else bif !(spanOk x.In) then some 2 else bif decide (x.In.From < a.In.From) then some 10 else bif decide (x.In.Until > a.In.Until) then some 10 else
  match decide (0 < i), a.Names[i - 1]? with
  | true, some y => bif decide (x.In.From < y.In.Until) then some 5 else none
  | _, _ => none
def namesF (a : Aut) : Int := bif decide (a.Names.length = 0) then 9 else bif decide (a.Names.length > 16) then 8 else scanP (nameB a) 0 0 a.Names
theorem names_loop {a : Aut} (h : a.Names.length ≤ 9223372036854775807) (L : Nat → Int → Option Int)
    (hL : ∀ fu (v : Int), L (fu + 1) v = bif decide (v < ((a.Names.map cNam).length : Int)) then (Option.bind (ix a.Names v) fun x5 => Option.bind (some (nameOk x5.Text)) fun y7 => bif (!y7) then some (4) else (Option.bind (some (spanOk x5.In)) fun y10 => bif (!y10) then some (2) else (bif decide (x5.In.From < a.In.From) then some (10) else (bif decide (x5.In.Until > a.In.Until) then some (10) else (bif decide (v > 0) then (Option.bind (ix a.Names (IntKind.i64.wrap (v - 1))) fun x16 => bif decide (x5.In.From < x16.In.Until) then some (5) else L fu (IntKind.i64.wrap (v + 1))) else L fu (IntKind.i64.wrap (v + 1))))))) else some (0)) :
    L (a.Names.length + 1) 0 = some (scanP (nameB a) 0 0 a.Names) := by
  have h1 := loop_scanP L a.Names (nameB a) 0 h (fun fu i hi => by
      have h0 : decide ((i : Int) < (a.Names.length : Int)) = true := decide_eq_true (by omega)
      simp only [hL, List.length_map, ix_at hi, Option.bind_some, h0, cond_true, wrap_succ h hi, nameB]
      cases nameOk a.Names[i].Text with
      | false => rfl
      | true => cases spanOk a.Names[i].In with
        | false => rfl
        | true =>
          simp only [Bool.not_true, cond_false]
          cases decide (a.Names[i].In.From < a.In.From) with
          | true => rfl
          | false => cases decide (a.Names[i].In.Until > a.In.Until) with
            | true => rfl
            | false =>
              simp only [cond_false]
              by_cases h3 : 0 < i
              · have e3 : decide ((i : Int) > 0) = true := decide_eq_true (by omega)
                have hi' : i - 1 < a.Names.length := by omega
                simp only [e3, cond_true, wrap_pred h hi, ix_pred hi h3, Option.bind_some, h3, decide_true, List.getElem?_eq_getElem hi']
                cases decide (a.Names[i].In.From < a.Names[i - 1].In.Until) <;> rfl
              · have e3 : decide ((i : Int) > 0) = false := decide_eq_false (by omega)
                simp only [e3, cond_false, h3, decide_false])
    (fun fu => by
      have h0 : decide ((a.Names.length : Int) < (a.Names.length : Int)) = false := decide_eq_false (by omega)
      simp only [hL, List.length_map, h0, cond_false]) a.Names.length 0 (a.Names.length + 1) (by omega) (by omega) (by omega)
  simpa using h1
theorem names_head {a : Aut} {x : Option Int} (h : x = some (scanP (nameB a) 0 0 a.Names)) :
    (bif (((a.Names.map cNam).length : Int) == 0) then some (9) else (bif decide (((a.Names.map cNam).length : Int) > 16) then some (8) else x)) = some (namesF a) := by
  rw [h, List.length_map]
  unfold namesF
  by_cases h1 : a.Names.length = 0
  · have e : ((a.Names.length : Int) == 0) = true := by simp [h1]
    simp [h1]
  · have e : ((a.Names.length : Int) == 0) = false := beq_eq_false_iff_ne.2 (by omega)
    by_cases h2 : a.Names.length > 16
    · have e2 : decide ((a.Names.length : Int) > 16) = true := decide_eq_true (by omega)
      simp [e, e2, h1, h2]
    · have e2 : decide ((a.Names.length : Int) > 16) = false := decide_eq_false (by omega)
      simp [e, e2, h1, h2]
theorem pnames_eq {a : Aut} (h : a.Names.length ≤ 9223372036854775807) : pnames_S a = some (namesF a) :=
  names_head (names_loop h (pnames_L1 a) fun fu v => by simp only [pnames_L1, pname_eq, pspans_eq])
theorem rnames_eq {a : Aut} (h : a.Names.length ≤ 9223372036854775807) : rnames_S a = some (namesF a) :=
  names_head (names_loop h (rnames_L1 a) fun fu v => by simp only [rnames_L1, rIsName_eq, rIsSpan_eq])
/-- The first that p holds of, with its index. -/
theorem scanP_find {α : Type} (p : α → Bool) : ∀ (l : List α) (i : Nat), scanP (fun i x => bif p x then some (i : Int) else none) (-1) i l = match l.findIdx? p with | some k => ((i + k : Nat) : Int) | none => -1
  | [], _ => rfl
  | x :: r, i => by
    simp only [scanP, List.findIdx?_cons]
    cases p x with
    | true => simp
    | false =>
      simp only [cond_false, scanP_find p r (i + 1), Bool.false_eq_true, if_false]
      cases r.findIdx? p with
      | none => rfl
      | some k => show (((i + 1 + k : Nat)) : Int) = ((i + (k + 1) : Nat) : Int); omega
def idxOf {α : Type} (p : α → Bool) (l : List α) : Int := match l.findIdx? p with | some k => (k : Int) | none => -1
theorem slIndexFuncA_eq {l : List Aut} {f : Aut → Option Bool} {p : Aut → Bool} (h : l.length ≤ 9223372036854775807) (hf : ∀ x ∈ l, f x = some (p x)) : slIndexFuncA_S l f = some (idxOf p l) := by
  have h1 := loop_scanP (slIndexFuncA_L1 l f) l (fun i x => bif p x then some (i : Int) else none) (-1) h (fun fu i hi => by
      have h0 : decide ((i : Int) < (l.length : Int)) = true := decide_eq_true (by omega)
      simp only [slIndexFuncA_L1, List.length_map, ix_at hi, Option.bind_some, h0, cond_true, wrap_succ h hi, hf _ (List.getElem_mem hi)]
      cases p l[i] <;> rfl)
    (fun fu => by
      have h0 : decide ((l.length : Int) < (l.length : Int)) = false := decide_eq_false (by omega)
      simp only [slIndexFuncA_L1, List.length_map, h0, cond_false]) l.length 0 (l.length + 1) (by omega) (by omega) (by omega)
  show slIndexFuncA_L1 l f (l.length + 1) 0 = _
  rw [show (0 : Int) = ((0 : Nat) : Int) from rfl, h1, List.drop_zero, scanP_find]
  unfold idxOf
  cases l.findIdx? p <;> simp
theorem slIndexFuncI_eq {l : List Int} {f : Int → Option Bool} {p : Int → Bool} (h : l.length ≤ 9223372036854775807) (hf : ∀ x ∈ l, f x = some (p x)) : slIndexFuncI_S l f = some (idxOf p l) := by
  have h1 := loop_scanP (slIndexFuncI_L1 l f) l (fun i x => bif p x then some (i : Int) else none) (-1) h (fun fu i hi => by
      have h0 : decide ((i : Int) < (l.length : Int)) = true := decide_eq_true (by omega)
      simp only [slIndexFuncI_L1, List.length_map, ix_at hi, Option.bind_some, h0, cond_true, wrap_succ h hi, hf _ (List.getElem_mem hi)]
      cases p l[i] <;> rfl)
    (fun fu => by
      have h0 : decide ((l.length : Int) < (l.length : Int)) = false := decide_eq_false (by omega)
      simp only [slIndexFuncI_L1, List.length_map, h0, cond_false]) l.length 0 (l.length + 1) (by omega) (by omega) (by omega)
  show slIndexFuncI_L1 l f (l.length + 1) 0 = _
  rw [show (0 : Int) = ((0 : Nat) : Int) from rfl, h1, List.drop_zero, scanP_find]
  unfold idxOf
  cases l.findIdx? p <;> simp
theorem slContainsFuncI_eq {l : List Int} {f : Int → Option Bool} {p : Int → Bool} (h : l.length ≤ 9223372036854775807) (hf : ∀ x ∈ l, f x = some (p x)) : slContainsFuncI_S l f = some (l.any p) := by
  simp only [slContainsFuncI_S, slContainsFuncI_F, slIndexFuncI_eq h hf, Option.bind_some, Option.some.injEq]
  unfold idxOf
  cases hq : l.findIdx? p with
  | none =>
    rw [List.findIdx?_eq_none_iff] at hq
    have : l.any p = false := by rw [List.any_eq_false]; intro x hx; simp [hq x hx]
    rw [this]; decide
  | some k =>
    have hk := List.findIdx?_eq_some_iff_getElem.1 hq
    obtain ⟨h1, h2, _⟩ := hk
    have : l.any p = true := List.any_eq_true.2 ⟨l[k], List.getElem_mem h1, h2⟩
    rw [this]
    exact decide_eq_true (show (k : Int) ≥ 0 by omega)
theorem pindex_eq {l : List Aut} (h : l.length ≤ 9223372036854775807) (id : Int) : pindex_S l id = some (idxOf (fun a => a.ID == id) l) := by
  have h1 := slIndexFuncA_eq (f := fun z0 => pindex_1_S z0 id) (p := fun a => a.ID == id) h fun x _ => rfl
  simp only [pindex_S, pindex_F, h1, Option.bind_some]
def zeroAut : Aut := ⟨0, 0, ⟨0, 0⟩, [], []⟩
def findA (l : List Aut) (id : Int) : Option Aut := l.find? fun a => a.ID == id
theorem scanP_first {α β : Type} (p : α → Bool) (g : α → β) (done : β) : ∀ (l : List α) (i : Nat), scanP (fun _ x => bif p x then some (g x) else none) done i l = match l.find? p with | some x => g x | none => done
  | [], _ => rfl
  | x :: r, i => by
    simp only [scanP, List.find?_cons]
    cases p x with
    | true => rfl
    | false => exact scanP_first p g done r (i + 1)
theorem rFind_eq {l : List Aut} (h : l.length ≤ 9223372036854775807) (id : Int) : rFind_S l id = some (match findA l id with | some a => (a, true) | none => (zeroAut, false)) := by
  have h1 := loop_scanP (rFind_L1 l id) l (fun _ x => bif x.ID == id then some (x, true) else none) (zeroAut, false) h (fun fu i hi => by
      have h0 : decide ((i : Int) < (l.length : Int)) = true := decide_eq_true (by omega)
      simp only [rFind_L1, List.length_map, ix_at hi, Option.bind_some, h0, cond_true, wrap_succ h hi]
      cases l[i].ID == id <;> rfl)
    (fun fu => by
      have h0 : decide ((l.length : Int) < (l.length : Int)) = false := decide_eq_false (by omega)
      simp only [rFind_L1, List.length_map, h0, cond_false, zeroAut]) l.length 0 (l.length + 1) (by omega) (by omega) (by omega)
  show rFind_L1 l id (l.length + 1) 0 = _
  rw [show (0 : Int) = ((0 : Nat) : Int) from rfl, h1, List.drop_zero]
  have := scanP_first (fun a : Aut => a.ID == id) (fun a => (a, true)) (zeroAut, false) l 0
  rw [this]; unfold findA; cases l.find? (fun a : Aut => a.ID == id) <;> rfl
theorem idx_find {l : List Aut} {id : Int} : (idxOf (fun a => a.ID == id) l < 0 ↔ findA l id = none) ∧ ∀ a, findA l id = some a → ix l (idxOf (fun a => a.ID == id) l) = some a := by
  unfold idxOf findA
  cases hq : l.findIdx? (fun a => a.ID == id) with
  | none =>
    rw [List.findIdx?_eq_none_iff] at hq
    have hn : l.find? (fun a => a.ID == id) = none := List.find?_eq_none.2 fun x hx => by simp [hq x hx]
    exact ⟨⟨fun _ => hn, fun _ => by decide⟩, fun a ha => by rw [hn] at ha; exact nomatch ha⟩
  | some k =>
    obtain ⟨h1, h2, h3⟩ := List.findIdx?_eq_some_iff_getElem.1 hq
    have hs : l.find? (fun a => a.ID == id) = some l[k] := by
      rw [List.find?_eq_some_iff_getElem]
      exact ⟨h2, k, h1, rfl, fun j hj => by simpa using h3 j hj⟩
    refine ⟨⟨fun h => ?_, fun h => ?_⟩, fun a ha => ?_⟩
    · exact absurd h (show ¬ ((k : Int) < 0) by omega)
    · rw [hs] at h; exact nomatch h
    · rw [hs] at ha; rw [← Option.some.inj ha]; exact ix_at h1
theorem loop_scanP1 {α β : Type} (lo : Nat) (L : Nat → Int → Option β) (l : List α) (b : Nat → α → Option β) (done : β)
    (hs : ∀ (fu i : Nat) (hi : i < l.length), lo ≤ i → L (fu + 1) (i : Int) = match b i l[i] with | some y => some y | none => L fu ((i + 1 : Nat) : Int))
    (he : ∀ fu, L (fu + 1) (l.length : Int) = some done) : ∀ (n i fu : Nat), l.length - i = n → lo ≤ i → i ≤ l.length → n < fu → L fu (i : Int) = some (scanP b done i (l.drop i))
  | n, i, 0, _, _, _, h => by omega
  | 0, i, fu + 1, h, _, hi, _ => by
    have : i = l.length := by omega
    subst this
    rw [he, List.drop_length]; rfl
  | n + 1, i, fu + 1, h, hlo, _, hf => by
    have hi : i < l.length := by omega
    rw [hs fu i hi hlo, List.drop_eq_getElem_cons hi]
    simp only [scanP]
    cases b i l[i] with
    | some y => rfl
    | none => exact loop_scanP1 lo L l b done hs he n (i + 1) fu (by omega) (by omega) (by omega) (by omega)
theorem scanP_any {α β : Type} (p : α → Bool) (c done : β) : ∀ (l : List α) (i : Nat), scanP (fun _ x => bif p x then some c else none) done i l = bif l.any p then c else done
  | [], _ => rfl
  | x :: r, i => by
    simp only [scanP, List.any_cons]
    cases p x with
    | true => rfl
    | false => exact scanP_any p c done r (i + 1)
def incB (l : List Int) (i : Nat) (x : Int) : Option Int := match l[i - 1]? with
  | some y => bif decide (x ≤ y) then some 5 else none
  | none => none
def nextOrd (a : Aut) : Int := scanP (incB a.Next) 0 1 (a.Next.drop 1)
theorem next_loop {a : Aut} (h : a.Next.length ≤ 9223372036854775807) (L : Nat → Int → Option Int) (fu : Nat) (hfu : a.Next.length < fu)
    (hL : ∀ fu (v : Int), L (fu + 1) v = bif decide (v < ((a.Next.map cInt).length : Int)) then (Option.bind (ix a.Next v) fun x20 => Option.bind (ix a.Next (IntKind.i64.wrap (v - 1))) fun x22 => bif decide (x20 ≤ x22) then some (5) else L fu (IntKind.i64.wrap (v + 1))) else some (0)) :
    L fu 1 = some (nextOrd a) := by
  by_cases h0 : a.Next.length = 0
  · obtain ⟨f, rfl⟩ : ∃ f, fu = f + 1 := ⟨fu - 1, by omega⟩
    have hn : a.Next = [] := List.length_eq_zero_iff.1 h0
    rw [hL]
    simp [nextOrd, hn, scanP]
  · have h1 := loop_scanP1 1 L a.Next (incB a.Next) 0 (fun fu i hi hlo => by
        have h0 : decide ((i : Int) < (a.Next.length : Int)) = true := decide_eq_true (by omega)
        have hi' : i - 1 < a.Next.length := by omega
        simp only [hL, List.length_map, ix_at hi, Option.bind_some, h0, cond_true, wrap_succ h hi, wrap_pred h hi, ix_pred hi hlo, incB, List.getElem?_eq_getElem hi']
        cases decide (a.Next[i] ≤ a.Next[i - 1]) <;> rfl)
      (fun fu => by
        have h0 : decide ((a.Next.length : Int) < (a.Next.length : Int)) = false := decide_eq_false (by omega)
        simp only [hL, List.length_map, h0, cond_false]) (a.Next.length - 1) 1 fu rfl (Nat.le_refl 1) (by omega) (by omega)
    exact h1
def idKind (a : Aut) : Bool := (decide (1 ≤ a.ID) && decide (a.ID ≤ 1073741824)) && ((decide (1 ≤ a.Kind) && decide (a.Kind ≤ 3)) && spanOk a.In)
def tailF (a : Aut) : Int := bif namesF a != 0 then namesF a else bif decide (a.Next.length > 16) then 8 else nextOrd a
def aloneF (prev : Option Aut) (a : Aut) : Int :=
  bif idKind a then (match prev with
    | some b => bif decide (a.ID ≤ b.ID) then 5 else tailF a
    | none => tailF a) else 2
def prevOf (l : List Aut) (i : Nat) : Option Aut := if 0 < i then l[i - 1]? else none
theorem tail_p {a : Aut} (_h : okAut a) (x : Option Int) (hx : x = some (nextOrd a)) :
    (Option.bind (some (namesF a)) fun y16 => bif (y16 != 0) then some (y16) else (bif decide (((a.Next.map cInt).length : Int) > 16) then some (8) else x)) = some (tailF a) := by
  subst hx
  simp only [Option.bind_some, List.length_map, tailF]
  cases namesF a != 0 with
  | true => rfl
  | false =>
    by_cases h2 : a.Next.length > 16
    · have e : decide ((a.Next.length : Int) > 16) = true := decide_eq_true (by omega)
      simp [e, h2]
    · have e : decide ((a.Next.length : Int) > 16) = false := decide_eq_false (by omega)
      simp [e, h2]
theorem rown_eq {l : List Aut} (h : okAuts l) (hf : few l = true) {i : Nat} (hi : i < l.length) : rown_S l (i : Int) = some (aloneF (prevOf l i) l[i]) := by
  have ha := h.2 _ (List.getElem_mem hi)
  have hn := (fewOf_names (few_mem hf (List.getElem_mem hi))).2.1
  have t1 := next_loop (a := l[i]) (by omega) (rown_L1 l[i]) 100 (by omega) (fun fu v => by simp only [rown_L1])
  have t2 := next_loop (a := l[i]) (by omega) (rown_L2 l[i]) 100 (by omega) (fun fu v => by simp only [rown_L2])
  simp only [rown_S, rown_F, ix_at hi, Option.bind_some, rIsSpan_eq, rnames_eq ha.2.2.2.1.1]
  have u1 := tail_p ha _ t1
  have u2 := tail_p ha _ t2
  simp only [Option.bind_some] at u1 u2
  unfold aloneF idKind
  by_cases q1 : 1 ≤ l[i].ID
  · by_cases q2 : l[i].ID ≤ 1073741824
    · by_cases q3 : 1 ≤ l[i].Kind
      · by_cases q4 : l[i].Kind ≤ 3
        · have e1 : decide (l[i].ID < 1) = false := decide_eq_false (by omega)
          have e2 : decide (l[i].ID > 1073741824) = false := decide_eq_false (by omega)
          have e4 : decide (l[i].Kind < 1) = false := decide_eq_false (by omega)
          have e5 : decide (l[i].Kind > 3) = false := decide_eq_false (by omega)
          simp only [e1, e2, e4, e5, cond_false, q1, q2, q3, q4, decide_true, Bool.true_and]
          cases spanOk l[i].In with
          | false => rfl
          | true =>
            simp only [Bool.not_true, cond_false, cond_true]
            by_cases h3 : 0 < i
            · have e3 : decide ((i : Int) > 0) = true := decide_eq_true (by omega)
              have hi' : i - 1 < l.length := by omega
              simp only [e3, cond_true, wrap_pred h.1 hi, ix_pred hi h3, Option.bind_some, prevOf, h3, if_true, List.getElem?_eq_getElem hi']
              cases decide (l[i].ID ≤ l[i - 1].ID) with
              | true => rfl
              | false => exact u1
            · have e3 : decide ((i : Int) > 0) = false := decide_eq_false (by omega)
              simp only [e3, cond_false, prevOf, h3, if_false]
              exact u2
        · have e1 : decide (l[i].ID < 1) = false := decide_eq_false (by omega)
          have e2 : decide (l[i].ID > 1073741824) = false := decide_eq_false (by omega)
          have e4 : decide (l[i].Kind < 1) = false := decide_eq_false (by omega)
          have e5 : decide (l[i].Kind > 3) = true := decide_eq_true (by omega)
          simp [e1, e2, e4, e5, q4]
      · have e1 : decide (l[i].ID < 1) = false := decide_eq_false (by omega)
        have e2 : decide (l[i].ID > 1073741824) = false := decide_eq_false (by omega)
        have e4 : decide (l[i].Kind < 1) = true := decide_eq_true (by omega)
        simp [e1, e2, e4, q3]
    · have e1 : decide (l[i].ID < 1) = false := decide_eq_false (by omega)
      have e2 : decide (l[i].ID > 1073741824) = true := decide_eq_true (by omega)
      simp [e1, e2, q2]
  · have e1 : decide (l[i].ID < 1) = true := decide_eq_true (by omega)
    simp [e1, q1]
def found (l : List Aut) (id : Int) : Aut := (findA l id).getD zeroAut
def gone (l : List Aut) (id : Int) : Bool := (findA l id).isNone
def nextF (l : List Aut) (a : Aut) : Int :=
  bif a.Next.any (gone l) then 7 else bif a.Next.any (fun id => (found l id).Kind != a.Kind) then 10 else bif a.Next.any (fun id => (found l id).In.From != a.In.Until) then 16 else 0
theorem succ1 {l : List Aut} (h : l.length ≤ 9223372036854775807) (id : Int) : psuccessors_1_S id l = some (gone l id) := by
  simp only [psuccessors_1_S, psuccessors_1_F, pindex_eq h, Option.bind_some, Option.some.injEq, gone]
  have := (idx_find (l := l) (id := id)).1
  cases hq : findA l id with
  | none => exact decide_eq_true (this.2 hq)
  | some a => exact decide_eq_false fun hc => by rw [this.1 hc] at hq; exact nomatch hq
theorem found_ix {l : List Aut} {id : Int} (h : gone l id = false) : ix l (idxOf (fun a => a.ID == id) l) = some (found l id) := by
  unfold gone at h
  unfold found
  cases hq : findA l id with
  | none => rw [hq] at h; exact nomatch h
  | some a => exact (idx_find (l := l) (id := id)).2 a hq
theorem psucc_eq {l : List Aut} (h : okAuts l) {i : Nat} (hi : i < l.length) : psuccessors_S l (i : Int) = some (nextF l l[i]) := by
  have ha := (h.2 _ (List.getElem_mem hi)).2.2.2.2.1
  simp only [psuccessors_S, psuccessors_F, ix_at hi, Option.bind_some]
  rw [slContainsFuncI_eq ha fun x _ => succ1 h.1 x]
  simp only [Option.bind_some, nextF]
  cases hg : l[i].Next.any (gone l) with
  | true => rfl
  | false =>
    rw [List.any_eq_false] at hg
    have hg' : ∀ x ∈ l[i].Next, gone l x = false := fun x hx => by simpa using hg x hx
    rw [slContainsFuncI_eq (p := fun id => (found l id).Kind != l[i].Kind) ha fun x hx => by
      simp only [psuccessors_2_S, psuccessors_2_F, pindex_eq h.1, Option.bind_some, found_ix (hg' x hx)]]
    rw [slContainsFuncI_eq (p := fun id => (found l id).In.From != l[i].In.Until) ha fun x hx => by
      simp only [psuccessors_3_S, psuccessors_3_F, pindex_eq h.1, Option.bind_some, found_ix (hg' x hx)]]
    simp only [Option.bind_some, cond_false]
    cases l[i].Next.any (fun id => (found l id).Kind != l[i].Kind) with
    | true => rfl
    | false => cases l[i].Next.any (fun id => (found l id).In.From != l[i].In.Until) <;> rfl
theorem rFind_eq' {l : List Aut} (h : l.length ≤ 9223372036854775807) (id : Int) : rFind_S l id = some (found l id, !(gone l id)) := by
  rw [rFind_eq h]
  unfold found gone
  cases findA l id <;> rfl
theorem rnext_eq {l : List Aut} (h : l.length ≤ 9223372036854775807) {a : Aut} (ha : a.Next.length ≤ 9223372036854775807) : rnext_S l a = some (nextF l a) := by
  have end0 : decide ((a.Next.length : Int) < (a.Next.length : Int)) = false := decide_eq_false (by omega)
  have h3 := loop_scanP (rnext_L3 l a) a.Next (fun _ x => bif (found l x).In.From != a.In.Until then some 16 else none) 0 ha (fun fu i hi => by
      have h0 : decide ((i : Int) < (a.Next.length : Int)) = true := decide_eq_true (by omega)
      simp only [rnext_L3, List.length_map, ix_at hi, Option.bind_some, h0, cond_true, wrap_succ ha hi, rFind_eq' h]
      cases ((found l a.Next[i]).In.From != a.In.Until) <;> rfl)
    (fun fu => by simp only [rnext_L3, List.length_map, end0, cond_false]) a.Next.length 0 (a.Next.length + 1) (by omega) (by omega) (by omega)
  rw [List.drop_zero, scanP_any] at h3
  have h2 := loop_scanP (rnext_L2 l a (a.Next.length + 1)) a.Next (fun _ x => bif (found l x).Kind != a.Kind then some 10 else none) _ ha (fun fu i hi => by
      have h0 : decide ((i : Int) < (a.Next.length : Int)) = true := decide_eq_true (by omega)
      simp only [rnext_L2, List.length_map, ix_at hi, Option.bind_some, h0, cond_true, wrap_succ ha hi, rFind_eq' h]
      cases ((found l a.Next[i]).Kind != a.Kind) <;> rfl)
    (fun fu => by simp only [rnext_L2, List.length_map, end0, cond_false]; exact h3) a.Next.length 0 (a.Next.length + 1) (by omega) (by omega) (by omega)
  rw [List.drop_zero, scanP_any] at h2
  have h1 := loop_scanP (rnext_L1 l a (a.Next.length + 1)) a.Next (fun _ x => bif gone l x then some 7 else none) _ ha (fun fu i hi => by
      have h0 : decide ((i : Int) < (a.Next.length : Int)) = true := decide_eq_true (by omega)
      simp only [rnext_L1, List.length_map, ix_at hi, Option.bind_some, h0, cond_true, wrap_succ ha hi, rFind_eq' h, Bool.not_not]
      cases gone l a.Next[i] <;> rfl)
    (fun fu => by simp only [rnext_L1, List.length_map, end0, cond_false]; exact h2) a.Next.length 0 (a.Next.length + 1) (by omega) (by omega) (by omega)
  rw [List.drop_zero, scanP_any] at h1
  exact h1
def faultB (g : Nat → Aut → Int) (i : Nat) (a : Aut) : Option (Int × Int) := bif g i a != 0 then some ((i : Int), g i a) else none
def checkF (l : List Aut) : Int × Int :=
  bif decide (l.length > 64) then (-1, 8) else scanP (faultB fun i a => aloneF (prevOf l i) a) (scanP (faultB fun _ a => nextF l a) (-1, 0) 0 l) 0 l
theorem pCheck_L2_eq {l : List Aut} (h : l.length ≤ 9223372036854775807) {v2 : Int} {x4 : FuncId} {k : Int → Option (Int × Int)} {N : Nat} (hN : l.length < N) {g : Nat → Aut → Int} {d : Int × Int}
    (hg : ∀ (i : Nat) (hi : i < l.length), pdisp x4 l (i : Int) = some (g i l[i])) (hk : k (IntKind.i64.wrap (v2 + 1)) = some d) : pCheck_L2 l v2 x4 k N 0 = some (scanP (faultB g) d 0 l) := by
  have h1 := loop_scanP (pCheck_L2 l v2 x4 k) l (faultB g) d h (fun fu i hi => by
      have h0 : decide ((i : Int) < (l.length : Int)) = true := decide_eq_true (by omega)
      simp only [pCheck_L2, List.length_map, Option.bind_some, h0, cond_true, wrap_succ h hi, hg i hi, faultB]
      cases (g i l[i] != 0) <;> rfl)
    (fun fu => by
      have h0 : decide ((l.length : Int) < (l.length : Int)) = false := decide_eq_false (by omega)
      simp only [pCheck_L2, List.length_map, h0, cond_false]; exact hk) l.length 0 N (by omega) (by omega) (by omega)
  simpa using h1
theorem rCheck_eq {l : List Aut} (h : okAuts l) (hf : few l = true) : rCheck_S l = some (checkF l) := by
  simp only [rCheck_S, rCheck_F, checkF, List.length_map]
  by_cases h64 : l.length > 64
  · have e : decide ((l.length : Int) > 64) = true := decide_eq_true (by omega)
    simp [e, h64]
  · have e : decide ((l.length : Int) > 64) = false := decide_eq_false (by omega)
    simp only [e, h64, decide_false, cond_false]
    have end0 : decide ((l.length : Int) < (l.length : Int)) = false := decide_eq_false (by omega)
    have h2 := loop_scanP (rCheck_L2 l) l (faultB fun _ a => nextF l a) (-1, 0) h.1 (fun fu i hi => by
        have h0 : decide ((i : Int) < (l.length : Int)) = true := decide_eq_true (by omega)
        simp only [rCheck_L2, List.length_map, ix_at hi, Option.bind_some, h0, cond_true, wrap_succ h.1 hi, rnext_eq h.1 (h.2 _ (List.getElem_mem hi)).2.2.2.2.1, faultB]
        cases (nextF l l[i] != 0) <;> rfl)
      (fun fu => by simp only [rCheck_L2, List.length_map, end0, cond_false]) l.length 0 (l.length + 1) (by omega) (by omega) (by omega)
    rw [List.drop_zero] at h2
    have h1 := loop_scanP (rCheck_L1 l (l.length + 1)) l (faultB fun i a => aloneF (prevOf l i) a) _ h.1 (fun fu i hi => by
        have h0 : decide ((i : Int) < (l.length : Int)) = true := decide_eq_true (by omega)
        simp only [rCheck_L1, List.length_map, Option.bind_some, h0, cond_true, wrap_succ h.1 hi, rown_eq h hf hi, faultB]
        cases (aloneF (prevOf l i) l[i] != 0) <;> rfl)
      (fun fu => by simp only [rCheck_L1, List.length_map, end0, cond_false]; exact h2) l.length 0 (l.length + 1) (by omega) (by omega) (by omega)
    rw [List.drop_zero] at h1
    exact h1
theorem cmpCompare_eq (x y : Int) : cmpCompare_S x y = some (bif decide (x < y) then -1 else bif decide (x > y) then 1 else 0) := by
  simp only [cmpCompare_S, cmpCompare_F, cmpIsNaN_S, cmpIsNaN_F, Option.bind_some, bne_self_eq_false, cond_false]
  cases decide (x < y) <;> cases decide (x > y) <;> rfl
/-- Names that lie in order and apart. -/
def Sorted (n : List Nam) : Prop := (∀ x ∈ n, x.In.From < x.In.Until) ∧ ∀ (i j : Nat) (hj : j < n.length) (hij : i < j), (n[i]'(by omega)).In.Until ≤ n[j].In.From
theorem scanP_q {α β : Type} (Q : β → Prop) (b : Nat → α → Option β) (hb : ∀ j x y, b j x = some y → ¬ Q y) (done : β) : ∀ (l : List α) (i : Nat), Q (scanP b done i l) → Q done ∧ ∀ (j : Nat) (hj : j < l.length), b (i + j) l[j] = none
  | [], _, h => ⟨h, fun j hj => by simp at hj⟩
  | x :: r, i, h => by
    simp only [scanP] at h
    cases hx : b i x with
    | some y => rw [hx] at h; exact absurd h (hb i x y hx)
    | none =>
      rw [hx] at h
      obtain ⟨h1, h2⟩ := scanP_q Q b hb done r (i + 1) h
      refine ⟨h1, fun j hj => ?_⟩
      cases j with
      | zero => exact hx
      | succ j =>
        have := h2 j (by simpa using hj)
        rw [show i + (j + 1) = i + 1 + j by omega]
        exact this
theorem nameB_out {a : Aut} {i : Nat} {x : Nam} {y : Int} (h : nameB a i x = some y) : y ≠ 0 := by
  unfold nameB at h
  cases h1 : nameOk x.Text with
  | false => rw [h1] at h; simp at h; omega
  | true => cases h2 : spanOk x.In with
    | false => rw [h1, h2] at h; simp at h; omega
    | true => cases h3 : decide (x.In.From < a.In.From) with
      | true => rw [h1, h2, h3] at h; simp at h; omega
      | false => cases h4 : decide (x.In.Until > a.In.Until) with
        | true => rw [h1, h2, h3, h4] at h; simp at h; omega
        | false =>
          rw [h1, h2, h3, h4] at h
          simp only [Bool.not_true, cond_false] at h
          split at h
          · rename_i z _ _
            cases hz : decide (x.In.From < z.In.Until) with
            | true => rw [hz] at h; simp at h; omega
            | false => rw [hz] at h; simp at h
          · exact nomatch h
theorem nameB_none {a : Aut} {i : Nat} (hi : i < a.Names.length) (h : nameB a i a.Names[i] = none) : nameOk a.Names[i].Text = true ∧ spanOk a.Names[i].In = true ∧ a.In.From ≤ a.Names[i].In.From ∧ a.Names[i].In.Until ≤ a.In.Until ∧ ∀ h0 : 0 < i, (a.Names[i - 1]'(by omega)).In.Until ≤ a.Names[i].In.From := by
  unfold nameB at h
  cases h1 : nameOk a.Names[i].Text with
  | false => rw [h1] at h; simp at h
  | true => cases h2 : spanOk a.Names[i].In with
    | false => rw [h1, h2] at h; simp at h
    | true => cases h3 : decide (a.Names[i].In.From < a.In.From) with
      | true => rw [h1, h2, h3] at h; simp at h
      | false => cases h4 : decide (a.Names[i].In.Until > a.In.Until) with
        | true => rw [h1, h2, h3, h4] at h; simp at h
        | false =>
          rw [h1, h2, h3, h4] at h
          simp only [Bool.not_true, cond_false] at h
          have h3' := of_decide_eq_false h3
          have h4' := of_decide_eq_false h4
          refine ⟨rfl, rfl, by omega, by omega, fun h0 => ?_⟩
          have hi' : i - 1 < a.Names.length := by omega
          rw [List.getElem?_eq_getElem hi', decide_eq_true h0] at h
          simp only [] at h
          cases h5 : decide (a.Names[i].In.From < a.Names[i - 1].In.Until) with
          | true => rw [h5] at h; simp at h
          | false => have := of_decide_eq_false h5; omega
theorem names_good {a : Aut} (h : namesF a = 0) : a.Names.length ≤ 16 ∧ 0 < a.Names.length ∧ Sorted a.Names ∧ (∀ x ∈ a.Names, nameOk x.Text = true ∧ spanOk x.In = true ∧ a.In.From ≤ x.In.From ∧ x.In.Until ≤ a.In.Until) := by
  unfold namesF at h
  by_cases h0 : a.Names.length = 0
  · simp [h0] at h
  · by_cases h1 : a.Names.length > 16
    · simp [h0, h1] at h
    · simp only [h0, h1, decide_false, cond_false] at h
      obtain ⟨-, h2⟩ := scanP_q (fun y => y = 0) (nameB a) (fun j x y hy => nameB_out hy) 0 a.Names 0 h
      have h3 : ∀ (j : Nat) (hj : j < a.Names.length), nameB a j a.Names[j] = none := fun j hj => by simpa using h2 j hj
      have hsp : ∀ x ∈ a.Names, x.In.From < x.In.Until := fun x hx => by
        obtain ⟨k, hk, rfl⟩ := List.getElem_of_mem hx
        have := (nameB_none hk (h3 k hk)).2.1
        simp only [spanOk, Bool.and_eq_true, decide_eq_true_eq] at this
        exact this.2.1
      refine ⟨by omega, by omega, ⟨hsp, fun i j hj hij => ?_⟩, fun x hx => ?_⟩
      · induction j with
        | zero => omega
        | succ j ih =>
          have hstep := (nameB_none hj (h3 (j + 1) hj)).2.2.2.2 (by omega)
          have hstep' : a.Names[j].In.Until ≤ a.Names[j + 1].In.From := hstep
          by_cases hc : i = j
          · subst hc; exact hstep'
          · have h5 := ih (by omega) (by omega)
            have h6 := hsp _ (List.getElem_mem (show j < a.Names.length by omega))
            omega
      · obtain ⟨k, hk, rfl⟩ := List.getElem_of_mem hx
        have := nameB_none hk (h3 k hk)
        exact ⟨this.1, this.2.1, this.2.2.1, this.2.2.2.1⟩
theorem check_good {l : List Aut} (h : (checkF l).2 = 0) : l.length ≤ 64 ∧ (∀ (j : Nat) (hj : j < l.length), aloneF (prevOf l j) l[j] = 0) ∧ ∀ (j : Nat) (hj : j < l.length), nextF l l[j] = 0 := by
  unfold checkF at h
  by_cases h64 : l.length > 64
  · simp [h64] at h
  · simp only [h64, decide_false, cond_false] at h
    have hb : ∀ (g : Nat → Aut → Int) (j : Nat) (x : Aut) (y : Int × Int), faultB g j x = some y → ¬ y.2 = 0 := fun g j x y hy => by
      unfold faultB at hy
      cases hg : g j x != 0 with
      | false => rw [hg] at hy; exact nomatch hy
      | true =>
        rw [hg] at hy
        simp only [cond_true, Option.some.injEq] at hy
        subst hy
        simpa using hg
    have hz : ∀ (g : Nat → Aut → Int) (j : Nat) (x : Aut), faultB g j x = none → g j x = 0 := fun g j x hy => by
      unfold faultB at hy
      cases hg : g j x != 0 with
      | false => simpa using hg
      | true => rw [hg] at hy; exact nomatch hy
    obtain ⟨h1, h2⟩ := scanP_q (fun y : Int × Int => y.2 = 0) _ (hb _) _ l 0 h
    obtain ⟨_, h3⟩ := scanP_q (fun y : Int × Int => y.2 = 0) _ (hb _) _ l 0 h1
    exact ⟨by omega, fun j hj => by have := hz _ _ _ (h2 j hj); simpa using this, fun j hj => hz _ _ _ (h3 j hj)⟩
theorem tail_any {a : Aut} (_h : okAut a) (x : Option Int) (hx : a.Next.length ≤ 16 → x = some (nextOrd a)) :
    (Option.bind (some (namesF a)) fun y16 => bif (y16 != 0) then some (y16) else (bif decide (((a.Next.map cInt).length : Int) > 16) then some (8) else x)) = some (tailF a) := by
  simp only [Option.bind_some, List.length_map, tailF]
  cases namesF a != 0 with
  | true => rfl
  | false =>
    by_cases h2 : a.Next.length > 16
    · have e : decide ((a.Next.length : Int) > 16) = true := decide_eq_true (by omega)
      simp [e, h2]
    · rw [hx (by omega)]
      have e : decide ((a.Next.length : Int) > 16) = false := decide_eq_false (by omega)
      simp [e, h2]
theorem palone_any {l : List Aut} (h : okAuts l) {i : Nat} (hi : i < l.length) : palone_S l (i : Int) = some (aloneF (prevOf l i) l[i]) := by
  have ha := h.2 _ (List.getElem_mem hi)
  have t1 := fun hn : l[i].Next.length ≤ 16 => next_loop (a := l[i]) (by omega) (palone_L1 l[i]) (l.length + 100) (by omega) (fun fu v => by simp only [palone_L1])
  have t2 := fun hn : l[i].Next.length ≤ 16 => next_loop (a := l[i]) (by omega) (palone_L2 l[i]) (l.length + 100) (by omega) (fun fu v => by simp only [palone_L2])
  simp only [palone_S, palone_F, ix_at hi, Option.bind_some, pwithin_eq, pspans_eq, pnames_eq ha.2.2.2.1.1]
  have u1 := tail_any ha _ t1
  have u2 := tail_any ha _ t2
  simp only [Option.bind_some] at u1 u2
  unfold aloneF idKind
  cases (decide (1 ≤ l[i].ID) && decide (l[i].ID ≤ 1073741824)) with
  | false => rfl
  | true => cases (decide (1 ≤ l[i].Kind) && decide (l[i].Kind ≤ 3)) with
    | false => rfl
    | true => cases spanOk l[i].In with
      | false => rfl
      | true =>
        simp only [Bool.not_true, cond_false, Bool.true_and, cond_true]
        by_cases h3 : 0 < i
        · have e3 : decide ((i : Int) > 0) = true := decide_eq_true (by omega)
          have hi' : i - 1 < l.length := by omega
          simp only [e3, cond_true, wrap_pred h.1 hi, ix_pred hi h3, Option.bind_some, prevOf, h3, if_true, List.getElem?_eq_getElem hi']
          cases decide (l[i].ID ≤ l[i - 1].ID) with
          | true => rfl
          | false => exact u1
        · have e3 : decide ((i : Int) > 0) = false := decide_eq_false (by omega)
          simp only [e3, cond_false, prevOf, h3, if_false]
          exact u2
theorem pCheck_any {l : List Aut} (h : okAuts l) : pCheck_S l = some (checkF l) := by
  simp only [pCheck_S, pCheck_F, checkF, List.length_map]
  by_cases h64 : l.length > 64
  · have e : decide ((l.length : Int) > 64) = true := decide_eq_true (by omega)
    simp [e, h64]
  · have e : decide ((l.length : Int) > 64) = false := decide_eq_false (by omega)
    simp only [e, h64, decide_false, cond_false]
    have k2 : ∀ fu, pCheck_L1 l (l.length + 3) (fu + 1) 2 = some ((-1), 0) := fun fu => by simp only [pCheck_L1]; rfl
    have k1 : ∀ fu, pCheck_L1 l (l.length + 3) (fu + 2) 1 = some (scanP (faultB fun _ a => nextF l a) (-1, 0) 0 l) := fun fu => by
      show pCheck_L2 l 1 74 (fun v2 => pCheck_L1 l (l.length + 3) (fu + 1) v2) (l.length + 3) 0 = _
      exact pCheck_L2_eq h.1 (by omega) (fun i hi => psucc_eq h hi) (k2 fu)
    show pCheck_L2 l 0 73 (fun v2 => pCheck_L1 l (l.length + 3) (l.length + 2) v2) (l.length + 3) 0 = _
    exact pCheck_L2_eq h.1 (by omega) (fun i hi => palone_any h hi) (k1 l.length)
theorem slIndex_eq {l : List Int} (h : l.length ≤ 9223372036854775807) (v : Int) : slIndex_S l v = some (idxOf (fun x => v == x) l) := by
  have h1 := loop_scanP (slIndex_L1 l v) l (fun i x => bif v == x then some (i : Int) else none) (-1) h (fun fu i hi => by
      have h0 : decide ((i : Int) < (l.length : Int)) = true := decide_eq_true (by omega)
      simp only [slIndex_L1, List.length_map, ix_at hi, Option.bind_some, h0, cond_true, wrap_succ h hi]
      cases v == l[i] <;> rfl)
    (fun fu => by
      have h0 : decide ((l.length : Int) < (l.length : Int)) = false := decide_eq_false (by omega)
      simp only [slIndex_L1, List.length_map, h0, cond_false]) l.length 0 (l.length + 1) (by omega) (by omega) (by omega)
  show slIndex_L1 l v (l.length + 1) 0 = _
  rw [show (0 : Int) = ((0 : Nat) : Int) from rfl, h1, List.drop_zero, scanP_find (fun x => v == x)]
  unfold idxOf
  cases l.findIdx? (fun x => v == x) <;> simp
theorem idxOf_nn {α : Type} (p : α → Bool) (l : List α) : decide (idxOf p l ≥ 0) = l.any p := by
  unfold idxOf
  cases hq : l.findIdx? p with
  | none =>
    rw [List.findIdx?_eq_none_iff] at hq
    have : l.any p = false := by rw [List.any_eq_false]; intro x hx; simp [hq x hx]
    rw [this]; decide
  | some k =>
    obtain ⟨h1, h2, _⟩ := List.findIdx?_eq_some_iff_getElem.1 hq
    have : l.any p = true := List.any_eq_true.2 ⟨l[k], List.getElem_mem h1, h2⟩
    rw [this]
    exact decide_eq_true (show (k : Int) ≥ 0 by omega)
theorem slContains_eq {l : List Int} (h : l.length ≤ 9223372036854775807) (v : Int) : slContains_S l v = some (l.any fun x => v == x) := by
  simp only [slContains_S, slContains_F, slIndex_eq h, Option.bind_some, idxOf_nn]
theorem alone_prev {p a : Aut} (h : aloneF (some p) a = 0) : p.ID < a.ID := by
  unfold aloneF at h
  cases hk : idKind a with
  | false => rw [hk] at h; simp at h
  | true =>
    rw [hk] at h
    simp only [cond_true] at h
    cases hd : decide (a.ID ≤ p.ID) with
    | true => rw [hd] at h; simp at h
    | false => have := of_decide_eq_false hd; omega
theorem pairwise_of_next {α : Type} (R : α → α → Prop) (ht : ∀ a b c, R a b → R b c → R a c) : ∀ l : List α, (∀ (i : Nat) (h : i + 1 < l.length), R l[i] l[i + 1]) → l.Pairwise R
  | [], _ => .nil
  | [x], _ => by simp
  | x :: y :: r, h => by
    have ih := pairwise_of_next R ht (y :: r) fun i hi => h (i + 1) (by simpa using hi)
    have hxy : R x y := h 0 (by simp)
    refine .cons (fun z hz => ?_) ih
    rcases List.mem_cons.1 hz with rfl | hz
    · exact hxy
    · exact ht _ _ _ hxy ((List.pairwise_cons.1 ih).1 z hz)
theorem right_sorted {l : List Aut} (h : (checkF l).2 = 0) : l.Pairwise fun a b => a.ID < b.ID := by
  refine pairwise_of_next (fun a b : Aut => a.ID < b.ID) (fun _ _ _ h1 h2 => Int.lt_trans h1 h2) l fun i hi => ?_
  have := (check_good h).2.1 (i + 1) hi
  rw [show prevOf l (i + 1) = some l[i] by simp [prevOf, List.getElem?_eq_getElem (show i < l.length by omega)]] at this
  exact alone_prev this
theorem alone_iff {p : Option Aut} {a : Aut} : aloneF p a = 0 ↔ idKind a = true ∧ (∀ b, p = some b → b.ID < a.ID) ∧ tailF a = 0 := by
  unfold aloneF
  cases hk : idKind a with
  | false => simp
  | true =>
    simp only [cond_true, true_and]
    cases p with
    | none => simp
    | some b =>
      simp only [Option.some.injEq]
      by_cases hd : a.ID ≤ b.ID
      · rw [decide_eq_true hd, cond_true]
        constructor
        · intro h; omega
        · rintro ⟨h, -⟩; have := h b rfl; omega
      · rw [decide_eq_false hd, cond_false]
        constructor
        · intro h; exact ⟨fun c hc => by rw [← hc]; omega, h⟩
        · rintro ⟨-, h⟩; exact h
theorem tail_next {a : Aut} (h : tailF a = 0) : a.Next.length ≤ 16 ∧ namesF a = 0 := by
  unfold tailF at h
  cases hn : namesF a != 0 with
  | true => rw [hn, cond_true] at h; rw [h] at hn; simp at hn
  | false =>
    rw [hn, cond_false] at h
    refine ⟨?_, by simpa using hn⟩
    by_cases h2 : a.Next.length > 16
    · rw [decide_eq_true h2] at h; simp at h
    · omega
theorem next_iff {l : List Aut} {a : Aut} : nextF l a = 0 ↔ ∀ id ∈ a.Next, gone l id = false ∧ (found l id).Kind = a.Kind ∧ (found l id).In.From = a.In.Until := by
  unfold nextF
  constructor
  · intro h
    cases h1 : a.Next.any (gone l) with
    | true => rw [h1] at h; simp at h
    | false =>
      rw [h1, cond_false] at h
      cases h2 : a.Next.any (fun id => (found l id).Kind != a.Kind) with
      | true => rw [h2] at h; simp at h
      | false =>
        rw [h2, cond_false] at h
        cases h3 : a.Next.any (fun id => (found l id).In.From != a.In.Until) with
        | true => rw [h3] at h; simp at h
        | false =>
          rw [List.any_eq_false] at h1 h2 h3
          intro id hid
          exact ⟨by simpa using h1 id hid, by simpa using h2 id hid, by simpa using h3 id hid⟩
  · intro h
    have h1 : a.Next.any (gone l) = false := by rw [List.any_eq_false]; intro id hid; simp [(h id hid).1]
    have h2 : a.Next.any (fun id => (found l id).Kind != a.Kind) = false := by rw [List.any_eq_false]; intro id hid; simp [(h id hid).2.1]
    have h3 : a.Next.any (fun id => (found l id).In.From != a.In.Until) = false := by rw [List.any_eq_false]; intro id hid; simp [(h id hid).2.2]
    rw [h1, h2, h3]; rfl
open Go Go.Abs
end Go.Proofs.YtdoldlbcjcfmdaaGreat
