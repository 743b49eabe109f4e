/- authority's name: strings.Contains and strings.ContainsFunc come to the same. -/
import Derived.Test.YtgpojnenbmlcbaaDoorLName
namespace Go.Proofs.YtgpojnenbmlcbaaDoor
open Go Go.Abs

theorem noTwo_true : ∀ l : Str, noTwo true l = (!(l.head? == some 32) && noTwo false l)
  | [] => rfl
  | c :: r => by
    simp only [noTwo, List.head?_cons, Bool.true_and, Bool.false_and, Bool.not_false]
    rfl
theorem contains_eq : ∀ s : Str, Lib.contains s [32, 32] = !(noTwo false s)
  | [] => by decide
  | b :: l => by
    have ih := contains_eq l
    have hge := Lib.index_ge l [32, 32]
    unfold Lib.contains at ih ⊢
    unfold Lib.index
    simp only [noTwo, Bool.false_and, Bool.not_false, Bool.true_and]
    cases hb : b == 32 with
    | false =>
      have hp : List.isPrefixOf [32, 32] (b :: l) = false := by
        have : (32 == b) = false := by rw [BEq.comm]; exact hb
        simp [List.isPrefixOf, this]
      rw [hp, ← ih]
      by_cases hi : Lib.index l [32, 32] = -1
      · simp [hi]
      · simp only [Bool.false_eq_true, if_false, beq_iff_eq, hi, decide_eq_decide]
        omega
    | true =>
      have hb' : b = 32 := by simpa using hb
      subst hb'
      rw [noTwo_true, Bool.not_and, ← ih]
      cases l with
      | nil => decide
      | cons c r =>
        cases hc : c == 32 with
        | true =>
          have hc' : c = 32 := by simpa using hc
          subst hc'
          have hp : List.isPrefixOf [32, 32] (32 :: 32 :: r) = true := by simp [List.isPrefixOf]
          rw [if_pos hp]
          simp
        | false =>
          have hp : List.isPrefixOf [32, 32] (32 :: c :: r) = false := by
            have : (32 == c) = false := by rw [BEq.comm]; exact hc
            simp [List.isPrefixOf, this]
          have hh : ((c :: r).head? == some (32 : UInt8)) = false := hc
          rw [hp, hh]
          by_cases hi : Lib.index (c :: r) [32, 32] = -1
          · simp [hi]
          · simp only [Bool.false_eq_true, if_false, beq_iff_eq, hi, Bool.not_false, Bool.not_true, Bool.false_or, decide_eq_decide]
            omega

theorem get_at {s : Str} {i : Nat} (h : i < s.length) : (ByteArray.mk ⟨s⟩).get! i = s[i] := by
  show (Array.mk s)[i]! = s[i]
  rw [getElem!_pos (Array.mk s) i h]
  rfl
theorem decode_hi {n b0 b1 b2 b3 : Nat} (h : 128 ≤ b0) : 126 < (Lib.decodeN n b0 b1 b2 b3).1 := by
  unfold Lib.decodeN
  rw [if_neg (by omega)]
  repeat' split
  all_goals (simp only; omega)
theorem idx_eq (s : Str) : ∀ (f pos : Nat), s.length - pos ≤ f → decide (0 ≤ Lib.idxFuncFrom badRune true ⟨⟨s⟩⟩ f pos) = !((s.drop pos).all goodByte)
  | 0, pos, h => by
    rw [List.drop_eq_nil_of_le (by omega)]; rfl
  | f + 1, pos, h => by
    have hsz : (ByteArray.mk ⟨s⟩).size = s.length := rfl
    unfold Lib.idxFuncFrom
    rw [hsz]
    by_cases hp : pos < s.length
    · rw [if_pos hp, List.drop_eq_getElem_cons hp, List.all_cons, Lib.decode_at, hsz, get_at hp]
      by_cases hb : s[pos].toNat < 128
      · have hd : ∀ n b1 b2 b3, Lib.decodeN n s[pos].toNat b1 b2 b3 = (s[pos].toNat, 1) := fun n b1 b2 b3 => by simp [Lib.decodeN, hb]
        rw [hd]
        have hg : badRune s[pos].toNat = !goodByte s[pos] := by
          unfold badRune goodByte
          by_cases h1 : s[pos].toNat < 32 <;> by_cases h2 : 126 < s[pos].toNat <;> simp [h1, h2] <;> omega
        simp only [hg]
        cases goodByte s[pos] with
        | false => simp
        | true => simpa using idx_eq s f (pos + 1) (by omega)
      · have hr := decode_hi (n := s.length - pos) (b1 := ((ByteArray.mk ⟨s⟩).get! (pos + 1)).toNat) (b2 := ((ByteArray.mk ⟨s⟩).get! (pos + 2)).toNat) (b3 := ((ByteArray.mk ⟨s⟩).get! (pos + 3)).toNat) (Nat.le_of_not_lt hb)
        have hbad : ∀ x, 126 < x → badRune x = true := fun x hx => by simp [badRune, hx]
        have hg : goodByte s[pos] = false := by
          unfold goodByte
          have : ¬ s[pos].toNat ≤ 126 := by omega
          simp [this]
        rw [hbad _ hr, hg]
        simp
    · rw [if_neg hp, List.drop_eq_nil_of_le (by omega)]; rfl
theorem pname_eq (s : Str) : pname_S s = some (nameOk s) := by
  simp only [pname_S, pname_F, nameOk]
  by_cases h1 : 1 ≤ s.length
  · have e1 : decide ((s.length : Int) < 1) = false := decide_eq_false (by omega)
    by_cases h2 : s.length ≤ 64
    · have e2 : decide ((s.length : Int) > 64) = false := decide_eq_false (by omega)
      have hi : 0 < s.length := h1
      have hl : s.length - 1 < s.length := by omega
      have q0 : ix s 0 = some s[0] := ix_at hi
      have ql : ix s ((s.length : Int) - 1) = some s[s.length - 1] := by
        have : (s.length : Int) - 1 = ((s.length - 1 : Nat) : Int) := by omega
        rw [this]; exact ix_at hl
      have e3 : s.head? = some s[0] := by rw [List.head?_eq_getElem?, List.getElem?_eq_getElem hi]
      have e4 : s.getLast? = some s[s.length - 1] := by rw [List.getLast?_eq_getElem?, List.getElem?_eq_getElem hl]
      have hw : IntKind.i64.wrap ((s.length : Int) - 1) = (s.length : Int) - 1 := wrap_id (by unfold okI; omega)
      have hc : sContains_S s [32, 32] = some (!(noTwo false s)) := by
        unfold sContains_S
        rw [decide_eq_true (by omega), contains_eq]; rfl
      have hf : ∀ g, sContainsFunc_S s g = some (!(s.all goodByte)) := fun g => by
        unfold sContainsFunc_S Lib.idxFunc
        rw [idx_eq s _ 0 (by show s.length - 0 ≤ s.length; omega), List.drop_zero]
      simp only [e1, e2, cond_false, q0, hw, ql, Option.bind_some, b32, e3, e4, h1, h2, decide_true, Bool.true_and, hc, hf]
      have z0 : (some s[0] == some (32 : UInt8)) = (s[0] == 32) := rfl
      have zl : (some s[s.length - 1] == some (32 : UInt8)) = (s[s.length - 1] == 32) := rfl
      rw [z0, zl]
      cases (s[0] == 32) <;> cases (s[s.length - 1] == 32) <;> cases s.all goodByte <;> cases noTwo false s <;> simp
    · have e2 : decide ((s.length : Int) > 64) = true := decide_eq_true (by omega)
      simp [e1, e2, h1, h2]
  · have e1 : decide ((s.length : Int) < 1) = true := decide_eq_true (by omega)
    simp [e1, h1]
end Go.Proofs.YtgpojnenbmlcbaaDoor
