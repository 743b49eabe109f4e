/- What a name is: both ways of the program come to it. -/
import Derived.Test.YtgpojnenbmlcbaaDoorLCopy
namespace Go.Proofs.YtgpojnenbmlcbaaDoor
open Go Go.Abs

def goodByte (c : UInt8) : Bool := decide (32 ≤ c.toNat) && decide (c.toNat ≤ 126)
/-- No two spaces side by side; p is the byte before. -/
def noTwo : Bool → Str → Bool
  | _, [] => true
  | p, c :: r => !(p && c == 32) && noTwo (c == 32) r
/-- The loop of IsName: all bytes good, no two spaces side by side. -/
def nameLoop : Bool → Str → Bool
  | _, [] => true
  | p, c :: r => goodByte c && (!(p && c == 32) && nameLoop (c == 32) r)
theorem nameLoop_eq : ∀ (p : Bool) (s : Str), nameLoop p s = (s.all goodByte && noTwo p s)
  | _, [] => rfl
  | p, c :: r => by
    simp only [nameLoop, List.all_cons, noTwo, nameLoop_eq (c == 32) r]
    cases goodByte c <;> cases (p && c == 32) <;> simp
def nameOk (s : Str) : Bool := decide (1 ≤ s.length) && (decide (s.length ≤ 64) && (!(s.head? == some 32) && (!(s.getLast? == some 32) && (s.all goodByte && noTwo false s))))

theorem b32 (c : UInt8) : ((c.toNat : Int) == 32) = (c == 32) := by
  rw [Bool.eq_iff_iff]
  simp only [beq_iff_eq]
  constructor
  · intro h
    apply UInt8.toNat_inj.1
    show c.toNat = 32
    omega
  · rintro rfl; rfl

def prevSp (s : Str) (i : Nat) : Bool := decide (0 < i) && (s[i - 1]? == some 32)
theorem rIsName_loop {s : Str} (hs : s.length ≤ 9223372036854775807) : ∀ (n i fu : Nat), s.length - i = n → i ≤ s.length → n < fu → rIsName_L1 s fu (i : Int) = some (nameLoop (prevSp s i) (s.drop i))
  | n, i, 0, _, _, h => by omega
  | 0, i, fu + 1, hn, hi, _ => by
    have : i = s.length := by omega
    subst this
    have h0 : decide ((s.length : Int) < (s.length : Int)) = false := decide_eq_false (by omega)
    simp only [rIsName_L1, h0, cond_false, List.drop_length, nameLoop]
  | n + 1, i, fu + 1, hn, _, hf => by
    have hi : i < s.length := by omega
    have h0 : decide ((i : Int) < (s.length : Int)) = true := decide_eq_true (by omega)
    have ih := rIsName_loop hs n (i + 1) fu (by omega) (by omega) (by omega)
    have hp : prevSp s (i + 1) = (s[i] == 32) := by
      simp [prevSp, List.getElem?_eq_getElem hi]
    rw [hp] at ih
    rw [List.drop_eq_getElem_cons hi]
    simp only [rIsName_L1, ix_at hi, Option.bind_some, h0, cond_true, wrap_succ hs hi, nameLoop, b32, ih]
    by_cases h1 : 32 ≤ s[i].toNat
    · have e1 : decide ((s[i].toNat : Int) < 32) = false := decide_eq_false (by omega)
      by_cases h2 : s[i].toNat ≤ 126
      · have e2 : decide ((s[i].toNat : Int) > 126) = false := decide_eq_false (by omega)
        have eg : goodByte s[i] = true := by simp [goodByte, h1, h2]
        simp only [e1, e2, eg, cond_false, Bool.true_and]
        by_cases h3 : 0 < i
        · have e3 : decide ((i : Int) > 0) = true := decide_eq_true (by omega)
          have hi' : i - 1 < s.length := by omega
          have e4 : prevSp s i = (s[i - 1] == 32) := by simp [prevSp, h3, List.getElem?_eq_getElem hi']
          simp only [e3, cond_true, wrap_pred hs hi, ix_pred hi h3, Option.bind_some, e4]
          cases (s[i] == 32) <;> cases (s[i - 1] == 32) <;> simp
        · have e3 : decide ((i : Int) > 0) = false := decide_eq_false (by omega)
          have e4 : prevSp s i = false := by simp [prevSp, h3]
          simp only [e3, cond_false, e4, Bool.false_and, Bool.not_false, Bool.true_and]
      · have e2 : decide ((s[i].toNat : Int) > 126) = true := decide_eq_true (by omega)
        have eg : goodByte s[i] = false := by simp [goodByte, h2]
        simp only [e1, e2, eg, cond_false, cond_true, Bool.false_and]
    · have e1 : decide ((s[i].toNat : Int) < 32) = true := decide_eq_true (by omega)
      have eg : goodByte s[i] = false := by simp [goodByte, h1]
      simp only [e1, eg, cond_true, Bool.false_and]
theorem rIsName_eq (s : Str) : rIsName_S s = some (nameOk s) := by
  simp only [rIsName_S, rIsName_F, nameOk]
  by_cases h1 : 1 ≤ s.length
  · have e1 : decide ((s.length : Int) < 1) = false := decide_eq_false (by omega)
    by_cases h2 : s.length ≤ 64
    · have e2 : decide ((s.length : Int) > 64) = false := decide_eq_false (by omega)
      have hi : 0 < s.length := h1
      have hl : s.length - 1 < s.length := by omega
      have q0 : ix s 0 = some s[0] := ix_at hi
      have ql : ix s ((s.length : Int) - 1) = some s[s.length - 1] := ix_pred (l := s ++ [0]) (by simp) h1 |> fun _ => by
        have : (s.length : Int) - 1 = ((s.length - 1 : Nat) : Int) := by omega
        rw [this]; exact ix_at hl
      have e3 : s.head? = some s[0] := by rw [List.head?_eq_getElem?, List.getElem?_eq_getElem hi]
      have e4 : s.getLast? = some s[s.length - 1] := by rw [List.getLast?_eq_getElem?, List.getElem?_eq_getElem hl]
      have hL := rIsName_loop (s := s) (by omega) s.length 0 (s.length + 1) (by omega) (by omega) (by omega)
      have hw : IntKind.i64.wrap ((s.length : Int) - 1) = (s.length : Int) - 1 := wrap_id (by unfold okI; omega)
      have hL' : rIsName_L1 s (s.length + 1) 0 = some (s.all goodByte && noTwo false s) := by
        rw [← nameLoop_eq]; simpa [prevSp] using hL
      simp only [e1, e2, cond_false, q0, hw, ql, Option.bind_some, b32, e3, e4, h1, h2, decide_true, Bool.true_and, hL']
      have z0 : (some s[0] == some (32 : UInt8)) = (s[0] == 32) := rfl
      have zl : (some s[s.length - 1] == some (32 : UInt8)) = (s[s.length - 1] == 32) := rfl
      rw [z0, zl]
      cases (s[0] == 32) <;> cases (s[s.length - 1] == 32) <;> simp
    · have e2 : decide ((s.length : Int) > 64) = true := decide_eq_true (by omega)
      simp [e1, e2, h1, h2]
  · have e1 : decide ((s.length : Int) < 1) = true := decide_eq_true (by omega)
    simp [e1, h1]
end Go.Proofs.YtgpojnenbmlcbaaDoor
