/- Numbers from 1 to 999 and their texts; the pieces between dots. -/
import Derived.Test.YtjoacimgcepjdaaGreatDoorLGen
import Derived.Lib.SplitLaws
import Derived.Lib.IndexBytes
set_option linter.unusedSimpArgs false
set_option linter.unusedVariables false
namespace Go.Proofs.YtjoacimgcepjdaaGreatDoor
open Go Go.Abs

def digs (n : Nat) : Str := if n < 10 then [UInt8.ofNat (48 + n)] else if n < 100 then [UInt8.ofNat (48 + n / 10), UInt8.ofNat (48 + n % 10)] else [UInt8.ofNat (48 + n / 100), UInt8.ofNat (48 + n / 10 % 10), UInt8.ofNat (48 + n % 10)]
def d1 (a : UInt8) : Bool := decide (49 ≤ a.toNat) && decide (a.toNat ≤ 57)
def d0 (a : UInt8) : Bool := decide (48 ≤ a.toNat) && decide (a.toNat ≤ 57)
def numV : Str → Option Nat
  | [a] => if d1 a = true then some (a.toNat - 48) else none
  | [a, b] => if d1 a = true ∧ d0 b = true then some (10 * (a.toNat - 48) + (b.toNat - 48)) else none
  | [a, b, c] => if d1 a = true ∧ d0 b = true ∧ d0 c = true then some (100 * (a.toNat - 48) + 10 * (b.toNat - 48) + (c.toNat - 48)) else none
  | _ => none
theorem d0_iff {a : UInt8} : d0 a = true ↔ 48 ≤ a.toNat ∧ a.toNat ≤ 57 := by simp [d0]
theorem d1_iff {a : UInt8} : d1 a = true ↔ 49 ≤ a.toNat ∧ a.toNat ≤ 57 := by simp [d1]
theorem num_digs : ∀ n : Nat, n < 1000 → 1 ≤ n → numV (digs n) = some n := by decide +kernel
theorem atoi_digs : ∀ n : Nat, n < 1000 → 1 ≤ n → Lib.atoiAll (digs n) = .ok (n : Int) := by decide +kernel
theorem digs_nodot : ∀ n : Nat, n < 1000 → (digs n).all (fun c => c != 46) = true ∧ 1 ≤ (digs n).length ∧ (digs n).length ≤ 3 := by decide +kernel
theorem ofNat_eq {a : UInt8} {k : Nat} (h : k = a.toNat) : UInt8.ofNat k = a := by subst h; simp
theorem num_spec {s : Str} {n : Nat} (h : numV s = some n) : s = digs n ∧ 1 ≤ n ∧ n < 1000 := by
  unfold numV at h
  split at h
  · rename_i a
    split at h
    · rename_i ha
      rw [d1_iff] at ha
      obtain rfl := Option.some.inj h
      refine ⟨?_, by omega, by omega⟩
      unfold digs
      rw [if_pos (by omega), ofNat_eq (a := a) (by omega)]
    · cases h
  · rename_i a b
    split at h
    · rename_i hab
      rw [d1_iff, d0_iff] at hab
      obtain rfl := Option.some.inj h
      refine ⟨?_, by omega, by omega⟩
      unfold digs
      rw [if_neg (by omega), if_pos (by omega), ofNat_eq (a := a) (by omega), ofNat_eq (a := b) (by omega)]
    · cases h
  · rename_i a b c
    split at h
    · rename_i hab
      rw [d1_iff, d0_iff, d0_iff] at hab
      obtain rfl := Option.some.inj h
      refine ⟨?_, by omega, by omega⟩
      unfold digs
      rw [if_neg (by omega), if_neg (by omega), ofNat_eq (a := a) (by omega), ofNat_eq (a := b) (by omega), ofNat_eq (a := c) (by omega)]
    · cases h
  · cases h
theorem itoa_digs {n : Nat} (h : n < 1000) : Lib.itoa (n : Int) = digs n := by
  unfold Lib.itoa
  rw [if_neg (by omega), Int.toNat_natCast]
  unfold digs
  by_cases h1 : n < 10
  · rw [if_pos h1, Lib.decDigits, dif_pos h1]
  · rw [if_neg h1, Lib.decDigits, dif_neg h1]
    by_cases h2 : n < 100
    · rw [if_pos h2, Lib.decDigits, dif_pos (by omega)]; rfl
    · rw [if_neg h2, Lib.decDigits, dif_neg (by omega), Lib.decDigits, dif_pos (by omega)]
      have : n / 10 / 10 = n / 100 := by omega
      rw [this]; rfl
theorem itoa_ok {n : Nat} (h : n < 1000) : itoa_S (n : Int) = some (digs n) := by
  unfold itoa_S
  have : (decide (-9223372036854775808 ≤ (n : Int)) && decide ((n : Int) ≤ 9223372036854775807)) = true := by simp; omega
  rw [this, cond_true, itoa_digs h]
/-- What the program finds out of one part. -/
theorem atoi_part {s : Str} (hs : s.length ≤ 281474976710656) : ∃ y, atoi_S s = some y ∧
    ((∃ n, numV s = some n ∧ y = ((n : Int), false)) ∨ (numV s = none ∧ (y.2 = true ∨ y.1 < 1 ∨ y.1 > 999 ∨ (1 ≤ y.1 ∧ y.1 ≤ 999 ∧ ∃ t, itoa_S y.1 = some t ∧ (t == s) = false)))) := by
  refine ⟨atoiV s, by unfold atoi_S; rw [decide_eq_true hs]; rfl, ?_⟩
  cases hn : numV s with
  | some n =>
    obtain ⟨rfl, h1, h2⟩ := num_spec hn
    refine .inl ⟨n, rfl, ?_⟩
    unfold atoiV
    rw [atoi_digs n h2 h1]
  | none =>
    refine .inr ⟨rfl, ?_⟩
    by_cases h1 : (atoiV s).2 = true
    · exact .inl h1
    · by_cases h2 : (atoiV s).1 < 1
      · exact .inr (.inl h2)
      · by_cases h3 : (atoiV s).1 > 999
        · exact .inr (.inr (.inl h3))
        · refine .inr (.inr (.inr ⟨by omega, by omega, ?_⟩))
          obtain ⟨m, hm⟩ : ∃ m : Nat, (atoiV s).1 = (m : Int) := ⟨(atoiV s).1.toNat, by omega⟩
          rw [hm]
          refine ⟨digs m, itoa_ok (by omega), ?_⟩
          cases hq : digs m == s with
          | false => rfl
          | true =>
            have : digs m = s := by simpa using hq
            rw [← this, num_digs m (by omega) (by omega)] at hn
            cases hn

/-- The pieces of a string between its dots. -/
def pieces : Str → List Str
  | [] => [[]]
  | c :: r => if c = 46 then [] :: pieces r else match pieces r with
    | [] => [[c]]
    | p :: ps => (c :: p) :: ps
theorem pieces_ne (s : Str) : ∃ p ps, pieces s = p :: ps := by
  cases s with
  | nil => exact ⟨_, _, rfl⟩
  | cons c r =>
    unfold pieces
    split
    · exact ⟨_, _, rfl⟩
    · split <;> exact ⟨_, _, rfl⟩
theorem pieces_dot (r : Str) : pieces (46 :: r) = [] :: pieces r := by rw [pieces, if_pos rfl]
theorem pieces_ndot {c : UInt8} (hc : c ≠ 46) {r p : Str} {ps : List Str} (h : pieces r = p :: ps) : pieces (c :: r) = (c :: p) :: ps := by rw [pieces, if_neg hc, h]
theorem split_pieces : ∀ s : Str, Lib.splitK [46] 0 (s.count 46) s = pieces s
  | [] => rfl
  | c :: r => by
    have ih := split_pieces r
    by_cases hc : c = 46
    · subst hc
      rw [pieces_dot, List.count_cons_self, Lib.splitK, Lib.index_one, Lib.indexByte]
      simp only [beq_self_eq_true, if_true]
      simp [ih]
    · rw [List.count_cons_of_ne hc]
      obtain ⟨p, ps, hp⟩ := pieces_ne r
      rw [pieces_ndot hc hp]
      cases hk : r.count 46 with
      | zero =>
        rw [hk, Lib.splitK] at ih
        rw [← ih] at hp
        simp only [List.cons.injEq] at hp
        rw [Lib.splitK, ← hp.1, ← hp.2]
      | succ k =>
        rw [hk, Lib.splitK, Lib.index_one] at ih
        rw [Lib.splitK, Lib.index_one, Lib.indexByte]
        have hcb : (c == 46) = false := by simpa using hc
        cases hi : Lib.indexByte r 46 == -1 with
        | true =>
          rw [hi] at ih
          simp only [hcb, Bool.false_eq_true, if_false, if_true, hi] at ih ⊢
          rw [← ih] at hp
          simp only [List.cons.injEq] at hp
          simp [hp.1, ← hp.2]
        | false =>
          rw [hi] at ih
          have hge := Lib.indexByte_ge r 46
          have hne : Lib.indexByte r 46 ≠ -1 := by simpa using hi
          have hnn : (Lib.indexByte r 46 + 1 == -1) = false := by simp; omega
          have ht : (Lib.indexByte r 46 + 1).toNat = (Lib.indexByte r 46).toNat + 1 := by omega
          simp only [hcb, Bool.false_eq_true, if_false, hi, hnn, ht, Nat.add_zero, List.length_singleton] at ih ⊢
          rw [← ih] at hp
          simp only [List.cons.injEq] at hp
          rw [← hp.1, ← hp.2]
          rfl
theorem sSplit_eq {s : Str} (h : s.length ≤ 4294967280) : sSplit_S s [46] = some (pieces s) := by
  unfold sSplit_S
  have : (decide (s.length < 4294967281) && decide (1 ≤ ([46] : Str).length)) = true := by simp; omega
  rw [this, cond_true]
  unfold Lib.split
  rw [Lib.count_one, split_pieces]
theorem pieces_len : ∀ (s : Str), (pieces s).length ≤ s.length + 1 ∧ ∀ p ∈ pieces s, p.length ≤ s.length
  | [] => ⟨Nat.le_refl _, fun p hp => by simp [pieces] at hp; subst hp; exact Nat.le_refl _⟩
  | c :: r => by
    obtain ⟨h1, h2⟩ := pieces_len r
    by_cases hc : c = 46
    · subst hc
      rw [pieces_dot]
      refine ⟨by simp; omega, fun p hp => ?_⟩
      rcases List.mem_cons.1 hp with rfl | hp
      · simp
      · have := h2 p hp; simp; omega
    · obtain ⟨p0, ps, hp0⟩ := pieces_ne r
      rw [pieces_ndot hc hp0]
      rw [hp0] at h1 h2
      refine ⟨by simp at h1 ⊢; omega, fun p hp => ?_⟩
      rcases List.mem_cons.1 hp with rfl | hp
      · have := h2 p0 (by simp); simp; omega
      · have := h2 p (List.mem_cons_of_mem _ hp); simp; omega
/-- The code with numbers. -/
def fmt : List Nat → Str
  | [] => []
  | [n] => digs n
  | n :: m :: r => digs n ++ 46 :: fmt (m :: r)
theorem pieces_app {p : Str} (hp : p.all (fun c => c != 46) = true) : ∀ r, pieces (p ++ 46 :: r) = p :: pieces r := by
  induction p with
  | nil => intro r; exact pieces_dot r
  | cons c p ih =>
    intro r
    simp only [List.all_cons, Bool.and_eq_true, bne_iff_ne] at hp
    exact pieces_ndot hp.1 (ih (by simpa using hp.2) r)
theorem pieces_one {p : Str} (hp : p.all (fun c => c != 46) = true) : pieces p = [p] := by
  induction p with
  | nil => rfl
  | cons c p ih =>
    simp only [List.all_cons, Bool.and_eq_true, bne_iff_ne] at hp
    exact pieces_ndot hp.1 (ih (by simpa using hp.2))
theorem pieces_fmt : ∀ (l : List Nat), l ≠ [] → (∀ n ∈ l, n < 1000) → pieces (fmt l) = l.map digs
  | [], h, _ => absurd rfl h
  | [n], _, h => pieces_one (digs_nodot n (h n (by simp))).1
  | n :: m :: r, _, h => by
    rw [fmt, pieces_app (digs_nodot n (h n (by simp))).1, pieces_fmt (m :: r) (by simp) (fun x hx => h x (List.mem_cons_of_mem _ hx))]
    rfl
/-- Put together again. -/
def glue : List Str → Str
  | [] => []
  | [p] => p
  | p :: q :: r => p ++ 46 :: glue (q :: r)
theorem glue_pieces : ∀ s, glue (pieces s) = s
  | [] => rfl
  | c :: r => by
    have ih := glue_pieces r
    obtain ⟨p, ps, hp⟩ := pieces_ne r
    by_cases hc : c = 46
    · subst hc
      rw [pieces_dot]
      rw [hp] at ih ⊢
      rw [glue, ih]; rfl
    · rw [pieces_ndot hc hp]
      rw [hp] at ih
      cases ps with
      | nil => rw [glue] at ih ⊢; rw [ih]
      | cons q ps => rw [glue] at ih ⊢; rw [List.cons_append, ih]
theorem glue_digs : ∀ l : List Nat, glue (l.map digs) = fmt l
  | [] => rfl
  | [_] => rfl
  | n :: m :: r => by
    have := glue_digs (m :: r)
    simp only [List.map_cons] at this ⊢
    rw [glue, this, fmt]
end Go.Proofs.YtjoacimgcepjdaaGreatDoor
