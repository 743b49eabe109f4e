/- What is common to the laws of this seat: bounds, loops as recursions over lists, the pieces between hyphens. -/
import Derived.Test.YtmdhahfminiilaaDoorGC
import Derived.Lib.SplitLaws
import Derived.Lib.IndexBytes
set_option linter.unusedSimpArgs false
set_option linter.unusedVariables false
namespace Go.Proofs.YtmdhahfminiilaaDoor
open Go Go.Abs
def okI (n : Int) : Prop := -9223372036854775808 ≤ n ∧ n ≤ 9223372036854775807
def okS (s : Str) : Prop := s.length ≤ 9223372036854775807
def okInts (l : List Int) : Prop := l.length ≤ 9223372036854775807 ∧ ∀ n ∈ l, okI n
def okStrs (l : List Str) : Prop := l.length ≤ 9223372036854775807 ∧ ∀ n ∈ l, okS n
theorem wrap_id {n : Int} (h : okI n) : IntKind.i64.wrap n = n := by
  obtain ⟨h1, h2⟩ := h
  show (if (true && decide (n % (2 ^ 64 : Int) ≥ (2 ^ 63 : Int))) = true then n % (2 ^ 64 : Int) - (2 ^ 64 : Int) else n % (2 ^ 64 : Int)) = n
  simp only [Bool.true_and, decide_eq_true_eq]
  split <;> omega
theorem wrap_succ {n i : Nat} (hn : n ≤ 9223372036854775807) (hi : i < n) : IntKind.i64.wrap ((i : Int) + 1) = ((i + 1 : Nat) : Int) := by
  rw [wrap_id (by unfold okI; omega)]; rfl
theorem wrap_pred {n i : Nat} (hn : n ≤ 9223372036854775807) (hi : i < n) : IntKind.i64.wrap ((i : Int) - 1) = (i : Int) - 1 := wrap_id (by unfold okI; omega)
theorem ix_at {α : Type} {l : List α} {i : Nat} (h : i < l.length) : ix l (i : Int) = some l[i] := by
  unfold ix
  rw [if_neg (by omega), Int.toNat_natCast, List.getElem?_eq_getElem h]
theorem ix_pred {α : Type} {l : List α} {i : Nat} (h : i < l.length) (h0 : 0 < i) : ix l ((i : Int) - 1) = some (l[i - 1]'(by omega)) := by
  have : (i : Int) - 1 = ((i - 1 : Nat) : Int) := by omega
  rw [this]; exact ix_at _
/-- A loop that leaves at the first element for which b says so. -/
def scanP {α β : Type} (b : Nat → α → Option β) (done : β) : Nat → List α → β
  | _, [] => done
  | i, x :: r => match b i x with
    | some y => y
    | none => scanP b done (i + 1) r
theorem loop_scanP {α β : Type} (L : Nat → Int → Option β) (l : List α) (b : Nat → α → Option β) (done : β) (hl : l.length ≤ 9223372036854775807)
    (hs : ∀ (fu i : Nat) (hi : i < l.length), L (fu + 1) (i : Int) = match b i l[i] with | some y => some y | none => L fu ((i + 1 : Nat) : Int))
    (he : ∀ fu, L (fu + 1) (l.length : Int) = some done) : ∀ (n i fu : Nat), l.length - i = n → i ≤ l.length → n < fu → L fu (i : Int) = some (scanP b done i (l.drop i))
  | n, i, 0, _, _, h => by omega
  | 0, i, fu + 1, h, hi, _ => by
    have : i = l.length := by omega
    subst this
    rw [he, List.drop_length]; rfl
  | n + 1, i, fu + 1, h, _, hf => by
    have hi : i < l.length := by omega
    rw [hs fu i hi, List.drop_eq_getElem_cons hi]
    simp only [scanP]
    cases b i l[i] with
    | some y => rfl
    | none => exact loop_scanP L l b done hl hs he n (i + 1) fu (by omega) (by omega) (by omega)
theorem scanP_all {α : Type} (p : α → Bool) (done : Bool) : ∀ (l : List α) (i : Nat), scanP (fun _ x => bif p x then none else some false) done i l = (l.all p && done)
  | [], _ => rfl
  | x :: r, i => by
    simp only [scanP, List.all_cons]
    cases hp : p x
    · rfl
    · simpa using scanP_all p done r (i + 1)
/-- The first that p holds of, with its index. -/
theorem scanP_find {α : Type} (p : α → Bool) : ∀ (l : List α) (i : Nat), scanP (fun i x => bif p x then some (i : Int) else none) (-1) i l = match l.findIdx? p with | some k => ((i + k : Nat) : Int) | none => -1
  | [], _ => rfl
  | x :: r, i => by
    simp only [scanP, List.findIdx?_cons]
    cases p x with
    | true => simp
    | false =>
      simp only [cond_false, scanP_find p r (i + 1), Bool.false_eq_true, if_false]
      cases r.findIdx? p with
      | none => rfl
      | some k => show (((i + 1 + k : Nat)) : Int) = ((i + (k + 1) : Nat) : Int); omega
def idxOf {α : Type} (p : α → Bool) (l : List α) : Int := match l.findIdx? p with | some k => (k : Int) | none => -1
theorem scanP_any {α β : Type} (p : α → Bool) (c done : β) : ∀ (l : List α) (i : Nat), scanP (fun _ x => bif p x then some c else none) done i l = bif l.any p then c else done
  | [], _ => rfl
  | x :: r, i => by
    simp only [scanP, List.any_cons]
    cases p x with
    | true => rfl
    | false => exact scanP_any p c done r (i + 1)
theorem idxOf_nn {α : Type} (p : α → Bool) (l : List α) : decide (idxOf p l ≥ 0) = l.any p := by
  unfold idxOf
  cases hq : l.findIdx? p with
  | none =>
    rw [List.findIdx?_eq_none_iff] at hq
    have : l.any p = false := by rw [List.any_eq_false]; intro x hx; simp [hq x hx]
    rw [this]; decide
  | some k =>
    obtain ⟨h1, h2, _⟩ := List.findIdx?_eq_some_iff_getElem.1 hq
    have : l.any p = true := List.any_eq_true.2 ⟨l[k], List.getElem_mem h1, h2⟩
    rw [this]
    exact decide_eq_true (show (k : Int) ≥ 0 by omega)
def pieces : Str → List Str
  | [] => [[]]
  | c :: r => if c = 45 then [] :: pieces r else match pieces r with
    | [] => [[c]]
    | p :: ps => (c :: p) :: ps
theorem pieces_ne (s : Str) : ∃ p ps, pieces s = p :: ps := by
  cases s with
  | nil => exact ⟨_, _, rfl⟩
  | cons c r =>
    unfold pieces
    split
    · exact ⟨_, _, rfl⟩
    · split <;> exact ⟨_, _, rfl⟩
theorem pieces_dot (r : Str) : pieces (45 :: r) = [] :: pieces r := by rw [pieces, if_pos rfl]
theorem pieces_ndot {c : UInt8} (hc : c ≠ 45) {r p : Str} {ps : List Str} (h : pieces r = p :: ps) : pieces (c :: r) = (c :: p) :: ps := by rw [pieces, if_neg hc, h]
theorem split_pieces : ∀ s : Str, Lib.splitK [45] 0 (s.count 45) s = pieces s
  | [] => rfl
  | c :: r => by
    have ih := split_pieces r
    by_cases hc : c = 45
    · subst hc
      rw [pieces_dot, List.count_cons_self, Lib.splitK, Lib.index_one, Lib.indexByte]
      simp only [beq_self_eq_true, if_true]
      simp [ih]
    · rw [List.count_cons_of_ne hc]
      obtain ⟨p, ps, hp⟩ := pieces_ne r
      rw [pieces_ndot hc hp]
      cases hk : r.count 45 with
      | zero =>
        rw [hk, Lib.splitK] at ih
        rw [← ih] at hp
        simp only [List.cons.injEq] at hp
        rw [Lib.splitK, ← hp.1, ← hp.2]
      | succ k =>
        rw [hk, Lib.splitK, Lib.index_one] at ih
        rw [Lib.splitK, Lib.index_one, Lib.indexByte]
        have hcb : (c == 45) = false := by simpa using hc
        cases hi : Lib.indexByte r 45 == -1 with
        | true =>
          rw [hi] at ih
          simp only [hcb, Bool.false_eq_true, if_false, if_true, hi] at ih ⊢
          rw [← ih] at hp
          simp only [List.cons.injEq] at hp
          simp [hp.1, ← hp.2]
        | false =>
          rw [hi] at ih
          have hge := Lib.indexByte_ge r 45
          have hne : Lib.indexByte r 45 ≠ -1 := by simpa using hi
          have hnn : (Lib.indexByte r 45 + 1 == -1) = false := by simp; omega
          have ht : (Lib.indexByte r 45 + 1).toNat = (Lib.indexByte r 45).toNat + 1 := by omega
          simp only [hcb, Bool.false_eq_true, if_false, hi, hnn, ht, Nat.add_zero, List.length_singleton] at ih ⊢
          rw [← ih] at hp
          simp only [List.cons.injEq] at hp
          rw [← hp.1, ← hp.2]
          rfl
theorem sSplit_eq {s : Str} (h : s.length ≤ 4294967280) : sSplit_S s [45] = some (pieces s) := by
  unfold sSplit_S
  have : (decide (s.length < 4294967281) && decide (1 ≤ ([45] : Str).length)) = true := by simp; omega
  rw [this, cond_true]
  unfold Lib.split
  rw [Lib.count_one, split_pieces]
theorem pieces_len : ∀ (s : Str), (pieces s).length ≤ s.length + 1 ∧ ∀ p ∈ pieces s, p.length ≤ s.length
  | [] => ⟨Nat.le_refl _, fun p hp => by simp [pieces] at hp; subst hp; exact Nat.le_refl _⟩
  | c :: r => by
    obtain ⟨h1, h2⟩ := pieces_len r
    by_cases hc : c = 45
    · subst hc
      rw [pieces_dot]
      refine ⟨by simp; omega, fun p hp => ?_⟩
      rcases List.mem_cons.1 hp with rfl | hp
      · simp
      · have := h2 p hp; simp; omega
    · obtain ⟨p0, ps, hp0⟩ := pieces_ne r
      rw [pieces_ndot hc hp0]
      rw [hp0] at h1 h2
      refine ⟨by simp at h1 ⊢; omega, fun p hp => ?_⟩
      rcases List.mem_cons.1 hp with rfl | hp
      · have := h2 p0 (by simp); simp; omega
      · have := h2 p (List.mem_cons_of_mem _ hp); simp; omega
/-- The code with numbers. -/
theorem pieces_app {p : Str} (hp : p.all (fun c => c != 45) = true) : ∀ r, pieces (p ++ 45 :: r) = p :: pieces r := by
  induction p with
  | nil => intro r; exact pieces_dot r
  | cons c p ih =>
    intro r
    simp only [List.all_cons, Bool.and_eq_true, bne_iff_ne] at hp
    exact pieces_ndot hp.1 (ih (by simpa using hp.2) r)
theorem pieces_one {p : Str} (hp : p.all (fun c => c != 45) = true) : pieces p = [p] := by
  induction p with
  | nil => rfl
  | cons c p ih =>
    simp only [List.all_cons, Bool.and_eq_true, bne_iff_ne] at hp
    exact pieces_ndot hp.1 (ih (by simpa using hp.2))
def glue : List Str → Str
  | [] => []
  | [p] => p
  | p :: q :: r => p ++ 45 :: glue (q :: r)
theorem glue_pieces : ∀ s, glue (pieces s) = s
  | [] => rfl
  | c :: r => by
    have ih := glue_pieces r
    obtain ⟨p, ps, hp⟩ := pieces_ne r
    by_cases hc : c = 45
    · subst hc
      rw [pieces_dot]
      rw [hp] at ih ⊢
      rw [glue, ih]; rfl
    · rw [pieces_ndot hc hp]
      rw [hp] at ih
      cases ps with
      | nil => rw [glue] at ih ⊢; rw [ih]
      | cons q ps => rw [glue] at ih ⊢; rw [List.cons_append, ih]
theorem slc_cut {α : Type} {s : List α} {v i : Nat} (h1 : v ≤ i) (h2 : i ≤ s.length) : slc s (v : Int) (i : Int) = some ((s.drop v).take (i - v)) := by
  unfold slc
  rw [decide_eq_true (show (0 : Int) ≤ v ∧ (v : Int) ≤ i ∧ (i : Int) ≤ s.length by omega), cond_true, Int.toNat_natCast, Int.toNat_natCast]
end Go.Proofs.YtmdhahfminiilaaDoor
