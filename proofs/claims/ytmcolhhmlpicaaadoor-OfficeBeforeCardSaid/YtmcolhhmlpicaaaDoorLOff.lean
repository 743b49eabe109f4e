/- Names, searches, the index of a list of offices; what is wrong with a list: both ways of the program come to it. -/
import Derived.Test.YtmcolhhmlpicaaaDoorLGen
namespace Go.Proofs.YtmcolhhmlpicaaaDoor
open Go Go.Abs

theorem trimLeft_len : ∀ (f : Nat) (l : Str), (Lib.trimLeftD f l).length ≤ l.length
  | 0, l => Nat.le_refl _
  | f + 1, l => by
    simp only [Lib.trimLeftD]
    split
    · simp
    · split
      · exact Nat.le_trans (trimLeft_len f _) (by simp)
      · exact Nat.le_refl _
theorem trimRight_len : ∀ (f : Nat) (l : Str), (Lib.trimRightD f l).length ≤ l.length
  | 0, l => Nat.le_refl _
  | f + 1, l => by
    simp only [Lib.trimRightD]
    split
    · simp
    · split
      · exact Nat.le_trans (trimRight_len f _) (by simp)
      · exact Nat.le_refl _
theorem isSp_good {b : UInt8} (h : goodByte b = true) : Lib.isSp b = (b == 32) ∧ b.toNat < 128 := by
  simp only [goodByte, Bool.and_eq_true, decide_eq_true_eq] at h
  refine ⟨?_, by omega⟩
  unfold Lib.isSp
  have hn : ∀ c : UInt8, c.toNat < 32 → (b == c) = false := fun c hc => by
    cases hq : b == c with
    | false => rfl
    | true => have : b = c := by simpa using hq
              subst this; omega
  rw [hn 9 (by decide), hn 10 (by decide), hn 11 (by decide), hn 12 (by decide), hn 13 (by decide)]
  rfl
theorem trim_good {s : Str} (hg : s.all goodByte = true) (hne : s ≠ []) : (Lib.trimSpaceD s == s) = (!(s.head? == some 32) && !(s.getLast? == some 32)) := by
  rw [List.all_eq_true] at hg
  cases s with
  | nil => exact absurd rfl hne
  | cons b t =>
    obtain ⟨hb1, hb2⟩ := isSp_good (hg b (by simp))
    have z0 : ((b :: t).head? == some (32 : UInt8)) = (b == 32) := rfl
    rw [z0]
    cases hb : b == 32 with
    | true =>
      rw [hb] at hb1
      have h1 : Lib.trimSpaceD (b :: t) = Lib.trimRightD (t.length + 1) (Lib.trimLeftD t.length t) := by
        unfold Lib.trimSpaceD
        rw [List.length_cons, Lib.left_step _ b t hb1]
      have h2 : (Lib.trimSpaceD (b :: t)).length ≤ t.length := by rw [h1]; exact Nat.le_trans (trimRight_len _ _) (trimLeft_len _ _)
      have : Lib.trimSpaceD (b :: t) ≠ b :: t := fun e => by rw [e] at h2; simp at h2; omega
      simpa using this
    | false =>
      rw [hb] at hb1
      have h1 : Lib.trimSpaceD (b :: t) = Lib.trimRightD (t.length + 1) (b :: t) := by
        unfold Lib.trimSpaceD
        rw [List.length_cons, Lib.left_stop _ b t hb1 hb2]
      obtain ⟨u, c, hu⟩ : ∃ u c, b :: t = u ++ [c] := ⟨(b :: t).dropLast, (b :: t).getLast hne, (List.dropLast_concat_getLast hne).symm⟩
      obtain ⟨hc1, hc2⟩ := isSp_good (hg c (by rw [hu]; simp))
      have hlast : ((b :: t).getLast? == some (32 : UInt8)) = (c == 32) := by rw [hu, List.getLast?_concat]; rfl
      rw [hlast, h1, hu]
      cases hc : c == 32 with
      | true =>
        rw [hc] at hc1
        have h2 : (Lib.trimRightD (t.length + 1) (u ++ [c])).length ≤ u.length := by rw [Lib.right_step _ u c hc1]; exact trimRight_len _ _
        have : Lib.trimRightD (t.length + 1) (u ++ [c]) ≠ u ++ [c] := fun e => by rw [e] at h2; simp at h2; omega
        simpa using this
      | false =>
        rw [hc] at hc1
        rw [Lib.right_stop _ u c hc1 hc2]
        simp
theorem pName_loop {s : Str} (hs : s.length ≤ 9223372036854775807) : pName_L1 s (s.length + 1) 0 = some (s.all goodByte) := by
  have h1 := loop_scanP (pName_L1 s) s (fun _ x => bif goodByte x then none else some false) true hs (fun fu i hi => by
      have h0 : decide ((i : Int) < (s.length : Int)) = true := decide_eq_true (by omega)
      simp only [pName_L1, ix_at hi, Option.bind_some, h0, cond_true, wrap_succ hs hi]
      by_cases h1 : 32 ≤ s[i].toNat
      · have e1 : decide ((s[i].toNat : Int) < 32) = false := decide_eq_false (by omega)
        by_cases h2 : s[i].toNat ≤ 126
        · have e2 : decide ((s[i].toNat : Int) > 126) = false := decide_eq_false (by omega)
          have eg : goodByte s[i] = true := by simp [goodByte, h1, h2]
          simp only [e1, e2, eg, cond_false, cond_true]
        · have e2 : decide ((s[i].toNat : Int) > 126) = true := decide_eq_true (by omega)
          have eg : goodByte s[i] = false := by simp [goodByte, h2]
          simp only [e1, e2, eg, cond_false, cond_true]
      · have e1 : decide ((s[i].toNat : Int) < 32) = true := decide_eq_true (by omega)
        have eg : goodByte s[i] = false := by simp [goodByte, h1]
        simp only [e1, eg, cond_true, cond_false])
    (fun fu => by
      have h0 : decide ((s.length : Int) < (s.length : Int)) = false := decide_eq_false (by omega)
      simp only [pName_L1, h0, cond_false]) s.length 0 (s.length + 1) (by omega) (by omega) (by omega)
  rw [show (0 : Int) = ((0 : Nat) : Int) from rfl, h1, List.drop_zero, scanP_all, Bool.and_true]
theorem pName_eq {s : Str} (hs : s.length ≤ 9223372036854775807) : pName_S s = some (nameOk s) := by
  simp only [pName_S, pName_F, nameOk]
  by_cases h1 : 1 ≤ s.length
  · have e1 : decide ((s.length : Int) < 1) = false := decide_eq_false (by omega)
    by_cases h2 : s.length ≤ 64
    · have e2 : decide ((s.length : Int) > 64) = false := decide_eq_false (by omega)
      have hne : s ≠ [] := fun e => by rw [e] at h1; simp at h1
      have e3 : sTrimSpace_S s = some (Lib.trimSpaceD s) := by simp [sTrimSpace_S, hs]
      have e4 : sContains_S s [32, 32] = some (!(noTwo false s)) := by
        have : decide (s.length < 4294967281) = true := decide_eq_true (by omega)
        simp [sContains_S, this, contains_eq]
      simp only [e1, e2, cond_false, e3, e4, Option.bind_some, pName_loop hs, h1, h2, decide_true, Bool.true_and]
      cases hg : s.all goodByte with
      | true =>
        rw [trim_good hg hne]
        cases (s.head? == some 32) <;> cases (s.getLast? == some 32) <;> cases noTwo false s <;> rfl
      | false => cases (Lib.trimSpaceD s == s) <;> cases noTwo false s <;> simp
    · have e2 : decide ((s.length : Int) > 64) = true := decide_eq_true (by omega)
      simp [e1, e2, h2]
  · have e1 : decide ((s.length : Int) < 1) = true := decide_eq_true (by omega)
    simp [e1, h1]

/- searches -/
theorem slIndexFuncO_eq {l : List Off} {f : Off → Option Bool} {p : Off → Bool} (h : l.length ≤ 9223372036854775807) (hf : ∀ x ∈ l, f x = some (p x)) : slIndexFuncO_S l f = some (idxOf p l) := by
  have h1 := loop_scanP (slIndexFuncO_L1 l f) l (fun i x => bif p x then some (i : Int) else none) (-1) h (fun fu i hi => by
      have h0 : decide ((i : Int) < (l.length : Int)) = true := decide_eq_true (by omega)
      simp only [slIndexFuncO_L1, List.length_map, ix_at hi, Option.bind_some, h0, cond_true, wrap_succ h hi, hf _ (List.getElem_mem hi)]
      cases p l[i] <;> rfl)
    (fun fu => by
      have h0 : decide ((l.length : Int) < (l.length : Int)) = false := decide_eq_false (by omega)
      simp only [slIndexFuncO_L1, List.length_map, h0, cond_false]) l.length 0 (l.length + 1) (by omega) (by omega) (by omega)
  show slIndexFuncO_L1 l f (l.length + 1) 0 = _
  rw [show (0 : Int) = ((0 : Nat) : Int) from rfl, h1, List.drop_zero, scanP_find]
  unfold idxOf
  cases l.findIdx? p <;> simp
def at_ (l : List Off) (id : Int) : Int := idxOf (fun a => a.ID == id) l
theorem pFind_eq {l : List Off} (h : l.length ≤ 9223372036854775807) (id : Int) : pFind_S l id = some (at_ l id) := by
  have h1 := slIndexFuncO_eq (f := fun z0 => pFind_1_S z0 id) (p := fun a => a.ID == id) h fun x _ => rfl
  simp only [pFind_S, pFind_F, h1, Option.bind_some, at_]
theorem rFind_eq {l : List Off} (h : l.length ≤ 9223372036854775807) (id : Int) : rFind_S l id = some (at_ l id) := by
  have h1 := loop_scanP (rFind_L1 l id) l (fun i x => bif x.ID == id then some (i : Int) else none) (-1) h (fun fu i hi => by
      have h0 : decide ((i : Int) < (l.length : Int)) = true := decide_eq_true (by omega)
      simp only [rFind_L1, List.length_map, ix_at hi, Option.bind_some, h0, cond_true, wrap_succ h hi]
      cases l[i].ID == id <;> rfl)
    (fun fu => by
      have h0 : decide ((l.length : Int) < (l.length : Int)) = false := decide_eq_false (by omega)
      simp only [rFind_L1, List.length_map, h0, cond_false]) l.length 0 (l.length + 1) (by omega) (by omega) (by omega)
  show rFind_L1 l id (l.length + 1) 0 = _
  rw [show (0 : Int) = ((0 : Nat) : Int) from rfl, h1, List.drop_zero, scanP_find (fun a : Off => a.ID == id)]
  unfold at_ idxOf
  cases l.findIdx? (fun a : Off => a.ID == id) <;> simp
def zeroOff : Off := ⟨0, [], ⟨0, 0⟩, []⟩
def findO (l : List Off) (id : Int) : Option Off := l.find? fun a => a.ID == id
theorem at_find {l : List Off} {id : Int} : (at_ l id < 0 ↔ findO l id = none) ∧ ∀ a, findO l id = some a → ix l (at_ l id) = some a ∧ 0 ≤ at_ l id ∧ at_ l id < l.length := by
  unfold at_ idxOf findO
  cases hq : l.findIdx? (fun a => a.ID == id) with
  | none =>
    rw [List.findIdx?_eq_none_iff] at hq
    have hn : l.find? (fun a => a.ID == id) = none := List.find?_eq_none.2 fun x hx => by simp [hq x hx]
    exact ⟨⟨fun _ => hn, fun _ => by decide⟩, fun a ha => by rw [hn] at ha; exact nomatch ha⟩
  | some k =>
    obtain ⟨h1, h2, h3⟩ := List.findIdx?_eq_some_iff_getElem.1 hq
    have hs : l.find? (fun a => a.ID == id) = some l[k] := by
      rw [List.find?_eq_some_iff_getElem]
      exact ⟨h2, k, h1, rfl, fun j hj => by simpa using h3 j hj⟩
    refine ⟨⟨fun h => ?_, fun h => ?_⟩, fun a ha => ?_⟩
    · exact absurd h (show ¬ ((k : Int) < 0) by omega)
    · rw [hs] at h; exact nomatch h
    · rw [hs] at ha; rw [← Option.some.inj ha]; exact ⟨ix_at h1, by show (0 : Int) ≤ (k : Int); omega, by show (k : Int) < (l.length : Int); omega⟩

/- the index -/
theorem mget_mset {β : Type} (m : List (Int × β)) (k x : Int) (v : β) : mget (mset m k v) x = bif x == k then some v else mget m x := by
  induction m with
  | nil => simp [mset, mget]
  | cons p r ih =>
    simp only [mset]
    cases hk : k == p.1 with
    | true =>
      have hk' : k = p.1 := by simpa using hk
      simp only [cond_true, mget]
      rw [← hk']
      cases x == k <;> rfl
    | false =>
      simp only [cond_false, mget, ih]
      cases hx : x == p.1 with
      | true =>
        have hx' : x = p.1 := by simpa using hx
        have : (x == k) = false := by
          rw [hx']
          cases hq : p.1 == k with
          | false => rfl
          | true =>
            have : p.1 = k := by simpa using hq
            rw [this] at hk; simp at hk
        rw [this]; rfl
      | false => rfl
theorem findO_take {l : List Off} {i : Nat} (hi : i < l.length) (id : Int) : findO (l.take (i + 1)) id = (findO (l.take i) id).or (bif l[i].ID == id then some l[i] else none) := by
  unfold findO
  rw [List.take_succ_eq_append_getElem hi, List.find?_append]
  simp only [List.find?_cons, List.find?_nil]
  cases l[i].ID == id <;> rfl
theorem index_loop {l : List Off} (h : l.length ≤ 9223372036854775807) : ∀ (n i fu : Nat) (m : List (Int × Off)), l.length - i = n → i ≤ l.length → n < fu → (∀ id, mget m id = findO (l.take i) id) →
    ∃ m', pindex_L1 l fu (i : Int) m = some m' ∧ ∀ id, mget m' id = findO l id
  | n, i, 0, _, _, _, h, _ => by omega
  | 0, i, fu + 1, m, hn, hi, _, hm => by
    have : i = l.length := by omega
    subst this
    have h0 : decide ((l.length : Int) < (l.length : Int)) = false := decide_eq_false (by omega)
    refine ⟨m, by simp only [pindex_L1, List.length_map, h0, cond_false], fun id => ?_⟩
    rw [hm, List.take_length]
  | n + 1, i, fu + 1, m, hn, _, hf, hm => by
    have hi : i < l.length := by omega
    have h0 : decide ((i : Int) < (l.length : Int)) = true := decide_eq_true (by omega)
    simp only [pindex_L1, List.length_map, ix_at hi, Option.bind_some, h0, cond_true, wrap_succ h hi, mlook]
    cases hq : mget m l[i].ID with
    | none =>
      simp only [Option.isSome_none, Bool.not_false, cond_true]
      refine index_loop h n (i + 1) fu _ (by omega) (by omega) (by omega) fun id => ?_
      rw [mget_mset, findO_take hi, hm]
      rw [hm] at hq
      cases hx : id == l[i].ID with
      | true =>
        have : id = l[i].ID := by simpa using hx
        subst this
        rw [hq]; simp
      | false =>
        have : (l[i].ID == id) = false := by rw [BEq.comm]; exact hx
        rw [this]; simp
    | some v =>
      simp only [Option.isSome_some, Bool.not_true, cond_false]
      refine index_loop h n (i + 1) fu _ (by omega) (by omega) (by omega) fun id => ?_
      rw [findO_take hi, hm]
      rw [hm] at hq
      cases hx : l[i].ID == id with
      | true =>
        have : l[i].ID = id := by simpa using hx
        subst this
        rw [hq]; simp
      | false => simp
def imap (l : List Off) : List (Int × Off) := (pindex_S l).getD []
theorem pindex_eq {l : List Off} (h : l.length ≤ 9223372036854775807) : pindex_S l = some (imap l) ∧ ∀ id, mget (imap l) id = findO l id := by
  obtain ⟨m, h1, h2⟩ := index_loop h l.length 0 (l.length + 1) [] (by omega) (by omega) (by omega) fun id => by simp [mget, findO]
  have : pindex_S l = some m := h1
  unfold imap
  rw [this]
  exact ⟨rfl, h2⟩
def found (l : List Off) (id : Int) : Off := (findO l id).getD zeroOff
theorem mlk_eq {l : List Off} (h : l.length ≤ 9223372036854775807) (id : Int) : mlk (imap l) id (⟨0, ([] : Str), (⟨0, 0⟩ : Span), ([] : List Int)⟩ : Off) = some (found l id) := by
  simp only [mlk, (pindex_eq h).2 id]; rfl
theorem mlook_eq {l : List Off} (h : l.length ≤ 9223372036854775807) (id : Int) : mlook (imap l) id (⟨0, ([] : Str), (⟨0, 0⟩ : Span), ([] : List Int)⟩ : Off) = some (found l id, (findO l id).isSome) := by
  simp only [mlook, (pindex_eq h).2 id]; rfl
theorem found_ix {l : List Off} {id : Int} (h : (findO l id).isSome = true) : ix l (at_ l id) = some (found l id) := by
  obtain ⟨a, ha⟩ := Option.isSome_iff_exists.1 h
  rw [(at_find.2 a ha).1]; simp [found, ha]
end Go.Proofs.YtmcolhhmlpicaaaDoor
