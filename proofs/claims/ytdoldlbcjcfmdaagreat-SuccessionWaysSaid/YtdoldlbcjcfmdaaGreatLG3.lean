/- A right list as a graph; who is asked for; what is reached. -/
import Derived.Test.YtdoldlbcjcfmdaaGreatLG2
set_option linter.unusedVariables false
set_option linter.unusedSimpArgs false
namespace Go.Proofs.YtdoldlbcjcfmdaaGreat
open Go Go.Abs

def ids (l : List Aut) : List Int := l.map (·.ID)
def nxA (l : List Aut) (x : Int) : List Int := (found l x).Next
def pvA (l : List Aut) (y : Int) : List Int := (l.filter fun a => a.Next.any fun x => y == x).map (·.ID)
def rkA (l : List Aut) (x : Int) : Int := (found l x).In.From
/-- A right list of at most twelve. -/
structure Good (l : List Aut) : Prop where
  ok : okAuts l
  len : l.length ≤ 12
  right : (checkF l).2 = 0
theorem good_of {l : List Aut} (hl : okAuts l) (hf : few l = true) (hr : (checkF l).2 = 0) : Good l := by
  refine ⟨hl, ?_, hr⟩
  have h1 := (check_good hr).1
  simp only [few, Bool.and_eq_true, Bool.or_eq_true, decide_eq_true_eq] at hf
  omega
theorem anyB {l : List Int} {x : Int} : (l.any fun z => x == z) = true ↔ x ∈ l := by
  rw [List.any_eq_true]
  constructor
  · rintro ⟨z, hz, he⟩; rw [beq_iff_eq.1 he]; exact hz
  · intro h; exact ⟨x, h, beq_self_eq_true x⟩
theorem anyBF {l : List Int} {x : Int} : (l.any fun z => x == z) = false ↔ x ∉ l := by
  rw [← anyB, Bool.not_eq_true]
section
variable {l : List Aut}
theorem Good.srt (h : Good l) : l.Pairwise fun a b => a.ID < b.ID := right_sorted h.right
theorem Good.idsrt (h : Good l) : (ids l).Pairwise (· < ·) := by
  unfold ids
  rw [List.pairwise_map]
  exact h.srt
theorem pw_inj {α : Type} {f : α → Int} : ∀ {l : List α}, l.Pairwise (fun a b => f a < f b) → ∀ {a b : α}, a ∈ l → b ∈ l → f a = f b → a = b
  | [], _, a, b, ha, _, _ => by simp at ha
  | x :: l, h, a, b, ha, hb, he => by
    obtain ⟨h1, h2⟩ := List.pairwise_cons.1 h
    rcases List.mem_cons.1 ha with rfl | ha'
    · rcases List.mem_cons.1 hb with rfl | hb'
      · rfl
      · have := h1 b hb'; omega
    · rcases List.mem_cons.1 hb with rfl | hb'
      · have := h1 a ha'; omega
      · exact pw_inj h2 ha' hb' he
theorem Good.found (h : Good l) {a : Aut} (ha : a ∈ l) : found l a.ID = a := by
  unfold Proofs.YtdoldlbcjcfmdaaGreat.found
  cases hq : findA l a.ID with
  | none => exact absurd (List.find?_eq_none.1 hq a ha) (by simp)
  | some b =>
    have hb := List.mem_of_find?_eq_some hq
    have he := List.find?_some hq
    exact pw_inj h.srt hb ha (by simpa using he)
theorem gone_iff {x : Int} : gone l x = false ↔ x ∈ ids l := by
  unfold gone findA ids
  rw [List.mem_map]
  constructor
  · intro h
    cases hq : l.find? (fun a => a.ID == x) with
    | none => rw [hq] at h; cases h
    | some a => exact ⟨a, List.mem_of_find?_eq_some hq, by simpa using List.find?_some hq⟩
  · rintro ⟨a, ha, he⟩
    cases hq : l.find? (fun a => a.ID == x) with
    | none => exact absurd (List.find?_eq_none.1 hq a ha) (by simp [he])
    | some a => rfl
theorem gone_iff' {x : Int} : gone l x = true ↔ x ∉ ids l := by
  rw [← gone_iff, Bool.not_eq_false]
theorem found_gone {x : Int} (h : x ∉ ids l) : found l x = zeroAut := by
  have := gone_iff'.2 h
  unfold gone at this
  unfold found
  cases hq : findA l x with
  | none => rfl
  | some a => rw [hq] at this; cases this
theorem Good.ex (h : Good l) {x : Int} (hx : x ∈ ids l) : ∃ a ∈ l, a.ID = x ∧ Proofs.YtdoldlbcjcfmdaaGreat.found l x = a := by
  obtain ⟨a, ha, rfl⟩ := List.mem_map.1 hx
  exact ⟨a, ha, rfl, h.found ha⟩
theorem Good.alone (h : Good l) {a : Aut} (ha : a ∈ l) : idKind a = true ∧ tailF a = 0 := by
  obtain ⟨j, hj, rfl⟩ := List.getElem_of_mem ha
  have := alone_iff.1 ((check_good h.right).2.1 j hj)
  exact ⟨this.1, this.2.2⟩
theorem Good.nexts (h : Good l) {a : Aut} (ha : a ∈ l) : ∀ id ∈ a.Next, gone l id = false ∧ (Proofs.YtdoldlbcjcfmdaaGreat.found l id).Kind = a.Kind ∧ (Proofs.YtdoldlbcjcfmdaaGreat.found l id).In.From = a.In.Until := by
  obtain ⟨j, hj, rfl⟩ := List.getElem_of_mem ha
  exact next_iff.1 ((check_good h.right).2.2 j hj)
theorem Good.span (h : Good l) {a : Aut} (ha : a ∈ l) : a.In.From < a.In.Until := by
  have := (h.alone ha).1
  simp only [idKind, spanOk, Bool.and_eq_true, decide_eq_true_eq] at this
  exact this.2.2.2.1
theorem incB_out {n : List Int} {i : Nat} {x y : Int} (h : incB n i x = some y) : ¬ y = 0 := by
  unfold incB at h
  split at h
  · rename_i z _
    cases hz : decide (x ≤ z) with
    | true => rw [hz] at h; simp at h; omega
    | false => rw [hz] at h; simp at h
  · cases h
theorem Good.nxSrt (h : Good l) {a : Aut} (ha : a ∈ l) : a.Next.Pairwise (· < ·) := by
  have ht := (h.alone ha).2
  have hn : nextOrd a = 0 := by
    unfold tailF at ht
    cases hq : namesF a != 0 with
    | true => rw [hq] at ht; simp only [cond_true] at ht; rw [ht] at hq; simp at hq
    | false =>
      rw [hq] at ht
      by_cases h2 : a.Next.length > 16
      · simp [h2] at ht
      · simpa [h2] using ht
  unfold nextOrd at hn
  obtain ⟨_, h2⟩ := scanP_q (fun y => y = 0) (incB a.Next) (fun _ _ _ h => incB_out h) 0 _ 1 hn
  refine pairwise_of_next (fun a b : Int => a < b) (fun _ _ _ h1 h2 => Int.lt_trans h1 h2) a.Next fun i hi => ?_
  have h3 := h2 i (by simp; omega)
  rw [List.getElem_drop] at h3
  unfold incB at h3
  have e : 1 + i - 1 = i := by omega
  rw [e, List.getElem?_eq_getElem (by omega)] at h3
  simp only at h3
  have e2 : a.Next[1 + i]'(by omega) = a.Next[i + 1] := by congr 1; omega
  rw [e2] at h3
  cases hd : decide (a.Next[i + 1] ≤ a.Next[i]) with
  | true => rw [hd] at h3; simp at h3
  | false => have := of_decide_eq_false hd; omega
theorem nodup_lt {s : List Int} (h : s.Pairwise (· < ·)) : s.Nodup := h.imp fun h => by omega
theorem mem_pvA {x y : Int} : x ∈ pvA l y ↔ ∃ a ∈ l, y ∈ a.Next ∧ a.ID = x := by
  unfold pvA
  rw [List.mem_map]
  constructor
  · rintro ⟨a, ha, he⟩
    obtain ⟨h1, h2⟩ := List.mem_filter.1 ha
    exact ⟨a, h1, anyB.1 h2, he⟩
  · rintro ⟨a, ha, h1, he⟩
    exact ⟨a, List.mem_filter.2 ⟨ha, anyB.2 h1⟩, he⟩
theorem Good.dag (h : Good l) : Dag (ids l) (nxA l) (pvA l) (rkA l) where
  srt := h.idsrt
  len := by unfold ids; rw [List.length_map]; exact h.len
  nxV x y hy := by
    by_cases hx : x ∈ ids l
    · refine ⟨hx, ?_⟩
      obtain ⟨a, ha, he, hf⟩ := h.ex hx
      unfold nxA at hy
      rw [hf] at hy
      exact gone_iff.1 (h.nexts ha y hy).1
    · unfold nxA at hy
      rw [found_gone hx] at hy
      simp [zeroAut] at hy
  adj x y := by
    rw [mem_pvA]
    constructor
    · intro hy
      by_cases hx : x ∈ ids l
      · obtain ⟨a, ha, he, hf⟩ := h.ex hx
        unfold nxA at hy
        rw [hf] at hy
        exact ⟨a, ha, hy, he⟩
      · unfold nxA at hy
        rw [found_gone hx] at hy
        simp [zeroAut] at hy
    · rintro ⟨a, ha, hy, rfl⟩
      unfold nxA
      rw [h.found ha]; exact hy
  nxN x := by
    unfold nxA
    by_cases hx : x ∈ ids l
    · obtain ⟨a, ha, he, hf⟩ := h.ex hx
      rw [hf]; exact nodup_lt (h.nxSrt ha)
    · rw [found_gone hx]; exact List.nodup_nil
  pvN y := by
    unfold pvA
    refine nodup_lt ?_
    rw [List.pairwise_map]
    exact h.srt.filter _
  rk x y hy := by
    unfold rkA
    by_cases hx : x ∈ ids l
    · obtain ⟨a, ha, he, hf⟩ := h.ex hx
      unfold nxA at hy
      rw [hf] at hy ⊢
      have h1 := (h.nexts ha y hy).2.2
      have h2 := h.span ha
      omega
    · unfold nxA at hy
      rw [found_gone hx] at hy
      simp [zeroAut] at hy
theorem Good.l63 (h : Good l) : l.length ≤ 9223372036854775807 := h.ok.1
theorem Good.nlen (h : Good l) (x : Int) : (nxA l x).length ≤ 12 := nx_len h.dag x
theorem Good.plen (h : Good l) (x : Int) : (pvA l x).length ≤ 12 := nx_len h.dag.rev x
theorem Good.small (h : Good l) {a : Aut} (ha : a ∈ l) : smallAut a = true := by
  have h1 := tail_next (h.alone ha).2
  have h2 := names_good h1.2
  simp only [smallAut, Bool.and_eq_true, decide_eq_true_eq]
  omega
theorem Good.find (h : Good l) (id : Int) : pFind_S l id = some (Proofs.YtdoldlbcjcfmdaaGreat.found l id, !(gone l id)) := by
  simp only [pFind_S, pFind_F, pindex_eq h.l63, Option.bind_some, Proofs.YtdoldlbcjcfmdaaGreat.found, gone]
  cases hq : findA l id with
  | none => rw [decide_eq_true (idx_find.1.2 hq)]; rfl
  | some a =>
    have hn : ¬ idxOf (fun a => a.ID == id) l < 0 := fun hc => by rw [idx_find.1.1 hc] at hq; exact nomatch hq
    have hm : a ∈ l := List.mem_of_find?_eq_some hq
    rw [decide_eq_false hn]
    simp only [cond_false, idx_find.2 a hq, Option.bind_some, pown_some (h.small hm)]
    rfl
/-- The answer to a list and some IDs. -/
def asksG (l : List Aut) (is : List Int) : Int := bif (checkF l).2 != 0 then 1 else bif is.any (gone l) then 7 else 0
theorem sasks_eq (hl : okAuts l) (h12 : (checkF l).2 = 0 → l.length ≤ 12) {is : List Int} (his : is.length ≤ 100) : sasks_S l is = some (asksG l is) := by
  simp only [sasks_S, sasks_F, pCheck_any hl, Option.bind_some, asksG]
  cases hc : (checkF l).2 != 0 with
  | true => rfl
  | false =>
    have hr : (checkF l).2 = 0 := by simpa using hc
    have h : Good l := ⟨hl, h12 hr, hr⟩
    simp only [cond_false]
    have h1 := loop_scanP (sasks_L1 l is) is (fun _ x => bif gone l x then some 7 else none) 0 (by omega) (fun fu i hi => by
        have h0 : decide ((i : Int) < (is.length : Int)) = true := decide_eq_true (by omega)
        simp only [sasks_L1, List.length_map, ix_at hi, Option.bind_some, h0, cond_true, h.find, wrap_succ (n := is.length) (by omega) hi, Bool.not_not]
        cases gone l is[i] <;> rfl)
      (fun fu => by
        have h0 : decide ((is.length : Int) < (is.length : Int)) = false := decide_eq_false (by omega)
        simp only [sasks_L1, List.length_map, h0, cond_false]) is.length 0 1000 (by omega) (by omega) (by omega)
    rw [List.drop_zero, scanP_any] at h1
    exact h1
theorem asks_zero {is : List Int} (h : asksG l is = 0) : (checkF l).2 = 0 ∧ ∀ x ∈ is, x ∈ ids l := by
  unfold asksG at h
  cases hc : (checkF l).2 != 0 with
  | true => rw [hc] at h; simp at h
  | false =>
    rw [hc] at h
    refine ⟨by simpa using hc, fun x hx => ?_⟩
    cases ha : is.any (gone l) with
    | true => rw [ha] at h; simp at h
    | false =>
      rw [List.any_eq_false] at ha
      exact gone_iff.1 (by simpa using ha x hx)
/-- Those whose successor one is. -/
theorem filt_loop {α β : Type} {lst : List α} (L : Nat → List Int → Int → Option β) (p : α → Bool) (g : α → Int) (hl : lst.length ≤ 1000)
    (hs : ∀ (fu i : Nat) (out : List Int) (hi : i < lst.length), out.length ≤ i → L (fu + 1) out (i : Int) = bif p lst[i] then L fu (out ++ [g lst[i]]) ((i + 1 : Nat) : Int) else L fu out ((i + 1 : Nat) : Int))
    {fin : List Int → Option β} (he : ∀ fu out, L (fu + 1) out (lst.length : Int) = fin out) : ∀ (n i fu : Nat) (out : List Int), lst.length - i = n → i ≤ lst.length → n < fu → out.length ≤ i → L fu out (i : Int) = fin (out ++ ((lst.drop i).filter p).map g)
  | n, i, 0, _, _, _, h, _ => by omega
  | 0, i, fu + 1, out, h, hi, _, _ => by
    have : i = lst.length := by omega
    subst this
    rw [he, List.drop_length]; simp
  | n + 1, i, fu + 1, out, h, _, hf, ho => by
    have hi : i < lst.length := by omega
    rw [hs fu i out hi ho, List.drop_eq_getElem_cons hi, List.filter_cons]
    cases hp : p lst[i] with
    | true =>
      simp only [cond_true, if_true, List.map_cons]
      rw [filt_loop L p g hl hs he n (i + 1) fu _ (by omega) (by omega) (by omega) (by simp; omega)]
      simp
    | false =>
      simp only [cond_false, Bool.false_eq_true, if_false]
      exact filt_loop L p g hl hs he n (i + 1) fu _ (by omega) (by omega) (by omega) (by omega)
theorem contains_ok (h : Good l) {a : Aut} (ha : a ∈ l) (y : Int) : slContains_S a.Next y = some (a.Next.any fun x => y == x) :=
  slContains_eq (h.ok.2 a ha).2.2.2.2.1 y
theorem sback_eq (h : Good l) (a : Aut) : sback_1_S a l = some (pvA l a.ID) := by
  have h1 := filt_loop (lst := l) (sback_1_L1 a l) (fun x => x.Next.any fun z => a.ID == z) (·.ID) (by have := h.len; omega) (fun fu i out hi ho => by
      have h0 : decide ((i : Int) < (l.length : Int)) = true := decide_eq_true (by omega)
      have := h.len
      have e3 : decide (out.length + ([l[i].ID] : List Int).length ≤ 4294967296) = true := decide_eq_true (by simp; omega)
      simp only [sback_1_L1, List.length_map, ix_at hi, Option.bind_some, h0, cond_true, wrap_succ h.l63 hi, contains_ok h (List.getElem_mem hi), e3])
    (fin := some) (fun fu out => by
      have h0 : decide ((l.length : Int) < (l.length : Int)) = false := decide_eq_false (by omega)
      simp only [sback_1_L1, List.length_map, h0, cond_false]) l.length 0 1000 [] (by omega) (by omega) (by have := h.len; omega) (by simp)
  rw [List.drop_zero, List.nil_append] at h1
  exact h1

/-- New ones appended. -/
def addN : List Int → List Int → List Int
  | v, [] => v
  | v, x :: r => bif v.any (fun z => x == z) then addN v r else addN (v ++ [x]) r
theorem addN_pre : ∀ (r v : List Int), ∃ t, addN v r = v ++ t
  | [], v => ⟨[], by simp [addN]⟩
  | x :: r, v => by
    unfold addN
    cases v.any (fun z => x == z) with
    | true => exact addN_pre r v
    | false => obtain ⟨t, ht⟩ := addN_pre r (v ++ [x]); exact ⟨x :: t, by rw [cond_false, ht]; simp⟩
theorem addN_mem : ∀ {r v : List Int} {z : Int}, z ∈ addN v r ↔ z ∈ v ∨ z ∈ r
  | [], v, z => by simp [addN]
  | x :: r, v, z => by
    unfold addN
    cases hx : v.any (fun z => x == z) with
    | true =>
      rw [cond_true, addN_mem, List.mem_cons]
      constructor
      · rintro (h | h); exact .inl h; exact .inr (.inr h)
      · rintro (h | rfl | h)
        · exact .inl h
        · exact .inl (anyB.1 hx)
        · exact .inr h
    | false =>
      rw [cond_false, addN_mem, List.mem_append, List.mem_cons, List.mem_cons]
      simp only [List.not_mem_nil, or_false, or_assoc]
theorem addN_nodup : ∀ {r v : List Int}, v.Nodup → (addN v r).Nodup
  | [], v, h => h
  | x :: r, v, h => by
    unfold addN
    cases hx : v.any (fun z => x == z) with
    | true => exact addN_nodup h
    | false =>
      refine addN_nodup (List.nodup_append.2 ⟨h, by simp, fun a ha b hb => ?_⟩)
      simp at hb
      subst hb
      intro e
      exact anyBF.1 hx (e ▸ ha)
theorem reach_L2 {i1 : Int} {y8 : List Int} {k : Int → List Int → Option (List Int)} : ∀ (n j fu : Nat) (v : List Int), y8.length - j = n → j ≤ y8.length → n < fu → v.length + n ≤ 1000 → y8.length ≤ 1000 → sreach_L2 i1 y8 k fu (j : Int) v = k (IntKind.i64.wrap (i1 + 1)) (addN v (y8.drop j))
  | n, j, 0, _, _, _, h, _, _ => by omega
  | 0, j, fu + 1, v, h, hj, _, _, h9 => by
    have : j = y8.length := by omega
    subst this
    have h0 : decide ((y8.length : Int) < (y8.length : Int)) = false := decide_eq_false (by omega)
    simp only [sreach_L2, List.length_map, h0, cond_false, List.drop_length, addN]
  | n + 1, j, fu + 1, v, h, _, hf, hv, h9 => by
    have hj : j < y8.length := by omega
    have h0 : decide ((j : Int) < (y8.length : Int)) = true := decide_eq_true (by omega)
    have e3 : decide (v.length + ([y8[j]] : List Int).length ≤ 4294967296) = true := decide_eq_true (by simp; omega)
    simp only [sreach_L2, List.length_map, ix_at hj, Option.bind_some, h0, cond_true, slContains_eq (show v.length ≤ 9223372036854775807 by omega), e3, wrap_succ (n := y8.length) (by omega) hj]
    rw [List.drop_eq_getElem_cons hj]
    unfold addN
    cases v.any (fun z => y8[j] == z) with
    | true =>
      simp only [Bool.not_true, cond_false, cond_true]
      exact reach_L2 n (j + 1) fu v (by omega) (by omega) (by omega) (by omega) h9
    | false =>
      simp only [Bool.not_false, cond_false, cond_true]
      exact reach_L2 n (j + 1) fu _ (by omega) (by omega) (by omega) (by simp; omega) h9
theorem sort_mem {s : List Int} {x : Int} : x ∈ isort s ↔ x ∈ s := by rw [← mergeSort_isort]; exact (List.mergeSort_perm s _).mem_iff
theorem sort_srt {s : List Int} (h : s.Nodup) : (isort s).Pairwise (· < ·) := by
  rw [← mergeSort_isort]
  have h1 := List.pairwise_mergeSort (le := fun x y : Int => decide (x ≤ y)) (fun a b c h1 h2 => by
    have := of_decide_eq_true h1; have := of_decide_eq_true h2; exact decide_eq_true (by omega)) (fun a b => by
    rcases Int.le_total a b with h | h <;> simp [h]) s
  have h2 : (s.mergeSort fun x y => decide (x ≤ y)).Nodup := (List.mergeSort_perm s _).nodup_iff.2 h
  have h3 := List.pairwise_and_iff.2 ⟨h1, h2⟩
  exact h3.imp fun ⟨h4, h5⟩ => by have := of_decide_eq_true h4; omega
theorem reach_L1 {V : List Int} {st pv : Int → List Int} {rk : Int → Int} (h : Good l) (D : Dag V st pv rk) (hV : V = ids l) {g : Aut → Option (List Int)} (hg : ∀ a ∈ l, g a = some (st a.ID)) {id : Int} (hid : id ∈ V) :
    ∀ (n i fu : Nat) (v : List Int), 12 - i = n → n < fu → i ≤ v.length → v.Nodup → id ∈ v → (∀ y ∈ v, ∃ k, Wk st k id y) → (∀ (j : Nat) (hj : j < v.length), j < i → ∀ z ∈ st v[j], z ∈ v) →
      sreach_L1 l g 1000 fu (i : Int) v = some (reachL V st id)
  | n, i, 0, _, _, h, _, _, _, _, _ => by omega
  | n, i, fu + 1, v, hn, hf, hi, hnd, h0, hr, hcl => by
    have hvV : ∀ y ∈ v, y ∈ V := fun y hy => wk_in D (hr y hy).choose_spec hid
    have hvl : v.length ≤ 12 := Nat.le_trans (nodup_len v V hnd hvV) D.len
    by_cases hiv : i < v.length
    · have e0 : decide ((i : Int) < (v.length : Int)) = true := decide_eq_true (by omega)
      have hx := hvV _ (List.getElem_mem hiv)
      rw [hV] at hx
      obtain ⟨a, ha, he, hfd⟩ := h.ex hx
      have hst : st v[i] = st a.ID := by rw [he]
      have hsl : (st v[i]).length ≤ 12 := nx_len D _
      simp only [sreach_L1, List.length_map, ix_at hiv, Option.bind_some, e0, cond_true, h.find, hfd, hg a ha]
      rw [← hst]
      show sreach_L2 (i : Int) (st v[i]) _ 1000 ((0 : Nat) : Int) v = _
      rw [reach_L2 (st v[i]).length 0 1000 v (by omega) (by omega) (by omega) (by omega) (by omega), List.drop_zero]
      have hw : IntKind.i64.wrap ((i : Int) + 1) = ((i + 1 : Nat) : Int) := wrap_succ (n := v.length) (by omega) hiv
      rw [hw]
      obtain ⟨t, ht⟩ := addN_pre (st v[i]) v
      have hmem : ∀ z, z ∈ addN v (st v[i]) ↔ z ∈ v ∨ z ∈ st v[i] := fun z => addN_mem
      refine reach_L1 h D hV hg hid (n - 1) (i + 1) fu _ (by omega) (by omega) (by rw [ht]; simp; omega) (addN_nodup hnd) ((hmem _).2 (.inl h0)) (fun y hy => ?_) (fun j hj hji z hz => ?_)
      · rcases (hmem y).1 hy with h1 | h1
        · exact hr y h1
        · obtain ⟨k, hk⟩ := hr _ (List.getElem_mem hiv)
          exact ⟨k + 1, hk.snoc h1⟩
      · have hjv : j < v.length := by omega
        have hvj : (addN v (st v[i]))[j] = v[j] := by
          simp only [ht]
          exact List.getElem_append_left hjv
        rw [hvj] at hz
        by_cases hji' : j = i
        · subst hji'; exact (hmem z).2 (.inr hz)
        · exact (hmem z).2 (.inl (hcl j hjv (by omega) z hz))
    · have hie : i = v.length := by omega
      have e0 : decide ((i : Int) < (v.length : Int)) = false := decide_eq_false (by omega)
      have e1 : decide (v.length < 4611686018427387904) = true := decide_eq_true (by omega)
      simp only [sreach_L1, List.length_map, e0, cond_false, slSortI_XS, e1, cond_true, Option.bind_some, Option.some.injEq]
      refine sorted_ext (sort_srt hnd) (reachL_srt D id) fun y => ?_
      rw [sort_mem, mem_reachL D hid]
      refine ⟨hr y, fun ⟨k, hk⟩ => closed_reach h0 (fun y hy z hz => ?_) hk⟩
      obtain ⟨j, hj, rfl⟩ := List.getElem_of_mem hy
      exact hcl j hj (by omega) z hz
theorem reach_fwd (h : Good l) {id : Int} (hid : id ∈ ids l) : sreach_S l (fun z0 => sforward_1_S z0) id = some (reachL (ids l) (nxA l) id) :=
  reach_L1 h h.dag rfl (fun a ha => by simp only [sforward_1_S, sforward_1_F, nxA, h.found ha]) hid 12 0 1000 [id] (by omega) (by omega) (by simp) (by simp) (by simp)
    (fun y hy => by simp at hy; subst hy; exact ⟨0, .nil _⟩) (fun j hj hji => by omega)
theorem reach_bwd (h : Good l) {id : Int} (hid : id ∈ ids l) : sreach_S l (fun z0 => sback_1_S z0 l) id = some (reachL (ids l) (pvA l) id) :=
  reach_L1 h h.dag.rev rfl (fun a ha => sback_eq h a) hid 12 0 1000 [id] (by omega) (by omega) (by simp) (by simp) (by simp)
    (fun y hy => by simp at hy; subst hy; exact ⟨0, .nil _⟩) (fun j hj hji => by omega)
noncomputable def fwdF (l : List Aut) (id : Int) : List Int × Int := bif asksG l [id] != 0 then ([], asksG l [id]) else (reachL (ids l) (nxA l) id, 0)
noncomputable def bwdF (l : List Aut) (id : Int) : List Int × Int := bif asksG l [id] != 0 then ([], asksG l [id]) else (reachL (ids l) (pvA l) id, 0)
theorem sForward_eq (hl : okAuts l) (h12 : (checkF l).2 = 0 → l.length ≤ 12) (id : Int) : sForward_S l id = some (fwdF l id) := by
  simp only [sForward_S, sForward_F, sasks_eq hl h12 (is := [id]) (by simp), Option.bind_some, fwdF]
  cases ha : asksG l [id] != 0 with
  | true => rfl
  | false =>
    obtain ⟨hr, hi⟩ := asks_zero (l := l) (is := [id]) (by simpa using ha)
    simp only [cond_false, reach_fwd ⟨hl, h12 hr, hr⟩ (hi id (by simp)), Option.bind_some]
theorem sBack_eq (hl : okAuts l) (h12 : (checkF l).2 = 0 → l.length ≤ 12) (id : Int) : sBack_S l id = some (bwdF l id) := by
  simp only [sBack_S, sBack_F, sasks_eq hl h12 (is := [id]) (by simp), Option.bind_some, bwdF]
  cases ha : asksG l [id] != 0 with
  | true => rfl
  | false =>
    obtain ⟨hr, hi⟩ := asks_zero (l := l) (is := [id]) (by simpa using ha)
    simp only [cond_false, reach_bwd ⟨hl, h12 hr, hr⟩ (hi id (by simp)), Option.bind_some]
end
end Go.Proofs.YtdoldlbcjcfmdaaGreat
