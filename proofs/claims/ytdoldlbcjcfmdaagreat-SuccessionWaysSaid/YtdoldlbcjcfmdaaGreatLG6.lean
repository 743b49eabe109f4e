/- Generations. -/
import Derived.Test.YtdoldlbcjcfmdaaGreatLG5
set_option linter.unusedVariables false
set_option linter.unusedSimpArgs false
namespace Go.Proofs.YtdoldlbcjcfmdaaGreat
open Go Go.Abs
/-- Rows enough for g. -/
def extR (out : List (List Int)) (g : Nat) : List (List Int) := out ++ List.replicate (g + 1 - out.length) []
theorem extR_len (out : List (List Int)) (g : Nat) : (extR out g).length = max out.length (g + 1) := by
  unfold extR
  rw [List.length_append, List.length_replicate]; omega
theorem extR_get {out : List (List Int)} {g j : Nat} (hj : j < (extR out g).length) : (extR out g)[j] = if h : j < out.length then out[j] else [] := by
  have h2 : j < max out.length (g + 1) := by rw [← extR_len]; exact hj
  apply Option.some.inj
  rw [← List.getElem?_eq_getElem hj]
  unfold extR
  by_cases h : j < out.length
  · rw [dif_pos h, List.getElem?_append_left h, List.getElem?_eq_getElem h]
  · rw [dif_neg h, List.getElem?_append_right (by omega), List.getElem?_replicate, if_pos (by omega)]
theorem extR_self {out : List (List Int)} {g : Nat} (h : g < out.length) : extR out g = out := by
  unfold extR
  rw [show g + 1 - out.length = 0 by omega]; simp
theorem extR_step {out : List (List Int)} {g : Nat} (h : out.length ≤ g) : extR (out ++ [[]]) g = extR out g := by
  unfold extR
  rw [List.length_append, List.length_singleton, List.append_assoc]
  congr 1
  rw [show g + 1 - out.length = (g + 1 - (out.length + 1)) + 1 by omega, List.replicate_succ]
  rfl
theorem gens_L2 {a : Aut} {g : Nat} {v3 : List (List Int)} {x6 : List Int} (hg : g ≤ 100) (hnd : a.Next.Nodup) (hlen : a.Next.length ≤ 100) : ∀ (n i fu : Nat) (m0 m : List (Int × Int)), a.Next.length - i = n → i ≤ a.Next.length → n < fu →
    (∀ k, mval m k = if k ∈ a.Next.take i then max (mval m0 k) ((g : Int) + 1) else mval m0 k) →
      ∃ m', sGenerations_R0_L2 a (g : Int) v3 x6 fu (i : Int) m = some (m', v3.set g (x6 ++ [a.ID])) ∧ ∀ k, mval m' k = if k ∈ a.Next then max (mval m0 k) ((g : Int) + 1) else mval m0 k
  | n, i, 0, _, _, _, _, h, _ => by omega
  | 0, i, fu + 1, m0, m, h, hi, _, hm => by
    have hie : i = a.Next.length := by omega
    subst hie
    have h0 : decide ((a.Next.length : Int) < (a.Next.length : Int)) = false := decide_eq_false (by omega)
    refine ⟨m, by simp only [sGenerations_R0_L2, List.length_map, h0, cond_false, Int.toNat_natCast], fun k => ?_⟩
    rw [hm k, List.take_length]
  | n + 1, i, fu + 1, m0, m, h, _, hf, hm => by
    have hi : i < a.Next.length := by omega
    have h0 : decide ((i : Int) < (a.Next.length : Int)) = true := decide_eq_true (by omega)
    have hni : a.Next[i] ∉ a.Next.take i := by
      intro hx
      obtain ⟨j, hj, he⟩ := List.getElem_of_mem hx
      rw [List.length_take] at hj
      rw [List.getElem_take] at he
      have := List.pairwise_iff_getElem.1 (List.nodup_iff_pairwise_ne.1 hnd) j i (by omega) hi (by omega)
      exact this he
    have e1 : mval m a.Next[i] = mval m0 a.Next[i] := by rw [hm, if_neg hni]
    have w : IntKind.i64.wrap ((g : Int) + 1) = (g : Int) + 1 := wrap_id (by unfold okI; omega)
    have hmax : (if mval m0 a.Next[i] < (g : Int) + 1 then (g : Int) + 1 else mval m0 a.Next[i]) = max (mval m0 a.Next[i]) ((g : Int) + 1) := by
      split <;> omega
    simp only [sGenerations_R0_L2, List.length_map, ix_at hi, Option.bind_some, h0, cond_true, mlk_eq, e1, w, hmax, wrap_succ (n := a.Next.length) (by omega) hi]
    refine gens_L2 hg hnd hlen n (i + 1) fu m0 _ (by omega) (by omega) (by omega) fun k => ?_
    have hmem : k ∈ a.Next.take (i + 1) ↔ k ∈ a.Next.take i ∨ k = a.Next[i] := by
      rw [List.take_succ_eq_append_getElem hi, List.mem_append, List.mem_singleton]
    rw [mval_mset, hm k]
    by_cases hk : k = a.Next[i]
    · rw [if_pos hk, if_pos (hmem.2 (.inr hk)), hk]
    · rw [if_neg hk]
      by_cases h2 : k ∈ a.Next.take i
      · rw [if_pos h2, if_pos (hmem.2 (.inl h2))]
      · rw [if_neg h2, if_neg (fun h => (hmem.1 h).elim h2 hk)]
theorem gens_L1 {m : List (Int × Int)} {a : Aut} {g : Nat} (hg : g ≤ 100) : ∀ (n fu : Nat) (out : List (List Int)), g + 1 - out.length = n → n < fu → out.length ≤ 100 → (∀ r ∈ out, r.length ≤ 100) →
    ∃ x6, (extR out g)[g]? = some x6 ∧ sGenerations_R0_L1 m a (g : Int) 1000 fu out = sGenerations_R0_L2 a (g : Int) (extR out g) x6 1000 0 m
  | n, 0, out, _, h, _, _ => by omega
  | 0, fu + 1, out, h, _, h100, hr => by
    have hgo : g < out.length := by omega
    have h0 : decide ((out.length : Int) ≤ (g : Int)) = false := decide_eq_false (by omega)
    have e1 : decide ((out[g]).length + ([a.ID] : List Int).length ≤ 4294967296) = true := decide_eq_true (by have := hr _ (List.getElem_mem hgo); simp; omega)
    refine ⟨out[g], by rw [extR_self hgo]; exact List.getElem?_eq_getElem hgo, ?_⟩
    simp only [sGenerations_R0_L1, h0, cond_false, ix_at hgo, Option.bind_some, e1, cond_true, extR_self hgo]
  | n + 1, fu + 1, out, h, hf, h100, hr => by
    have hle : out.length ≤ g := by omega
    have h0 : decide ((out.length : Int) ≤ (g : Int)) = true := decide_eq_true (by omega)
    have e1 : decide (out.length + ([[]] : List (List Int)).length ≤ 4294967296) = true := decide_eq_true (by simp; omega)
    by_cases hl : out.length + 1 ≤ 100
    · obtain ⟨x6, q1, q2⟩ := gens_L1 hg n fu (out ++ [[]]) (by simp; omega) (by omega) (by simp; omega) (fun r hx => by
        rcases List.mem_append.1 hx with hx | hx
        · exact hr r hx
        · simp at hx; subst hx; simp)
      rw [extR_step hle] at q1 q2
      refine ⟨x6, q1, ?_⟩
      simp only [sGenerations_R0_L1, h0, cond_true, e1]
      exact q2
    · -- exactly one hundred rows: one more is needed
      have hg' : g = 100 := by omega
      have hol : out.length = 100 := by omega
      have hn : n = 0 := by omega
      subst hg'
      obtain ⟨f, rfl⟩ : ∃ f, fu = f + 1 := ⟨fu - 1, by omega⟩
      have hlt : 100 < (out ++ [[]]).length := by simp; omega
      have h1 : decide (((out ++ [[]] : List (List Int)).length : Int) ≤ ((100 : Nat) : Int)) = false := decide_eq_false (by omega)
      have hge : (out ++ [[]] : List (List Int))[100] = [] := by rw [List.getElem_append_right (by omega)]; simp [hol]
      have e2 : decide (((out ++ [[]] : List (List Int))[100]).length + ([a.ID] : List Int).length ≤ 4294967296) = true := by rw [hge]; rfl
      have hex : extR out 100 = out ++ [[]] := by unfold extR; rw [hol]; rfl
      refine ⟨(out ++ [[]] : List (List Int))[100], by rw [hex]; exact List.getElem?_eq_getElem hlt, ?_⟩
      simp only [sGenerations_R0_L1, h0, cond_true, e1, h1, cond_false, ix_at hlt, Option.bind_some, e2, hex]
section
variable {l : List Aut}
theorem maxl_cast {α : Type} {f : α → Nat} (x : α) (P : List α) : maxl f (P ++ [x]) = max (maxl f P) (f x) := by
  rw [maxl_append]; simp [maxl]
theorem gens_loop (h : Good l) : ∀ (Q P : List Aut) (i fu : Nat) (m : List (Int × Int)) (out : List (List Int)), byFrom l = P ++ Q → P.length = i → Q.length < fu →
    (∀ k, mval m k = (maxl (fun a => if isNx k a = true then gen (pvA l) a.ID + 1 else 0) P : Int)) → out.length = maxl (fun a => gen (pvA l) a.ID + 1) P →
    (∀ (g : Nat) (hg : g < out.length), out[g] = (P.filter fun a => gen (pvA l) a.ID == g).map (·.ID)) →
      ∃ m' out', sinTime_11_L1 (byFrom l) fu (i : Int) out m = some (m', out') ∧ out'.length = maxl (fun a => gen (pvA l) a.ID + 1) l ∧
        ∀ (g : Nat) (hg : g < out'.length), out'[g] = ((byFrom l).filter fun a => gen (pvA l) a.ID == g).map (·.ID)
  | Q, P, i, 0, _, _, _, _, h, _, _, _ => by omega
  | [], P, i, fu + 1, m, out, hs, hi, _, hm, ho, hr => by
    have hl : (byFrom l).length = i := by rw [hs]; simpa using hi
    have h0 : decide ((i : Int) < ((byFrom l).length : Int)) = false := decide_eq_false (by omega)
    rw [List.append_nil] at hs
    refine ⟨m, out, by simp only [sinTime_11_L1, List.length_map, h0, cond_false], ?_, by rw [hs]; exact hr⟩
    rw [ho, ← hs, perm_maxl (byFrom_perm l)]
  | a :: Q, P, i, fu + 1, m, out, hs, hi, hf, hm, ho, hr => by
    have hbl : (byFrom l).length = l.length := (byFrom_perm l).length_eq
    have hl12 := h.len
    have hPl : P.length ≤ 12 := by have : (byFrom l).length = P.length + (Q.length + 1) := by rw [hs]; simp
                                   omega
    have hbi : i < (byFrom l).length := by rw [hs]; simp; omega
    have hget : ix (byFrom l) (i : Int) = some a := by rw [hs]; exact ix_mid' hi
    have h0 : decide ((i : Int) < ((byFrom l).length : Int)) = true := decide_eq_true (by omega)
    have hal : a ∈ l := (byFrom_perm l).mem_iff.1 (by rw [hs]; simp)
    have haV : a.ID ∈ ids l := List.mem_map.2 ⟨a, hal, rfl⟩
    have hnl := no_later h hs
    have hgb := gen_bd h.dag haV
    have hva : mval m a.ID = (gen (pvA l) a.ID : Int) := by
      have hz : maxl (fun b => if isNx a.ID b = true then gen (pvA l) b.ID + 1 else 0) (a :: Q) = 0 := Nat.le_zero.1 (maxl_le fun b hb => by rw [hnl b hb]; simp)
      have e1 : maxl (fun b => if isNx a.ID b = true then gen (pvA l) b.ID + 1 else 0) l = maxl (fun b => if isNx a.ID b = true then gen (pvA l) b.ID + 1 else 0) P := by
        rw [← perm_maxl (byFrom_perm l), hs, maxl_append, hz]; omega
      rw [hm, gen_eq h.dag haV, pvA_maxl (f := fun p => gen (pvA l) p + 1), e1]
    have hmemP : ∀ b ∈ P, b ∈ l := fun b hb => (byFrom_perm l).mem_iff.1 (by rw [hs]; exact List.mem_append_left _ hb)
    have hob : out.length ≤ 12 := by
      rw [ho]
      exact maxl_le fun b hb => gen_bd h.dag (List.mem_map.2 ⟨b, hmemP b hb, rfl⟩)
    have hrl : ∀ r ∈ out, r.length ≤ 100 := fun r hr' => by
      obtain ⟨g, hg, rfl⟩ := List.getElem_of_mem hr'
      rw [hr g hg, List.length_map]
      have := List.length_filter_le (fun a => gen (pvA l) a.ID == g) P
      omega
    have hnd : a.Next.Nodup := nodup_lt (h.nxSrt hal)
    have hnlen := (tail_next (h.alone hal).2).1
    generalize hgg : gen (pvA l) a.ID = g at hva hgb
    obtain ⟨x6, q1, q2⟩ := gens_L1 (m := m) (a := a) (g := g) (by omega) (g + 1 - out.length) 1000 out rfl (by omega) (by omega) hrl
    obtain ⟨m', q3, q4⟩ := gens_L2 (a := a) (g := g) (v3 := extR out g) (x6 := x6) (by omega) hnd (by omega) a.Next.length 0 1000 m m rfl (by omega) (by omega) (fun k => by simp)
    have hR : sGenerations_R0_XS m out a = some (m', (extR out g).set g (x6 ++ [a.ID])) := by
      simp only [sGenerations_R0_XS, sGenerations_R0_F, mlk_eq, hva, Option.bind_some]
      rw [q2]; exact q3
    simp only [sinTime_11_L1, List.length_map, hget, Option.bind_some, h0, cond_true, hR, wrap_succ (n := (byFrom l).length) (by omega) hbi]
    have hel := extR_len out g
    have hx6 : x6 = (P.filter fun a => gen (pvA l) a.ID == g).map (·.ID) := by
      have hlt : g < (extR out g).length := by omega
      rw [List.getElem?_eq_getElem hlt] at q1
      have := Option.some.inj q1
      rw [extR_get hlt] at this
      by_cases hgo : g < out.length
      · rw [dif_pos hgo, hr g hgo] at this; exact this.symm
      · rw [dif_neg hgo] at this
        rw [← this]
        have : (P.filter fun a => gen (pvA l) a.ID == g) = [] := by
          rw [List.filter_eq_nil_iff]
          intro b hb hc
          have h1 := le_maxl (f := fun a : Aut => gen (pvA l) a.ID + 1) hb
          rw [← ho] at h1
          have := beq_iff_eq.1 hc
          omega
        rw [this]; rfl
    refine gens_loop h Q (P ++ [a]) (i + 1) fu m' _ (by rw [hs]; simp) (by simp; omega) (by simp only [List.length_cons] at hf; omega) (fun k => ?_) ?_ (fun j hj => ?_)
    · rw [q4 k, hm k, maxl_cast, hgg]
      by_cases hk : k ∈ a.Next
      · rw [if_pos hk, if_pos (isNx_iff.2 hk)]; omega
      · have : isNx k a = false := by rw [Bool.eq_false_iff]; exact fun hc => hk (isNx_iff.1 hc)
        rw [if_neg hk, this]; simp
    · rw [List.length_set, hel, ho, maxl_cast, hgg]
    · rw [List.length_set] at hj
      rw [List.getElem_set, List.filter_append, List.map_append]
      by_cases hjg : g = j
      · subst hjg
        rw [if_pos rfl, hx6]
        simp [hgg]
      · rw [if_neg hjg, extR_get hj]
        have hf2 : ([a].filter fun a => gen (pvA l) a.ID == j) = [] := by simp [hgg, hjg]
        rw [hf2, List.map_nil, List.append_nil]
        by_cases hjo : j < out.length
        · rw [dif_pos hjo]; exact hr j hjo
        · rw [dif_neg hjo]
          have : (P.filter fun a => gen (pvA l) a.ID == j) = [] := by
            rw [List.filter_eq_nil_iff]
            intro b hb hc
            have h1 := le_maxl (f := fun a : Aut => gen (pvA l) a.ID + 1) hb
            rw [← ho] at h1
            have := beq_iff_eq.1 hc
            omega
          rw [this]; rfl
theorem sort_rows {y4 : List (Int × Int) × List (List Int)} (hl : y4.2.length ≤ 1000) (hr : ∀ r ∈ y4.2, r.length ≤ 1000) : ∀ (n i fu : Nat), y4.2.length - i = n → i ≤ y4.2.length → n < fu →
    sGenerations_L1 y4 fu (i : Int) ((y4.2.take i).map isort ++ y4.2.drop i) = some (y4.2.map isort, 0)
  | n, i, 0, _, _, h => by omega
  | 0, i, fu + 1, h, hi, _ => by
    have : i = y4.2.length := by omega
    subst this
    have h0 : decide ((y4.2.length : Int) < (y4.2.length : Int)) = false := decide_eq_false (by omega)
    simp only [sGenerations_L1, h0, cond_false, List.drop_length, List.take_length, List.append_nil]
  | n + 1, i, fu + 1, h, _, hf => by
    have hi : i < y4.2.length := by omega
    have h0 : decide ((i : Int) < (y4.2.length : Int)) = true := decide_eq_true (by omega)
    have hlt : ((y4.2.take i).map isort).length = i := by rw [List.length_map, List.length_take]; omega
    have hdr := List.drop_eq_getElem_cons hi
    have hsrt : slSortI_XS y4.2[i] = some (isort y4.2[i]) := by
      have := hr _ (List.getElem_mem hi)
      unfold slSortI_XS
      rw [decide_eq_true (by omega), cond_true]
    rw [hdr]
    simp only [sGenerations_L1, h0, cond_true, ix_mid' hlt, Option.bind_some, hsrt, Int.toNat_natCast, set_mid' hlt, wrap_succ (n := y4.2.length) (by omega) hi]
    have := sort_rows hl hr n (i + 1) fu (by omega) (by omega) (by omega)
    rw [List.take_succ_eq_append_getElem hi, List.map_append] at this
    simpa using this
def gensL (l : List Aut) : List (List Int) := (List.range (maxl (fun a => gen (pvA l) a.ID + 1) l)).map fun g => (ids l).filter fun x => gen (pvA l) x == g
def gensG (l : List Aut) : List (List Int) × Int := bif asksG l [] != 0 then ([], asksG l []) else (gensL l, 0)
theorem sGenerations_eq (hl : okAuts l) (h12 : (checkF l).2 = 0 → l.length ≤ 12) : sGenerations_S l = some (gensG l) := by
  simp only [sGenerations_S, sGenerations_F, sasks_eq hl h12 (is := []) (by simp), Option.bind_some, gensG]
  cases ha : asksG l [] != 0 with
  | true => rfl
  | false =>
    obtain ⟨hr, _⟩ := asks_zero (l := l) (is := []) (by simpa using ha)
    have h : Good l := ⟨hl, h12 hr, hr⟩
    have hlen := h.len
    have hbl : (byFrom l).length = l.length := (byFrom_perm l).length_eq
    obtain ⟨m', out', h1, h2, h3⟩ := gens_loop h (byFrom l) [] 0 1000 [] [] (by simp) rfl (by omega) (fun k => rfl) rfl (fun g hg => by simp at hg)
    have h1' : sinTime_11_XS ([] : List (Int × Int)) ([] : List (List Int)) l = some (m', out') := by
      simp only [sinTime_11_XS, sinTime_11_F, cloneA_eq (show l.length ≤ 1000 by omega), Option.bind_some, sortStable_eq hlen]
      exact h1
    have hob : out'.length ≤ 12 := by
      rw [h2]
      exact maxl_le fun b hb => gen_bd h.dag (List.mem_map.2 ⟨b, hb, rfl⟩)
    have hs := sort_rows (y4 := (m', out')) (by show out'.length ≤ 1000; omega) (fun r hr' => by
      obtain ⟨g, hg, rfl⟩ := List.getElem_of_mem hr'
      rw [h3 g hg, List.length_map]
      have := List.length_filter_le (fun a => gen (pvA l) a.ID == g) (byFrom l)
      omega) out'.length 0 1000 rfl (by omega) (by omega)
    simp only [List.take_zero, List.map_nil, List.nil_append, List.drop_zero] at hs
    simp only [cond_false, h1', Option.bind_some]
    refine Eq.trans hs ?_
    have : out'.map isort = gensL l := by
      refine List.ext_getElem (by unfold gensL; rw [List.length_map, List.length_map, List.length_range, h2]) fun g hg1 hg2 => ?_
      rw [List.getElem_map, h3 g (by simpa using hg1)]
      simp only [gensL, List.getElem_map, List.getElem_range]
      have hnd : (((byFrom l).filter fun a => gen (pvA l) a.ID == g).map (·.ID)).Nodup := by
        have h6 : (ids l).Nodup := nodup_lt h.idsrt
        have h5 : ((byFrom l).map fun a => a.ID).Nodup := ((byFrom_perm l).map fun a : Aut => a.ID).nodup_iff.2 h6
        exact h5.sublist ((List.filter_sublist).map _)
      refine sorted_ext (sort_srt hnd) (h.idsrt.filter _) fun x => ?_
      rw [sort_mem, List.mem_filter, List.mem_map]
      constructor
      · rintro ⟨b, hb, rfl⟩
        obtain ⟨hb1, hb2⟩ := List.mem_filter.1 hb
        exact ⟨List.mem_map.2 ⟨b, (byFrom_perm l).mem_iff.1 hb1, rfl⟩, hb2⟩
      · rintro ⟨hx, hg⟩
        obtain ⟨b, hb, rfl⟩ := List.mem_map.1 hx
        exact ⟨b, List.mem_filter.2 ⟨(byFrom_perm l).mem_iff.2 hb, hg⟩, rfl⟩
    rw [this]
end
end Go.Proofs.YtdoldlbcjcfmdaaGreat
