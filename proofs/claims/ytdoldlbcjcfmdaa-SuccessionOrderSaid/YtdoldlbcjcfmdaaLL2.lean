/- The law of SuccessionOrder. -/
import Derived.Test.YtdoldlbcjcfmdaaLL1
set_option linter.unusedVariables false
set_option linter.unusedSimpArgs false
namespace Go.Proofs.Ytdoldlbcjcfmdaa
open Go Go.Abs
theorem slIsSorted_L1_eq {x : List Int} (hs : x.Pairwise (· < ·)) (hl : x.length ≤ 1000) : ∀ (i fu : Nat), (i = 0 ∨ i < x.length) → i < fu → slIsSorted_L1 x fu (i : Int) = some true
  | i, 0, _, h => by omega
  | 0, fu + 1, _, _ => rfl
  | i + 1, fu + 1, h, hf => by
    have hi : i + 1 < x.length := by omega
    have h0 : decide (((i + 1 : Nat) : Int) > 0) = true := decide_eq_true (by omega)
    have hw : IntKind.i64.wrap (((i + 1 : Nat) : Int) - 1) = ((i : Nat) : Int) := by
      rw [wrap_pred (n := x.length) (by omega) hi]; omega
    have hlt : x[i] < x[i + 1] := List.pairwise_iff_getElem.1 hs i (i + 1) (by omega) hi (by omega)
    have hc : cmpLess_S x[i + 1] x[i] = some false := by
      simp only [cmpLess_S, cmpLess_F, cmpIsNaN_S, cmpIsNaN_F, Option.bind_some, bne_self_eq_false, cond_false]
      first
        | (rw [decide_eq_false (by omega)]; done)
        | (rw [decide_eq_false (by omega)]; rfl)
    simp only [slIsSorted_L1, h0, cond_true, ix_at hi, hw, ix_at (show i < x.length by omega), Option.bind_some, hc, cond_false]
    exact slIsSorted_L1_eq hs hl i fu (by omega) (by omega)
theorem slIsSorted_eq {x : List Int} (hs : x.Pairwise (· < ·)) (hl : x.length ≤ 1000) : slIsSorted_S x = some true := by
  simp only [slIsSorted_S, slIsSorted_F, List.length_map]
  by_cases h0 : x.length = 0
  · rw [h0]
    rw [show IntKind.i64.wrap (((0 : Nat) : Int) - 1) = -1 by decide]
    rfl
  · have hw : IntKind.i64.wrap ((x.length : Int) - 1) = ((x.length - 1 : Nat) : Int) := by
      rw [wrap_id (by unfold okI; omega)]; omega
    rw [hw]
    exact slIsSorted_L1_eq hs hl _ _ (by omega) (by omega)
section
variable {l : List Aut}
abbrev topG (l : List Aut) : Nat := maxl (fun a => gen (pvA l) a.ID + 1) l
theorem gensL_len : (gensL l).length = topG l := by unfold gensL; rw [List.length_map, List.length_range]
theorem gensL_get {g : Nat} (hg : g < (gensL l).length) : (gensL l)[g] = (ids l).filter fun x => gen (pvA l) x == g := by
  simp only [gensL, List.getElem_map, List.getElem_range]
theorem gen_top {x : Int} (hx : x ∈ ids l) : gen (pvA l) x < topG l := by
  obtain ⟨a, ha, rfl⟩ := List.mem_map.1 hx
  have := le_maxl (f := fun a : Aut => gen (pvA l) a.ID + 1) ha
  exact this
theorem topG_le (h : Good l) : topG l ≤ 12 := maxl_le fun a ha => gen_bd h.dag (List.mem_map.2 ⟨a, ha, rfl⟩)
theorem gen_all (h : Good l) : ∀ (d : Nat), d < topG l → ∃ x ∈ ids l, gen (pvA l) x + d + 1 = topG l
  | 0, hd => by
    have hne : l ≠ [] := by rintro rfl; simp [topG, maxl] at hd
    obtain ⟨a, ha, he⟩ := maxl_get (f := fun a : Aut => gen (pvA l) a.ID + 1) hne
    exact ⟨a.ID, List.mem_map.2 ⟨a, ha, rfl⟩, by omega⟩
  | d + 1, hd => by
    obtain ⟨x, hx, he⟩ := gen_all h d (by omega)
    have hg := gen_eq h.dag hx
    have hne : pvA l x ≠ [] := by
      intro hc
      rw [hc] at hg
      simp only [maxl] at hg
      omega
    obtain ⟨p, hp, hpe⟩ := maxl_get (f := fun p => gen (pvA l) p + 1) hne
    exact ⟨p, (h.dag.rev.nxV _ _ hp).2, by omega⟩
theorem gensL_ne (h : Good l) {g : Nat} (hg : g < (gensL l).length) : (gensL l)[g] ≠ [] := by
  rw [gensL_len] at hg
  obtain ⟨x, hx, he⟩ := gen_all h (topG l - 1 - g) (by omega)
  rw [gensL_get]
  intro hc
  rw [List.filter_eq_nil_iff] at hc
  exact hc x hx (beq_iff_eq.2 (by omega))
theorem row_len (h : Good l) {g : Nat} (hg : g < (gensL l).length) : (gensL l)[g].length ≤ 12 := by
  rw [gensL_get]; exact Nat.le_trans (List.length_filter_le _ _) h.dag.len
theorem order1_loop (h : Good l) {id : Int} (hid : id ∈ ids l) : ∀ (n i fu : Nat), gen (pvA l) id - i = n → i ≤ gen (pvA l) id → n < fu →
    slIndexFuncL_L1 (gensL l) (fun z0 => lSuccessionOrder_1_1_S z0 id) fu (i : Int) = some (gen (pvA l) id : Int)
  | n, i, 0, _, _, h => by omega
  | n, i, fu + 1, hn, hi, hf => by
    have hg := gen_top hid
    have hlen := topG_le h
    have hil : i < (gensL l).length := by rw [gensL_len]; omega
    have hrl := row_len h hil
    have h0 : decide ((i : Int) < ((gensL l).length : Int)) = true := decide_eq_true (by omega)
    have hw : IntKind.i64.wrap ((i : Int) + 1) = ((i + 1 : Nat) : Int) := wrap_succ (n := (gensL l).length) (by rw [gensL_len]; omega) hil
    simp only [slIndexFuncL_L1, List.length_map, h0, cond_true, ix_at hil, Option.bind_some, lSuccessionOrder_1_1_S, lSuccessionOrder_1_1_F, slContains_eq (show (gensL l)[i].length ≤ 9223372036854775807 by omega), hw]
    by_cases he : i = gen (pvA l) id
    · have : ((gensL l)[i].any fun x => id == x) = true := anyB.2 (by rw [gensL_get]; exact List.mem_filter.2 ⟨hid, beq_iff_eq.2 he.symm⟩)
      rw [this, cond_true, he]
    · have : ((gensL l)[i].any fun x => id == x) = false := anyBF.2 (by
        rw [gensL_get]
        intro hc
        exact he (beq_iff_eq.1 (List.mem_filter.1 hc).2).symm)
      rw [this, cond_false]
      exact order1_loop h hid (n - 1) (i + 1) fu (by omega) (by omega) (by omega)
theorem order1_eq (h : Good l) {id : Int} (hid : id ∈ ids l) : lSuccessionOrder_1_S id (gensL l) = some (gen (pvA l) id : Int) := by
  have hg := gen_top hid
  have := order1_loop h hid (gen (pvA l) id) 0 ((gensL l).length + 1) (by omega) (by omega) (by rw [gensL_len]; omega)
  simp only [lSuccessionOrder_1_S, lSuccessionOrder_1_F, slIndexFuncL_S, slIndexFuncL_F]
  rw [show (0 : Int) = ((0 : Nat) : Int) from rfl, this]
  rfl
namespace successionOrder
theorem loop3 (h : Good l) {y13 : List (List Int) × Int} (hy : y13.1 = gensL l) {x : Int} (hx : x ∈ ids l) {v25 : Int} {k : Int → Option Bool} : ∀ (n i fu : Nat), l.length - i = n → i ≤ l.length → n < fu →
    lSuccessionOrder_L3 l y13 x (gen (pvA l) x : Int) v25 k fu ((maxl (fun b => if isNx x b = true then gen (pvA l) b.ID + 1 else 0) (l.take i) : Int) - 1) (i : Int) = k (IntKind.i64.wrap (v25 + 1))
  | n, i, 0, _, _, h => by omega
  | 0, i, fu + 1, hn, hi, _ => by
    have : i = l.length := by omega
    subst this
    have h0 : decide ((l.length : Int) < (l.length : Int)) = false := decide_eq_false (by omega)
    have hg := gen_bd h.dag hx
    have hw : IntKind.i64.wrap ((gen (pvA l) x : Int) - 1) = (gen (pvA l) x : Int) - 1 := wrap_id (by unfold okI; omega)
    have he : maxl (fun b => if isNx x b = true then gen (pvA l) b.ID + 1 else 0) l = gen (pvA l) x := by
      rw [gen_eq h.dag hx, pvA_maxl (f := fun p => gen (pvA l) p + 1)]
    simp only [lSuccessionOrder_L3, List.length_map, h0, cond_false, hy, order1_eq h hx, Option.bind_some, List.take_length, he, hw, bne_self_eq_false]
  | n + 1, i, fu + 1, hn, _, hf => by
    have hi : i < l.length := by omega
    have h0 : decide ((i : Int) < (l.length : Int)) = true := decide_eq_true (by omega)
    have hid : l[i].ID ∈ ids l := List.mem_map.2 ⟨_, List.getElem_mem hi, rfl⟩
    have ih := loop3 h hy hx (v25 := v25) (k := k) n (i + 1) fu (by omega) (by omega) (by omega)
    rw [List.take_succ_eq_append_getElem hi, maxl_cast] at ih
    simp only [lSuccessionOrder_L3, List.length_map, h0, cond_true, ix_at hi, Option.bind_some, contains_ok h (List.getElem_mem hi), wrap_succ h.l63 hi, hy, order1_eq h hid]
    have hnx : (l[i].Next.any fun z => x == z) = isNx x l[i] := rfl
    rw [hnx]
    cases hc : isNx x l[i] with
    | true =>
      rw [hc] at ih
      simp only [if_true] at ih
      rw [cond_true, ← ih]
      congr 1
      split <;> omega
    | false =>
      rw [hc] at ih
      simp only [Bool.false_eq_true, if_false, Nat.max_zero] at ih
      rw [cond_false]
      exact ih
theorem loop2 (h : Good l) {y13 : List (List Int) × Int} (hy : y13.1 = gensL l) {n16 : Int} {g : Nat} (hg : g < (gensL l).length) {k : Int → Int → Option Bool} : ∀ (n i fu : Nat), (gensL l)[g].length - i = n → i ≤ (gensL l)[g].length → n < fu →
    lSuccessionOrder_L2 l y13 n16 (g : Int) (gensL l)[g] k 1000 fu (i : Int) = k (IntKind.i64.wrap (n16 + ((gensL l)[g].length : Int))) (IntKind.i64.wrap ((g : Int) + 1))
  | n, i, 0, _, _, h => by omega
  | 0, i, fu + 1, hn, hi, _ => by
    have : i = (gensL l)[g].length := by omega
    subst this
    have h0 : decide (((gensL l)[g].length : Int) < ((gensL l)[g].length : Int)) = false := decide_eq_false (by omega)
    simp only [lSuccessionOrder_L2, List.length_map, h0, cond_false]
  | n + 1, i, fu + 1, hn, _, hf => by
    have hi : i < (gensL l)[g].length := by omega
    have hrl := row_len h hg
    have h0 : decide ((i : Int) < ((gensL l)[g].length : Int)) = true := decide_eq_true (by omega)
    have hm := List.getElem_mem hi
    have hmm : ∀ x ∈ (gensL l)[g], x ∈ ids l ∧ gen (pvA l) x = g := fun x hx => by
      rw [gensL_get] at hx
      exact ⟨(List.mem_filter.1 hx).1, beq_iff_eq.1 (List.mem_filter.1 hx).2⟩
    obtain ⟨hx, he⟩ := hmm _ hm
    have ih := loop2 h hy hg (n16 := n16) (k := k) n (i + 1) fu (by omega) (by omega) (by omega)
    have h3 := loop3 h hy hx (v25 := (i : Int)) (k := fun q_v25 => lSuccessionOrder_L2 l y13 n16 (g : Int) (gensL l)[g] k 1000 fu q_v25) l.length 0 1000 (by omega) (by omega) (by have := h.len; omega)
    rw [List.take_zero, he] at h3
    simp only [maxl, Int.natCast_zero, Int.zero_sub] at h3
    simp only [lSuccessionOrder_L2, List.length_map, h0, cond_true, ix_at hi, Option.bind_some]
    rw [← ih, ← wrap_succ (n := (gensL l)[g].length) (by omega) hi]
    exact h3
theorem cnt_step (f : Int → Nat) (g : Nat) : ∀ s : List Int, s.countP (fun x => decide (f x < g + 1)) = s.countP (fun x => decide (f x < g)) + (s.filter fun x => f x == g).length
  | [] => rfl
  | x :: s => by
    rw [List.countP_cons, List.countP_cons, List.filter_cons, cnt_step f g s]
    by_cases h1 : f x < g
    · have : (f x == g) = false := by rw [beq_eq_false_iff_ne]; omega
      rw [this]
      simp only [decide_eq_true_eq, h1, show f x < g + 1 by omega, if_true, Bool.false_eq_true, if_false]; omega
    · by_cases h2 : f x = g
      · simp only [decide_eq_true_eq, h2, beq_self_eq_true, if_true, Nat.lt_irrefl, if_false, List.length_cons, Nat.lt_succ_self]; omega
      · have : (f x == g) = false := by rw [beq_eq_false_iff_ne]; omega
        rw [this]
        simp only [decide_eq_true_eq, h1, show ¬ f x < g + 1 by omega, Bool.false_eq_true, if_false]; omega
theorem loop1 (h : Good l) {y13 : List (List Int) × Int} (hy : y13.1 = gensL l) : ∀ (n g fu : Nat), (gensL l).length - g = n → g ≤ (gensL l).length → n < fu →
    lSuccessionOrder_L1 l y13 1000 fu (((ids l).countP fun x => decide (gen (pvA l) x < g) : Nat) : Int) (g : Int) = some true
  | n, i, 0, _, _, h => by omega
  | 0, i, fu + 1, hn, hi, _ => by
    have : i = (gensL l).length := by omega
    subst this
    have h0 : decide (((gensL l).length : Int) < ((gensL l).length : Int)) = false := decide_eq_false (by omega)
    have he : (ids l).countP (fun x => decide (gen (pvA l) x < (gensL l).length)) = l.length := by
      have : (ids l).length = l.length := by unfold ids; rw [List.length_map]
      rw [← this, List.countP_eq_length]
      intro x hx
      rw [gensL_len]
      exact decide_eq_true (gen_top hx)
    simp only [lSuccessionOrder_L1, List.length_map, hy, h0, cond_false, he, beq_self_eq_true]
  | n + 1, g, fu + 1, hn, _, hf => by
    have hg : g < (gensL l).length := by omega
    have h0 : decide ((g : Int) < ((gensL l).length : Int)) = true := decide_eq_true (by omega)
    have hrl := row_len h hg
    have hne := gensL_ne h hg
    have h1 : (((gensL l)[g].length : Int) == 0) = false := by
      rw [beq_eq_false_iff_ne]
      intro hc
      exact hne (List.length_eq_zero_iff.1 (by omega))
    have hs : slIsSorted_S (gensL l)[g] = some true := slIsSorted_eq (by rw [gensL_get]; exact h.idsrt.filter _) (by omega)
    have ih := loop1 h hy n (g + 1) fu (by omega) (by omega) (by omega)
    rw [cnt_step, ← gensL_get hg] at ih
    have h2 := loop2 h hy hg (n16 := (((ids l).countP fun x => decide (gen (pvA l) x < g) : Nat) : Int)) (k := fun q_n16 q_v17 => lSuccessionOrder_L1 l y13 1000 fu q_n16 q_v17) (gensL l)[g].length 0 1000 (by omega) (by omega) (by omega)
    have hcl : (ids l).countP (fun x => decide (gen (pvA l) x < g)) ≤ (ids l).length := List.countP_le_length
    have hvl := h.dag.len
    have hw1 : IntKind.i64.wrap ((((ids l).countP fun x => decide (gen (pvA l) x < g) : Nat) : Int) + ((gensL l)[g].length : Int)) = (((ids l).countP (fun x => decide (gen (pvA l) x < g)) + (gensL l)[g].length : Nat) : Int) := by
      rw [wrap_id (by unfold okI; omega)]; omega
    have htl := topG_le h
    have hw2 : IntKind.i64.wrap ((g : Int) + 1) = ((g + 1 : Nat) : Int) := wrap_succ (n := (gensL l).length) (by rw [gensL_len]; omega) hg
    rw [hw1, hw2] at h2
    simp only [lSuccessionOrder_L1, List.length_map, hy, h0, cond_true, ix_at hg, Option.bind_some, h1, cond_false, hs, Bool.not_true]
    rw [← ih]
    exact h2
theorem law (l : List Aut) (hl : okAuts l) : lSuccessionOrder_S l = some true := by
  simp only [lSuccessionOrder_S, lSuccessionOrder_F, awake_true, Option.bind_some, Bool.not_true, cond_false, rFew_eq hl]
  cases hf : few l with
  | false => rfl
  | true =>
    have h12 := h12_of hl hf
    simp only [Bool.not_true, cond_false, rCopy_eq hf, Option.bind_some, sGenerations_eq hl h12, gensG]
    cases ha : asksG l [] != 0 with
    | true => simp only [cond_true, ha]; rfl
    | false =>
      obtain ⟨hr, _⟩ := asks_zero (l := l) (is := []) (by simpa using ha)
      have h : Good l := ⟨hl, h12 hr, hr⟩
      simp only [cond_false, bne_self_eq_false]
      have htl := topG_le h
      have := loop1 h (y13 := (gensL l, 0)) rfl (gensL l).length 0 1000 (by omega) (by omega) (by rw [gensL_len]; omega)
      have h0 : (ids l).countP (fun x => decide (gen (pvA l) x < 0)) = 0 := by
        rw [List.countP_eq_zero]; intro x _; simp
      rw [h0] at this
      exact this
end successionOrder
end
end Go.Proofs.Ytdoldlbcjcfmdaa
