/- The reference: generations. The law of SuccessionAges. -/
import Derived.Test.YtdoldlbcjcfmdaaGreatLT1
import Derived.Test.YtdoldlbcjcfmdaaGreatGK
set_option linter.unusedVariables false
set_option linter.unusedSimpArgs false
namespace Go.Proofs.YtdoldlbcjcfmdaaGreat
open Go Go.Abs
section
variable {l : List Aut}
theorem gen_L1 {y1 : List Int} (hlen : y1.length ≤ 900) {f : Int → Nat} (hb : ∀ p ∈ y1, f p ≤ 100) {self_ : List Aut → Int → Option Int} (hs : ∀ p ∈ y1, self_ l p = some (f p : Int)) : ∀ (n i fu : Nat), y1.length - i = n → i ≤ y1.length → n < fu →
    qgeneration_L1 l y1 self_ fu (maxl (fun p => f p + 1) (y1.take i) : Int) (i : Int) = some (maxl (fun p => f p + 1) y1 : Int)
  | n, i, 0, _, _, h => by omega
  | 0, i, fu + 1, hn, hi, _ => by
    have : i = y1.length := by omega
    subst this
    have h0 : decide ((y1.length : Int) < (y1.length : Int)) = false := decide_eq_false (by omega)
    simp only [qgeneration_L1, List.length_map, h0, cond_false, List.take_length]
  | n + 1, i, fu + 1, hn, _, hf => by
    have hi : i < y1.length := by omega
    have h0 : decide ((i : Int) < (y1.length : Int)) = true := decide_eq_true (by omega)
    have hpb := hb _ (List.getElem_mem hi)
    have ih := gen_L1 hlen hb hs n (i + 1) fu (by omega) (by omega) (by omega)
    rw [List.take_succ_eq_append_getElem hi, maxl_cast] at ih
    have w : IntKind.i64.wrap ((f y1[i] : Int) + 1) = ((f y1[i] + 1 : Nat) : Int) := by rw [wrap_id (by unfold okI; omega)]; omega
    have hm : (if (maxl (fun p => f p + 1) (y1.take i) : Int) < ((f y1[i] + 1 : Nat) : Int) then ((f y1[i] + 1 : Nat) : Int) else (maxl (fun p => f p + 1) (y1.take i) : Int)) = ((max (maxl (fun p => f p + 1) (y1.take i)) (f y1[i] + 1) : Nat) : Int) := by
      split <;> omega
    simp only [qgeneration_L1, List.length_map, h0, cond_true, ix_at hi, Option.bind_some, hs _ (List.getElem_mem hi), w, hm, wrap_succ (n := y1.length) (by omega) hi]
    exact ih
theorem qgen_gen (h : Good l) : ∀ (N : Nat) (x : Int), x ∈ ids l → ahd (ids l) (fun x => - rkA l x) x + 20 < N → qgeneration_F N l x = some (gen (pvA l) x : Int)
  | 0, x, _, hN => by omega
  | N + 1, x, hx, hN => by
    unfold qgeneration_F
    rw [qbefore_eq h, Option.bind_some, gen_eq h.dag hx]
    have hpl := h.plen x
    exact gen_L1 (f := gen (pvA l)) (by omega) (fun p hp => by have := gen_bd h.dag (h.dag.rev.nxV _ _ hp).2; omega) (fun p hp => by
      have := ahd_lt h.dag.rev hp
      exact qgen_gen h N p (h.dag.rev.nxV _ _ hp).2 (by omega)) (pvA l x).length 0 N (by omega) (by omega) (by omega)
theorem qgen_eq (h : Good l) {x : Int} (hx : x ∈ ids l) : qgeneration_S l x = some (gen (pvA l) x : Int) := by
  have := ahd_bd h.dag.rev hx
  exact qgen_gen h 1000 x hx (by omega)
theorem qgens_L2 {g i : Nat} (hg : g ≤ 50) (hi : i < l.length) (hl : l.length ≤ 1000) {k : Int → List (List Int) → Option (List (List Int) × Int)} : ∀ (n fu : Nat) (out : List (List Int)), g + 1 - out.length = n → n < fu → out.length ≤ 100 → (∀ r ∈ out, r.length ≤ 100) →
    ∃ x, (extR out g)[g]? = some x ∧ qGenerations_L2 l (i : Int) (g : Int) k fu out = k ((i + 1 : Nat) : Int) ((extR out g).set g (x ++ [l[i].ID]))
  | n, 0, out, _, h, _, _ => by omega
  | 0, fu + 1, out, h, hf, h100, hr => by
    have hgo : g < out.length := by omega
    have h0 : decide ((out.length : Int) ≤ (g : Int)) = false := decide_eq_false (by omega)
    have e1 : decide ((out[g]).length + ([l[i].ID] : List Int).length ≤ 4294967296) = true := decide_eq_true (by have := hr _ (List.getElem_mem hgo); simp; omega)
    refine ⟨out[g], by rw [extR_self hgo]; exact List.getElem?_eq_getElem hgo, ?_⟩
    simp only [qGenerations_L2, h0, cond_false, ix_at hgo, ix_at hi, Option.bind_some, e1, cond_true, extR_self hgo, Int.toNat_natCast, wrap_succ (n := l.length) (by omega) hi]
  | n + 1, fu + 1, out, h, hf, h100, hr => by
    have hle : out.length ≤ g := by omega
    have h0 : decide ((out.length : Int) ≤ (g : Int)) = true := decide_eq_true (by omega)
    have e1 : decide (out.length + ([[]] : List (List Int)).length ≤ 4294967296) = true := decide_eq_true (by simp; omega)
    obtain ⟨x6, q1, q2⟩ := qgens_L2 hg hi hl (k := k) n fu (out ++ [[]]) (by simp; omega) (by omega) (by simp; omega) (fun r hx => by
      rcases List.mem_append.1 hx with hx | hx
      · exact hr r hx
      · simp at hx; subst hx; simp)
    rw [extR_step hle] at q1 q2
    refine ⟨x6, q1, ?_⟩
    simp only [qGenerations_L2, h0, cond_true, e1]
    exact q2
theorem qgens_L1 (h : Good l) : ∀ (n i fu : Nat) (out : List (List Int)), l.length - i = n → i ≤ l.length → n < fu → out.length = maxl (fun a => gen (pvA l) a.ID + 1) (l.take i) →
    (∀ (g : Nat) (hg : g < out.length), out[g] = ((l.take i).filter fun a => gen (pvA l) a.ID == g).map (·.ID)) → qGenerations_L1 l 1000 fu (i : Int) out = some (gensL l, 0)
  | n, i, 0, _, _, _, h, _, _ => by omega
  | 0, i, fu + 1, out, hn, hi, _, ho, hr => by
    have : i = l.length := by omega
    subst this
    have h0 : decide ((l.length : Int) < (l.length : Int)) = false := decide_eq_false (by omega)
    rw [List.take_length] at ho hr
    simp only [qGenerations_L1, List.length_map, h0, cond_false]
    have : out = gensL l := by
      refine List.ext_getElem (by unfold gensL; rw [List.length_map, List.length_range, ho]) fun g hg1 hg2 => ?_
      rw [hr g hg1]
      simp only [gensL, List.getElem_map, List.getElem_range, ids]
      rw [List.filter_map]
      rfl
    rw [this]
  | n + 1, i, fu + 1, out, hn, _, hf, ho, hr => by
    have hi : i < l.length := by omega
    have h0 : decide ((i : Int) < (l.length : Int)) = true := decide_eq_true (by omega)
    have hl12 := h.len
    have hid : l[i].ID ∈ ids l := List.mem_map.2 ⟨_, List.getElem_mem hi, rfl⟩
    have hgb := gen_bd h.dag hid
    have hob : out.length ≤ 12 := by
      rw [ho]
      exact maxl_le fun b hb => gen_bd h.dag (List.mem_map.2 ⟨b, List.mem_of_mem_take hb, rfl⟩)
    have hrl : ∀ r ∈ out, r.length ≤ 100 := fun r hr' => by
      obtain ⟨g, hg, rfl⟩ := List.getElem_of_mem hr'
      rw [hr g hg, List.length_map]
      have h1 := List.length_filter_le (fun a => gen (pvA l) a.ID == g) (l.take i)
      have h2 : (l.take i).length ≤ l.length := List.length_take_le' i l
      omega
    simp only [qGenerations_L1, List.length_map, h0, cond_true, ix_at hi, Option.bind_some, qgen_eq h hid]
    generalize hgg : gen (pvA l) l[i].ID = g at hgb
    obtain ⟨x6, q1, q2⟩ := qgens_L2 (g := g) (by omega) hi (by omega) (k := fun q_i4 q_out5 => qGenerations_L1 l 1000 fu q_i4 q_out5) (g + 1 - out.length) 1000 out rfl (by omega) (by omega) hrl
    rw [q2]
    have hel := extR_len out g
    have ht := List.take_succ_eq_append_getElem hi
    have hx6 : x6 = ((l.take i).filter fun a => gen (pvA l) a.ID == g).map (·.ID) := by
      have hlt : g < (extR out g).length := by omega
      rw [List.getElem?_eq_getElem hlt] at q1
      have := Option.some.inj q1
      rw [extR_get hlt] at this
      by_cases hgo : g < out.length
      · rw [dif_pos hgo, hr g hgo] at this; exact this.symm
      · rw [dif_neg hgo] at this
        rw [← this]
        have : ((l.take i).filter fun a => gen (pvA l) a.ID == g) = [] := by
          rw [List.filter_eq_nil_iff]
          intro b hb hc
          have h1 := le_maxl (f := fun a : Aut => gen (pvA l) a.ID + 1) hb
          rw [← ho] at h1
          have := beq_iff_eq.1 hc
          omega
        rw [this]; rfl
    refine qgens_L1 h n (i + 1) fu _ (by omega) (by omega) (by omega) ?_ fun j hj => ?_
    · rw [List.length_set, hel, ho, ht, maxl_cast, hgg]
    · rw [List.length_set] at hj
      rw [List.getElem_set, ht, List.filter_append, List.map_append]
      by_cases hjg : g = j
      · subst hjg
        rw [if_pos rfl, hx6]
        simp [hgg]
      · rw [if_neg hjg, extR_get hj]
        have hf2 : ([l[i]].filter fun a => gen (pvA l) a.ID == j) = [] := by simp [hgg, hjg]
        rw [hf2, List.map_nil, List.append_nil]
        by_cases hjo : j < out.length
        · rw [dif_pos hjo]; exact hr j hjo
        · rw [dif_neg hjo]
          have : ((l.take i).filter fun a => gen (pvA l) a.ID == j) = [] := by
            rw [List.filter_eq_nil_iff]
            intro b hb hc
            have h1 := le_maxl (f := fun a : Aut => gen (pvA l) a.ID + 1) hb
            rw [← ho] at h1
            have := beq_iff_eq.1 hc
            omega
          rw [this]; rfl
theorem qGenerations_eq (hl : okAuts l) (hf : few l = true) : qGenerations_S l = some (gensG l) := by
  simp only [qGenerations_S, qGenerations_F, rRight_eq hl hf, Option.bind_some, gensG]
  have ha : asksG l [] = bif (checkF l).2 != 0 then 1 else 0 := by unfold asksG; rfl
  rw [ha]
  cases hc : (checkF l).2 != 0 with
  | true =>
    have : ((checkF l).2 == 0) = false := by rw [bne] at hc; simpa using hc
    rw [this]; rfl
  | false =>
    have : ((checkF l).2 == 0) = true := by rw [bne] at hc; simpa using hc
    have h := good_of hl hf (beq_iff_eq.1 this)
    rw [this]
    simp only [Bool.not_true, cond_false, bne_self_eq_false]
    have hlen := h.len
    exact qgens_L1 h l.length 0 1000 [] (by omega) (by omega) (by omega) rfl (fun g hg => by simp at hg)
theorem same_L2 {a : List (List Int)} {i : Nat} (hi : i < a.length) (hl : a.length ≤ 900) (hr : a[i].length ≤ 900) {k : Int → Option Bool} : ∀ (n j fu : Nat), a[i].length - j = n → j ≤ a[i].length → n < fu → qSame_L2 a a (i : Int) k fu (j : Int) = k ((i + 1 : Nat) : Int)
  | n, j, 0, _, _, h => by omega
  | 0, j, fu + 1, hn, hj, _ => by
    have : j = a[i].length := by omega
    subst this
    have h0 : decide ((a[i].length : Int) < (a[i].length : Int)) = false := decide_eq_false (by omega)
    simp only [qSame_L2, ix_at hi, Option.bind_some, List.length_map, h0, cond_false, wrap_succ (n := a.length) (by omega) hi]
  | n + 1, j, fu + 1, hn, _, hf => by
    have hj : j < a[i].length := by omega
    have h0 : decide ((j : Int) < (a[i].length : Int)) = true := decide_eq_true (by omega)
    simp only [qSame_L2, ix_at hi, Option.bind_some, List.length_map, h0, cond_true, ix_at hj, bne_self_eq_false, cond_false, wrap_succ (n := a[i].length) (by omega) hj]
    exact same_L2 hi hl hr n (j + 1) fu (by omega) (by omega) (by omega)
theorem same_L1 {a : List (List Int)} (hl : a.length ≤ 900) (hr : ∀ r ∈ a, r.length ≤ 900) : ∀ (n i fu : Nat), a.length - i = n → i ≤ a.length → n < fu → qSame_L1 a a 1000 fu (i : Int) = some true
  | n, i, 0, _, _, h => by omega
  | 0, i, fu + 1, hn, hi, _ => by
    have : i = a.length := by omega
    subst this
    have h0 : decide ((a.length : Int) < (a.length : Int)) = false := decide_eq_false (by omega)
    simp only [qSame_L1, List.length_map, h0, cond_false]
  | n + 1, i, fu + 1, hn, _, hf => by
    have hi : i < a.length := by omega
    have h0 : decide ((i : Int) < (a.length : Int)) = true := decide_eq_true (by omega)
    have hri := hr _ (List.getElem_mem hi)
    simp only [qSame_L1, List.length_map, h0, cond_true, ix_at hi, Option.bind_some, bne_self_eq_false, cond_false]
    rw [show (0 : Int) = ((0 : Nat) : Int) from rfl, same_L2 hi hl hri a[i].length 0 1000 (by omega) (by omega) (by omega)]
    exact same_L1 hl hr n (i + 1) fu (by omega) (by omega) (by omega)
theorem qSame_eq {a : List (List Int)} (hl : a.length ≤ 900) (hr : ∀ r ∈ a, r.length ≤ 900) : qSame_S a a = some true := by
  simp only [qSame_S, qSame_F, bne_self_eq_false, cond_false]
  exact same_L1 hl hr a.length 0 1000 (by omega) (by omega) (by omega)
namespace successionAges
theorem law (l : List Aut) (hl : okAuts l) : lSuccessionAges_S l = some true := by
  simp only [lSuccessionAges_S, lSuccessionAges_F, awake_true, Option.bind_some, Bool.not_true, cond_false, rFew_eq hl]
  cases hf : few l with
  | false => rfl
  | true =>
    have h12 := h12_of hl hf
    have hb : (gensG l).1.length ≤ 900 ∧ ∀ r ∈ (gensG l).1, r.length ≤ 900 := by
      unfold gensG
      cases ha : asksG l [] != 0 with
      | true => exact ⟨Nat.zero_le _, fun r hr => by simp at hr⟩
      | false =>
        obtain ⟨hr, _⟩ := asks_zero (l := l) (is := []) (by simpa using ha)
        have h := good_of hl hf hr
        constructor
        · show (gensL l).length ≤ 900
          unfold gensL
          rw [List.length_map, List.length_range]
          have : maxl (fun a => gen (pvA l) a.ID + 1) l ≤ 12 := maxl_le fun b hb => gen_bd h.dag (List.mem_map.2 ⟨b, hb, rfl⟩)
          omega
        · intro r hr
          have hr' : r ∈ gensL l := hr
          unfold gensL at hr'
          obtain ⟨g, _, rfl⟩ := List.mem_map.1 hr'
          have h1 := List.length_filter_le (fun x => gen (pvA l) x == g) (ids l)
          have h2 := h.dag.len
          omega
    simp only [Bool.not_true, cond_false, rCopy_eq hf, Option.bind_some, sGenerations_eq hl h12, qGenerations_eq hl hf, qSame_eq hb.1 hb.2, cond_true, beq_self_eq_true]
end successionAges
end
end Go.Proofs.YtdoldlbcjcfmdaaGreat
