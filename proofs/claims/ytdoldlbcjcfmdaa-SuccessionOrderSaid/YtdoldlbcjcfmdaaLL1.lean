/- The plain laws of archivumlaw25.SuccessionBoth and SuccessionMeets. -/
import Derived.Test.YtdoldlbcjcfmdaaLG7
import Derived.Test.YtdoldlbcjcfmdaaAw
set_option linter.unusedVariables false
set_option linter.unusedSimpArgs false
namespace Go.Proofs.Ytdoldlbcjcfmdaa
open Go Go.Abs
theorem slEqual_refl {l : List Int} (h : l.length ≤ 9223372036854775807) : slEqual_S l l = some true := by
  have h1 := loop_scanP (slEqual_L1 l l) l (fun _ _ => none) true h (fun fu i hi => by
      have h0 : decide ((i : Int) < (l.length : Int)) = true := decide_eq_true (by omega)
      simp only [slEqual_L1, List.length_map, ix_at hi, Option.bind_some, h0, cond_true, wrap_succ h hi, bne_self_eq_false, cond_false])
    (fun fu => by
      have h0 : decide ((l.length : Int) < (l.length : Int)) = false := decide_eq_false (by omega)
      simp only [slEqual_L1, List.length_map, h0, cond_false]) l.length 0 (l.length + 1) (by omega) (by omega) (by omega)
  have hn : ∀ (s : List Int) (i : Nat), scanP (fun (_ : Nat) (_ : Int) => (none : Option Bool)) true i s = true := by
    intro s
    induction s with
    | nil => intro i; rfl
    | cons x s ih => intro i; exact ih (i + 1)
  rw [List.drop_zero, hn] at h1
  simp only [slEqual_S, slEqual_F, bne_self_eq_false, cond_false]
  exact h1
section
variable {l : List Aut}
theorem asks_one (h : Good l) {x : Int} : asksG l [x] = 0 ↔ x ∈ ids l := by
  constructor
  · intro h1; exact (asks_zero h1).2 x (by simp)
  · intro hx
    unfold asksG
    rw [show ((checkF l).2 != 0) = false by rw [h.right]; rfl]
    simp [gone_iff.2 hx]
theorem asks_two (h : Good l) {x y : Int} (hx : x ∈ ids l) (hy : y ∈ ids l) : asksG l [x, y] = 0 := by
  unfold asksG
  rw [show ((checkF l).2 != 0) = false by rw [h.right]; rfl]
  simp [gone_iff.2 hx, gone_iff.2 hy]
theorem asks_swap (x y : Int) : asksG l [x, y] = asksG l [y, x] := by
  unfold asksG
  simp only [List.any_cons, List.any_nil, Bool.or_false]
  rw [Bool.or_comm]
theorem anyReach {V : List Int} {nx pv : Int → List Int} {rk : Int → Int} (D : Dag V nx pv rk) {x y : Int} (hx : x ∈ V) : ((reachL V nx x).any fun z => y == z) = reachB nx x y := by
  rw [Bool.eq_iff_iff, anyB, mem_reachL D hx, reachB_iff]
theorem reach_rev (h : Good l) (x y : Int) : reachB (pvA l) y x = reachB (nxA l) x y := by
  rw [Bool.eq_iff_iff, reachB_iff, reachB_iff]
  constructor
  · rintro ⟨k, hk⟩; exact ⟨k, hk.rev h.dag.rev⟩
  · rintro ⟨k, hk⟩; exact ⟨k, hk.rev h.dag⟩
theorem h12_of (hl : okAuts l) (hf : few l = true) : (checkF l).2 = 0 → l.length ≤ 12 := fun hr => (good_of hl hf hr).len
theorem slContains_reach {V : List Int} {nx pv : Int → List Int} {rk : Int → Int} (D : Dag V nx pv rk) {x : Int} (y : Int) (hx : x ∈ V) : slContains_S (reachL V nx x) y = some (reachB nx x y) := by
  rw [slContains_eq (by have := reachL_len D x; omega), anyReach D hx]
namespace successionBoth
theorem law (l : List Aut) (a b : Int) (hl : okAuts l) (_ : okI a) (_ : okI b) : lSuccessionBoth_S l a b = some true := by
  simp only [lSuccessionBoth_S, lSuccessionBoth_F, awake_true, Option.bind_some, Bool.not_true, cond_false, rFew_eq hl]
  cases hf : few l with
  | false => rfl
  | true =>
    have h12 := h12_of hl hf
    simp only [Bool.not_true, cond_false, rCopy_eq hf, Option.bind_some, sForward_eq hl h12, sBack_eq hl h12, sWay_eq hl h12, sShare_eq hl h12]
    cases ha : asksG l [a] != 0 with
    | true =>
      have e1 : fwdF l a = ([], asksG l [a]) := by unfold fwdF; rw [ha]; rfl
      rw [e1]
      simp only [ha, cond_true]
      rfl
    | false =>
      have ha0 : asksG l [a] = 0 := by simpa using ha
      have h : Good l := ⟨hl, h12 (asks_zero ha0).1, (asks_zero ha0).1⟩
      have haV := (asks_one h).1 ha0
      have e1 : fwdF l a = (reachL (ids l) (nxA l) a, 0) := by unfold fwdF; rw [ha]; rfl
      rw [e1]
      cases hb : asksG l [b] != 0 with
      | true =>
        have e2 : bwdF l b = ([], asksG l [b]) := by unfold bwdF; rw [hb]; rfl
        rw [e2]
        simp only [hb, cond_true]
        cases ((((reachL (ids l) (nxA l) a).map cInt).length : Int) == 0) <;> rfl
      | false =>
        have hb0 : asksG l [b] = 0 := by simpa using hb
        have hbV := (asks_one h).1 hb0
        have e2 : bwdF l b = (reachL (ids l) (pvA l) b, 0) := by unfold bwdF; rw [hb]; rfl
        have e3 : shareG l a b = ((tot (nxA l) a b : Int), 0) := by unfold shareG; rw [asks_two h haV hbV]; rfl
        have e4 : wayG l a b = match dst (nxA l) a b with | some d => (wayD (nxA l) b d a, 0) | none => ([], 10) := by unfold wayG; rw [asks_two h haV hbV]; rfl
        rw [e2, e3, e4]
        simp only [bne_self_eq_false, cond_false, slContains_reach h.dag b haV, slContains_reach h.dag.rev a hbV, Option.bind_some, reach_rev h, beq_self_eq_true, cond_true]
        have hpos := tot_pos (x := a) (y := b) h.dag haV
        cases hR : reachB (nxA l) a b with
        | true =>
          obtain ⟨k, hk⟩ := reachB_iff.1 hR
          obtain ⟨d, hd, _⟩ := dst_wk h.dag haV hk
          have ht := hpos.2 ⟨k, hk⟩
          have e5 : decide ((tot (nxA l) a b : Int) > 0) = true := decide_eq_true (by omega)
          have e6 : decide ((((wayD (nxA l) b d a).map cInt).length : Int) > 0) = true := decide_eq_true (by rw [List.length_map, wayD_len h.dag haV hd]; omega)
          rw [hd]
          simp only [beq_self_eq_true, cond_true, e5, e6]
        | false =>
          have hn : ∀ k, ¬ Wk (nxA l) k a b := fun k hk => by
            have := reachB_iff.2 ⟨k, hk⟩
            rw [hR] at this; cases this
          have hd := (dst_none h.dag haV).2 hn
          have ht : ¬ 0 < tot (nxA l) a b := fun hc => by obtain ⟨k, hk⟩ := hpos.1 hc; exact hn k hk
          have e5 : decide ((tot (nxA l) a b : Int) > 0) = false := decide_eq_false (by omega)
          rw [hd]
          simp only [e5]
          rfl
end successionBoth
theorem bothR_swap (a b x : Int) : bothR l a b x = bothR l b a x := by unfold bothR; rw [Bool.and_comm]
theorem meetL_swap (a b : Int) : meetL l a b = meetL l b a := by
  unfold meetL
  have : bothR l a b = bothR l b a := funext (bothR_swap a b)
  rw [this]
theorem mem_meetL {a b x : Int} : x ∈ meetL l a b ↔ x ∈ ids l ∧ bothR l a b x = true ∧ ∀ p ∈ pvA l x, bothR l a b p = false := by
  unfold meetL
  rw [List.mem_filter, Bool.and_eq_true, Bool.not_eq_true', List.any_eq_false]
  simp only [Bool.not_eq_true]
/-- Going back among what both lead to, one comes to a first one. -/
theorem first_of (h : Good l) {a b : Int} : ∀ (n : Nat) (x : Int), ahd (ids l) (fun x => - rkA l x) x = n → x ∈ ids l → bothR l a b x = true → ∃ y ∈ meetL l a b, ∃ k, Wk (pvA l) k x y := by
  intro n
  induction n using Nat.strongRecOn with
  | _ n ih =>
    intro x hn hx hb
    by_cases hall : ∀ p ∈ pvA l x, bothR l a b p = false
    · exact ⟨x, mem_meetL.2 ⟨hx, hb, hall⟩, 0, .nil x⟩
    · have : ∃ p ∈ pvA l x, bothR l a b p = true := by
        apply Classical.byContradiction
        intro hc
        exact hall fun p hp => by
          rw [Bool.eq_false_iff]; exact fun hq => hc ⟨p, hp, hq⟩
      obtain ⟨p, hp, hpb⟩ := this
      have hlt := ahd_lt h.dag.rev hp
      obtain ⟨y, hy, k, hk⟩ := ih _ (by omega) p rfl (h.dag.rev.nxV _ _ hp).2 hpb
      exact ⟨y, hy, k + 1, .cons hp hk⟩
namespace successionMeets
theorem loop2 (h : Good l) {y13 : List Int × Int} {v36 x38 : Int} {k : Int → Option Bool} {a b : Int} (hy : y13.1 = meetL l a b) (hx : x38 ∈ meetL l a b) : ∀ (n i fu : Nat), l.length - i = n → i ≤ l.length → n < fu →
    lSuccessionMeets_L2 l y13 v36 x38 k fu (i : Int) = k (IntKind.i64.wrap (v36 + 1))
  | n, i, 0, _, _, h => by omega
  | 0, i, fu + 1, hn, hi, _ => by
    have : i = l.length := by omega
    subst this
    have h0 : decide ((l.length : Int) < (l.length : Int)) = false := decide_eq_false (by omega)
    simp only [lSuccessionMeets_L2, List.length_map, h0, cond_false]
  | n + 1, i, fu + 1, hn, _, hf => by
    have hi : i < l.length := by omega
    have h0 : decide ((i : Int) < (l.length : Int)) = true := decide_eq_true (by omega)
    have hml : (meetL l a b).length ≤ 12 := Nat.le_trans (List.length_filter_le _ _) h.dag.len
    simp only [lSuccessionMeets_L2, List.length_map, ix_at hi, Option.bind_some, h0, cond_true, contains_ok h (List.getElem_mem hi), wrap_succ h.l63 hi, hy, slContains_eq (show (meetL l a b).length ≤ 9223372036854775807 by omega)]
    have ih := loop2 h (v36 := v36) (k := k) hy hx n (i + 1) fu (by omega) (by omega) (by omega)
    cases hc : l[i].Next.any (fun x => x38 == x) with
    | false => exact ih
    | true =>
      have hp : l[i].ID ∈ pvA l x38 := mem_pvA.2 ⟨l[i], List.getElem_mem hi, anyB.1 hc, rfl⟩
      have hnb := (mem_meetL.1 hx).2.2 _ hp
      have : ((meetL l a b).any fun z => l[i].ID == z) = false := anyBF.2 fun hm => by rw [(mem_meetL.1 hm).2.1] at hnb; cases hnb
      rw [this]
      exact ih
theorem loop3 (h : Good l) {a b : Int} (ha : a ∈ ids l) (hb : b ∈ ids l) (hf : few l = true) {y13 y25 y29 : List Int × Int} (h13 : y13.1 = meetL l a b) (h25 : y25.1 = reachL (ids l) (nxA l) a) (h29 : y29.1 = reachL (ids l) (nxA l) b) :
    ∀ (n i fu : Nat), (reachL (ids l) (nxA l) a).length - i = n → i ≤ (reachL (ids l) (nxA l) a).length → n < fu → lSuccessionMeets_L3 l y13 y25 y29 fu (i : Int) = some true
  | n, i, 0, _, _, h => by omega
  | 0, i, fu + 1, hn, hi, _ => by
    have : i = (reachL (ids l) (nxA l) a).length := by omega
    subst this
    have h0 : decide (((reachL (ids l) (nxA l) a).length : Int) < ((reachL (ids l) (nxA l) a).length : Int)) = false := decide_eq_false (by omega)
    simp only [lSuccessionMeets_L3, List.length_map, h25, h0, cond_false]
  | n + 1, i, fu + 1, hn, _, hfu => by
    have hi : i < (reachL (ids l) (nxA l) a).length := by omega
    have hrl := reachL_len h.dag a
    have h0 : decide ((i : Int) < ((reachL (ids l) (nxA l) a).length : Int)) = true := decide_eq_true (by omega)
    have hxm := List.getElem_mem hi
    have hxV : (reachL (ids l) (nxA l) a)[i] ∈ ids l := (List.mem_filter.1 hxm).1
    have hxa : reachB (nxA l) a (reachL (ids l) (nxA l) a)[i] = true := (List.mem_filter.1 hxm).2
    have hw : IntKind.i64.wrap ((i : Int) + 1) = ((i + 1 : Nat) : Int) := wrap_succ (n := (reachL (ids l) (nxA l) a).length) (by omega) hi
    have ih := loop3 h ha hb hf h13 h25 h29 n (i + 1) fu (by omega) (by omega) (by omega)
    generalize hx : (reachL (ids l) (nxA l) a)[i] = x at hxV hxa
    simp only [lSuccessionMeets_L3, List.length_map, h25, h0, cond_true, ix_at hi, hx, Option.bind_some, h29, slContains_reach h.dag x hb, hw]
    cases hxb : reachB (nxA l) b x with
    | false => exact ih
    | true =>
      have hbk : sBack_S l x = some (reachL (ids l) (pvA l) x, 0) := by
        rw [sBack_eq h.ok (h12_of h.ok hf)]
        unfold bwdF
        rw [(asks_one h).2 hxV]; rfl
      have hml : (meetL l a b).length ≤ 12 := Nat.le_trans (List.length_filter_le _ _) h.dag.len
      have hbl := reachL_len h.dag.rev x
      simp only [Bool.not_true, cond_false, rCopy_eq hf, Option.bind_some, hbk, bne_self_eq_false]
      rw [slContainsFuncI_eq (p := fun n => (meetL l a b).any fun z => n == z) (by omega) fun y _ => by
        simp only [lSuccessionMeets_1_S, lSuccessionMeets_1_F, h13, slContains_eq (show (meetL l a b).length ≤ 9223372036854775807 by omega), Option.bind_some]]
      have : ((reachL (ids l) (pvA l) x).any fun n => (meetL l a b).any fun z => n == z) = true := by
        obtain ⟨y, hy, k, hk⟩ := first_of h (a := a) (b := b) _ x rfl hxV (by unfold bothR; rw [hxa, hxb]; rfl)
        exact List.any_eq_true.2 ⟨y, (mem_reachL h.dag.rev hxV).2 ⟨k, hk⟩, anyB.2 hy⟩
      rw [this]
      exact ih
theorem loop1 (h : Good l) {a b : Int} (ha : a ∈ ids l) (hb : b ∈ ids l) (hf : few l = true) {y13 y25 y29 : List Int × Int} (h13 : y13.1 = meetL l a b) (h25 : y25.1 = reachL (ids l) (nxA l) a) (h29 : y29.1 = reachL (ids l) (nxA l) b) :
    ∀ (n i fu : Nat), (meetL l a b).length - i = n → i ≤ (meetL l a b).length → n < fu → lSuccessionMeets_L1 l y13 y25 y29 1000 fu (i : Int) = some true
  | n, i, 0, _, _, h => by omega
  | 0, i, fu + 1, hn, hi, _ => by
    have : i = (meetL l a b).length := by omega
    subst this
    have h0 : decide (((meetL l a b).length : Int) < ((meetL l a b).length : Int)) = false := decide_eq_false (by omega)
    simp only [lSuccessionMeets_L1, List.length_map, h13, h0, cond_false]
    have := reachL_len h.dag a
    exact loop3 h ha hb hf h13 h25 h29 _ 0 1000 rfl (by omega) (by omega)
  | n + 1, i, fu + 1, hn, _, hfu => by
    have hi : i < (meetL l a b).length := by omega
    have hml : (meetL l a b).length ≤ 12 := Nat.le_trans (List.length_filter_le _ _) h.dag.len
    have h0 : decide ((i : Int) < ((meetL l a b).length : Int)) = true := decide_eq_true (by omega)
    have hw : IntKind.i64.wrap ((i : Int) + 1) = ((i + 1 : Nat) : Int) := wrap_succ (n := (meetL l a b).length) (by omega) hi
    have ih := loop1 h ha hb hf h13 h25 h29 n (i + 1) fu (by omega) (by omega) (by omega)
    have hxm := List.getElem_mem hi
    obtain ⟨_, hxb, _⟩ := mem_meetL.1 hxm
    unfold bothR at hxb
    rw [Bool.and_eq_true] at hxb
    have hlen := h.len
    simp only [lSuccessionMeets_L1, List.length_map, h13, h0, cond_true, ix_at hi, Option.bind_some, h25, h29, slContains_reach h.dag _ ha, slContains_reach h.dag _ hb, hxb.1, hxb.2, Bool.not_true, cond_false]
    rw [show (0 : Int) = ((0 : Nat) : Int) from rfl, loop2 h h13 hxm l.length 0 1000 rfl (by omega) (by omega), hw]
    exact ih
theorem law (l : List Aut) (a b : Int) (hl : okAuts l) (_ : okI a) (_ : okI b) : lSuccessionMeets_S l a b = some true := by
  simp only [lSuccessionMeets_S, lSuccessionMeets_F, awake_true, Option.bind_some, Bool.not_true, cond_false, rFew_eq hl]
  cases hf : few l with
  | false => rfl
  | true =>
    have h12 := h12_of hl hf
    simp only [Bool.not_true, cond_false, rCopy_eq hf, Option.bind_some, sForward_eq hl h12, sMeet_eq hl h12]
    cases ha : asksG l [a, b] != 0 with
    | true =>
      have e1 : meetG l a b = ([], asksG l [a, b]) := by unfold meetG; rw [ha]; rfl
      have e2 : meetG l b a = ([], asksG l [a, b]) := by unfold meetG; rw [asks_swap b a, ha]; rfl
      rw [e1, e2]
      simp only [ha, cond_true]
      rfl
    | false =>
      have ha0 : asksG l [a, b] = 0 := by simpa using ha
      obtain ⟨hr, hi⟩ := asks_zero ha0
      have h : Good l := ⟨hl, h12 hr, hr⟩
      have haV := hi a (by simp)
      have hbV := hi b (by simp)
      have e1 : meetG l a b = (meetL l a b, 0) := by unfold meetG; rw [ha]; rfl
      have e2 : meetG l b a = (meetL l a b, 0) := by unfold meetG; rw [asks_swap b a, ha, meetL_swap]; rfl
      have e3 : fwdF l a = (reachL (ids l) (nxA l) a, 0) := by unfold fwdF; rw [(asks_one h).2 haV]; rfl
      have e4 : fwdF l b = (reachL (ids l) (nxA l) b, 0) := by unfold fwdF; rw [(asks_one h).2 hbV]; rfl
      have hml : (meetL l a b).length ≤ 12 := Nat.le_trans (List.length_filter_le _ _) h.dag.len
      rw [e1, e2, e3, e4]
      simp only [bne_self_eq_false, cond_false, slEqual_refl (show (meetL l a b).length ≤ 9223372036854775807 by omega), Option.bind_some, Bool.not_true]
      exact loop1 h haV hbV hf rfl rfl rfl _ 0 1000 rfl (by omega) (by omega)
end successionMeets
end
end Go.Proofs.Ytdoldlbcjcfmdaa
