/- What exists on a day; where two meet. -/
import Derived.Test.YtdoldlbcjcfmdaaGreatLG3
set_option linter.unusedVariables false
set_option linter.unusedSimpArgs false
namespace Go.Proofs.YtdoldlbcjcfmdaaGreat
open Go Go.Abs

/-- Deleting in place is a filter. -/
theorem del_loop {L : Nat → Int → Int → List Int → Option (List Int)} {p : Int → Bool}
    (hL : ∀ fu i j v, L (fu + 1) i j v = bif decide (j < ((v.map cInt).length : Int)) then (Option.bind (ix v j) fun x8 => Option.bind (some (p x8)) fun y10 => bif (!y10) then (Option.bind (ix v i) fun x13 => L fu (IntKind.i64.wrap (i + 1)) (IntKind.i64.wrap (j + 1)) (v.set (i).toNat x8)) else L fu i (IntKind.i64.wrap (j + 1)) v) else (bif decide (0 ≤ i ∧ i ≤ (v.length : Int)) && !v.isEmpty then bif decide (0 ≤ i ∧ i ≤ ((wipe v ((i).toNat) 0).length : Int)) then some (((wipe v ((i).toNat) 0).take (i : Int).toNat)) else none else none))
    (o : List Int) (ho : o.length ≤ 1000) (hne : 0 < o.length) : ∀ (n i j fu : Nat) (v : List Int), o.length - j = n → i ≤ j → j ≤ o.length → n < fu → v.length = o.length → v.take i = (o.take j).filter (fun x => !p x) → v.drop j = o.drop j →
      L fu (i : Int) (j : Int) v = some (o.filter fun x => !p x)
  | n, i, j, 0, _, _, _, _, h, _, _, _ => by omega
  | 0, i, j, fu + 1, v, h, hij, hj, _, hl, h1, h2 => by
    have hje : j = o.length := by omega
    have h0 : decide ((j : Int) < (v.length : Int)) = false := decide_eq_false (by omega)
    have e1 : decide (0 ≤ (i : Int) ∧ (i : Int) ≤ (v.length : Int)) = true := decide_eq_true (by omega)
    have e2 : v.isEmpty = false := by cases v with | nil => simp at hl; omega | cons => rfl
    have e3 : (wipe v i 0).length = v.length := wipe_len (by omega)
    have e4 : decide (0 ≤ (i : Int) ∧ (i : Int) ≤ ((wipe v i 0).length : Int)) = true := decide_eq_true (by omega)
    simp only [hL, List.length_map, h0, cond_false, e1, e2, Int.toNat_natCast, Bool.not_false, Bool.and_self, cond_true, e4, Option.some.injEq]
    have : (wipe v i 0).take i = v.take i := by
      unfold wipe
      rw [List.take_append_of_le_length (by rw [List.length_take]; omega), List.take_take, Nat.min_self]
    rw [this, h1, hje, List.take_length]
  | n + 1, i, j, fu + 1, v, h, hij, hj, hf, hl, h1, h2 => by
    have hjl : j < o.length := by omega
    have hjv : j < v.length := by omega
    have hiv : i < v.length := by omega
    have h0 : decide ((j : Int) < (v.length : Int)) = true := decide_eq_true (by omega)
    have hvj : v[j] = o[j] := by
      have q1 : (v.drop j)[0]? = (o.drop j)[0]? := by rw [h2]
      rw [List.getElem?_drop, List.getElem?_drop, Nat.add_zero, List.getElem?_eq_getElem hjv, List.getElem?_eq_getElem hjl] at q1
      exact Option.some.inj q1
    have wj : IntKind.i64.wrap ((j : Int) + 1) = ((j + 1 : Nat) : Int) := wrap_succ (n := v.length) (by omega) hjv
    have wi : IntKind.i64.wrap ((i : Int) + 1) = ((i + 1 : Nat) : Int) := wrap_succ (n := v.length) (by omega) hiv
    have h2' : v.drop (j + 1) = o.drop (j + 1) := by
      rw [← List.drop_drop, ← List.drop_drop, h2]
    have ht : o.take (j + 1) = o.take j ++ [o[j]] := List.take_succ_eq_append_getElem hjl
    simp only [hL, List.length_map, h0, cond_true, ix_at hjv, ix_at hiv, Option.bind_some, hvj, wj, wi, Int.toNat_natCast]
    cases hp : p o[j] with
    | true =>
      simp only [Bool.not_true, cond_false]
      refine del_loop hL o ho hne n i (j + 1) fu v (by omega) (by omega) (by omega) (by omega) hl ?_ h2'
      rw [ht, List.filter_append, h1]
      simp [hp]
    | false =>
      simp only [Bool.not_false, cond_true]
      refine del_loop hL o ho hne n (i + 1) (j + 1) fu _ (by omega) (by omega) (by omega) (by omega) (by rw [List.length_set]; exact hl) ?_ ?_
      · rw [ht, List.filter_append, ← h1]
        have : (v.set i o[j]).take (i + 1) = v.take i ++ [o[j]] := by
          rw [List.take_succ_eq_append_getElem (by rw [List.length_set]; exact hiv), List.getElem_set_self]
          congr 1
          rw [List.take_set_of_le (Nat.le_refl i)]
        rw [this]
        simp [hp]
      · rw [List.drop_set_of_lt (by omega)]; exact h2'
theorem del_whole {L : Nat → Int → Int → List Int → Option (List Int)} {p : Int → Bool} {f : Int → Option Bool} (hf : ∀ x, f x = some (p x))
    (hL : ∀ fu i j v, L (fu + 1) i j v = bif decide (j < ((v.map cInt).length : Int)) then (Option.bind (ix v j) fun x8 => Option.bind (f x8) fun y10 => bif (!y10) then (Option.bind (ix v i) fun x13 => L fu (IntKind.i64.wrap (i + 1)) (IntKind.i64.wrap (j + 1)) (v.set (i).toNat x8)) else L fu i (IntKind.i64.wrap (j + 1)) v) else (bif decide (0 ≤ i ∧ i ≤ (v.length : Int)) && !v.isEmpty then bif decide (0 ≤ i ∧ i ≤ ((wipe v ((i).toNat) 0).length : Int)) then some (((wipe v ((i).toNat) 0).take (i : Int).toNat)) else none else none))
    {o : List Int} (ho : o.length ≤ 900) : (Option.bind (slIndexFuncI_S o f) fun y1 => bif (y1 == (-1)) then some (o) else L 1000 y1 (IntKind.i64.wrap (y1 + 1)) o) = some (o.filter fun x => !p x) := by
  rw [slIndexFuncI_eq (f := f) (p := p) (by omega) fun x _ => hf x, Option.bind_some]
  unfold idxOf
  cases hq : o.findIdx? p with
  | none =>
    rw [List.findIdx?_eq_none_iff] at hq
    simp only [beq_self_eq_true, cond_true, Option.some.injEq]
    exact (List.filter_eq_self.2 fun x hx => by simp [hq x hx]).symm
  | some k =>
    obtain ⟨h1, h2, h3⟩ := List.findIdx?_eq_some_iff_getElem.1 hq
    have e : ((k : Int) == -1) = false := beq_eq_false_iff_ne.2 (by omega)
    have wk : IntKind.i64.wrap ((k : Int) + 1) = ((k + 1 : Nat) : Int) := wrap_succ (n := o.length) (by omega) h1
    simp only [e, cond_false, wk]
    refine del_loop (p := p) (fun fu i j v => by rw [hL]; simp only [hf]) o (by omega) (by omega) (o.length - (k + 1)) k (k + 1) 1000 o rfl (by omega) (by omega) (by omega) rfl ?_ rfl
    rw [List.take_succ_eq_append_getElem h1, List.filter_append]
    have : [o[k]].filter (fun x => !p x) = [] := by simp [h2]
    rw [this, List.append_nil]
    refine (List.filter_eq_self.2 fun x hx => ?_).symm
    obtain ⟨m, hm, rfl⟩ := List.getElem_of_mem hx
    rw [List.length_take] at hm
    rw [List.getElem_take]
    have := h3 m (by omega)
    simpa using this
theorem compact_mem {s : List Int} {x : Int} : x ∈ Lib.compact s ↔ x ∈ s := by
  have hget : ∀ (j : Nat) (hj : j < s.length), s.toArray[j]! = s[j] := fun j hj => by
    rw [getElem!_pos s.toArray j (by simpa using hj)]; simp
  unfold Lib.compact Lib.compactUpTo
  simp only [List.mem_map, List.mem_filter, List.mem_range]
  constructor
  · rintro ⟨j, ⟨hj, _⟩, rfl⟩
    rw [hget j hj]; exact List.getElem_mem hj
  · intro hx
    obtain ⟨j, hj, he⟩ := List.getElem_of_mem hx
    clear hx
    induction j with
    | zero => exact ⟨0, ⟨hj, by simp [Lib.keeps]⟩, by rw [hget 0 hj, he]⟩
    | succ j ih =>
      by_cases hq : s[j + 1] = s[j]
      · exact ih (by omega) (by rw [← hq]; exact he)
      · refine ⟨j + 1, ⟨hj, ?_⟩, by rw [hget _ hj, he]⟩
        refine Lib.keeps_pos ?_
        rw [hget _ hj, Nat.add_sub_cancel, hget j (by omega)]
        exact hq
theorem compact_srt {s : List Int} (h : s.Pairwise (· ≤ ·)) : (Lib.compact s).Pairwise (· < ·) := by
  have hget : ∀ (j : Nat) (hj : j < s.length), s.toArray[j]! = s[j] := fun j hj => by
    rw [getElem!_pos s.toArray j (by simpa using hj)]; simp
  have hle := List.pairwise_iff_getElem.1 h
  have hle' : ∀ (i j : Nat) (hi : i < s.length) (hj : j < s.length), i ≤ j → s[i] ≤ s[j] := fun i j hi hj hij => by
    rcases Nat.eq_or_lt_of_le hij with rfl | hlt
    · exact Int.le_refl _
    · exact hle i j hi hj hlt
  unfold Lib.compact Lib.compactUpTo
  rw [List.pairwise_map, List.pairwise_filter]
  have hr : (List.range s.length).Pairwise fun a b => a < b ∧ b < s.length := by
    rw [List.pairwise_iff_getElem]
    intro i j hi hj hij
    simp only [List.getElem_range]
    simp only [List.length_range] at hj
    exact ⟨hij, hj⟩
  refine hr.imp fun {a b} ⟨hab, hb⟩ _ hk => ?_
  unfold Lib.keeps at hk
  have hk := of_decide_eq_true hk
  rcases hk with hk | hk
  · omega
  · rw [hget b hb, hget (b - 1) (by omega)] at hk
    rw [hget a (by omega), hget b hb]
    have h1 := hle' a (b - 1) (by omega) (by omega) (by omega)
    have h2 := hle' (b - 1) b (by omega) hb (by omega)
    omega
theorem concat_eq {a b : List Int} (ha : a.length ≤ 1000) (hb : b.length ≤ 1000) : slConcat_S [a, b] = some (a ++ b) := by
  have w1 : IntKind.i64.wrap (0 + (a.length : Int)) = (a.length : Int) := by rw [Int.zero_add]; exact wrap_id (by unfold okI; omega)
  have w2 : IntKind.i64.wrap ((a.length : Int) + (b.length : Int)) = (a.length : Int) + b.length := wrap_id (by unfold okI; omega)
  have e1 : decide ((a.length : Int) < 0) = false := decide_eq_false (by omega)
  have e2 : decide ((a.length : Int) + (b.length : Int) < 0) = false := decide_eq_false (by omega)
  have e3 : decide (0 ≤ (a.length : Int) + (b.length : Int) ∧ (a.length : Int) + (b.length : Int) ≤ 4294967296) = true := decide_eq_true (by omega)
  have e4 : decide (([] : List Int).length + a.length ≤ 4294967296) = true := decide_eq_true (by simp; omega)
  have e5 : decide (([] ++ a : List Int).length + b.length ≤ 4294967296) = true := decide_eq_true (by simp; omega)
  have f1 : IntKind.i64.wrap ((0 : Int) + 1) = 1 := by decide
  have f2 : IntKind.i64.wrap ((1 : Int) + 1) = 2 := by decide
  have x0 : ix [a, b] 0 = some a := rfl
  have x1 : ix [a, b] 1 = some b := rfl
  have d0 : decide ((0 : Int) < ((([a, b] : List (List Int)).map cSl_Int).length : Int)) = true := rfl
  have d1 : decide ((1 : Int) < ((([a, b] : List (List Int)).map cSl_Int).length : Int)) = true := rfl
  have d2 : decide ((2 : Int) < ((([a, b] : List (List Int)).map cSl_Int).length : Int)) = false := rfl
  have g0 : decide ((0 : Int) < (([a, b] : List (List Int)).length : Int)) = true := rfl
  have g1 : decide ((1 : Int) < (([a, b] : List (List Int)).length : Int)) = true := rfl
  have g2 : decide ((2 : Int) < (([a, b] : List (List Int)).length : Int)) = false := rfl
  simp only [List.nil_append] at e5
  have s2 : ∀ f, slConcat_L2 [a, b] (f + 1 + 1 + 1) 0 [] = some (a ++ b) := fun f => by
    simp only [slConcat_L2, d0, d1, d2, cond_true, cond_false, x0, x1, Option.bind_some, e4, e5, f1, f2, List.nil_append]
  have s1 : ∀ f N, slConcat_L1 [a, b] N (f + 1 + 1 + 1) 0 0 = slConcat_L2 [a, b] N 0 [] := fun f N => by
    simp only [slConcat_L1, List.length_map, g0, g1, g2, cond_true, cond_false, x0, x1, Option.bind_some, w1, w2, e1, e2, f1, f2, slGrow_XS, e3]
  exact (s1 997 1000).trans (s2 997)
section
variable {l : List Aut} {V : List Int} {nx pv : Int → List Int} {rk : Int → Int}
theorem reachL_len (D : Dag V nx pv rk) (x : Int) : (reachL V nx x).length ≤ 12 := Nat.le_trans (List.length_filter_le _ _) D.len
theorem son1_eq (h : Good l) (day n : Int) : sOn_1_S n l day = some (!(onSpan (found l n).In day)) := by
  simp only [sOn_1_S, sOn_1_F, h.find, Option.bind_some, onSpan]
  by_cases h1 : day < (found l n).In.From
  · have : ¬ (found l n).In.From ≤ day := by omega
    simp [h1, this]
  · have h3 : (found l n).In.From ≤ day := by omega
    by_cases h2 : day < (found l n).In.Until
    · have : ¬ day ≥ (found l n).In.Until := by omega
      simp [h1, h2, h3]
    · have : (found l n).In.Until ≤ day := by omega
      simp [h1, h2, h3, this]
noncomputable def onList (l : List Aut) (id day : Int) : List Int := (ids l).filter fun x => (reachB (nxA l) id x || reachB (pvA l) id x) && onSpan (found l x).In day
noncomputable def onG (l : List Aut) (id day : Int) : List Int × Int := bif asksG l [id] != 0 then ([], asksG l [id]) else bif decide (day < 0) then ([], 2) else bif decide (day > 1048575) then ([], 2) else (onList l id day, 0)
theorem sOn_eq (hl : okAuts l) (h12 : (checkF l).2 = 0 → l.length ≤ 12) (id day : Int) : sOn_S l id day = some (onG l id day) := by
  simp only [sOn_S, sOn_F, sasks_eq hl h12 (is := [id]) (by simp), Option.bind_some, onG]
  cases ha : asksG l [id] != 0 with
  | true => rfl
  | false =>
    obtain ⟨hr, hi⟩ := asks_zero (l := l) (is := [id]) (by simpa using ha)
    have h : Good l := ⟨hl, h12 hr, hr⟩
    have hid := hi id (by simp)
    simp only [cond_false]
    cases decide (day < 0) with
    | true => rfl
    | false =>
      simp only [cond_false]
      cases decide (day > 1048575) with
      | true => rfl
      | false =>
        have n1 := reachL_len h.dag id
        have n2 := reachL_len h.dag.rev id
        simp only [cond_false, reach_fwd h hid, reach_bwd h hid, Option.bind_some, concat_eq (show (reachL (ids l) (nxA l) id).length ≤ 1000 by omega) (show (reachL (ids l) (pvA l) id).length ≤ 1000 by omega)]
        have hlen : (reachL (ids l) (nxA l) id ++ reachL (ids l) (pvA l) id).length ≤ 24 := by simp; omega
        have hsl : (isort (reachL (ids l) (nxA l) id ++ reachL (ids l) (pvA l) id)).length ≤ 24 := by rw [(isort_perm _).length_eq]; exact hlen
        have hcl := compact_len (isort (reachL (ids l) (nxA l) id ++ reachL (ids l) (pvA l) id))
        have z1 : slSortI_XS (reachL (ids l) (nxA l) id ++ reachL (ids l) (pvA l) id) = some (isort (reachL (ids l) (nxA l) id ++ reachL (ids l) (pvA l) id)) := by
          unfold slSortI_XS
          rw [decide_eq_true (by omega), cond_true]
        have z2 : slCompactI_XS (isort (reachL (ids l) (nxA l) id ++ reachL (ids l) (pvA l) id)) = some (Lib.compact (isort (reachL (ids l) (nxA l) id ++ reachL (ids l) (pvA l) id))) := by
          unfold slCompactI_XS
          rw [decide_eq_true (by omega), cond_true]
        rw [z1, Option.bind_some, z2, Option.bind_some]
        have hdel := del_whole (L := slDeleteFunc_L1 l day) (f := fun z0 => sOn_1_S z0 l day) (p := fun x => !(onSpan (found l x).In day)) (fun x => son1_eq h day x) (fun fu i j v => by rfl) (o := Lib.compact (isort (reachL (ids l) (nxA l) id ++ reachL (ids l) (pvA l) id))) (by omega)
        have : slDeleteFunc_XS (Lib.compact (isort (reachL (ids l) (nxA l) id ++ reachL (ids l) (pvA l) id))) l day = some ((Lib.compact (isort (reachL (ids l) (nxA l) id ++ reachL (ids l) (pvA l) id))).filter fun x => !!(onSpan (found l x).In day)) := hdel
        rw [this, Option.bind_some]
        congr 2
        unfold onList
        refine sorted_ext ((compact_srt (isort_sorted _)).filter _) (h.idsrt.filter _) fun x => ?_
        rw [List.mem_filter, List.mem_filter, compact_mem, (isort_perm _).mem_iff, List.mem_append]
        unfold reachL
        rw [List.mem_filter, List.mem_filter]
        simp only [Bool.not_not, Bool.and_eq_true, Bool.or_eq_true]
        constructor
        · rintro ⟨h1 | h1, h2⟩
          · exact ⟨h1.1, .inl h1.2, h2⟩
          · exact ⟨h1.1, .inr h1.2, h2⟩
        · rintro ⟨h0, h1 | h1, h2⟩
          · exact ⟨.inl ⟨h0, h1⟩, h2⟩
          · exact ⟨.inr ⟨h0, h1⟩, h2⟩

noncomputable def bothR (l : List Aut) (a b x : Int) : Bool := reachB (nxA l) a x && reachB (nxA l) b x
/-- The first ones to which both lead. -/
noncomputable def meetL (l : List Aut) (a b : Int) : List Int := (ids l).filter fun x => bothR l a b x && !((pvA l x).any (bothR l a b))
noncomputable def meetG (l : List Aut) (a b : Int) : List Int × Int := bif asksG l [a, b] != 0 then ([], asksG l [a, b]) else (meetL l a b, 0)
theorem sMeet_eq (hl : okAuts l) (h12 : (checkF l).2 = 0 → l.length ≤ 12) (a b : Int) : sMeet_S l a b = some (meetG l a b) := by
  simp only [sMeet_S, sMeet_F, sasks_eq hl h12 (is := [a, b]) (by simp), Option.bind_some, meetG]
  cases ha : asksG l [a, b] != 0 with
  | true => rfl
  | false =>
    obtain ⟨hr, hi⟩ := asks_zero (l := l) (is := [a, b]) (by simpa using ha)
    have h : Good l := ⟨hl, h12 hr, hr⟩
    have haV := hi a (by simp)
    have hbV := hi b (by simp)
    have n1 := reachL_len h.dag a
    have n2 := reachL_len h.dag b
    simp only [cond_false, reach_fwd h haV, reach_fwd h hbV, Option.bind_some]
    have hdel := del_whole (L := slDeleteFunc1_L1 (reachL (ids l) (nxA l) b)) (f := fun z0 => sMeet_1_S z0 (reachL (ids l) (nxA l) b)) (p := fun x => !((reachL (ids l) (nxA l) b).any fun z => x == z))
      (fun x => by simp only [sMeet_1_S, sMeet_1_F, slContains_eq (show (reachL (ids l) (nxA l) b).length ≤ 9223372036854775807 by omega), Option.bind_some]) (fun fu i j v => by rfl) (o := reachL (ids l) (nxA l) a) (by omega)
    have e1 : slDeleteFunc1_XS (reachL (ids l) (nxA l) a) (reachL (ids l) (nxA l) b) = some ((ids l).filter (bothR l a b)) := by
      refine Eq.trans hdel (congrArg some ?_)
      unfold reachL
      rw [List.filter_filter]
      refine List.filter_congr fun x hx => ?_
      have : (((ids l).filter (reachB (nxA l) b)).any fun z => x == z) = reachB (nxA l) b x := by
        rw [Bool.eq_iff_iff, anyB, List.mem_filter]
        exact ⟨fun h => h.2, fun h => ⟨hx, h⟩⟩
      rw [this, Bool.not_not, bothR, Bool.and_comm]
    rw [e1, Option.bind_some]
    have hbl : ((ids l).filter (bothR l a b)).length ≤ 12 := Nat.le_trans (List.length_filter_le _ _) h.dag.len
    generalize hB : (ids l).filter (bothR l a b) = B at hbl ⊢
    have hmem : ∀ x, x ∈ ids l → ((B.any fun z => x == z) = bothR l a b x) := fun x hx => by
      rw [Bool.eq_iff_iff, anyB, ← hB, List.mem_filter]
      exact ⟨fun h => h.2, fun h => ⟨hx, h⟩⟩
    have hpv : ∀ x, slContainsFuncI_S (pvA l x) (fun z0 => sMeet_2_S z0 B) = some ((pvA l x).any (bothR l a b)) := fun x => by
      rw [slContainsFuncI_eq (p := bothR l a b) (by have := h.plen x; omega) fun y hy => by
        simp only [sMeet_2_S, sMeet_2_F, slContains_eq (show B.length ≤ 9223372036854775807 by omega), Option.bind_some]
        rw [hmem y (h.dag.rev.nxV x y hy).2]]
    have hfilt : ∀ (n i fu : Nat) (out : List Int), B.length - i = n → i ≤ B.length → n < fu → out.length ≤ i → sMeet_L1 l B fu out (i : Int) = some (out ++ (B.drop i).filter (fun x => !((pvA l x).any (bothR l a b))), 0) := by
      intro n
      induction n with
      | zero =>
        intro i fu out h1 h2 h3 h4
        obtain ⟨f, rfl⟩ : ∃ f, fu = f + 1 := ⟨fu - 1, by omega⟩
        have : i = B.length := by omega
        subst this
        have h0 : decide ((B.length : Int) < (B.length : Int)) = false := decide_eq_false (by omega)
        simp only [sMeet_L1, List.length_map, h0, cond_false, List.drop_length, List.filter_nil, List.append_nil]
      | succ n ih =>
        intro i fu out h1 h2 h3 h4
        obtain ⟨f, rfl⟩ : ∃ f, fu = f + 1 := ⟨fu - 1, by omega⟩
        have hiB : i < B.length := by omega
        have h0 : decide ((i : Int) < (B.length : Int)) = true := decide_eq_true (by omega)
        have h5 : ∀ x ∈ B, x ∈ ids l := fun x hx => by
          rw [← hB] at hx
          exact (List.mem_filter.1 hx).1
        have hx : B[i] ∈ ids l := h5 _ (List.getElem_mem hiB)
        obtain ⟨c, hc, he, hfd⟩ := h.ex hx
        have e3 : decide (out.length + ([B[i]] : List Int).length ≤ 4294967296) = true := decide_eq_true (by simp; omega)
        simp only [sMeet_L1, List.length_map, ix_at hiB, Option.bind_some, h0, cond_true, h.find, hfd, sback_eq h, he, hpv, e3, wrap_succ (n := B.length) (by omega) hiB]
        rw [List.drop_eq_getElem_cons hiB, List.filter_cons]
        cases (pvA l B[i]).any (bothR l a b) with
        | true => simpa using ih (i + 1) f out (by omega) (by omega) (by omega) (by omega)
        | false =>
          simp only [Bool.not_false, cond_true, if_true]
          rw [ih (i + 1) f _ (by omega) (by omega) (by omega) (by simp; omega)]
          simp
    rw [show (0 : Int) = ((0 : Nat) : Int) from rfl]
    have := hfilt B.length 0 1000 [] (by omega) (by omega) (by omega) (by simp)
    rw [this, List.drop_zero, List.nil_append, ← hB]
    unfold meetL
    rw [List.filter_filter]
    congr 2
    exact List.filter_congr fun x _ => by rw [Bool.and_comm]
end
end Go.Proofs.YtdoldlbcjcfmdaaGreat
