/- The law of SuccessionTime. -/
import Derived.Test.YtdoldlbcjcfmdaaLL0
set_option linter.unusedVariables false
set_option linter.unusedSimpArgs false
namespace Go.Proofs.Ytdoldlbcjcfmdaa
open Go Go.Abs
theorem cmpC_self (x : Int) : cmpCompare_S x x = some 0 := by
  rw [cmpCompare_eq, decide_eq_false (by omega)]; rfl
theorem slCompare_refl {l : List Int} (h : l.length ≤ 9223372036854775807) : slCompare_S l l = some 0 := by
  have h1 := loop_scanP (slCompare_L1 l l) l (fun _ _ => none) 0 h (fun fu i hi => by
      have h0 : decide ((i : Int) < (l.length : Int)) = true := decide_eq_true (by omega)
      have h2 : decide ((i : Int) ≥ (l.length : Int)) = false := decide_eq_false (by omega)
      simp only [slCompare_L1, List.length_map, ix_at hi, Option.bind_some, h0, h2, cond_true, wrap_succ h hi, cmpC_self, bne_self_eq_false, cond_false])
    (fun fu => by
      have h0 : decide ((l.length : Int) < (l.length : Int)) = false := decide_eq_false (by omega)
      simp only [slCompare_L1, List.length_map, h0, cond_false]) l.length 0 (l.length + 1) (by omega) (by omega) (by omega)
  have hn : ∀ (s : List Int) (i : Nat), scanP (fun (_ : Nat) (_ : Int) => (none : Option Int)) 0 i s = 0 := by
    intro s
    induction s with
    | nil => intro i; rfl
    | cons x s ih => intro i; exact ih (i + 1)
  rw [List.drop_zero, hn] at h1
  simp only [slCompare_S, slCompare_F]
  exact h1
theorem slCompare_gt {x y : Int} {r s : List Int} (h : y < x) : slCompare_S (x :: r) (y :: s) = some 1 := by
  have h0 : decide ((0 : Int) < ((x :: r).length : Int)) = true := decide_eq_true (by simp only [List.length_cons]; omega)
  have h1 : decide ((0 : Int) ≥ ((y :: s).length : Int)) = false := decide_eq_false (by simp only [List.length_cons]; omega)
  have e1 : ix (x :: r) 0 = some x := ix_at (l := x :: r) (i := 0) (by simp)
  have e2 : ix (y :: s) 0 = some y := ix_at (l := y :: s) (i := 0) (by simp)
  have hc : cmpCompare_S x y = some 1 := by rw [cmpCompare_eq, decide_eq_false (by omega), decide_eq_true (by omega)]; rfl
  simp only [slCompare_S, slCompare_F, slCompare_L1, List.length_map, h0, h1, cond_true, cond_false, e1, e2, Option.bind_some, hc]
  rfl
theorem find_first {p : Int → Bool} : ∀ {s : List Int} {n z : Int}, s.Pairwise (· < ·) → s.find? p = some n → z ∈ s → p z = true → n ≤ z
  | [], _, _, _, h, _, _ => by simp at h
  | x :: s, n, z, hs, h, hz, hp => by
    obtain ⟨h1, h2⟩ := List.pairwise_cons.1 hs
    rw [List.find?_cons] at h
    cases hx : p x with
    | true =>
      rw [hx] at h
      have : x = n := Option.some.inj h
      rcases List.mem_cons.1 hz with e | hz
      · omega
      · have := h1 z hz; omega
    | false =>
      rw [hx] at h
      rcases List.mem_cons.1 hz with e | hz
      · subst e; rw [hp] at hx; cases hx
      · exact find_first h2 h hz hp
theorem slc_tail {α : Type} {w : List α} {i : Nat} (h : i ≤ w.length) : slc w (i : Int) (w.length : Int) = some (w.drop i) := by
  unfold slc
  rw [decide_eq_true (by omega), cond_true]
  congr 1
  rw [Int.toNat_natCast, Int.toNat_natCast, List.take_of_length_le (by rw [List.length_drop]; omega)]
section
variable {V : List Int} {nx pv : Int → List Int} {rk : Int → Int}
theorem wayD_drop (D : Dag V nx pv rk) {y : Int} : ∀ {i d : Nat} {x : Int}, x ∈ V → dst nx x y = some (d + i) → ∃ z ∈ V, dst nx z y = some d ∧ (wayD nx y (d + i) x).drop i = wayD nx y d z
  | 0, d, x, hx, h => ⟨x, hx, h, rfl⟩
  | i + 1, d, x, hx, h => by
    obtain ⟨n, hn, hd⟩ := dst_next (d := d + i) D hx h
    cases hf : (nx x).find? fun n => dst nx n y == some (d + i) with
    | none => exact absurd (List.find?_eq_none.1 hf n hn) (by simp [hd])
    | some m =>
      have hm := List.mem_of_find?_eq_some hf
      have hq : dst nx m y = some (d + i) := by simpa using List.find?_some hf
      obtain ⟨z, hz, h1, h2⟩ := wayD_drop D (D.nxV _ _ hm).2 hq
      refine ⟨z, hz, h1, ?_⟩
      rw [← h2]
      have e : wayD nx y (d + i + 1) x = x :: wayD nx y (d + i) m := by rw [wayD, hf]
      show (wayD nx y (d + i + 1) x).drop (i + 1) = _
      rw [e]; rfl
theorem wayD_step (D : Dag V nx pv rk) {y : Int} {d : Nat} {x : Int} (hx : x ∈ V) (h : dst nx x y = some (d + 1)) : ∃ n, (nx x).find? (fun n => dst nx n y == some d) = some n ∧ n ∈ nx x ∧ n ∈ V ∧ dst nx n y = some d ∧ wayD nx y (d + 1) x = x :: wayD nx y d n := by
  obtain ⟨n, hn, hd⟩ := dst_next D hx h
  cases hf : (nx x).find? fun n => dst nx n y == some d with
  | none => exact absurd (List.find?_eq_none.1 hf n hn) (by simp [hd])
  | some m =>
    have hm := List.mem_of_find?_eq_some hf
    have hq : dst nx m y = some d := by simpa using List.find?_some hf
    refine ⟨m, rfl, hm, (D.nxV _ _ hm).2, hq, ?_⟩
    rw [wayD, hf]
end
section
variable {l : List Aut}
namespace successionTime
theorem loop2 (h : Good l) (hf : few l = true) {a : Aut} (ha : a ∈ l) {to n : Int} {e i : Nat} {w : List Int} {y13 : List Int × Int} {y29 : Aut × Bool} (hto : to ∈ ids l) (h13 : y13.1 = w) (h29 : y29.1 = a)
    (hw : w.length = i + 1 + (e + 1)) (hw12 : w.length ≤ 12) (hdr : w.drop (i + 1) = wayD (nxA l) to e n) (hd : dst (nxA l) a.ID to = some (e + 1)) (hfd : a.Next.find? (fun n => dst (nxA l) n to == some e) = some n) {k : Int → Option Bool} :
    ∀ (m j fu : Nat), a.Next.length - j = m → j ≤ a.Next.length → m < fu → lSuccessionTime_L2 l to y13 (i : Int) y29 k fu (j : Int) = k (IntKind.i64.wrap ((i : Int) + 1))
  | m, j, 0, _, _, h => by omega
  | 0, j, fu + 1, hm, hj, _ => by
    have : j = a.Next.length := by omega
    subst this
    have h0 : decide ((a.Next.length : Int) < (a.Next.length : Int)) = false := decide_eq_false (by omega)
    simp only [lSuccessionTime_L2, List.length_map, h29, h0, cond_false]
  | m + 1, j, fu + 1, hm, _, hfu => by
    have hj : j < a.Next.length := by omega
    have hal := (h.ok.2 a ha).2.2.2.2.1
    have h0 : decide ((j : Int) < (a.Next.length : Int)) = true := decide_eq_true (by omega)
    have ih := loop2 h hf ha hto h13 h29 hw hw12 hdr hd hfd (k := k) m (j + 1) fu (by omega) (by omega) (by omega)
    have hz := List.getElem_mem hj
    have hnx : nxA l a.ID = a.Next := by unfold nxA; rw [h.found ha]
    have hzV : a.Next[j] ∈ ids l := (h.dag.nxV a.ID _ (by rw [hnx]; exact hz)).2
    have hwj := wrap_succ (n := a.Next.length) hal hj
    generalize hze : a.Next[j] = z at hz hzV
    have hw1 : IntKind.i64.wrap (IntKind.i64.wrap ((w.length : Int) - (i : Int)) - 1) = ((e + 1 : Nat) : Int) := by
      rw [wrap_id (n := (w.length : Int) - (i : Int)) (by unfold okI; omega), wrap_id (by unfold okI; omega)]; omega
    have hw2 : IntKind.i64.wrap ((i : Int) + 1) = ((i + 1 : Nat) : Int) := by rw [wrap_id (by unfold okI; omega)]; omega
    have ew : wayG l z to = match dst (nxA l) z to with | some d => (wayD (nxA l) to d z, 0) | none => ([], 10) := by unfold wayG; rw [asks_two h hzV hto]; rfl
    simp only [lSuccessionTime_L2, List.length_map, h29, h0, cond_true, ix_at hj, hze, Option.bind_some, rCopy_eq hf, sWay_eq h.ok (h12_of h.ok hf), ew, h13, hw1, hwj]
    cases hq : dst (nxA l) z to with
    | none => exact ih
    | some d' =>
      obtain ⟨e2, h2, h3⟩ := dst_step (x := a.ID) h.dag (by rw [hnx]; exact hz) hq
      rw [hd] at h2
      have h4 := Option.some.inj h2
      have hl' := wayD_len h.dag hzV hq
      have e5 : decide (((wayD (nxA l) to d' z).length : Int) < ((e + 1 : Nat) : Int)) = false := decide_eq_false (by omega)
      simp only [beq_self_eq_true, cond_true, e5, cond_false]
      cases hee : (((wayD (nxA l) to d' z).length : Int) == ((e + 1 : Nat) : Int)) with
      | false => exact ih
      | true =>
        have hed : d' = e := by have := beq_iff_eq.1 hee; omega
        subst hed
        have hle := find_first (h.nxSrt ha) hfd hz (by rw [hq]; simp)
        rw [hw2] at ih ⊢
        rw [← h13, slc_tail (w := y13.1) (by rw [h13]; omega), h13, hdr]
        simp only [cond_true, Option.bind_some]
        by_cases hzn : n = z
        · subst hzn
          rw [slCompare_refl (by omega)]
          exact ih
        · obtain ⟨r1, e1⟩ := wayD_head (nx := nxA l) (y := to) d' z
          obtain ⟨r2, e3⟩ := wayD_head (nx := nxA l) (y := to) d' n
          rw [e1, e3, slCompare_gt (by omega)]
          exact ih
theorem loop1 (h : Good l) (hf : few l = true) {from_ to : Int} {d : Nat} {y13 : List Int × Int} (hfr : from_ ∈ ids l) (hto : to ∈ ids l) (hd : dst (nxA l) from_ to = some d) (h13 : y13.1 = wayD (nxA l) to d from_) :
    ∀ (n i fu : Nat), d - i = n → i ≤ d → n < fu → lSuccessionTime_L1 l to y13 1000 fu (i : Int) = some true
  | n, i, 0, _, _, h => by omega
  | n, i, fu + 1, hn, hi, hfu => by
    have hwl := wayD_len h.dag hfr hd
    have hd12 : d < 12 := wk_lt h.dag ((dst_some h.dag hfr).1 hd).1 hfr
    have hw1 : IntKind.i64.wrap (((wayD (nxA l) to d from_).length : Int) - 1) = (d : Int) := by rw [hwl, wrap_id (by unfold okI; omega)]; omega
    by_cases hid : i = d
    · have h0 : decide ((i : Int) < (d : Int)) = false := decide_eq_false (by omega)
      simp only [lSuccessionTime_L1, List.length_map, h13, hw1, h0, cond_false]
    · obtain ⟨e, rfl⟩ : ∃ e, d = e + 1 + i := ⟨d - i - 1, by omega⟩
      obtain ⟨x, hx, hxd, hdr⟩ := wayD_drop h.dag hfr hd
      obtain ⟨m, hfd, hmn, hmV, hmd, hst⟩ := wayD_step h.dag hx hxd
      rw [hst] at hdr
      have hil : i < (wayD (nxA l) to (e + 1 + i) from_).length := by omega
      have hil2 : i + 1 < (wayD (nxA l) to (e + 1 + i) from_).length := by omega
      rw [List.drop_eq_getElem_cons hil] at hdr
      obtain ⟨e1, e2⟩ := List.cons.inj hdr
      have e3 : (wayD (nxA l) to (e + 1 + i) from_)[i + 1] = m := by
        rw [List.drop_eq_getElem_cons hil2] at e2
        obtain ⟨r, hr⟩ := wayD_head (nx := nxA l) (y := to) e m
        rw [hr] at e2
        exact (List.cons.inj e2).1
      have h0 : decide ((i : Int) < ((e + 1 + i : Nat) : Int)) = true := decide_eq_true (by omega)
      have hw2 : IntKind.i64.wrap ((i : Int) + 1) = ((i + 1 : Nat) : Int) := by rw [wrap_id (by unfold okI; omega)]; omega
      obtain ⟨a, ha, hax, hfa⟩ := h.ex hx
      obtain ⟨b, hb, hbm, hfb⟩ := h.ex hmV
      have hnx : nxA l x = a.Next := by unfold nxA; rw [hfa]
      rw [hnx] at hfd hmn
      have hub : b.In.From = a.In.Until := by have := (h.nexts ha m hmn).2.2; rw [hfb] at this; exact this
      have hcon : (a.Next.any fun z => m == z) = true := anyB.2 hmn
      have hfin : pFind_S l x = some (a, true) := by rw [h.find, hfa, gone_iff.2 hx]; rfl
      have hfin2 : pFind_S l m = some (b, true) := by rw [h.find, hfb, gone_iff.2 hmV]; rfl
      have h2 := loop2 h hf ha (y13 := y13) (y29 := (a, true)) (n := m) (e := e) (i := i) hto h13 rfl (by omega) (by omega) e2 (by rw [hax]; exact hxd) hfd (k := fun q_v23 => lSuccessionTime_L1 l to y13 1000 fu q_v23) a.Next.length 0 1000 (by omega) (by omega) (by have := (tail_next (h.alone ha).2).1; omega)
      have ih := loop1 h hf hfr hto hd h13 (n - 1) (i + 1) fu (by omega) (by omega) (by omega)
      rw [hw2] at h2
      simp only [lSuccessionTime_L1, List.length_map, h13, hw1, h0, cond_true, rCopy_eq hf, Option.bind_some, ix_at hil, e1, hfin, hw2, ix_at hil2, e3, hfin2, Bool.not_true, cond_false, contains_ok h ha, hcon, hub, bne_self_eq_false]
      rw [← ih]
      exact h2
theorem law (l : List Aut) (from_ to : Int) (hl : okAuts l) (_ : okI from_) (_ : okI to) : lSuccessionTime_S l from_ to = some true := by
  simp only [lSuccessionTime_S, lSuccessionTime_F, awake_true, Option.bind_some, Bool.not_true, cond_false, rFew_eq hl]
  cases hf : few l with
  | false => rfl
  | true =>
    have h12 := h12_of hl hf
    simp only [Bool.not_true, cond_false, rCopy_eq hf, Option.bind_some, sWay_eq hl h12]
    cases ha : asksG l [from_, to] != 0 with
    | true =>
      have e1 : wayG l from_ to = ([], asksG l [from_, to]) := by unfold wayG; rw [ha]; rfl
      rw [e1]
      simp only [ha, cond_true]
      rfl
    | false =>
      have ha0 : asksG l [from_, to] = 0 := by simpa using ha
      obtain ⟨hr, hi⟩ := asks_zero ha0
      have h : Good l := ⟨hl, h12 hr, hr⟩
      have haV := hi from_ (by simp)
      have hbV := hi to (by simp)
      have ew : wayG l from_ to = match dst (nxA l) from_ to with | some d => (wayD (nxA l) to d from_, 0) | none => ([], 10) := by unfold wayG; rw [asks_two h haV hbV]; rfl
      rw [ew]
      cases hq : dst (nxA l) from_ to with
      | none => rfl
      | some d =>
        have hwl := wayD_len h.dag haV hq
        have hd12 : d < 12 := wk_lt h.dag ((dst_some h.dag haV).1 hq).1 haV
        obtain ⟨r, hr'⟩ := wayD_head (nx := nxA l) (y := to) d from_
        have e1 : (((wayD (nxA l) to d from_).length : Int) == 0) = false := by rw [beq_eq_false_iff_ne]; omega
        have e2 : ix (wayD (nxA l) to d from_) 0 = some from_ := by
          rw [hr']; exact ix_at (l := from_ :: r) (i := 0) (by simp)
        have hw1 : IntKind.i64.wrap (((wayD (nxA l) to d from_).length : Int) - 1) = (d : Int) := by rw [hwl, wrap_id (by unfold okI; omega)]; omega
        have e3 : ix (wayD (nxA l) to d from_) (d : Int) = some to := by
          rw [ix_at (show d < (wayD (nxA l) to d from_).length by omega)]
          obtain ⟨z, hz, hzd, hdr⟩ := wayD_drop (i := d) (d := 0) h.dag haV (by rw [Nat.zero_add]; exact hq)
          rw [Nat.zero_add, List.drop_eq_getElem_cons (by omega)] at hdr
          rw [(List.cons.inj hdr).1, dst_zero h.dag hz hzd]
        simp only [bne_self_eq_false, cond_false, List.length_map, e1, e2, Option.bind_some, hw1, e3]
        exact loop1 h hf haV hbV hq rfl d 0 1000 (by omega) (by omega) (by omega)
end successionTime
end
end Go.Proofs.Ytdoldlbcjcfmdaa
