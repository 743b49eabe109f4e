/- The reference: who is known, what is reached, what exists on a day. The law of SuccessionFollows. -/
import Derived.Test.YtdoldlbcjcfmdaaGreatLL0
set_option linter.unusedVariables false
set_option linter.unusedSimpArgs false
namespace Go.Proofs.YtdoldlbcjcfmdaaGreat
open Go Go.Abs
section
variable {l : List Aut}
theorem rRight_eq (hl : okAuts l) (hf : few l = true) : rRight_S l = some ((checkF l).2 == 0) := by
  simp only [rRight_S, rRight_F, rCheck_eq hl hf, Option.bind_some]
theorem qknown_eq (hl : okAuts l) (hf : few l = true) (id : Int) : qknown_S l id = some (asksG l [id]) := by
  simp only [qknown_S, qknown_F, rRight_eq hl hf, rFind_eq' hl.1, Option.bind_some, asksG, List.any_cons, List.any_nil, Bool.or_false]
  cases h1 : (checkF l).2 == 0 with
  | true =>
    have : ((checkF l).2 != 0) = false := by rw [bne, h1]; rfl
    rw [this]
    cases gone l id <;> rfl
  | false =>
    have : ((checkF l).2 != 0) = true := by rw [bne, h1]; rfl
    rw [this]; rfl
theorem asks_cons (a b : Int) : asksG l [a, b] = bif asksG l [a] != 0 then asksG l [a] else asksG l [b] := by
  unfold asksG
  simp only [List.any_cons, List.any_nil, Bool.or_false]
  cases (checkF l).2 != 0 <;> cases gone l a <;> cases gone l b <;> rfl
theorem qhas_eq {s : List Int} (h : s.length ≤ 900) (n : Int) : qhas_S s n = some (s.any fun z => n == z) := by
  have h1 := loop_scanP (qhas_L1 s n) s (fun _ x => bif x == n then some true else none) false (by omega) (fun fu i hi => by
      have h0 : decide ((i : Int) < (s.length : Int)) = true := decide_eq_true (by omega)
      simp only [qhas_L1, List.length_map, ix_at hi, Option.bind_some, h0, cond_true, wrap_succ (n := s.length) (by omega) hi]
      cases s[i] == n <;> rfl)
    (fun fu => by
      have h0 : decide ((s.length : Int) < (s.length : Int)) = false := decide_eq_false (by omega)
      simp only [qhas_L1, List.length_map, h0, cond_false]) s.length 0 1000 (by omega) (by omega) (by omega)
  rw [List.drop_zero, scanP_any] at h1
  have he : (s.any fun x => x == n) = s.any fun z => n == z := by
    congr 1; funext x
    rw [Bool.eq_iff_iff, beq_iff_eq, beq_iff_eq]; exact eq_comm
  rw [he] at h1
  simp only [qhas_S, qhas_F]
  refine Eq.trans h1 ?_
  cases s.any fun z => n == z <;> rfl
theorem has_next (h : Good l) {a : Aut} (ha : a ∈ l) (y : Int) : qhas_S a.Next y = some (a.Next.any fun x => y == x) :=
  qhas_eq (by have := (tail_next (h.alone ha).2).1; omega) y
theorem qbefore_eq (h : Good l) (id : Int) : qbefore_S l id = some (pvA l id) := by
  have h1 := filt_loop (lst := l) (qbefore_L1 l id) (fun x => x.Next.any fun z => id == z) (·.ID) (by have := h.len; omega) (fun fu i out hi ho => by
      have h0 : decide ((i : Int) < (l.length : Int)) = true := decide_eq_true (by omega)
      have := h.len
      have e3 : decide (out.length + ([l[i].ID] : List Int).length ≤ 4294967296) = true := decide_eq_true (by simp; omega)
      simp only [qbefore_L1, List.length_map, ix_at hi, Option.bind_some, h0, cond_true, wrap_succ h.l63 hi, has_next h (List.getElem_mem hi), e3])
    (fin := some) (fun fu out => by
      have h0 : decide ((l.length : Int) < (l.length : Int)) = false := decide_eq_false (by omega)
      simp only [qbefore_L1, List.length_map, h0, cond_false]) l.length 0 1000 [] (by omega) (by omega) (by have := h.len; omega) (by simp)
  rw [List.drop_zero, List.nil_append] at h1
  exact h1
def stB (l : List Aut) (back : Bool) : Int → List Int := bif back then pvA l else nxA l
theorem qstep_eq (h : Good l) (id : Int) (back : Bool) : qstep_S l id back = some (stB l back id) := by
  cases back <;> simp only [qstep_S, qstep_F, qbefore_eq h, rFind_eq' h.l63, Option.bind_some, stB, nxA, cond_true, cond_false]
theorem slc_head {α : Type} {w : List α} {i : Nat} (h : i ≤ w.length) : slc w 0 (i : Int) = some (w.take i) := by
  unfold slc
  rw [decide_eq_true (by omega), cond_true]
  rfl
theorem slc_tail' {α : Type} {w : List α} {i : Nat} (h : i ≤ w.length) : slc w (i : Int) (w.length : Int) = some (w.drop i) := by
  unfold slc
  rw [decide_eq_true (by omega), cond_true]
  congr 1
  rw [Int.toNat_natCast, Int.toNat_natCast, List.take_of_length_le (by rw [List.length_drop]; omega)]
theorem ins_loop {s : List Int} {n : Int} (hs : s.Pairwise (· < ·)) (hl : s.length ≤ 900) : ∀ (k i fu : Nat), s.length - i = k → i ≤ s.length → k < fu → (∀ x ∈ s.take i, x < n) →
    ∃ r, rInsert_L1 s n fu (i : Int) = some r ∧ r.Pairwise (· < ·) ∧ ∀ x, x ∈ r ↔ x ∈ s ∨ x = n
  | k, i, 0, _, _, h, _ => by omega
  | k, i, fu + 1, hk, hi, hf, ht => by
    have e1 : decide (([] : List Int).length + (s.take i).length ≤ 4294967296) = true := decide_eq_true (by rw [List.length_take]; simp; omega)
    have e2 : decide ((([] : List Int) ++ s.take i).length + ([n] : List Int).length ≤ 4294967296) = true := decide_eq_true (by simp; omega)
    have e3 : decide (((([] : List Int) ++ s.take i) ++ ([n] : List Int)).length + (s.drop i).length ≤ 4294967296) = true := decide_eq_true (by simp; omega)
    have hins : (∀ x ∈ s.drop i, n < x) → (((([] : List Int) ++ s.take i) ++ ([n] : List Int)) ++ s.drop i).Pairwise (· < ·) ∧ ∀ x, x ∈ (((([] : List Int) ++ s.take i) ++ ([n] : List Int)) ++ s.drop i) ↔ x ∈ s ∨ x = n := by
      intro hd
      refine ⟨?_, fun x => ?_⟩
      · rw [List.nil_append, List.append_assoc, List.pairwise_append]
        refine ⟨hs.take, ?_, fun a ha b hb => ?_⟩
        · exact List.pairwise_cons.2 ⟨hd, hs.drop⟩
        · rcases List.mem_cons.1 hb with rfl | hb
          · exact ht a ha
          · have := ht a ha; have := hd b hb; omega
      · have hx : x ∈ s ↔ x ∈ s.take i ∨ x ∈ s.drop i := by rw [← List.mem_append, List.take_append_drop]
        rw [hx]
        simp only [List.nil_append, List.mem_append, List.mem_singleton]
        constructor
        · rintro ((h | h) | h)
          · exact .inl (.inl h)
          · exact .inr h
          · exact .inl (.inr h)
        · rintro ((h | h) | h)
          · exact .inl (.inl h)
          · exact .inr h
          · exact .inl (.inr h)
    by_cases hie : i < s.length
    · have h0 : decide ((i : Int) < (s.length : Int)) = true := decide_eq_true (by omega)
      have hdr := List.drop_eq_getElem_cons hie
      have hrest : ∀ x ∈ s.drop (i + 1), s[i] < x := by
        have := hs.drop (i := i)
        rw [hdr] at this
        exact (List.pairwise_cons.1 this).1
      simp only [rInsert_L1, List.length_map, h0, cond_true, ix_at hie, Option.bind_some, slc_head hi, slc_tail' hi, e1, e2, e3, wrap_succ (n := s.length) (by omega) hie]
      by_cases h1 : s[i] < n
      · rw [decide_eq_true h1, cond_true]
        refine ins_loop hs hl (k - 1) (i + 1) fu (by omega) (by omega) (by omega) fun x hx => ?_
        rw [List.take_succ_eq_append_getElem hie] at hx
        rcases List.mem_append.1 hx with hx | hx
        · exact ht x hx
        · simp at hx; rw [hx]; exact h1
      · rw [decide_eq_false h1, cond_false]
        by_cases h2 : s[i] = n
        · have : (s[i] == n) = true := beq_iff_eq.2 h2
          rw [this, cond_true]
          refine ⟨s, rfl, hs, fun x => ⟨fun h => .inl h, fun h => h.elim id fun h => by rw [h, ← h2]; exact List.getElem_mem hie⟩⟩
        · have : (s[i] == n) = false := beq_eq_false_iff_ne.2 h2
          rw [this, cond_false]
          refine ⟨_, rfl, hins fun x hx => ?_⟩
          rw [hdr] at hx
          rcases List.mem_cons.1 hx with e | hx
          · omega
          · have := hrest x hx; omega
    · have h0 : decide ((i : Int) < (s.length : Int)) = false := decide_eq_false (by omega)
      simp only [rInsert_L1, List.length_map, h0, cond_false, slc_head hi, slc_tail' hi, Option.bind_some, e1, e2, e3, cond_true]
      refine ⟨_, rfl, hins fun x hx => ?_⟩
      rw [List.drop_of_length_le (by omega)] at hx
      simp at hx
theorem rInsert_ok {s : List Int} (hs : s.Pairwise (· < ·)) (hl : s.length ≤ 900) (n : Int) : ∃ r, rInsert_S s n = some r ∧ r.Pairwise (· < ·) ∧ ∀ x, x ∈ r ↔ x ∈ s ∨ x = n :=
  ins_loop hs hl s.length 0 1000 (by omega) (by omega) (by omega) (by simp)
section
variable {V : List Int} {st pv : Int → List Int} {rk : Int → Int}
theorem srt_len {s : List Int} (D : Dag V st pv rk) (hs : s.Pairwise (· < ·)) (hV : ∀ x ∈ s, x ∈ V) : s.length ≤ 12 := Nat.le_trans (nodup_len _ _ (nodup_lt hs) hV) D.len
theorem all_L3 (D : Dag V st pv rk) {i5 : Int} {y : List Int} (hy : y.length ≤ 900) (hyV : ∀ x ∈ y, x ∈ V) {k : List Int → Int → Option (List Int)} : ∀ (n m fu : Nat) (out : List Int), y.length - m = n → m ≤ y.length → n < fu → out.Pairwise (· < ·) → (∀ x ∈ out, x ∈ V) →
    ∃ out', qall_L3 i5 y k fu out (m : Int) = k out' (IntKind.i64.wrap (i5 + 1)) ∧ out'.Pairwise (· < ·) ∧ ∀ x, x ∈ out' ↔ x ∈ out ∨ x ∈ y.drop m
  | n, m, 0, _, _, _, h, _, _ => by omega
  | 0, m, fu + 1, out, hn, hm, _, ho, hV => by
    have : m = y.length := by omega
    subst this
    have h0 : decide ((y.length : Int) < (y.length : Int)) = false := decide_eq_false (by omega)
    refine ⟨out, by simp only [qall_L3, List.length_map, h0, cond_false], ho, fun x => by simp⟩
  | n + 1, m, fu + 1, out, hn, _, hf, ho, hV => by
    have hm : m < y.length := by omega
    have h0 : decide ((m : Int) < (y.length : Int)) = true := decide_eq_true (by omega)
    obtain ⟨r, h1, h2, h3⟩ := rInsert_ok ho (by have := srt_len D ho hV; omega) y[m]
    have hrV : ∀ x ∈ r, x ∈ V := fun x hx => ((h3 x).1 hx).elim (hV x) fun e => by rw [e]; exact hyV _ (List.getElem_mem hm)
    obtain ⟨out', h4, h5, h6⟩ := all_L3 D hy hyV (i5 := i5) (k := k) n (m + 1) fu r (by omega) (by omega) (by omega) h2 hrV
    refine ⟨out', ?_, h5, fun x => ?_⟩
    · simp only [qall_L3, List.length_map, h0, cond_true, ix_at hm, Option.bind_some, h1, wrap_succ (n := y.length) (by omega) hm]
      exact h4
    · rw [h6 x, h3 x, List.drop_eq_getElem_cons hm, List.mem_cons, or_assoc]
theorem all_L2 (h : Good l) (D : Dag V st pv rk) (hVl : V = ids l) {back : Bool} (hst : stB l back = st) {id : Int} {out0 : List Int} {k2 : Int} {k : List Int → Int → Option (List Int)} : ∀ (n i fu : Nat) (out : List Int), l.length - i = n → i ≤ l.length → n < fu → out.Pairwise (· < ·) → (∀ x ∈ out, x ∈ V) → (∀ x ∈ out, ∃ j, Wk st j id x) → (∀ x ∈ out0, x ∈ out) →
    (∀ (j : Nat) (hj : j < l.length), j < i → l[j].ID ∈ out0 → ∀ z ∈ st l[j].ID, z ∈ out) →
    ∃ out', qall_L2 l back k2 k 1000 fu out (i : Int) = k out' (IntKind.i64.wrap (k2 + 1)) ∧ out'.Pairwise (· < ·) ∧ (∀ x ∈ out', x ∈ V) ∧ (∀ x ∈ out', ∃ j, Wk st j id x) ∧ (∀ x ∈ out0, x ∈ out') ∧
      ∀ (j : Nat) (hj : j < l.length), l[j].ID ∈ out0 → ∀ z ∈ st l[j].ID, z ∈ out'
  | n, i, 0, _, _, _, h, _, _, _, _, _ => by omega
  | 0, i, fu + 1, out, hn, hi, _, ho, hV, hw, h0', hc => by
    have : i = l.length := by omega
    subst this
    have h0 : decide ((l.length : Int) < (l.length : Int)) = false := decide_eq_false (by omega)
    exact ⟨out, by simp only [qall_L2, List.length_map, h0, cond_false], ho, hV, hw, h0', fun j hj hm => hc j hj hj hm⟩
  | n + 1, i, fu + 1, out, hn, _, hf, ho, hV, hw, h0', hc => by
    have hi : i < l.length := by omega
    have h0 : decide ((i : Int) < (l.length : Int)) = true := decide_eq_true (by omega)
    have hlen := srt_len D ho hV
    simp only [qall_L2, List.length_map, h0, cond_true, ix_at hi, Option.bind_some, qhas_eq (show out.length ≤ 900 by omega), wrap_succ h.l63 hi]
    cases hq : out.any fun z => l[i].ID == z with
    | false =>
      simp only [Bool.not_false, cond_true]
      refine all_L2 h D hVl hst n (i + 1) fu out (by omega) (by omega) (by omega) ho hV hw h0' fun j hj hji hm z hz => ?_
      by_cases he : j = i
      · subst he
        exact absurd (h0' _ hm) (anyBF.1 hq)
      · exact hc j hj (by omega) hm z hz
    | true =>
      have hin := anyB.1 hq
      have hsl := nx_len D l[i].ID
      simp only [Bool.not_true, cond_false, qstep_eq h, hst, Option.bind_some]
      obtain ⟨out1, h1, h2, h3⟩ := all_L3 D (i5 := (i : Int)) (y := st l[i].ID) (by omega) (fun x hx => (D.nxV _ _ hx).2) (k := fun q_out4 q_i5 => qall_L2 l back k2 k 1000 fu q_out4 q_i5) (st l[i].ID).length 0 1000 out (by omega) (by omega) (by omega) ho hV
      rw [List.drop_zero] at h3
      obtain ⟨out', g1, g2, g3, g4, g5, g6⟩ := all_L2 h D hVl hst (k2 := k2) (k := k) (id := id) (out0 := out0) n (i + 1) fu out1 (by omega) (by omega) (by omega) h2 (fun x hx => ((h3 x).1 hx).elim (hV x) fun hx => (D.nxV _ _ hx).2)
        (fun x hx => ((h3 x).1 hx).elim (hw x) fun hx => by obtain ⟨j, hj⟩ := hw _ hin; exact ⟨j + 1, hj.snoc hx⟩) (fun x hx => (h3 x).2 (.inl (h0' x hx))) (fun j hj hji hm z hz => by
          by_cases he : j = i
          · subst he; exact (h3 z).2 (.inr hz)
          · exact (h3 z).2 (.inl (hc j hj (by omega) hm z hz)))
      refine ⟨out', ?_, g2, g3, g4, g5, g6⟩
      rw [wrap_succ h.l63 hi] at h1
      rw [show (0 : Int) = ((0 : Nat) : Int) from rfl, h1]
      exact g1
theorem wk_last (D : Dag V st pv rk) {k : Nat} {x y : Int} (h : Wk st (k + 1) x y) : ∃ z, Wk st k x z ∧ y ∈ st z := by
  obtain ⟨z, h1, h2⟩ := wk_succ (h.rev D)
  exact ⟨z, h2.rev D.rev, (D.adj _ _).2 h1⟩
theorem all_L1 (h : Good l) (D : Dag V st pv rk) (hVl : V = ids l) {back : Bool} (hst : stB l back = st) {id : Int} (hid : id ∈ V) : ∀ (n i fu : Nat) (out : List Int), l.length - i = n → i ≤ l.length → n < fu → out.Pairwise (· < ·) → (∀ x ∈ out, x ∈ V) → (∀ x ∈ out, ∃ j, Wk st j id x) →
    (∀ (j : Nat) (x : Int), j ≤ i → Wk st j id x → x ∈ out) → qall_L1 l back 1000 fu out (i : Int) = some (reachL V st id)
  | n, i, 0, _, _, _, h, _, _, _, _ => by omega
  | 0, i, fu + 1, out, hn, hi, _, ho, hV, hw, hc => by
    have : i = l.length := by omega
    subst this
    have h0 : decide ((l.length : Int) < (l.length : Int)) = false := decide_eq_false (by omega)
    simp only [qall_L1, List.length_map, h0, cond_false, Option.some.injEq]
    refine sorted_ext ho (reachL_srt D id) fun x => ?_
    rw [mem_reachL D hid]
    refine ⟨hw x, fun ⟨k, hk⟩ => hc k x ?_ hk⟩
    have h1 := wk_ahd D hk
    have h2 : ahd V rk id ≤ V.length := List.countP_le_length
    have h3 : V.length = l.length := by rw [hVl]; unfold ids; rw [List.length_map]
    omega
  | n + 1, i, fu + 1, out, hn, _, hf, ho, hV, hw, hc => by
    have hi : i < l.length := by omega
    have h0 : decide ((i : Int) < (l.length : Int)) = true := decide_eq_true (by omega)
    have hlen := h.len
    obtain ⟨out', g1, g2, g3, g4, g5, g6⟩ := all_L2 h D hVl hst (k2 := (i : Int)) (k := fun q_out1 q_k2 => qall_L1 l back 1000 fu q_out1 q_k2) (id := id) (out0 := out) l.length 0 1000 out (by omega) (by omega) (by omega) ho hV hw (fun _ h => h) (fun j hj hj0 => by omega)
    simp only [qall_L1, List.length_map, h0, cond_true]
    rw [show (0 : Int) = ((0 : Nat) : Int) from rfl, g1, wrap_succ h.l63 hi]
    refine all_L1 h D hVl hst hid n (i + 1) fu out' (by omega) (by omega) (by omega) g2 g3 g4 fun j x hj hk => ?_
    cases j with
    | zero => exact g5 x (hc 0 x (by omega) hk)
    | succ j =>
      obtain ⟨z, hz, hx⟩ := wk_last D hk
      have hzo := hc j z (by omega) hz
      have hzV := hV z hzo
      rw [hVl] at hzV
      obtain ⟨a, ha, hae⟩ := List.mem_map.1 hzV
      obtain ⟨m, hm, hme⟩ := List.getElem_of_mem ha
      have : l[m].ID = z := by rw [hme]; exact hae
      exact g6 m hm (by rw [this]; exact hzo) x (by rw [this]; exact hx)
theorem qall_gen (h : Good l) (D : Dag V st pv rk) (hVl : V = ids l) {back : Bool} (hst : stB l back = st) {id : Int} (hid : id ∈ V) : qall_S l id back = some (reachL V st id) :=
  all_L1 h D hVl hst hid l.length 0 1000 [id] (by omega) (by omega) (by have := h.len; omega) (by simp) (fun x hx => by simp at hx; rw [hx]; exact hid) (fun x hx => by simp at hx; subst hx; exact ⟨0, .nil _⟩)
    (fun j x hj hk => by
      have : j = 0 := by omega
      subst this
      simp [wk_zero hk])
end
theorem qall_fwd (h : Good l) {id : Int} (hid : id ∈ ids l) : qall_S l id false = some (reachL (ids l) (nxA l) id) := qall_gen h h.dag rfl rfl hid
theorem qall_bwd (h : Good l) {id : Int} (hid : id ∈ ids l) : qall_S l id true = some (reachL (ids l) (pvA l) id) := qall_gen h h.dag.rev rfl rfl hid
theorem qForward_eq (hl : okAuts l) (hf : few l = true) (id : Int) : qForward_S l id = some (fwdF l id) := by
  simp only [qForward_S, qForward_F, qknown_eq hl hf, Option.bind_some, fwdF]
  cases ha : asksG l [id] != 0 with
  | true => rfl
  | false =>
    obtain ⟨hr, hi⟩ := asks_zero (l := l) (is := [id]) (by simpa using ha)
    simp only [cond_false, qall_fwd (good_of hl hf hr) (hi id (by simp)), Option.bind_some]
theorem qBack_eq (hl : okAuts l) (hf : few l = true) (id : Int) : qBack_S l id = some (bwdF l id) := by
  simp only [qBack_S, qBack_F, qknown_eq hl hf, Option.bind_some, bwdF]
  cases ha : asksG l [id] != 0 with
  | true => rfl
  | false =>
    obtain ⟨hr, hi⟩ := asks_zero (l := l) (is := [id]) (by simpa using ha)
    simp only [cond_false, qall_bwd (good_of hl hf hr) (hi id (by simp)), Option.bind_some]
theorem qOn_eq (hl : okAuts l) (hf : few l = true) (id day : Int) : qOn_S l id day = some (onG l id day) := by
  simp only [qOn_S, qOn_F, qknown_eq hl hf, Option.bind_some, onG]
  cases ha : asksG l [id] != 0 with
  | true => rfl
  | false =>
    obtain ⟨hr, hi⟩ := asks_zero (l := l) (is := [id]) (by simpa using ha)
    have h := good_of hl hf hr
    have hid := hi id (by simp)
    simp only [cond_false]
    cases decide (day < 0) with
    | true => rfl
    | false =>
      simp only [cond_false]
      cases decide (day > 1048575) with
      | true => rfl
      | false =>
        have n1 := reachL_len h.dag id
        have n2 := reachL_len h.dag.rev id
        have hlen := h.len
        simp only [cond_false, qall_fwd h hid, qall_bwd h hid, Option.bind_some]
        have h1 := filt_loop (lst := l) (qOn_L1 l day (reachL (ids l) (nxA l) id) (reachL (ids l) (pvA l) id)) (fun x => (reachB (nxA l) id x.ID || reachB (pvA l) id x.ID) && onSpan x.In day) (·.ID) (by omega) (fun fu i out hi ho => by
            have h0 : decide ((i : Int) < (l.length : Int)) = true := decide_eq_true (by omega)
            have e3 : decide (out.length + ([l[i].ID] : List Int).length ≤ 4294967296) = true := decide_eq_true (by simp; omega)
            simp only [qOn_L1, List.length_map, ix_at hi, Option.bind_some, h0, cond_true, wrap_succ h.l63 hi, qhas_eq (show (reachL (ids l) (nxA l) id).length ≤ 900 by omega), qhas_eq (show (reachL (ids l) (pvA l) id).length ≤ 900 by omega), anyReach h.dag hid, anyReach h.dag.rev hid, rOn_eq, e3]
            cases reachB (nxA l) id l[i].ID <;> cases reachB (pvA l) id l[i].ID <;> cases onSpan l[i].In day <;> rfl)
          (fin := fun out => some (out, 0)) (fun fu out => by
            have h0 : decide ((l.length : Int) < (l.length : Int)) = false := decide_eq_false (by omega)
            simp only [qOn_L1, List.length_map, h0, cond_false]) l.length 0 1000 [] (by omega) (by omega) (by omega) (by simp)
        rw [List.drop_zero, List.nil_append] at h1
        refine Eq.trans h1 ?_
        have : (l.filter fun x => (reachB (nxA l) id x.ID || reachB (pvA l) id x.ID) && onSpan x.In day).map (·.ID) = onList l id day := by
          unfold onList ids
          rw [List.filter_map]
          congr 1
          exact List.filter_congr fun a ha => by simp only [Function.comp, h.found ha]
        rw [this]
theorem pair_len {r : List Int} (h : r.length ≤ 12) : r.length ≤ 9223372036854775807 := by omega
theorem fwdF_len (h : few l = true) (hl : okAuts l) (id : Int) : (fwdF l id).1.length ≤ 12 := by
  unfold fwdF
  cases ha : asksG l [id] != 0 with
  | true => exact Nat.zero_le _
  | false =>
    obtain ⟨hr, hi⟩ := asks_zero (l := l) (is := [id]) (by simpa using ha)
    exact reachL_len (good_of hl h hr).dag id
theorem bwdF_len (h : few l = true) (hl : okAuts l) (id : Int) : (bwdF l id).1.length ≤ 12 := by
  unfold bwdF
  cases ha : asksG l [id] != 0 with
  | true => exact Nat.zero_le _
  | false =>
    obtain ⟨hr, hi⟩ := asks_zero (l := l) (is := [id]) (by simpa using ha)
    exact reachL_len (good_of hl h hr).dag.rev id
theorem onG_len (h : few l = true) (hl : okAuts l) (id day : Int) : (onG l id day).1.length ≤ 12 := by
  unfold onG
  cases ha : asksG l [id] != 0 with
  | true => exact Nat.zero_le _
  | false =>
    obtain ⟨hr, hi⟩ := asks_zero (l := l) (is := [id]) (by simpa using ha)
    cases decide (day < 0) with
    | true => exact Nat.zero_le _
    | false =>
      cases decide (day > 1048575) with
      | true => exact Nat.zero_le _
      | false => exact Nat.le_trans (List.length_filter_le _ _) (good_of hl h hr).dag.len
namespace successionFollows
theorem law (l : List Aut) (id day : Int) (hl : okAuts l) (_ : okI id) (_ : okI day) : lSuccessionFollows_S l id day = some true := by
  simp only [lSuccessionFollows_S, lSuccessionFollows_F, awake_true, Option.bind_some, Bool.not_true, cond_false, rFew_eq hl]
  cases hf : few l with
  | false => rfl
  | true =>
    have h12 := h12_of hl hf
    simp only [Bool.not_true, cond_false, rCopy_eq hf, Option.bind_some, sForward_eq hl h12, sBack_eq hl h12, sOn_eq hl h12, qForward_eq hl hf, qBack_eq hl hf, qOn_eq hl hf,
      slEqual_refl (pair_len (fwdF_len hf hl id)), slEqual_refl (pair_len (bwdF_len hf hl id)), slEqual_refl (pair_len (onG_len hf hl id day)), beq_self_eq_true, cond_true]
end successionFollows
end
end Go.Proofs.YtdoldlbcjcfmdaaGreat
