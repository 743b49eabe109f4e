/- The shortest way. -/
import Derived.Test.YtdoldlbcjcfmdaaGreatLG6
set_option linter.unusedVariables false
set_option linter.unusedSimpArgs false
namespace Go.Proofs.YtdoldlbcjcfmdaaGreat
open Go Go.Abs
def dI (o : Option Nat) : Option Int := o.map fun d : Nat => (d : Int)
theorem mlook_eq (m : List (Int × Int)) (k : Int) : mlook m k 0 = some (mval m k, (mget m k).isSome) := rfl
/-- Those that are not known yet, with one more step. -/
def addQ (h : Int) : List Int → List (Int × Int) → List Int → List Int × List (Int × Int)
  | q, m, [] => (q, m)
  | q, m, x :: r => bif (mget m x).isSome then addQ h q m r else addQ h (q ++ [x]) (mset m x (IntKind.i64.wrap (mval m h + 1))) r
theorem addQ_spec (h : Int) : ∀ (r q : List Int) (m : List (Int × Int)), r.Nodup → (mget m h).isSome = true → ∃ new m', addQ h q m r = (q ++ new, m') ∧ new.Nodup ∧ (∀ x, x ∈ new ↔ x ∈ r ∧ mget m x = none) ∧
    ∀ x, mget m' x = if x ∈ new then some (IntKind.i64.wrap (mval m h + 1)) else mget m x
  | [], q, m, _, _ => ⟨[], m, by simp [addQ], by simp, by simp, by simp⟩
  | x :: r, q, m, hnd, hh => by
    obtain ⟨hx, hnd'⟩ := List.nodup_cons.1 hnd
    unfold addQ
    cases hk : (mget m x).isSome with
    | true =>
      obtain ⟨new, m', h1, h2, h3, h4⟩ := addQ_spec h r q m hnd' hh
      refine ⟨new, m', by rw [cond_true, h1], h2, fun y => ?_, h4⟩
      rw [h3 y, List.mem_cons]
      constructor
      · rintro ⟨h5, h6⟩; exact ⟨.inr h5, h6⟩
      · rintro ⟨rfl | h5, h6⟩
        · rw [h6] at hk; cases hk
        · exact ⟨h5, h6⟩
    | false =>
      have hxn : mget m x = none := by cases hq : mget m x with | none => rfl | some v => rw [hq] at hk; cases hk
      have hhx : ¬ h = x := fun e => by rw [e, hxn] at hh; cases hh
      have hh1 : (mget (mset m x (IntKind.i64.wrap (mval m h + 1))) h).isSome = true := by rw [mget_mset, if_neg hhx]; exact hh
      have hv1 : mval (mset m x (IntKind.i64.wrap (mval m h + 1))) h = mval m h := by rw [mval_mset, if_neg hhx]
      obtain ⟨new, m', h1, h2, h3, h4⟩ := addQ_spec h r (q ++ [x]) (mset m x (IntKind.i64.wrap (mval m h + 1))) hnd' hh1
      have hxnew : x ∉ new := fun hc => hx ((h3 x).1 hc).1
      refine ⟨x :: new, m', by rw [cond_false, h1]; simp, List.nodup_cons.2 ⟨hxnew, h2⟩, fun y => ?_, fun y => ?_⟩
      · rw [List.mem_cons, h3 y, List.mem_cons, mget_mset]
        by_cases hy : y = x
        · subst hy; simp [hxn]
        · rw [if_neg hy]; simp [hy]
      · rw [h4 y, hv1, mget_mset]
        simp only [List.mem_cons]
        by_cases hy : y = x
        · subst hy; simp [hxnew]
        · by_cases hn : y ∈ new <;> simp [hy, hn]
theorem way_L2 {y9 : Aut × Bool} {y11 : List Int} {k : List Int → List (Int × Int) → Option (List Int × Int)} (hlen : y11.length ≤ 1000) : ∀ (n j fu : Nat) (q : List Int) (m : List (Int × Int)), y11.length - j = n → j ≤ y11.length → n < fu → q.length + n ≤ 2000 → 0 < q.length →
    sWay_L2 y9 y11 k fu (j : Int) q m = k ((addQ y9.1.ID q m (y11.drop j)).1.drop 1) (addQ y9.1.ID q m (y11.drop j)).2
  | n, j, 0, _, _, _, _, h, _, _ => by omega
  | 0, j, fu + 1, q, m, h, hj, _, hq, h0 => by
    have : j = y11.length := by omega
    subst this
    have e0 : decide ((y11.length : Int) < (y11.length : Int)) = false := decide_eq_false (by omega)
    have e1 : decide (0 ≤ (1 : Int) ∧ (1 : Int) ≤ (q.length : Int)) = true := decide_eq_true (by omega)
    simp only [sWay_L2, List.length_map, e0, cond_false, e1, cond_true, List.drop_length, addQ]
    rfl
  | n + 1, j, fu + 1, q, m, h, _, hf, hq, h0 => by
    have hj : j < y11.length := by omega
    have e0 : decide ((j : Int) < (y11.length : Int)) = true := decide_eq_true (by omega)
    have e1 : decide (q.length + 1 ≤ 4294967296) = true := decide_eq_true (by omega)
    simp only [sWay_L2, List.length_map, e0, cond_true, ix_at hj, Option.bind_some, mlook_eq, mlk_eq, e1, wrap_succ (n := y11.length) (by omega) hj]
    rw [List.drop_eq_getElem_cons hj]
    unfold addQ
    cases (mget m y11[j]).isSome with
    | true =>
      simp only [Bool.not_true, cond_false, cond_true]
      exact way_L2 hlen n (j + 1) fu q m (by omega) (by omega) (by omega) (by omega) h0
    | false =>
      simp only [Bool.not_false, cond_false, cond_true]
      exact way_L2 hlen n (j + 1) fu _ _ (by omega) (by omega) (by omega) (by simp; omega) (by simp)
section
variable {l : List Aut}
structure Bfs (l : List Aut) (to : Int) (P q : List Int) (m : List (Int × Int)) : Prop where
  nd : (P ++ q).Nodup
  kn : ∀ x, (mget m x).isSome = true ↔ x ∈ P ++ q
  vl : ∀ x v, mget m x = some v → x ∈ ids l ∧ ∃ d : Nat, dst (nxA l) x to = some d ∧ v = d
  to_ : to ∈ P ++ q
  mono : q.Pairwise fun x y => mval m x ≤ mval m y
  near : ∀ x ∈ q, ∀ y ∈ q, mval m y ≤ mval m x + 1
  done : ∀ x ∈ P, ∀ p ∈ pvA l x, p ∈ P ++ q
  comp : ∀ h t, q = h :: t → ∀ x ∈ ids l, ∀ d : Nat, dst (nxA l) x to = some d → (d : Int) ≤ mval m h → x ∈ P ++ q
theorem known_val {m : List (Int × Int)} {x : Int} (h : (mget m x).isSome = true) : mget m x = some (mval m x) := by
  unfold mval
  cases hq : mget m x with
  | none => rw [hq] at h; cases h
  | some v => rfl
theorem bfs_start (h : Good l) {to : Int} (hto : to ∈ ids l) : Bfs l to [] [to] (mset ([] : List (Int × Int)) to 0) where
  nd := by simp
  kn x := by
    rw [mget_mset]
    by_cases hx : x = to
    · simp [hx]
    · simp [hx, mget]
  vl x v hv := by
    rw [mget_mset] at hv
    by_cases hx : x = to
    · rw [if_pos hx] at hv
      cases hv
      subst hx
      exact ⟨hto, 0, dst_self h.dag hto, rfl⟩
    · rw [if_neg hx] at hv; cases hv
  to_ := by simp
  mono := by simp
  near x hx y hy := by simp at hx hy; subst hx; subst hy; omega
  done x hx := by simp at hx
  comp hd t he x hx d hd1 hle := by
    injection he with e1 e2
    subst e1
    rw [mval_mset, if_pos rfl] at hle
    have : d = 0 := by omega
    subst this
    simp [dst_zero h.dag hx hd1]
theorem bfs_step (h : Good l) {to hd : Int} {P t : List Int} {m : List (Int × Int)} (B : Bfs l to P (hd :: t) m) : ∃ t' m', addQ hd (hd :: t) m (pvA l hd) = (hd :: t', m') ∧ Bfs l to (P ++ [hd]) t' m' := by
  have hkh : (mget m hd).isSome = true := (B.kn hd).2 (by simp)
  obtain ⟨hdV, D, hD1, hD2⟩ := B.vl hd _ (known_val hkh)
  have hD12 : D < 12 := wk_lt h.dag ((dst_some h.dag hdV).1 hD1).1 hdV
  obtain ⟨new, m', h1, h2, h3, h4⟩ := addQ_spec hd (pvA l hd) (hd :: t) m (h.dag.pvN hd) hkh
  have hw : IntKind.i64.wrap (mval m hd + 1) = (D : Int) + 1 := by rw [hD2]; exact wrap_id (by unfold okI; omega)
  rw [hw] at h4
  refine ⟨t ++ new, m', by rw [h1]; rfl, ?_⟩
  have hnewK : ∀ x ∈ new, x ∉ P ++ hd :: t := fun x hx hc => by
    have := (B.kn x).2 hc
    rw [((h3 x).1 hx).2] at this
    cases this
  have hval : ∀ x ∈ P ++ hd :: t, mget m' x = mget m x := fun x hx => by rw [h4, if_neg (fun hc => hnewK x hc hx)]
  have hmv : ∀ x ∈ P ++ hd :: t, mval m' x = mval m x := fun x hx => by unfold mval; rw [hval x hx]
  have hmn : ∀ x ∈ new, mval m' x = (D : Int) + 1 := fun x hx => by unfold mval; rw [h4, if_pos hx]; rfl
  have htm : ∀ y ∈ t, mval m hd ≤ mval m y := (List.pairwise_cons.1 B.mono).1
  have hassoc : (P ++ [hd]) ++ (t ++ new) = (P ++ hd :: t) ++ new := by simp
  have hdst : ∀ x ∈ new, x ∈ ids l ∧ dst (nxA l) x to = some (D + 1) := fun x hx => by
    obtain ⟨hxp, hxn⟩ := (h3 x).1 hx
    have hnx : hd ∈ nxA l x := (h.dag.adj x hd).2 hxp
    obtain ⟨e, he1, he2⟩ := dst_step h.dag hnx hD1
    have hxV := (h.dag.nxV _ _ hnx).1
    refine ⟨hxV, ?_⟩
    have : ¬ e ≤ D := fun hle => hnewK x hx (B.comp hd t rfl x hxV e he1 (by rw [hD2]; omega))
    rw [he1, show e = D + 1 by omega]
  exact
    { nd := by
        rw [hassoc]
        exact List.nodup_append.2 ⟨B.nd, h2, fun a ha b hb e => hnewK b hb (e ▸ ha)⟩
      kn := fun x => by
        rw [hassoc, List.mem_append, h4]
        by_cases hx : x ∈ new
        · simp [hx]
        · rw [if_neg hx, B.kn x]; simp [hx]
      vl := fun x v hv => by
        rw [h4] at hv
        by_cases hx : x ∈ new
        · rw [if_pos hx] at hv
          cases hv
          exact ⟨(hdst x hx).1, D + 1, (hdst x hx).2, by omega⟩
        · rw [if_neg hx] at hv; exact B.vl x v hv
      to_ := by rw [hassoc]; exact List.mem_append_left _ B.to_
      mono := by
        refine List.pairwise_append.2 ⟨?_, ?_, fun y hy z hz => ?_⟩
        · refine (List.pairwise_cons.1 B.mono).2.imp_of_mem fun {a b} ha hb hab => ?_
          rw [hmv a (by simp [ha]), hmv b (by simp [hb])]; exact hab
        · rw [List.pairwise_iff_getElem]
          intro i j hi hj _
          rw [hmn _ (List.getElem_mem hi), hmn _ (List.getElem_mem hj)]
          exact Int.le_refl _
        · rw [hmv y (by simp [hy]), hmn z hz]
          have := B.near hd (by simp) y (by simp [hy])
          omega
      near := fun x hx y hy => by
        rcases List.mem_append.1 hx with hx | hx <;> rcases List.mem_append.1 hy with hy | hy
        · rw [hmv x (by simp [hx]), hmv y (by simp [hy])]; exact B.near x (by simp [hx]) y (by simp [hy])
        · rw [hmv x (by simp [hx]), hmn y hy]; have := htm x hx; omega
        · rw [hmn x hx, hmv y (by simp [hy])]; have := B.near hd (by simp) y (by simp [hy]); omega
        · rw [hmn x hx, hmn y hy]; omega
      done := fun x hx p hp => by
        rw [hassoc]
        rcases List.mem_append.1 hx with hx | hx
        · exact List.mem_append_left _ (B.done x hx p hp)
        · simp at hx
          subst hx
          cases hq : mget m p with
          | none => exact List.mem_append_right _ ((h3 p).2 ⟨hp, hq⟩)
          | some v => exact List.mem_append_left _ ((B.kn p).1 (by rw [hq]; rfl))
      comp := fun h' t' he x hx d hd1 hle => by
        rw [hassoc]
        have hle2 : mval m' h' ≤ (D : Int) + 1 := by
          have hm : h' ∈ t ++ new := by rw [he]; simp
          rcases List.mem_append.1 hm with hm | hm
          · rw [hmv h' (by simp [hm])]
            have := B.near hd (by simp) h' (by simp [hm]); omega
          · rw [hmn h' hm]; omega
        by_cases hdD : d ≤ D
        · exact List.mem_append_left _ (B.comp hd t rfl x hx d hd1 (by rw [hD2]; omega))
        · have hde : d = D + 1 := by omega
          subst hde
          obtain ⟨n, hn, hnd⟩ := dst_next h.dag hx hd1
          have hnV := (h.dag.nxV _ _ hn).2
          have hnk := B.comp hd t rfl n hnV D hnd (by rw [hD2]; omega)
          have hnv : mval m n = D := by
            obtain ⟨_, d', q1, q2⟩ := B.vl n _ (known_val ((B.kn n).2 hnk))
            rw [hnd] at q1
            cases q1
            exact q2
          have hxp : x ∈ pvA l n := (h.dag.adj x n).1 hn
          have hmono' : ∀ y ∈ t ++ new, mval m' h' ≤ mval m' y := by
            have hpw : (t ++ new).Pairwise fun x y => mval m' x ≤ mval m' y := by
              refine List.pairwise_append.2 ⟨?_, ?_, fun y hy z hz => ?_⟩
              · refine (List.pairwise_cons.1 B.mono).2.imp_of_mem fun {a b} ha hb hab => ?_
                rw [hmv a (by simp [ha]), hmv b (by simp [hb])]; exact hab
              · rw [List.pairwise_iff_getElem]
                intro i j hi hj _
                rw [hmn _ (List.getElem_mem hi), hmn _ (List.getElem_mem hj)]
                exact Int.le_refl _
              · rw [hmv y (by simp [hy]), hmn z hz]
                have := B.near hd (by simp) y (by simp [hy])
                omega
            rw [he] at hpw ⊢
            intro y hy
            rcases List.mem_cons.1 hy with rfl | hy
            · exact Int.le_refl _
            · exact (List.pairwise_cons.1 hpw).1 y hy
          have hpk : ∀ p ∈ pvA l n, p ∈ (P ++ hd :: t) ++ new := fun p hp => by
            rcases List.mem_append.1 hnk with hP | hq
            · exact List.mem_append_left _ (B.done n hP p hp)
            · rcases List.mem_cons.1 hq with rfl | hq
              · cases hq : mget m p with
                | none => exact List.mem_append_right _ ((h3 p).2 ⟨hp, hq⟩)
                | some v => exact List.mem_append_left _ ((B.kn p).1 (by rw [hq]; rfl))
              · have h5 := hmono' n (by simp [hq])
                rw [hmv n (by simp [hq]), hnv] at h5
                omega
          exact hpk x hxp }
/-- All that lead there are known, with their distances. -/
theorem bfs_loop (h : Good l) {fr to : Int} (hto : to ∈ ids l) : ∀ (n fu : Nat) (P q : List Int) (m : List (Int × Int)), 12 - P.length = n → n < fu → Bfs l to P q m →
    ∃ m', sWay_L1 l fr to 1000 fu q m = (Option.bind (mlook m' fr 0) fun y26 => bif (!y26.2) then some (([] : List Int), 10) else sWay_L3 l to m' 1000 ([fr] : List Int) fr) ∧
      ∀ x ∈ ids l, mget m' x = dI (dst (nxA l) x to)
  | n, 0, _, _, _, _, h, _ => by omega
  | n, fu + 1, P, [], m, hn, hf, B => by
    refine ⟨m, ?_, fun x hx => ?_⟩
    · have e : decide (((([] : List Int).length : Nat) : Int) > 0) = false := rfl
      simp only [sWay_L1, e, cond_false]
    · have hkn : ∀ y, (mget m y).isSome = true ↔ y ∈ P := fun y => by rw [B.kn y, List.append_nil]
      have hcl : ∀ {k : Nat} {y : Int}, Wk (pvA l) k to y → y ∈ P := closed_reach (by have := B.to_; rwa [List.append_nil] at this) fun y hy z hz => by
        have := B.done y hy z hz
        rwa [List.append_nil] at this
      cases hd : dst (nxA l) x to with
      | none =>
        cases hm : mget m x with
        | none => rfl
        | some v =>
          obtain ⟨_, d, h1, _⟩ := B.vl x v hm
          rw [hd] at h1; cases h1
      | some d =>
        have hxP : x ∈ P := hcl (((dst_some h.dag hx).1 hd).1.rev h.dag)
        have hv := known_val ((hkn x).2 hxP)
        obtain ⟨_, d', h1, h2⟩ := B.vl x _ hv
        rw [hd] at h1
        cases h1
        rw [hv, h2]; rfl
  | n, fu + 1, P, hd :: t, m, hn, hf, B => by
    have hlen : (P ++ hd :: t).length ≤ 12 := Nat.le_trans (nodup_len _ _ B.nd fun x hx => (B.vl x _ (known_val ((B.kn x).2 hx))).1) h.dag.len
    simp only [List.length_append, List.length_cons] at hlen
    have e : decide ((((hd :: t : List Int)).length : Int) > 0) = true := decide_eq_true (by simp only [List.length_cons]; omega)
    have hkh : (mget m hd).isSome = true := (B.kn hd).2 (by simp)
    obtain ⟨hdV, _⟩ := B.vl hd _ (known_val hkh)
    obtain ⟨a, ha, he, hfd⟩ := h.ex hdV
    have hix : ix (hd :: t) 0 = some hd := rfl
    have hpl := h.plen hd
    have hbk := sback_eq h a
    rw [he] at hbk
    obtain ⟨t', m', h1, h2⟩ := bfs_step h B
    simp only [sWay_L1, e, cond_true, hix, Option.bind_some, h.find, hfd, hbk]
    rw [show (0 : Int) = ((0 : Nat) : Int) from rfl, way_L2 (by omega) (pvA l hd).length 0 1000 (hd :: t) m rfl (by omega) (by omega) (by simp only [List.length_cons]; omega) (by simp)]
    simp only [List.drop_zero, he, h1, List.drop_succ_cons]
    exact bfs_loop h hto (n - 1) fu (P ++ [hd]) t' m' (by simp; omega) (by omega) h2
theorem idxOf_find {p : Int → Bool} {s : List Int} {x : Int} (h : s.find? p = some x) : ix s (idxOf p s) = some x := by
  unfold idxOf
  cases hq : s.findIdx? p with
  | none =>
    rw [List.findIdx?_eq_none_iff] at hq
    have h1 := List.mem_of_find?_eq_some h
    have h2 := List.find?_some h
    rw [hq x h1] at h2; cases h2
  | some k =>
    obtain ⟨h1, h2, h3⟩ := List.findIdx?_eq_some_iff_getElem.1 hq
    have : s.find? p = some s[k] := List.find?_eq_some_iff_getElem.2 ⟨h2, k, h1, rfl, fun j hj => by simpa using h3 j hj⟩
    rw [h] at this
    rw [Option.some.inj this]
    exact ix_at h1
theorem find_congr {p q : Int → Bool} : ∀ {s : List Int}, (∀ x ∈ s, p x = q x) → s.find? p = s.find? q
  | [], _ => rfl
  | x :: s, h => by
    rw [List.find?_cons, List.find?_cons, h x (by simp), find_congr fun y hy => h y (by simp [hy])]
theorem wayD_succ (nx : Int → List Int) (y x : Int) (d : Nat) : wayD nx y (d + 1) x = match (nx x).find? fun n => dst nx n y == some d with
    | some n => x :: wayD nx y d n
    | none => [x] := rfl
theorem way_L3 (h : Good l) {to : Int} (hto : to ∈ ids l) {m : List (Int × Int)} (hm : ∀ x ∈ ids l, mget m x = dI (dst (nxA l) x to)) : ∀ (d fu : Nat) (x : Int) (out : List Int), x ∈ ids l → dst (nxA l) x to = some d → d < fu → out.length + d ≤ 1000 → d ≤ 100 →
    sWay_L3 l to m fu (out ++ [x]) x = some (out ++ wayD (nxA l) to d x, 0)
  | d, 0, _, _, _, _, h, _, _ => by omega
  | 0, fu + 1, x, out, hx, hd, _, _, _ => by
    have : x = to := dst_zero h.dag hx hd
    subst this
    simp only [sWay_L3, bne_self_eq_false, cond_false, wayD]
  | d + 1, fu + 1, x, out, hx, hd, hf, ho, hd1 => by
    have hne : (x != to) = true := by
      rw [bne_iff_ne]
      rintro rfl
      rw [dst_self h.dag hto] at hd
      cases hd
    obtain ⟨a, ha, he, hfd⟩ := h.ex hx
    obtain ⟨n0, hn0, hd0⟩ := dst_next h.dag hx hd
    have hnx : nxA l x = a.Next := by unfold nxA; rw [hfd]
    have hmx : mval m x = (d : Int) + 1 := by unfold mval; rw [hm x hx, hd]; rfl
    have hw : IntKind.i64.wrap ((d : Int) + 1 - 1) = (d : Int) := by rw [show (d : Int) + 1 - 1 = d by omega]; exact wrap_id (by unfold okI; omega)
    have hp : ∀ n ∈ a.Next, sWay_1_S n m x = some (dst (nxA l) n to == some d) := fun n hn => by
      have hnV := (h.dag.nxV x n (by rw [hnx]; exact hn)).2
      simp only [sWay_1_S, sWay_1_F, mlook_eq, mlk_eq, Option.bind_some, hmx, hw, hm n hnV]
      cases hdn : dst (nxA l) n to with
      | none => rfl
      | some e =>
        have : mval m n = (e : Int) := by unfold mval; rw [hm n hnV, hdn]; rfl
        rw [this]
        show some ((e : Int) == (d : Int)) = some (some e == some d)
        rw [Option.some.injEq]
        by_cases hed : e = d
        · subst hed; simp
        · have h1 : ¬ (e : Int) = d := by omega
          rw [beq_eq_false_iff_ne.2 h1]
          exact (beq_eq_false_iff_ne.2 (by simpa using hed)).symm
    have hal := (h.ok.2 a ha).2.2.2.2.1
    cases hfind : (nxA l x).find? fun n => dst (nxA l) n to == some d with
    | none => exact absurd (List.find?_eq_none.1 hfind n0 hn0) (by simp [hd0])
    | some n =>
      have hnm := List.mem_of_find?_eq_some hfind
      have hnd : dst (nxA l) n to = some d := by simpa using List.find?_some hfind
      have e3 : decide ((out ++ [x]).length + ([n] : List Int).length ≤ 4294967296) = true := decide_eq_true (by simp; omega)
      have hix : ix a.Next (idxOf (fun n => dst (nxA l) n to == some d) a.Next) = some n := idxOf_find (by rw [← hnx]; exact hfind)
      simp only [sWay_L3, hne, cond_true, h.find, hfd, Option.bind_some, slIndexFuncI_eq (f := fun z0 => sWay_1_S z0 m x) (p := fun n => dst (nxA l) n to == some d) hal hp, hix, e3]
      rw [way_L3 h hto hm d fu n (out ++ [x]) (h.dag.nxV _ _ hnm).2 hnd (by omega) (by simp; omega) (by omega)]
      rw [wayD_succ, hfind]
      simp
noncomputable def wayG (l : List Aut) (a b : Int) : List Int × Int := bif asksG l [a, b] != 0 then ([], asksG l [a, b]) else match dst (nxA l) a b with
  | some d => (wayD (nxA l) b d a, 0)
  | none => ([], 10)
theorem sWay_eq (hl : okAuts l) (h12 : (checkF l).2 = 0 → l.length ≤ 12) (a b : Int) : sWay_S l a b = some (wayG l a b) := by
  simp only [sWay_S, sWay_F, sasks_eq hl h12 (is := [a, b]) (by simp), Option.bind_some, wayG]
  cases ha : asksG l [a, b] != 0 with
  | true => rfl
  | false =>
    obtain ⟨hr, hi⟩ := asks_zero (l := l) (is := [a, b]) (by simpa using ha)
    have h : Good l := ⟨hl, h12 hr, hr⟩
    have haV := hi a (by simp)
    have hbV := hi b (by simp)
    obtain ⟨m', h1, h2⟩ := bfs_loop h (fr := a) hbV 12 1000 [] [b] _ rfl (by omega) (bfs_start h hbV)
    simp only [cond_false, h1, mlook_eq, Option.bind_some, h2 a haV]
    cases hd : dst (nxA l) a b with
    | none => rfl
    | some d =>
      have hd12 : d < 12 := wk_lt h.dag ((dst_some h.dag haV).1 hd).1 haV
      simp only [dI, Option.map_some, Option.isSome_some, Bool.not_true, cond_false]
      exact way_L3 h hbV h2 d 1000 a [] haV hd (by omega) (by simp; omega) (by omega)
end
end Go.Proofs.YtdoldlbcjcfmdaaGreat
