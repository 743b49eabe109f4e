/- The reference: the way, the share, the meeting. The law of SuccessionWays. -/
import Derived.Test.YtdoldlbcjcfmdaaGreatLT1
import Derived.Test.YtdoldlbcjcfmdaaGreatGJ
set_option linter.unusedVariables false
set_option linter.unusedSimpArgs false
namespace Go.Proofs.YtdoldlbcjcfmdaaGreat
open Go Go.Abs
section
variable {V : List Int} {nx pv : Int → List Int} {rk : Int → Int}
theorem wayL_some {x y : Int} {d : Nat} (h : dst nx x y = some d) : wayL nx x y = wayD nx y d x := by unfold wayL; rw [h]
theorem wayL_none {x y : Int} (h : dst nx x y = none) : wayL nx x y = [] := by unfold wayL; rw [h]
theorem wayD_ne (y : Int) (d : Nat) (x : Int) : (wayD nx y d x).isEmpty = false := by
  obtain ⟨r, hr⟩ := wayD_head (nx := nx) (y := y) d x
  rw [hr]; rfl
/-- The best way among the first ones. -/
def bestOf (nx : Int → List Int) (y : Int) (t best : List Int) : Prop :=
  (best = [] ∧ ∀ z ∈ t, dst nx z y = none) ∨ ∃ (e : Nat) (z : Int), best = wayD nx y e z ∧ dst nx z y = some e ∧ (t.find? fun n => dst nx n y == some e) = some z ∧ ∀ z' ∈ t, ∀ e' : Nat, dst nx z' y = some e' → e ≤ e'
theorem way_last (D : Dag V nx pv rk) {x y : Int} (hx : x ∈ V) (hne : x ≠ y) {best : List Int} (h : bestOf nx y (nx x) best) :
    (best = [] ∧ wayL nx x y = []) ∨ (best.isEmpty = false ∧ best.length ≤ 12 ∧ wayL nx x y = [x] ++ best) := by
  have hnone : dst nx x y ≠ some 0 := fun hc => hne (dst_zero D hx hc)
  rcases h with ⟨hb, hz⟩ | ⟨e, z, hb, hd, hf, hle⟩
  · refine .inl ⟨hb, wayL_none ?_⟩
    cases hq : dst nx x y with
    | none => rfl
    | some d =>
      cases d with
      | zero => exact absurd hq hnone
      | succ d =>
        obtain ⟨n, hn, hnd⟩ := dst_next D hx hq
        rw [hz n hn] at hnd; cases hnd
  · have hzm := List.mem_of_find?_eq_some hf
    have hzV := (D.nxV _ _ hzm).2
    have hl := wayD_len D hzV hd
    have he12 := wk_lt D ((dst_some D hzV).1 hd).1 hzV
    refine .inr ⟨by rw [hb]; exact wayD_ne y e z, by rw [hb]; omega, ?_⟩
    have hdx : dst nx x y = some (e + 1) := by
      obtain ⟨e2, h2, h3⟩ := dst_step D hzm hd
      cases e2 with
      | zero => exact absurd h2 hnone
      | succ e2 =>
        obtain ⟨n, hn, hnd⟩ := dst_next D hx h2
        have := hle n hn e2 hnd
        have : e2 = e := by omega
        subst this; exact h2
    rw [wayL_some hdx, wayD, hf, hb]
    rfl
theorem best_step (D : Dag V nx pv rk) {y z : Int} {t best : List Int} (hzV : z ∈ V) (ht : ∀ x ∈ t, x ∈ V) (h : bestOf nx y t best) :
    bestOf nx y (t ++ [z]) (if (wayL nx z y).isEmpty = true then best else if best.isEmpty = true then wayL nx z y else if (wayL nx z y).length < best.length then wayL nx z y else best) := by
  cases hq : dst nx z y with
  | none =>
    rw [wayL_none hq]
    simp only [List.isEmpty_nil, if_true]
    rcases h with ⟨hb, hn⟩ | ⟨e, w, hb, hd, hf, hle⟩
    · refine .inl ⟨hb, fun x hx => ?_⟩
      rcases List.mem_append.1 hx with hx | hx
      · exact hn x hx
      · simp at hx; rw [hx]; exact hq
    · refine .inr ⟨e, w, hb, hd, by rw [List.find?_append, hf]; rfl, fun x hx e' he => ?_⟩
      rcases List.mem_append.1 hx with hx | hx
      · exact hle x hx e' he
      · simp at hx; rw [hx, hq] at he; cases he
  | some d =>
    rw [wayL_some hq]
    have hne := wayD_ne (nx := nx) y d z
    simp only [hne, Bool.false_eq_true, if_false]
    have hl := wayD_len D hzV hq
    rcases h with ⟨hb, hn⟩ | ⟨e, w, hb, hd, hf, hle⟩
    · subst hb
      simp only [List.isEmpty_nil, if_true]
      refine .inr ⟨d, z, rfl, hq, ?_, fun x hx e' he => ?_⟩
      · rw [List.find?_append]
        have : (t.find? fun n => dst nx n y == some d) = none := by rw [List.find?_eq_none]; intro x hx; rw [hn x hx]; simp
        rw [this]
        simp [hq]
      · rcases List.mem_append.1 hx with hx | hx
        · rw [hn x hx] at he; cases he
        · simp at hx; rw [hx, hq] at he; injection he with he; omega
    · have hwV := ht _ (List.mem_of_find?_eq_some hf)
      have hl2 := wayD_len D hwV hd
      have hbe : best.isEmpty = false := by rw [hb]; exact wayD_ne y e w
      simp only [hbe, Bool.false_eq_true, if_false]
      have hbl : best.length = e + 1 := by rw [hb]; exact hl2
      rw [hl, hbl]
      by_cases hlt : d + 1 < e + 1
      · rw [if_pos hlt]
        refine .inr ⟨d, z, rfl, hq, ?_, fun x hx e' he => ?_⟩
        · rw [List.find?_append]
          have : (t.find? fun n => dst nx n y == some d) = none := by
            rw [List.find?_eq_none]; intro x hx hc
            have := hle x hx d (by simpa using hc)
            omega
          rw [this]
          simp [hq]
        · rcases List.mem_append.1 hx with hx | hx
          · have := hle x hx e' he; omega
          · simp at hx; rw [hx, hq] at he; injection he with he; omega
      · rw [if_neg hlt]
        refine .inr ⟨e, w, hb, hd, by rw [List.find?_append, hf]; rfl, fun x hx e' he => ?_⟩
        rcases List.mem_append.1 hx with hx | hx
        · exact hle x hx e' he
        · simp at hx; rw [hx, hq] at he; injection he with he; omega
end
section
variable {l : List Aut}
theorem qboth_eq (hl : okAuts l) (hf : few l = true) (a b : Int) : qboth_S l a b = some (asksG l [a, b]) := by
  simp only [qboth_S, qboth_F, qknown_eq hl hf, Option.bind_some, asks_cons a b]
  cases asksG l [a] != 0 <;> rfl
theorem way_L1 (h : Good l) {x to : Int} (hx : x ∈ ids l) (hne : x ≠ to) {y2 : Aut × Bool} (hy : y2.1.Next = nxA l x) {self_ : List Aut → Int → Int → Option (List Int)} (hs : ∀ z ∈ nxA l x, self_ l z to = some (wayL (nxA l) z to)) : ∀ (n j fu : Nat) (best : List Int), (nxA l x).length - j = n → j ≤ (nxA l x).length → n < fu → bestOf (nxA l) to ((nxA l x).take j) best →
    qway_L1 l x to y2 self_ fu best (j : Int) = some (wayL (nxA l) x to)
  | n, j, 0, _, _, _, h, _ => by omega
  | 0, j, fu + 1, best, hn, hj, _, hb => by
    have : j = (nxA l x).length := by omega
    subst this
    rw [List.take_length] at hb
    have h0 : decide (((nxA l x).length : Int) < ((nxA l x).length : Int)) = false := decide_eq_false (by omega)
    rcases way_last h.dag hx hne hb with ⟨h1, h2⟩ | ⟨h1, h2, h3⟩
    · subst h1
      simp only [qway_L1, hy, List.length_map, List.isEmpty_nil, cond_true, h0, cond_false, h2]
    · have e1 : decide (([x] : List Int).length + best.length ≤ 4294967296) = true := decide_eq_true (by simp; omega)
      simp only [qway_L1, hy, List.length_map, h1, cond_true, h0, cond_false, e1, h3]
  | n + 1, j, fu + 1, best, hn, _, hf, hb => by
    have hj : j < (nxA l x).length := by omega
    have h0 : decide ((j : Int) < ((nxA l x).length : Int)) = true := decide_eq_true (by omega)
    have hnl := h.nlen x
    have hzm := List.getElem_mem hj
    have hzV := (h.dag.nxV _ _ hzm).2
    have hw : IntKind.i64.wrap ((j : Int) + 1) = ((j + 1 : Nat) : Int) := wrap_succ (n := (nxA l x).length) (by omega) hj
    obtain ⟨z, hz⟩ : ∃ z, (nxA l x)[j] = z := ⟨_, rfl⟩
    have hix : ix (nxA l x) (j : Int) = some z := by rw [ix_at hj, hz]
    rw [hz] at hzm hzV
    have hst := best_step h.dag hzV (fun y hy => (h.dag.nxV _ _ (List.mem_of_mem_take hy)).2) hb
    have ih := fun b hb' => way_L1 h hx hne hy hs n (j + 1) fu b (by omega) (by omega) (by omega) hb'
    rw [List.take_succ_eq_append_getElem hj, hz] at ih
    have hs' := hs _ hzm
    have key : qway_L1 l x to y2 self_ (fu + 1) best (j : Int) = qway_L1 l x to y2 self_ fu (if (wayL (nxA l) z to).isEmpty = true then best else if best.isEmpty = true then wayL (nxA l) z to else if (wayL (nxA l) z to).length < best.length then wayL (nxA l) z to else best) ((j + 1 : Nat) : Int) := by
      have hpos : (wayL (nxA l) z to).isEmpty = false → decide (((wayL (nxA l) z to).length : Int) > 0) = true := fun hq => decide_eq_true (by
        cases hc : wayL (nxA l) z to with
        | nil => rw [hc] at hq; cases hq
        | cons => simp only [List.length_cons]; omega)
      have hlt : decide (((wayL (nxA l) z to).length : Int) < (best.length : Int)) = decide ((wayL (nxA l) z to).length < best.length) := by rw [decide_eq_decide]; omega
      simp only [qway_L1, hy, List.length_map, h0, cond_true, hix, Option.bind_some, hs', hw, hlt]
      cases hb1 : best.isEmpty with
      | true =>
        have hbn : best = [] := List.isEmpty_iff.1 hb1
        subst hbn
        cases hw1 : (wayL (nxA l) z to).isEmpty with
        | true => simp only [cond_true, if_true]
        | false => simp only [hpos hw1, cond_true, cond_false, Bool.false_eq_true, if_false, if_true]
      | false =>
        cases hw1 : (wayL (nxA l) z to).isEmpty with
        | true => simp only [cond_true, cond_false, if_true]
        | false =>
          simp only [hpos hw1, cond_true, cond_false, Bool.false_eq_true, if_false]
          by_cases hc : (wayL (nxA l) z to).length < best.length
          · rw [decide_eq_true hc, if_pos hc]; rfl
          · rw [decide_eq_false hc, if_neg hc]; rfl
    rw [key]
    exact ih _ hst
theorem qway_gen (h : Good l) {to : Int} : ∀ (N : Nat) (x : Int), x ∈ ids l → ahd (ids l) (rkA l) x + 20 < N → qway_F N l x to = some (wayL (nxA l) x to)
  | 0, x, _, hN => by omega
  | N + 1, x, hx, hN => by
    have hss := h.dag
    unfold qway_F
    by_cases he : x = to
    · subst he
      rw [show (x == x) = true from beq_self_eq_true x, cond_true, wayL_some (dst_self h.dag hx)]; rfl
    · rw [show (x == to) = false from beq_eq_false_iff_ne.2 he, cond_false, rFind_eq' h.l63, Option.bind_some]
      have hnl := h.nlen x
      refine way_L1 h hx he rfl (fun z hz => ?_) (nxA l x).length 0 N [] (by omega) (by omega) (by omega) (.inl ⟨rfl, by simp⟩)
      have := ahd_lt h.dag hz
      exact qway_gen h N z (h.dag.nxV _ _ hz).2 (by omega)
theorem qway_eq (h : Good l) {x : Int} (hx : x ∈ ids l) (to : Int) : qway_S l x to = some (wayL (nxA l) x to) := by
  have := ahd_bd h.dag hx
  exact qway_gen h 1000 x hx (by omega)
theorem qWay_eq (hl : okAuts l) (hf : few l = true) (a b : Int) : qWay_S l a b = some (wayG l a b) := by
  simp only [qWay_S, qWay_F, qboth_eq hl hf, Option.bind_some, wayG]
  cases ha : asksG l [a, b] != 0 with
  | true => rfl
  | false =>
    obtain ⟨hr, hi⟩ := asks_zero (l := l) (is := [a, b]) (by simpa using ha)
    have h := good_of hl hf hr
    have haV := hi a (by simp)
    simp only [cond_false, qway_eq h haV, Option.bind_some]
    cases hq : dst (nxA l) a b with
    | none => rw [wayL_none hq]; rfl
    | some d =>
      have hl' := wayD_len h.dag haV hq
      have e1 : (((wayD (nxA l) b d a).length : Int) == 0) = false := by rw [beq_eq_false_iff_ne]; omega
      rw [wayL_some hq]
      simp only [wayD_ne, cond_false, List.length_map, e1]
def sumN (l : List Aut) (x to : Int) (j : Nat) : Nat := (((nxA l x).take j).map fun m => tot (nxA l) m to).sum
theorem sumN_succ {x to : Int} {j : Nat} (hj : j < (nxA l x).length) : sumN l x to (j + 1) = sumN l x to j + tot (nxA l) (nxA l x)[j] to := by
  unfold sumN
  rw [List.take_succ_eq_append_getElem hj, List.map_append, List.sum_append]
  simp
theorem sumN_le (h : Good l) {x to : Int} (hx : x ∈ ids l) (hne : x ≠ to) (j : Nat) : sumN l x to j ≤ tot (nxA l) x to ∧ sumN l x to (nxA l x).length = tot (nxA l) x to := by
  have h1 := tot_fwd h.dag to hx
  rw [if_neg hne, Nat.zero_add] at h1
  have h2 : ((nxA l x).map fun m => tot (nxA l) m to).sum = sumN l x to j + (((nxA l x).drop j).map fun m => tot (nxA l) m to).sum := by
    unfold sumN
    rw [← List.sum_append, ← List.map_append, List.take_append_drop]
  have h3 : sumN l x to (nxA l x).length = ((nxA l x).map fun m => tot (nxA l) m to).sum := by unfold sumN; rw [List.take_length]
  omega
theorem share_L1 (h : Good l) {x to : Int} (hx : x ∈ ids l) (hne : x ≠ to) {y2 : Aut × Bool} (hy : y2.1.Next = nxA l x) {self_ : List Aut → Int → Int → Option Int} (hs : ∀ z ∈ nxA l x, self_ l z to = some (tot (nxA l) z to : Int)) : ∀ (n j fu : Nat), (nxA l x).length - j = n → j ≤ (nxA l x).length → n < fu →
    qshare_L1 l to y2 self_ fu (sumN l x to j : Int) (j : Int) = some (tot (nxA l) x to : Int)
  | n, j, 0, _, _, h => by omega
  | 0, j, fu + 1, hn, hj, _ => by
    have : j = (nxA l x).length := by omega
    subst this
    have h0 : decide (((nxA l x).length : Int) < ((nxA l x).length : Int)) = false := decide_eq_false (by omega)
    have hbd := tot_bd h.dag x to
    simp only [qshare_L1, hy, List.length_map, h0, cond_false, (sumN_le h hx hne 0).2]
    rw [if_neg (by omega)]
  | n + 1, j, fu + 1, hn, _, hf => by
    have hj : j < (nxA l x).length := by omega
    have h0 : decide ((j : Int) < ((nxA l x).length : Int)) = true := decide_eq_true (by omega)
    have hnl := h.nlen x
    have hbd := tot_bd h.dag x to
    have hle := (sumN_le h hx hne (j + 1)).1
    have hsc := sumN_succ (x := x) (to := to) hj
    have hw : IntKind.i64.wrap ((j : Int) + 1) = ((j + 1 : Nat) : Int) := wrap_succ (n := (nxA l x).length) (by omega) hj
    have ih := share_L1 h hx hne hy hs n (j + 1) fu (by omega) (by omega) (by omega)
    have hw2 : IntKind.i64.wrap ((sumN l x to j : Int) + (tot (nxA l) (nxA l x)[j] to : Int)) = (sumN l x to (j + 1) : Int) := by
      rw [wrap_id (by unfold okI; omega)]; omega
    simp only [qshare_L1, hy, List.length_map, h0, cond_true, ix_at hj, Option.bind_some, hs _ (List.getElem_mem hj), hw, hw2]
    exact ih
theorem qshare_gen (h : Good l) {to : Int} : ∀ (N : Nat) (x : Int), x ∈ ids l → ahd (ids l) (rkA l) x + 20 < N → qshare_F N l x to = some (tot (nxA l) x to : Int)
  | 0, x, _, hN => by omega
  | N + 1, x, hx, hN => by
    unfold qshare_F
    by_cases he : x = to
    · subst he
      rw [show (x == x) = true from beq_self_eq_true x, cond_true, tot_self h.dag hx]; rfl
    · rw [show (x == to) = false from beq_eq_false_iff_ne.2 he, cond_false, rFind_eq' h.l63, Option.bind_some]
      have hnl := h.nlen x
      have := share_L1 h hx he (y2 := (found l x, !(gone l x))) rfl (self_ := qshare_F N) (fun z hz => by
        have := ahd_lt h.dag hz
        exact qshare_gen h N z (h.dag.nxV _ _ hz).2 (by omega)) (nxA l x).length 0 N (by omega) (by omega) (by omega)
      exact this
theorem qShare_eq (hl : okAuts l) (hf : few l = true) (a b : Int) : qShare_S l a b = some (shareG l a b) := by
  simp only [qShare_S, qShare_F, qboth_eq hl hf, Option.bind_some, shareG]
  cases ha : asksG l [a, b] != 0 with
  | true => rfl
  | false =>
    obtain ⟨hr, hi⟩ := asks_zero (l := l) (is := [a, b]) (by simpa using ha)
    have h := good_of hl hf hr
    have haV := hi a (by simp)
    have := ahd_bd h.dag haV
    simp only [cond_false, qshare_S, qshare_gen h 1000 a haV (by omega), Option.bind_some]
theorem meet_L2 (h : Good l) {a b : Int} (haV : a ∈ ids l) (hbV : b ∈ ids l) {out : List Int} {i : Nat} (hi : i < (reachL (ids l) (nxA l) a).length) (ho : out.length ≤ 100) {x : Int} {k : List Int → Int → Option (List Int × Int)} : ∀ (n j fu : Nat) (first : Bool), (pvA l x).length - j = n → j ≤ (pvA l x).length → n < fu →
    qMeet_L2 (reachL (ids l) (nxA l) a) (reachL (ids l) (nxA l) b) out (i : Int) (pvA l x) k fu first (j : Int) = bif first && !(((pvA l x).drop j).any (bothR l a b)) then k (out ++ [(reachL (ids l) (nxA l) a)[i]]) ((i + 1 : Nat) : Int) else k out ((i + 1 : Nat) : Int)
  | n, j, 0, _, _, _, h => by omega
  | 0, j, fu + 1, first, hn, hj, _ => by
    have : j = (pvA l x).length := by omega
    subst this
    have n1 := reachL_len h.dag a
    have h0 : decide (((pvA l x).length : Int) < ((pvA l x).length : Int)) = false := decide_eq_false (by omega)
    have e1 : decide (out.length + ([(reachL (ids l) (nxA l) a)[i]] : List Int).length ≤ 4294967296) = true := decide_eq_true (by simp; omega)
    have hw : IntKind.i64.wrap ((i : Int) + 1) = ((i + 1 : Nat) : Int) := wrap_succ (n := (reachL (ids l) (nxA l) a).length) (by omega) hi
    simp only [qMeet_L2, List.length_map, h0, cond_false, ix_at hi, Option.bind_some, e1, cond_true, hw, List.drop_length, List.any_nil, Bool.not_false, Bool.and_true]
  | n + 1, j, fu + 1, first, hn, _, hf => by
    have hj : j < (pvA l x).length := by omega
    have n1 := reachL_len h.dag a
    have n2 := reachL_len h.dag b
    have hpl := h.plen x
    have h0 : decide ((j : Int) < ((pvA l x).length : Int)) = true := decide_eq_true (by omega)
    have hw : IntKind.i64.wrap ((j : Int) + 1) = ((j + 1 : Nat) : Int) := wrap_succ (n := (pvA l x).length) (by omega) hj
    have ih := fun f => meet_L2 h haV hbV hi ho (x := x) (k := k) n (j + 1) fu f (by omega) (by omega) (by omega)
    have hdr : ((pvA l x).drop j).any (bothR l a b) = (bothR l a b (pvA l x)[j] || ((pvA l x).drop (j + 1)).any (bothR l a b)) := by rw [List.drop_eq_getElem_cons hj, List.any_cons]
    rw [hdr]
    simp only [qMeet_L2, List.length_map, h0, cond_true, ix_at hj, Option.bind_some, hw, qhas_eq (show (reachL (ids l) (nxA l) a).length ≤ 900 by omega), qhas_eq (show (reachL (ids l) (nxA l) b).length ≤ 900 by omega), anyReach h.dag haV, anyReach h.dag hbV, bothR, ih]
    cases first <;> cases reachB (nxA l) a (pvA l x)[j] <;> cases reachB (nxA l) b (pvA l x)[j] <;> rfl
theorem qMeet_eq (hl : okAuts l) (hf : few l = true) (a b : Int) : qMeet_S l a b = some (meetG l a b) := by
  simp only [qMeet_S, qMeet_F, qboth_eq hl hf, Option.bind_some, meetG]
  cases ha : asksG l [a, b] != 0 with
  | true => rfl
  | false =>
    obtain ⟨hr, hi⟩ := asks_zero (l := l) (is := [a, b]) (by simpa using ha)
    have h := good_of hl hf hr
    have haV := hi a (by simp)
    have hbV := hi b (by simp)
    have n1 := reachL_len h.dag a
    have n2 := reachL_len h.dag b
    simp only [cond_false, qall_fwd h haV, qall_fwd h hbV, Option.bind_some]
    have h1 := filt_loop (lst := reachL (ids l) (nxA l) a) (qMeet_L1 l (reachL (ids l) (nxA l) a) (reachL (ids l) (nxA l) b) 1000) (fun x => reachB (nxA l) b x && !((pvA l x).any (bothR l a b))) id (by omega) (fun fu i out hi ho => by
        have h0 : decide ((i : Int) < ((reachL (ids l) (nxA l) a).length : Int)) = true := decide_eq_true (by omega)
        have hw : IntKind.i64.wrap ((i : Int) + 1) = ((i + 1 : Nat) : Int) := wrap_succ (n := (reachL (ids l) (nxA l) a).length) (by omega) hi
        have hpl := h.plen (reachL (ids l) (nxA l) a)[i]
        have h2 := meet_L2 h haV hbV hi (show out.length ≤ 100 by omega) (x := (reachL (ids l) (nxA l) a)[i]) (k := fun q_out8 q_i9 => qMeet_L1 l (reachL (ids l) (nxA l) a) (reachL (ids l) (nxA l) b) 1000 fu q_out8 q_i9) (pvA l (reachL (ids l) (nxA l) a)[i]).length 0 1000 true (by omega) (by omega) (by omega)
        rw [List.drop_zero] at h2
        simp only [qMeet_L1, List.length_map, ix_at hi, Option.bind_some, h0, cond_true, hw, qhas_eq (show (reachL (ids l) (nxA l) b).length ≤ 900 by omega), anyReach h.dag hbV, qbefore_eq h]
        cases hR : reachB (nxA l) b (reachL (ids l) (nxA l) a)[i] with
        | false => rfl
        | true =>
          simp only [Bool.not_true, cond_false]
          rw [show (0 : Int) = ((0 : Nat) : Int) from rfl, h2]
          rfl)
      (fin := fun out => some (out, 0)) (fun fu out => by
        have h0 : decide (((reachL (ids l) (nxA l) a).length : Int) < ((reachL (ids l) (nxA l) a).length : Int)) = false := decide_eq_false (by omega)
        simp only [qMeet_L1, List.length_map, h0, cond_false]) (reachL (ids l) (nxA l) a).length 0 1000 [] (by omega) (by omega) (by omega) (by simp)
    rw [List.drop_zero, List.nil_append, List.map_id] at h1
    refine Eq.trans h1 ?_
    have : (reachL (ids l) (nxA l) a).filter (fun x => reachB (nxA l) b x && !((pvA l x).any (bothR l a b))) = meetL l a b := by
      unfold meetL reachL
      rw [List.filter_filter]
      exact List.filter_congr fun x _ => by
        unfold bothR
        cases reachB (nxA l) a x <;> cases reachB (nxA l) b x <;> simp
    rw [this]
theorem wayG_len (h : few l = true) (hl : okAuts l) (a b : Int) : (wayG l a b).1.length ≤ 13 := by
  unfold wayG
  cases ha : asksG l [a, b] != 0 with
  | true => exact Nat.zero_le _
  | false =>
    obtain ⟨hr, hi⟩ := asks_zero (l := l) (is := [a, b]) (by simpa using ha)
    have hg := good_of hl h hr
    have haV := hi a (by simp)
    simp only [cond_false]
    cases hq : dst (nxA l) a b with
    | none => exact Nat.zero_le _
    | some d =>
      have h1 := wayD_len hg.dag haV hq
      have h2 := wk_lt hg.dag ((dst_some hg.dag haV).1 hq).1 haV
      show (wayD (nxA l) b d a).length ≤ 13
      omega
theorem meetG_len (h : few l = true) (hl : okAuts l) (a b : Int) : (meetG l a b).1.length ≤ 12 := by
  unfold meetG
  cases ha : asksG l [a, b] != 0 with
  | true => exact Nat.zero_le _
  | false =>
    obtain ⟨hr, hi⟩ := asks_zero (l := l) (is := [a, b]) (by simpa using ha)
    exact Nat.le_trans (List.length_filter_le _ _) (good_of hl h hr).dag.len
namespace successionWays
theorem law (l : List Aut) (a b : Int) (hl : okAuts l) (_ : okI a) (_ : okI b) : lSuccessionWays_S l a b = some true := by
  simp only [lSuccessionWays_S, lSuccessionWays_F, awake_true, Option.bind_some, Bool.not_true, cond_false, rFew_eq hl]
  cases hf : few l with
  | false => rfl
  | true =>
    have h12 := h12_of hl hf
    have w1 := wayG_len hf hl a b
    simp only [Bool.not_true, cond_false, rCopy_eq hf, Option.bind_some, sWay_eq hl h12, sShare_eq hl h12, sMeet_eq hl h12, qWay_eq hl hf, qShare_eq hl hf, qMeet_eq hl hf,
      slEqual_refl (show (wayG l a b).1.length ≤ 9223372036854775807 by omega), slEqual_refl (pair_len (meetG_len hf hl a b)), beq_self_eq_true, cond_true]
end successionWays
end
end Go.Proofs.YtdoldlbcjcfmdaaGreat
