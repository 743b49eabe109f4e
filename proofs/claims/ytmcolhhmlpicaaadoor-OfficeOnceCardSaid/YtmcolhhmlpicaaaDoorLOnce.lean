/- On each day the duties of an office are with at most one. -/
import Derived.Test.YtmcolhhmlpicaaaDoorLBef
namespace Go.Proofs.YtmcolhhmlpicaaaDoor
open Go Go.Abs

/-- An heir is an office of the list that is in force. -/
theorem heir_in {l : List Off} {x d h : Int} (hh : heirF l x d = (h, true)) : ∃ z ∈ l, z.ID = h ∧ onSpan z.In d = true ∧ findO l h = some z := by
  unfold heirF at hh
  cases hc : (chn l x d).getLast? with
  | none => rw [hc] at hh; simp at hh
  | some z =>
    obtain ⟨hG, hz, hf⟩ := chn_last hc
    rw [hc] at hh
    simp only at hh
    cases hs : onSpan z.In d with
    | false => rw [hs] at hh; simp at hh
    | true => rw [hs] at hh; simp at hh; exact ⟨z, hz, hh, hs, by rw [← hh]; exact hf⟩
theorem heir_cases (l : List Off) (x d : Int) : heirF l x d = (0, false) ∨ ∃ h, heirF l x d = (h, true) := by
  unfold heirF
  cases (chn l x d).getLast? with
  | none => exact .inl rfl
  | some z =>
    cases hs : onSpan z.In d with
    | false => exact .inl (by simp only [hs, cond_false])
    | true => exact .inr ⟨z.ID, by simp only [hs, cond_true]⟩
theorem heir_own {l : List Off} (hg : isGood l = true) {x : Off} (hx : x ∈ l) {d : Int} (hs : onSpan x.In d = true) : heirF l x.ID d = (x.ID, true) := by
  rw [heir_last hg, (isGood_iff hg).find hx]
  have : stop d x = true := by simp [stop, hs]
  simp only [hOf, lastN, this, cond_true, hs]
def setAll (m : List (Int × Int)) (d : List Int) (v : Int) : List (Int × Int) := d.foldl (fun m k => mset m k v) m
theorem mget_setAll (v k : Int) : ∀ (d : List Int) (m : List (Int × Int)), mget (setAll m d v) k = bif decide (k ∈ d) then some v else mget m k
  | [], m => by simp [setAll]
  | a :: r, m => by
    have ih := mget_setAll v k r (mset m a v)
    simp only [setAll, List.foldl_cons] at ih ⊢
    rw [ih, mget_mset]
    by_cases h1 : k ∈ r
    · simp [h1]
    · by_cases h2 : k = a
      · subst h2; simp
      · have : (k == a) = false := by simp [h2]
        simp [h1, h2, this]
/-- One round's marks: none has one yet. -/
theorem mark_loop {y : List Int} (hy : y.length ≤ 37) (hnd : y.Nodup) {x : Off} {v10 : Int} {k : Int → List (Int × Int) → Option Bool} (L : Nat → Int → List (Int × Int) → Option Bool)
    (hL : ∀ fu v m, L (fu + 1) v m = bif decide (v < ((y.map cInt).length : Int)) then (Option.bind (ix y v) fun x29 => Option.bind (mlk m x29 0) fun y31 => bif (y31 != 0) then some (false) else L fu (IntKind.i64.wrap (v + 1)) (mset m x29 x.ID)) else k (IntKind.i64.wrap (v10 + 1)) m) :
    ∀ (n j fu : Nat) (m : List (Int × Int)), y.length - j = n → j ≤ y.length → n < fu → (∀ z ∈ y.drop j, mget m z = none) → L fu (j : Int) m = k (IntKind.i64.wrap (v10 + 1)) (setAll m (y.drop j) x.ID)
  | n, j, 0, _, _, _, h, _ => by omega
  | 0, j, fu + 1, m, hn, hj, _, _ => by
    have : j = y.length := by omega
    subst this
    have h0 : decide ((y.length : Int) < (y.length : Int)) = false := decide_eq_false (by omega)
    rw [hL]
    simp only [List.length_map, h0, cond_false, List.drop_length, setAll, List.foldl_nil]
  | n + 1, j, fu + 1, m, hn, _, hf, hm => by
    have hj : j < y.length := by omega
    have h0 : decide ((j : Int) < (y.length : Int)) = true := decide_eq_true (by omega)
    have hd := List.drop_eq_getElem_cons hj
    have hmj : mget m y[j] = none := hm _ (hd ▸ List.mem_cons_self)
    rw [hL]
    simp only [List.length_map, h0, cond_true, ix_at hj, Option.bind_some, mlk, hmj, Option.getD_none, bne_self_eq_false, cond_false, wrap_succ (n := y.length) (by omega) hj]
    have hnd' : (y.drop j).Nodup := hnd.sublist (List.drop_sublist j y)
    rw [hd] at hnd'
    rw [mark_loop hy hnd L hL n (j + 1) fu _ (by omega) (by omega) (by omega) fun z hz => by
      rw [mget_mset]
      have : (z == y[j]) = false := by
        cases hq : z == y[j] with
        | false => rfl
        | true => have : z = y[j] := by simpa using hq
                  rw [this] at hz
                  exact absurd hz (List.nodup_cons.1 hnd').1
      rw [this, cond_false]
      exact hm z (by rw [hd]; exact List.mem_cons_of_mem _ hz)]
    rw [hd]
    rfl
/-- The marks behind i rounds. -/
def Marks (l : List Off) (day : Int) (i : Nat) (m : List (Int × Int)) : Prop :=
  ∀ k h, mget m k = some h ↔ (findO l k).isSome = true ∧ heirF l k day = (h, true) ∧ h ∈ (l.take i).map Off.ID
theorem duties_mem {l : List Off} (hg : isGood l = true) {x : Off} (hx : x ∈ l) {day k : Int} : k ∈ dutiesF l x.ID day ↔ (findO l k).isSome = true ∧ heirF l k day = (x.ID, true) := by
  have hG := isGood_iff hg
  simp only [dutiesF, hg, hG.find hx, Option.isSome_some, Bool.and_self, cond_true, List.mem_map, List.mem_filter]
  constructor
  · rintro ⟨y, ⟨hy, hd⟩, rfl⟩
    refine ⟨by rw [hG.find hy]; rfl, ?_⟩
    simp only [dutyB, Bool.and_eq_true, beq_iff_eq] at hd
    exact Prod.ext hd.2 hd.1
  · rintro ⟨h1, h2⟩
    obtain ⟨y, hy⟩ := Option.isSome_iff_exists.1 h1
    obtain ⟨m1, m2⟩ := find_mem hy
    exact ⟨y, ⟨m1, by simp [dutyB, m2, h2]⟩, m2⟩
theorem duties_inc {l : List Off} (hG : Good l) (x day : Int) : (dutiesF l x day).Pairwise (· < ·) := by
  unfold dutiesF
  cases isGood l && (findO l x).isSome with
  | false => simp
  | true =>
    simp only [cond_true]
    rw [List.pairwise_map]
    exact hG.inc.filter _
theorem marks_next {l : List Off} (hg : isGood l = true) {day : Int} {i : Nat} (hi : i < l.length) {m : List (Int × Int)} (hm : Marks l day i m) :
    (∀ z ∈ dutiesF l l[i].ID day, mget m z = none) ∧ Marks l day (i + 1) (setAll m (dutiesF l l[i].ID day) l[i].ID) := by
  have hG := isGood_iff hg
  have hx := List.getElem_mem hi
  have hnot : l[i].ID ∉ (l.take i).map Off.ID := fun h => by
    obtain ⟨y, hy, he⟩ := List.mem_map.1 h
    rw [List.mem_take_iff_getElem] at hy
    obtain ⟨j, hj, rfl⟩ := hy
    have := List.pairwise_iff_getElem.1 hG.inc j i (by omega) hi (by omega)
    omega
  constructor
  · intro z hz
    cases hq : mget m z with
    | none => rfl
    | some h =>
      obtain ⟨_, h2, h3⟩ := (hm z h).1 hq
      have := ((duties_mem hg hx).1 hz).2
      rw [this] at h2
      have : l[i].ID = h := by simpa using h2
      rw [← this] at h3
      exact absurd h3 hnot
  · intro k h
    rw [mget_setAll]
    rw [List.take_succ_eq_append_getElem hi, List.map_append, List.mem_append]
    by_cases hk : k ∈ dutiesF l l[i].ID day
    · have := (duties_mem hg hx).1 hk
      simp only [hk, decide_true, cond_true, Option.some.injEq, this.1, this.2, true_and, Prod.mk.injEq, and_true]
      constructor
      · rintro rfl; exact ⟨rfl, .inr (by simp)⟩
      · exact fun h => h.1
    · simp only [hk, decide_false, cond_false]
      rw [hm k h]
      constructor
      · rintro ⟨h1, h2, h3⟩; exact ⟨h1, h2, .inl h3⟩
      · rintro ⟨h1, h2, h3 | h3⟩
        · exact ⟨h1, h2, h3⟩
        · simp at h3
          exact absurd ((duties_mem hg hx).2 ⟨h1, by rw [← h3]; exact h2⟩) hk
theorem once_last {l : List Off} (hl : okOffs l) (hg : isGood l = true) {day : Int} {m : List (Int × Int)} (hm : Marks l day l.length m) : ∀ (n i fu : Nat), l.length - i = n → i ≤ l.length → n < fu → lOfficeOnce_L5 l day m fu (i : Int) = some true
  | n, i, 0, _, _, h => by omega
  | 0, i, fu + 1, hn, hi, _ => by
    have : i = l.length := by omega
    subst this
    have h0 : decide ((l.length : Int) < (l.length : Int)) = false := decide_eq_false (by omega)
    simp only [lOfficeOnce_L5, List.length_map, h0, cond_false]
  | n + 1, i, fu + 1, hn, _, hf => by
    have hG := isGood_iff hg
    have hi : i < l.length := by omega
    have h0 : decide ((i : Int) < (l.length : Int)) = true := decide_eq_true (by omega)
    have hx := List.getElem_mem hi
    have hsome : (findO l l[i].ID).isSome = true := by rw [hG.find hx]; rfl
    have ih := once_last hl hg hm n (i + 1) fu (by omega) (by omega) (by omega)
    simp only [lOfficeOnce_L5, List.length_map, h0, cond_true, ix_at hi, Option.bind_some, pHeir_eq hl, mlk, wrap_succ hl.1 hi, ih]
    rcases heir_cases l l[i].ID day with hh | ⟨h, hh⟩
    · have hn : mget m l[i].ID = none := by
        cases hq : mget m l[i].ID with
        | none => rfl
        | some h => have := ((hm _ _).1 hq).2.1; rw [hh] at this; simp at this
      simp [hh, hn]
    · obtain ⟨z, hz, hzid, _, _⟩ := heir_in hh
      have hs : mget m l[i].ID = some h := (hm _ _).2 ⟨hsome, hh, by rw [List.take_length]; exact List.mem_map.2 ⟨z, hz, hzid⟩⟩
      have hne : (h != 0) = true := by have := (hG.id z hz).1; simp; omega
      simp [hh, hs, hne]
theorem once_loop {l : List Off} (hl : okOffs l) (hg : isGood l = true) {day : Int} : ∀ (n i fu : Nat) (m : List (Int × Int)), l.length - i = n → i ≤ l.length → n < fu → Marks l day i m → lOfficeOnce_L1 l day 1000 fu (i : Int) m = some true
  | n, i, 0, _, _, _, h, _ => by omega
  | 0, i, fu + 1, m, hn, hi, _, hm => by
    have : i = l.length := by omega
    subst this
    have h0 : decide ((l.length : Int) < (l.length : Int)) = false := decide_eq_false (by omega)
    have hlen := (isGood_iff hg).len
    simp only [lOfficeOnce_L1, List.length_map, h0, cond_false]
    have := once_last hl hg hm l.length 0 1000 (by omega) (by omega) (by omega)
    simpa using this
  | n + 1, i, fu + 1, m, hn, _, hf, hm => by
    have hG := isGood_iff hg
    have hlen := hG.len
    have hi : i < l.length := by omega
    have h0 : decide ((i : Int) < (l.length : Int)) = true := decide_eq_true (by omega)
    have hx := List.getElem_mem hi
    obtain ⟨k1, k2⟩ := marks_next hg hi hm
    have hinc := duties_inc hG l[i].ID day
    have hnd : (dutiesF l l[i].ID day).Nodup := by rw [List.nodup_iff_pairwise_ne]; exact hinc.imp fun h => by omega
    have hdl := duties_len l l[i].ID day (.inr hg)
    have hsorted : slIsSorted_S (dutiesF l l[i].ID day) = some true := slIsSorted_eq (by omega) fun j hj => by
      have := List.pairwise_iff_getElem.1 hinc j (j + 1) (by omega) hj (by omega)
      omega
    have hcon : slContains_S (dutiesF l l[i].ID day) l[i].ID = some (onSpan l[i].In day) := by
      rw [slContains_eq (by omega)]
      congr 1
      rw [Bool.eq_iff_iff, List.any_eq_true]
      constructor
      · rintro ⟨y, hy, he⟩
        have he' : l[i].ID = y := by simpa using he
        rw [← he'] at hy
        obtain ⟨z, hz, hzid, hs, hzf⟩ := heir_in ((duties_mem hg hx).1 hy).2
        rw [hG.find hx] at hzf
        have : l[i] = z := Option.some.inj hzf
        rw [this]; exact hs
      · intro hs
        exact ⟨l[i].ID, (duties_mem hg hx).2 ⟨by rw [hG.find hx]; rfl, heir_own hg hx hs⟩, by simp⟩
    have hempty : onSpan l[i].In day = false → dutiesF l l[i].ID day = [] := fun hs => by
      refine List.eq_nil_iff_forall_not_mem.2 fun k hk => ?_
      obtain ⟨z, hz, hzid, hs', hzf⟩ := heir_in ((duties_mem hg hx).1 hk).2
      rw [hG.find hx] at hzf
      have : l[i] = z := Option.some.inj hzf
      rw [this, hs'] at hs; cases hs
    have hlt : ∀ fu', (lOfficeOnce_L1 l day 1000 fu' (IntKind.i64.wrap ((i : Int) + 1)) (setAll m (dutiesF l l[i].ID day) l[i].ID)) = lOfficeOnce_L1 l day 1000 fu' ((i + 1 : Nat) : Int) (setAll m (dutiesF l l[i].ID day) l[i].ID) := fun fu' => by rw [wrap_succ hl.1 hi]
    have ih := once_loop hl hg n (i + 1) fu (setAll m (dutiesF l l[i].ID day) l[i].ID) (by omega) (by omega) (by omega) k2
    have m2 := mark_loop hdl hnd (x := l[i]) (v10 := (i : Int)) (lOfficeOnce_L2 (dutiesF l l[i].ID day) (i : Int) l[i] (fun v10 v11 => lOfficeOnce_L1 l day 1000 fu v10 v11)) (fun _ _ _ => rfl) (dutiesF l l[i].ID day).length 0 1000 m (by omega) (by omega) (by omega) (by rw [List.drop_zero]; exact k1)
    have m3 := mark_loop hdl hnd (x := l[i]) (v10 := (i : Int)) (lOfficeOnce_L3 (dutiesF l l[i].ID day) (i : Int) l[i] (fun v10 v11 => lOfficeOnce_L1 l day 1000 fu v10 v11)) (fun _ _ _ => rfl) (dutiesF l l[i].ID day).length 0 1000 m (by omega) (by omega) (by omega) (by rw [List.drop_zero]; exact k1)
    have m4 := mark_loop hdl hnd (x := l[i]) (v10 := (i : Int)) (lOfficeOnce_L4 (dutiesF l l[i].ID day) (i : Int) l[i] (fun v10 v11 => lOfficeOnce_L1 l day 1000 fu v10 v11)) (fun _ _ _ => rfl) (dutiesF l l[i].ID day).length 0 1000 m (by omega) (by omega) (by omega) (by rw [List.drop_zero]; exact k1)
    rw [List.drop_zero, hlt, ih] at m2 m3 m4
    simp only [lOfficeOnce_L1, List.length_map, h0, cond_true, ix_at hi, Option.bind_some, pDuties_eq hl, hcon, hsorted, Bool.not_true, cond_false]
    rw [show (0 : Int) = ((0 : Nat) : Int) from rfl, m2, m3, m4]
    by_cases q1 : l[i].In.From ≤ day
    · by_cases q2 : day < l[i].In.Until
      · have hs : onSpan l[i].In day = true := by simp [onSpan, q1, q2]
        simp [q1, q2, hs]
      · have hs : onSpan l[i].In day = false := by simp [onSpan, q2]
        simp [q1, q2, hs, hempty hs]
    · have hs : onSpan l[i].In day = false := by simp [onSpan, q1]
      simp [q1, hs, hempty hs]
theorem officeOnce.law (l : List Off) (day : Int) (hl : okOffs l) (_ : okI day) : lOfficeOnce_S l day = some true := by
  simp only [lOfficeOnce_S, lOfficeOnce_F, awake_true, Option.bind_some, Bool.not_true, cond_false, rFew_eq hl, pCheck_eq hl]
  cases fewO l with
  | false => rfl
  | true =>
    simp only [Bool.not_true, cond_false]
    cases hg : isGood l with
    | false =>
      have hb : ((checkF l).2 != 0) = true := by simp only [isGood] at hg; simp [bne, hg]
      simp [hb]
    | true =>
      have hb : ((checkF l).2 != 0) = false := by simp only [isGood] at hg; simp [bne, hg]
      have hlen := (isGood_iff hg).len
      simp only [hb, cond_false]
      have := once_loop hl hg (day := day) l.length 0 1000 [] (by omega) (by omega) (by omega) fun k h => by simp [mget]
      simpa using this
end Go.Proofs.YtmcolhhmlpicaaaDoor
