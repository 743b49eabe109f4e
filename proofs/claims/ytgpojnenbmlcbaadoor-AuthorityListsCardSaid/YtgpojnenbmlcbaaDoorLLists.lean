/- AuthorityLists: true for every input. -/
import Derived.Test.YtgpojnenbmlcbaaDoorLCheckB
set_option linter.unusedVariables false
set_option linter.unusedSimpArgs false
namespace Go.Proofs.YtgpojnenbmlcbaaDoor
open Go Go.Abs
theorem alone_iff {p : Option Aut} {a : Aut} : aloneF p a = 0 ↔ idKind a = true ∧ (∀ b, p = some b → b.ID < a.ID) ∧ tailF a = 0 := by
  unfold aloneF
  cases hk : idKind a with
  | false => simp
  | true =>
    simp only [cond_true, true_and]
    cases p with
    | none => simp
    | some b =>
      simp only [Option.some.injEq]
      by_cases hd : a.ID ≤ b.ID
      · rw [decide_eq_true hd, cond_true]
        constructor
        · intro h; omega
        · rintro ⟨h, -⟩; have := h b rfl; omega
      · rw [decide_eq_false hd, cond_false]
        constructor
        · intro h; exact ⟨fun c hc => by rw [← hc]; omega, h⟩
        · rintro ⟨-, h⟩; exact h
theorem tail_next {a : Aut} (h : tailF a = 0) : a.Next.length ≤ 16 ∧ namesF a = 0 := by
  unfold tailF at h
  cases hn : namesF a != 0 with
  | true => rw [hn, cond_true] at h; rw [h] at hn; simp at hn
  | false =>
    rw [hn, cond_false] at h
    refine ⟨?_, by simpa using hn⟩
    by_cases h2 : a.Next.length > 16
    · rw [decide_eq_true h2] at h; simp at h
    · omega
theorem next_iff {l : List Aut} {a : Aut} : nextF l a = 0 ↔ ∀ id ∈ a.Next, gone l id = false ∧ (found l id).Kind = a.Kind ∧ (found l id).In.From = a.In.Until := by
  unfold nextF
  constructor
  · intro h
    cases h1 : a.Next.any (gone l) with
    | true => rw [h1] at h; simp at h
    | false =>
      rw [h1, cond_false] at h
      cases h2 : a.Next.any (fun id => (found l id).Kind != a.Kind) with
      | true => rw [h2] at h; simp at h
      | false =>
        rw [h2, cond_false] at h
        cases h3 : a.Next.any (fun id => (found l id).In.From != a.In.Until) with
        | true => rw [h3] at h; simp at h
        | false =>
          rw [List.any_eq_false] at h1 h2 h3
          intro id hid
          exact ⟨by simpa using h1 id hid, by simpa using h2 id hid, by simpa using h3 id hid⟩
  · intro h
    have h1 : a.Next.any (gone l) = false := by rw [List.any_eq_false]; intro id hid; simp [(h id hid).1]
    have h2 : a.Next.any (fun id => (found l id).Kind != a.Kind) = false := by rw [List.any_eq_false]; intro id hid; simp [(h id hid).2.1]
    have h3 : a.Next.any (fun id => (found l id).In.From != a.In.Until) = false := by rw [List.any_eq_false]; intro id hid; simp [(h id hid).2.2]
    rw [h1, h2, h3]; rfl
theorem scanP_all_none {β : Type} {b : Nat → Aut → Option β} {d : β} : ∀ (l : List Aut) (i : Nat), (∀ (j : Nat) (hj : j < l.length), b (i + j) l[j] = none) → scanP b d i l = d
  | [], _, _ => rfl
  | x :: r, i, h => by
    have h0 := h 0 (by simp)
    simp only [Nat.add_zero, List.getElem_cons_zero] at h0
    rw [scanP, h0]
    exact scanP_all_none r (i + 1) fun j hj => by
      have := h (j + 1) (by simpa using hj)
      rw [show i + 1 + j = i + (j + 1) by omega]
      simpa using this
theorem check_of {l : List Aut} (h64 : l.length ≤ 64) (h1 : ∀ (j : Nat) (hj : j < l.length), aloneF (prevOf l j) l[j] = 0) (h2 : ∀ a ∈ l, nextF l a = 0) : checkF l = (-1, 0) := by
  unfold checkF
  rw [decide_eq_false (show ¬ l.length > 64 by omega), cond_false]
  rw [scanP_all_none l 0 (fun j hj => by rw [Nat.zero_add]; show (bif aloneF (prevOf l j) l[j] != 0 then _ else _) = _; rw [h1 j hj]; rfl)]
  exact scanP_all_none l 0 (fun j hj => by show (bif nextF l l[j] != 0 then _ else _) = _; rw [h2 _ (List.getElem_mem hj)]; rfl)
theorem ids_up {l : List Aut} (h1 : ∀ (j : Nat) (hj : j < l.length), aloneF (prevOf l j) l[j] = 0) : l.Pairwise fun a b => a.ID < b.ID := by
  have step : ∀ (j : Nat) (hj : j + 1 < l.length), l[j].ID < l[j + 1].ID := fun j hj =>
    (alone_iff.1 (h1 (j + 1) hj)).2.1 l[j] (by unfold prevOf; rw [if_pos (by omega), Nat.add_sub_cancel, List.getElem?_eq_getElem (by omega)])
  rw [List.pairwise_iff_getElem]
  intro i j hi hj hij
  induction j with
  | zero => omega
  | succ j ih =>
    by_cases hc : i = j
    · subst hc; exact step i hj
    · have := ih (by omega) (by omega)
      have := step j hj
      omega
theorem find_in {l : List Aut} (hp : l.Pairwise fun a b => a.ID < b.ID) {c : Aut} (hc : c ∈ l) : findA l c.ID = some c := by
  unfold findA
  induction l with
  | nil => cases hc
  | cons x r ih =>
    rw [List.pairwise_cons] at hp
    rcases List.mem_cons.1 hc with rfl | hc
    · rw [List.find?_cons_of_pos (by simp)]
    · have := hp.1 c hc
      rw [List.find?_cons_of_neg (by simp; omega)]
      exact ih hp.2 hc
/-- A part of a right list in which all successors lie is right. -/
theorem part_right {l p : List Aut} (h : (checkF l).2 = 0) (hs : p.Sublist l) (hn : ∀ a ∈ p, ∀ id ∈ a.Next, (p.any fun x => x.ID == id) = true) : checkF p = (-1, 0) := by
  obtain ⟨h64, ha, hx⟩ := check_good h
  have up := ids_up ha
  have upp := up.sublist hs
  have hal : ∀ a ∈ l, idKind a = true ∧ tailF a = 0 := fun a hm => by
    obtain ⟨j, hj, rfl⟩ := List.getElem_of_mem hm
    have := alone_iff.1 (ha j hj)
    exact ⟨this.1, this.2.2⟩
  refine check_of (Nat.le_trans hs.length_le h64) (fun j hj => ?_) (fun a hm => ?_)
  · have hm := hal _ (hs.subset (List.getElem_mem hj))
    refine alone_iff.2 ⟨hm.1, fun b hb => ?_, hm.2⟩
    unfold prevOf at hb
    by_cases h0 : 0 < j
    · rw [if_pos h0, List.getElem?_eq_getElem (by omega)] at hb
      obtain rfl := Option.some.inj hb
      exact List.pairwise_iff_getElem.1 upp (j - 1) j (by omega) hj (by omega)
    · rw [if_neg h0] at hb; cases hb
  · obtain ⟨k, hk, hka⟩ := List.getElem_of_mem (hs.subset hm)
    have hna := next_iff.1 (hx k hk)
    rw [hka] at hna
    refine next_iff.2 fun id hid => ?_
    obtain ⟨g1, g2, g3⟩ := hna id hid
    obtain ⟨c, hc, hcid⟩ := List.any_eq_true.1 (hn a hm id hid)
    have hcid : c.ID = id := by simpa using hcid
    have e1 : findA p id = some c := by rw [← hcid]; exact find_in upp hc
    have e2 : findA l id = some c := by rw [← hcid]; exact find_in up (hs.subset hc)
    have f1 : found p id = found l id := by unfold found; rw [e1, e2]
    exact ⟨by unfold gone; rw [e1]; rfl, by rw [f1]; exact g2, by rw [f1]; exact g3⟩
end Go.Proofs.YtgpojnenbmlcbaaDoor
namespace Go.Proofs.YtgpojnenbmlcbaaDoor.authorityLists
open Go Go.Abs
theorem ending {l p : List Aut} (hl : okAuts l) (h12 : l.length ≤ 12) (hr : ∀ a ∈ l, roomA a) (h : (checkF l).2 = 0) (hs : p.Sublist l) (hn : ∀ a ∈ p, ∀ id ∈ a.Next, (p.any fun x => x.ID == id) = true) :
    (Option.bind (rCopyB_S p) fun y43 => Option.bind (pCheck_S y43) fun y45 => bif (y45.2 == 0) then some ((y45.1 == (-1))) else some (false)) = some true := by
  have hlen := hs.length_le
  have hok : okAuts p := ⟨by omega, fun a ha => hl.2 a (hs.subset ha)⟩
  rw [rCopyB_eq (by omega) (fun a ha => hr a (hs.subset ha)), Option.bind_some, pCheck_any hok, part_right h hs hn]
  rfl
theorem loop4 {p : List Aut} (hp : p.length ≤ 12) {v : Int} {a : Aut} (ha : a.Next.length ≤ 16) {k : Int → Option Bool} (hk : (∀ id ∈ a.Next, (p.any fun x => x.ID == id) = true) → k (IntKind.i64.wrap (v + 1)) = some true) :
    ∀ (n j fu : Nat), a.Next.length - j = n → j ≤ a.Next.length → n < fu → (∀ id ∈ a.Next.take j, (p.any fun x => x.ID == id) = true) → lAuthorityLists_L4 p v a k fu (j : Int) = some true
  | n, j, 0, _, _, h, _ => by omega
  | 0, j, fu + 1, h, hj, _, hid => by
    have : j = a.Next.length := by omega
    subst this
    rw [List.take_length] at hid
    have h0 : decide ((a.Next.length : Int) < (a.Next.length : Int)) = false := decide_eq_false (by omega)
    simp only [lAuthorityLists_L4, List.length_map, h0, cond_false]
    exact hk hid
  | n + 1, j, fu + 1, h, _, hf, hid => by
    have hj : j < a.Next.length := by omega
    have h0 : decide ((j : Int) < (a.Next.length : Int)) = true := decide_eq_true (by omega)
    have hw : IntKind.i64.wrap ((j : Int) + 1) = ((j + 1 : Nat) : Int) := wrap_succ (n := a.Next.length) (by omega) hj
    simp only [lAuthorityLists_L4, List.length_map, h0, cond_true, ix_at hj, Option.bind_some, has_eq (show p.length ≤ 9223372036854775807 by omega), hw]
    cases hany : p.any (fun x => x.ID == a.Next[j]) with
    | false => rfl
    | true =>
      rw [Bool.not_true, cond_false]
      refine loop4 hp ha hk n (j + 1) fu (by omega) (by omega) (by omega) fun id hm => ?_
      rw [List.take_succ_eq_append_getElem hj] at hm
      rcases List.mem_append.1 hm with hm | hm
      · exact hid id hm
      · rw [List.mem_singleton.1 hm]; exact hany
theorem loop3 {l p : List Aut} (hl : okAuts l) (h12 : l.length ≤ 12) (hr : ∀ a ∈ l, roomA a) (h : (checkF l).2 = 0) (hs : p.Sublist l) :
    ∀ (n i fu : Nat), p.length - i = n → i ≤ p.length → n < fu → (∀ a ∈ p.take i, ∀ id ∈ a.Next, (p.any fun x => x.ID == id) = true) → lAuthorityLists_L3 p 100 fu (i : Int) = some true
  | n, i, 0, _, _, h, _ => by omega
  | 0, i, fu + 1, hn, hi, _, hid => by
    have : i = p.length := by omega
    subst this
    rw [List.take_length] at hid
    have h0 : decide ((p.length : Int) < (p.length : Int)) = false := decide_eq_false (by omega)
    simp only [lAuthorityLists_L3, List.length_map, h0, cond_false]
    exact ending hl h12 hr h hs hid
  | n + 1, i, fu + 1, hn, _, hf, hid => by
    have hi : i < p.length := by omega
    have hlen := hs.length_le
    have h0 : decide ((i : Int) < (p.length : Int)) = true := decide_eq_true (by omega)
    have hw : IntKind.i64.wrap ((i : Int) + 1) = ((i + 1 : Nat) : Int) := wrap_succ (n := p.length) (by omega) hi
    have hnx : p[i].Next.length ≤ 16 := by
      obtain ⟨k, hk, hke⟩ := List.getElem_of_mem (hs.subset (List.getElem_mem hi))
      have := (tail_next (alone_iff.1 ((check_good h).2.1 k hk)).2.2).1
      rwa [hke] at this
    simp only [lAuthorityLists_L3, List.length_map, h0, cond_true, ix_at hi, Option.bind_some]
    refine loop4 (by omega) hnx (fun hall => ?_) p[i].Next.length 0 100 (by omega) (by omega) (by omega) (by simp)
    rw [hw]
    refine loop3 hl h12 hr h hs n (i + 1) fu (by omega) (by omega) (by omega) fun a ha => ?_
    rw [List.take_succ_eq_append_getElem hi] at ha
    rcases List.mem_append.1 ha with ha | ha
    · exact hid a ha
    · rw [List.mem_singleton.1 ha]; exact hall
/-- Where the names stand. -/
def lastOf (a : Aut) (j : Nat) : Int := if 0 < j then (match a.Names[j - 1]? with | some x => x.In.Until | none => 0) else a.In.From
theorem loop2 {bits : Int} {i : Nat} {p : List Aut} (hp : p.length ≤ 12) {a : Aut} (hg : namesF a = 0) {k : Int → List Aut → Option Bool} (hk : ∀ q : List Aut, (q = p ∨ q = p ++ [a]) → k (IntKind.i64.wrap ((i : Int) + 1)) q = some true) :
    ∀ (n j fu : Nat), a.Names.length - j = n → j ≤ a.Names.length → n < fu → lAuthorityLists_L2 bits (i : Int) p a k fu (lastOf a j) (j : Int) = some true
  | n, j, 0, _, _, h => by omega
  | 0, j, fu + 1, h, hj, _ => by
    have : j = a.Names.length := by omega
    subst this
    have h0 : decide ((a.Names.length : Int) < (a.Names.length : Int)) = false := decide_eq_false (by omega)
    simp only [lAuthorityLists_L2, List.length_map, h0, cond_false, decide_eq_true (show (0 : Int) ≤ (i : Int) by omega), cond_true]
    generalize ((IntKind.u16.wrap (((BitVec.ofInt (IntKind.bits .u16) (Int.fdiv bits (2 ^ (min (Int.toNat (i : Int)) (IntKind.bits .u16))))) &&& (BitVec.ofInt (IntKind.bits .u16) 1)).toNat : Int)) == 1) = b
    cases b with
    | false => exact hk p (.inl rfl)
    | true =>
      rw [cond_true, decide_eq_true (show p.length + ([a] : List Aut).length ≤ 4294967296 by simp; omega), cond_true]
      exact hk _ (.inr rfl)
  | n + 1, j, fu + 1, h, _, hf => by
    obtain ⟨g1, g2, ⟨g3, g4⟩, g5⟩ := names_good hg
    have hj : j < a.Names.length := by omega
    have h0 : decide ((j : Int) < (a.Names.length : Int)) = true := decide_eq_true (by omega)
    have hw : IntKind.i64.wrap ((j : Int) + 1) = ((j + 1 : Nat) : Int) := wrap_succ (n := a.Names.length) (by omega) hj
    obtain ⟨q1, q2, q3, q4⟩ := g5 _ (List.getElem_mem hj)
    have e1 : ¬ a.Names[j].In.From < lastOf a j := by
      unfold lastOf
      by_cases hz : 0 < j
      · rw [if_pos hz, List.getElem?_eq_getElem (by omega)]
        have := g4 (j - 1) j hj (by omega)
        simp only; omega
      · rw [if_neg hz]; omega
    have e2 : lastOf a (j + 1) = a.Names[j].In.Until := by
      unfold lastOf
      rw [if_pos (by omega), Nat.add_sub_cancel, List.getElem?_eq_getElem hj]
    simp only [lAuthorityLists_L2, List.length_map, h0, cond_true, ix_at hj, Option.bind_some, decide_eq_false e1, cond_false, decide_eq_false (show ¬ a.Names[j].In.Until > a.In.Until by omega), trim_name q1, beq_self_eq_true, Bool.not_true, hw]
    rw [← e2]
    exact loop2 hp hg hk n (j + 1) fu (by omega) (by omega) (by omega)
theorem loop1 {l : List Aut} {bits : Int} (hl : okAuts l) (h12 : l.length ≤ 12) (hr : ∀ a ∈ l, roomA a) (h : (checkF l).2 = 0) :
    ∀ (n i fu : Nat) (p : List Aut), l.length - i = n → i ≤ l.length → n < fu → p.Sublist (l.take i) → lAuthorityLists_L1 l bits 100 fu (i : Int) p = some true
  | n, i, 0, _, _, _, h, _ => by omega
  | 0, i, fu + 1, p, hn, hi, _, hs => by
    have : i = l.length := by omega
    subst this
    rw [List.take_length] at hs
    have h0 : decide ((l.length : Int) < (l.length : Int)) = false := decide_eq_false (by omega)
    simp only [lAuthorityLists_L1, List.length_map, h0, cond_false]
    have := hs.length_le
    exact loop3 hl h12 hr h hs p.length 0 100 (by omega) (by omega) (by omega) (by simp)
  | n + 1, i, fu + 1, p, hn, _, hf, hs => by
    have hi : i < l.length := by omega
    have h0 : decide ((i : Int) < (l.length : Int)) = true := decide_eq_true (by omega)
    have hw : IntKind.i64.wrap ((i : Int) + 1) = ((i + 1 : Nat) : Int) := wrap_succ (n := l.length) (by omega) hi
    have hg : namesF l[i] = 0 := right_names h (List.getElem_mem hi)
    have hpl : p.length ≤ 12 := by have := hs.length_le; simp at this; omega
    simp only [lAuthorityLists_L1, List.length_map, h0, cond_true, ix_at hi, Option.bind_some]
    have hl0 : lastOf l[i] 0 = l[i].In.From := rfl
    rw [← hl0]
    have g1 := (names_good hg).1
    refine loop2 hpl hg (fun q hq => ?_) l[i].Names.length 0 100 (by omega) (by omega) (by omega)
    rw [hw]
    refine loop1 hl h12 hr h n (i + 1) fu q (by omega) (by omega) (by omega) ?_
    rw [List.take_succ_eq_append_getElem hi]
    rcases hq with rfl | rfl
    · exact hs.trans (List.sublist_append_left _ _)
    · exact hs.append (List.Sublist.refl _)
def okU16 (n : Int) : Prop := 0 ≤ n ∧ n ≤ 65535
theorem law (l : List Aut) (bits : Int) (hl : okAuts l ∧ ∀ a ∈ l, roomA a) (_ : okU16 bits) : lAuthorityLists_S l bits = some true := by
  obtain ⟨hl, hr⟩ := hl
  simp only [lAuthorityLists_S, lAuthorityLists_F, awake_true, Option.bind_some, Bool.not_true, cond_false, List.length_map]
  by_cases h12 : l.length ≤ 12
  · rw [decide_eq_false (show ¬ (l.length : Int) > 12 by omega), cond_false, rCopyB_eq (by omega) hr, Option.bind_some, pCheck_any hl, Option.bind_some]
    cases hc : (checkF l).2 != 0 with
    | true => rfl
    | false =>
      rw [cond_false]
      exact loop1 hl h12 hr (by simpa using hc) l.length 0 100 [] (by omega) (by omega) (by omega) (List.nil_sublist _)
  · rw [decide_eq_true (show (l.length : Int) > 12 by omega), cond_true]
end Go.Proofs.YtgpojnenbmlcbaaDoor.authorityLists
