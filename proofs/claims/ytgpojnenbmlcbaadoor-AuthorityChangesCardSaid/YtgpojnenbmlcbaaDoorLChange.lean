/- Rename and End as plain functions; a right list with one authority changed is right. -/
import Derived.Test.YtgpojnenbmlcbaaDoorLOne2
namespace Go.Proofs.YtgpojnenbmlcbaaDoor
open Go Go.Abs

theorem scanP_none {α β : Type} (b : Nat → α → Option β) (done : β) : ∀ (l : List α) (i : Nat), (∀ (j : Nat) (hj : j < l.length), b (i + j) l[j] = none) → scanP b done i l = done
  | [], _, _ => rfl
  | x :: r, i, h => by
    have h0 : b i x = none := h 0 (by simp)
    simp only [scanP, h0]
    exact scanP_none b done r (i + 1) fun j hj => by
      have := h (j + 1) (by simpa using hj)
      rw [show i + 1 + j = i + (j + 1) by omega]
      exact this
theorem sorted_iff {n : List Nam} : Sorted n ↔ (∀ x ∈ n, x.In.From < x.In.Until) ∧ n.Pairwise fun x y => x.In.Until ≤ y.In.From := by
  unfold Sorted
  rw [List.pairwise_iff_getElem]
  exact ⟨fun h => ⟨h.1, fun i j _ hj hij => h.2 i j hj hij⟩, fun h => ⟨h.1, fun i j hj hij => h.2 i j (by omega) hj hij⟩⟩
theorem names_of {a : Aut} (h1 : 0 < a.Names.length) (h2 : a.Names.length ≤ 16) (hs : Sorted a.Names) (hx : ∀ x ∈ a.Names, nameOk x.Text = true ∧ spanOk x.In = true ∧ a.In.From ≤ x.In.From ∧ x.In.Until ≤ a.In.Until) : namesF a = 0 := by
  unfold namesF
  have e1 : decide (a.Names.length = 0) = false := decide_eq_false (by omega)
  have e2 : decide (a.Names.length > 16) = false := decide_eq_false (by omega)
  rw [e1, e2]
  simp only [cond_false]
  refine scanP_none _ _ _ _ fun j hj => ?_
  rw [Nat.zero_add]
  obtain ⟨q1, q2, q3, q4⟩ := hx _ (List.getElem_mem hj)
  unfold nameB
  have e3 : decide (a.Names[j].In.From < a.In.From) = false := decide_eq_false (by omega)
  have e4 : decide (a.Names[j].In.Until > a.In.Until) = false := decide_eq_false (by omega)
  rw [q1, q2, e3, e4]
  simp only [Bool.not_true, cond_false]
  by_cases h0 : 0 < j
  · have hj' : j - 1 < a.Names.length := by omega
    rw [decide_eq_true h0, List.getElem?_eq_getElem hj']
    have := hs.2 (j - 1) j hj (by omega)
    have e5 : decide (a.Names[j].In.From < a.Names[j - 1].In.Until) = false := decide_eq_false (by omega)
    simp only [e5, cond_false]
  · rw [decide_eq_false h0]
theorem alone_good {p : Option Aut} {a : Aut} (h : aloneF p a = 0) : idKind a = true ∧ (∀ b, p = some b → b.ID < a.ID) ∧ namesF a = 0 ∧ a.Next.length ≤ 16 ∧ nextOrd a = 0 := by
  have hn := alone_names h
  have ht : tailF a = 0 → a.Next.length ≤ 16 ∧ nextOrd a = 0 := fun h => by
    unfold tailF at h
    rw [hn] at h
    simp only [bne_self_eq_false, cond_false] at h
    by_cases h2 : a.Next.length > 16
    · rw [decide_eq_true h2] at h; simp at h
    · rw [decide_eq_false h2] at h; exact ⟨by omega, h⟩
  cases hk : idKind a with
  | false => unfold aloneF at h; rw [hk] at h; simp at h
  | true =>
    refine ⟨rfl, fun b hb => ?_, hn, ?_⟩
    · subst hb; exact alone_prev h
    · unfold aloneF at h
      rw [hk] at h
      simp only [cond_true] at h
      split at h
      · rename_i b
        cases hd : decide (a.ID ≤ b.ID) with
        | true => rw [hd] at h; simp at h
        | false => rw [hd] at h; exact ht h
      · exact ht h
theorem alone_of {p : Option Aut} {a : Aut} (h1 : idKind a = true) (h2 : ∀ b, p = some b → b.ID < a.ID) (h3 : namesF a = 0) (h4 : a.Next.length ≤ 16) (h5 : nextOrd a = 0) : aloneF p a = 0 := by
  have ht : tailF a = 0 := by
    unfold tailF
    rw [h3, decide_eq_false (show ¬ a.Next.length > 16 by omega)]
    simpa using h5
  unfold aloneF
  rw [h1]
  cases p with
  | none => exact ht
  | some b =>
    have := h2 b rfl
    simp only [decide_eq_false (show ¬ a.ID ≤ b.ID by omega), cond_true, cond_false]
    exact ht
theorem next_good {l : List Aut} {a : Aut} : nextF l a = 0 ↔ ∀ id ∈ a.Next, gone l id = false ∧ (found l id).Kind = a.Kind ∧ (found l id).In.From = a.In.Until := by
  unfold nextF
  constructor
  · intro h
    cases h1 : a.Next.any (gone l) with
    | true => rw [h1] at h; simp at h
    | false => cases h2 : a.Next.any (fun id => (found l id).Kind != a.Kind) with
      | true => rw [h1, h2] at h; simp at h
      | false => cases h3 : a.Next.any (fun id => (found l id).In.From != a.In.Until) with
        | true => rw [h1, h2, h3] at h; simp at h
        | false =>
          rw [List.any_eq_false] at h1 h2 h3
          intro id hid
          exact ⟨by simpa using h1 id hid, by simpa using h2 id hid, by simpa using h3 id hid⟩
  · intro h
    have h1 : a.Next.any (gone l) = false := List.any_eq_false.2 fun id hid => by simp [(h id hid).1]
    have h2 : a.Next.any (fun id => (found l id).Kind != a.Kind) = false := List.any_eq_false.2 fun id hid => by simp [(h id hid).2.1]
    have h3 : a.Next.any (fun id => (found l id).In.From != a.In.Until) = false := List.any_eq_false.2 fun id hid => by simp [(h id hid).2.2]
    rw [h1, h2, h3]; rfl
theorem check_of {l : List Aut} (h1 : l.length ≤ 64) (h2 : ∀ (j : Nat) (hj : j < l.length), aloneF (prevOf l j) l[j] = 0) (h3 : ∀ (j : Nat) (hj : j < l.length), nextF l l[j] = 0) : checkF l = (-1, 0) := by
  unfold checkF
  rw [decide_eq_false (show ¬ l.length > 64 by omega), cond_false, scanP_none _ _ l 0 (fun j hj => by
    simp only [faultB, Nat.zero_add, h2 j hj]; rfl), scanP_none _ _ l 0 (fun j hj => by simp only [faultB, h3 j hj]; rfl)]
theorem check_two {l : List Aut} (h : (checkF l).2 = 0) : checkF l = (-1, 0) := by
  obtain ⟨h1, h2, h3⟩ := check_good h
  exact check_of h1 h2 h3
theorem findA_set {a' : Aut} (x : Int) : ∀ {l : List Aut} (_ : l.Pairwise fun a b => a.ID < b.ID) {k : Nat} (hk : k < l.length) (_ : a'.ID = l[k].ID), findA (l.set k a') x = if x = l[k].ID then some a' else findA l x
  | [], _, k, hk, _ => by simp at hk
  | b :: r, _, 0, _, hid => by
    have hid' : a'.ID = b.ID := hid
    show (a' :: r).find? _ = if x = b.ID then some a' else (b :: r).find? _
    by_cases hx : x = b.ID
    · rw [if_pos hx, List.find?_cons_of_pos (by simp [hid', hx])]
    · have e1 : ¬ ((b.ID == x) = true) := by simp; omega
      have e2 : ¬ ((a'.ID == x) = true) := by rw [hid']; exact e1
      rw [if_neg hx, List.find?_cons_of_neg (p := fun a : Aut => a.ID == x) e1, List.find?_cons_of_neg (p := fun a : Aut => a.ID == x) e2]
  | b :: r, hp, k + 1, hk, hid => by
    have hk' : k < r.length := by simpa using hk
    have hp' := List.pairwise_cons.1 hp
    have ih := findA_set x hp'.2 hk' hid
    show (b :: r.set k a').find? _ = if x = r[k].ID then some a' else (b :: r).find? _
    have hb := hp'.1 _ (List.getElem_mem hk')
    unfold findA at ih
    by_cases hx : b.ID = x
    · rw [List.find?_cons_of_pos (by simp [hx]), List.find?_cons_of_pos (by simp [hx]), if_neg (by omega)]
    · rw [List.find?_cons_of_neg (by simpa using hx), List.find?_cons_of_neg (by simpa using hx)]
      exact ih
theorem set_at {α : Type} {l : List α} {k : Nat} {y : α} {j : Nat} (hj : j < (l.set k y).length) : (l.set k y)[j] = if k = j then y else l[j]'(by simpa using hj) := by
  rw [List.getElem_set]
theorem check_set {l : List Aut} (hr : (checkF l).2 = 0) {k : Nat} (hk : k < l.length) {a' : Aut} (hid : a'.ID = l[k].ID) (hkind : a'.Kind = l[k].Kind) (hfrom : a'.In.From = l[k].In.From)
    (hsp : spanOk a'.In = true) (hn : namesF a' = 0) (hnext : a'.Next = l[k].Next) (hu : a'.Next = [] ∨ a'.In.Until = l[k].In.Until) : checkF (l.set k a') = (-1, 0) := by
  obtain ⟨h1, h2, h3⟩ := check_good hr
  have hs := right_sorted hr
  have hlen : (l.set k a').length = l.length := List.length_set
  have hidj : ∀ (j : Nat) (hj : j < (l.set k a').length), (l.set k a')[j].ID = (l[j]'(by omega)).ID := fun j hj => by
    rw [set_at]
    by_cases hkj : k = j
    · subst hkj; rw [if_pos rfl, hid]
    · rw [if_neg hkj]
  have hfind : ∀ x, gone (l.set k a') x = gone l x ∧ (found (l.set k a') x).Kind = (found l x).Kind ∧ (found (l.set k a') x).In.From = (found l x).In.From := fun x => by
    unfold gone found
    rw [findA_set x hs hk hid]
    by_cases hx : x = l[k].ID
    · rw [if_pos hx]
      have : findA l x = some l[k] := by
        have hq := findA_set (a' := l[k]) x hs hk rfl
        rw [List.set_getElem_self, if_pos hx] at hq
        exact hq
      rw [this]
      exact ⟨rfl, hkind, hfrom⟩
    · rw [if_neg hx]; exact ⟨rfl, rfl, rfl⟩
  refine check_of (by omega) (fun j hj => ?_) (fun j hj => ?_)
  · have hj' : j < l.length := by omega
    obtain ⟨g1, g2, g3, g4, g5⟩ := alone_good (h2 j hj')
    have hprev : ∀ b, prevOf (l.set k a') j = some b → b.ID < l[j].ID := fun b hb => by
      unfold prevOf at hb
      by_cases h0 : 0 < j
      · rw [if_pos h0] at hb
        have hjp : j - 1 < (l.set k a').length := by omega
        rw [List.getElem?_eq_getElem hjp] at hb
        have := g2 (l[j - 1]'(by omega)) (by unfold prevOf; rw [if_pos h0, List.getElem?_eq_getElem])
        rw [← Option.some.inj hb, hidj]
        exact this
      · rw [if_neg h0] at hb; exact nomatch hb
    rw [set_at]
    by_cases hkj : k = j
    · subst hkj
      rw [if_pos rfl]
      refine alone_of ?_ (fun b hb => by rw [hid]; exact hprev b hb) hn (by rw [hnext]; exact g4) ?_
      · unfold idKind at g1 ⊢
        rw [hid, hkind, hsp]
        simp only [Bool.and_eq_true] at g1 ⊢
        exact ⟨g1.1, g1.2.1, trivial⟩
      · unfold nextOrd at g5 ⊢
        rw [hnext]; exact g5
    · rw [if_neg hkj]
      exact alone_of g1 hprev g3 g4 g5
  · have hj' : j < l.length := by omega
    have hg := next_good.1 (h3 j hj')
    rw [next_good, set_at]
    by_cases hkj : k = j
    · subst hkj
      rw [if_pos rfl]
      intro id hi
      rcases hu with hu | hu
      · rw [hu] at hi; exact absurd hi (by simp)
      · rw [hnext] at hi
        obtain ⟨q1, q2, q3⟩ := hg id hi
        obtain ⟨f1, f2, f3⟩ := hfind id
        rw [f1, f2, f3, hkind, hu]; exact ⟨q1, q2, q3⟩
    · rw [if_neg hkj]
      intro id hi
      obtain ⟨q1, q2, q3⟩ := hg id hi
      obtain ⟨f1, f2, f3⟩ := hfind id
      rw [f1, f2, f3]; exact ⟨q1, q2, q3⟩
theorem find_at {l : List Aut} {id : Int} {a : Aut} (hq : findA l id = some a) : ∃ (k : Nat) (hk : k < l.length), l[k] = a ∧ idxOf (fun a => a.ID == id) l = (k : Int) ∧ a.ID = id := by
  have hm : a.ID = id := by have := List.find?_some hq; simpa using this
  unfold findA at hq
  unfold idxOf
  cases hi : l.findIdx? (fun a => a.ID == id) with
  | none =>
    rw [List.findIdx?_eq_none_iff] at hi
    have hn : l.find? (fun a => a.ID == id) = none := List.find?_eq_none.2 fun x hx => by simp [hi x hx]
    rw [hn] at hq; exact nomatch hq
  | some k =>
    obtain ⟨h1, h2, h3⟩ := List.findIdx?_eq_some_iff_getElem.1 hi
    have hs : l.find? (fun a => a.ID == id) = some l[k] := by
      rw [List.find?_eq_some_iff_getElem]
      exact ⟨h2, k, h1, rfl, fun j hj => by simpa using h3 j hj⟩
    rw [hs] at hq
    exact ⟨k, h1, Option.some.inj hq, rfl, hm⟩

def lastN (a : Aut) : Nam := a.Names.getLast?.getD ⟨[], ⟨0, 0⟩⟩
def cutN (z : Nam) (day : Int) : Nam := ⟨z.Text, ⟨z.In.From, if day < z.In.Until then day else z.In.Until⟩⟩
def renamed (a : Aut) (day : Int) (text : Str) : Aut := ⟨a.ID, a.Kind, a.In, a.Names.set (a.Names.length - 1) (cutN (lastN a) day) ++ [⟨text, ⟨day, a.In.Until⟩⟩], a.Next⟩
def ended (a : Aut) (day : Int) : Aut := ⟨a.ID, a.Kind, ⟨a.In.From, day⟩, a.Names.set (a.Names.length - 1) (cutN (lastN a) day), a.Next⟩
def renameF (l : List Aut) (id day : Int) (text : Str) : List Aut × Int :=
  bif asksF l day != 0 then ([], asksF l day) else bif !(nameOk text) then ([], 4) else match findA l id with
    | none => ([], 7)
    | some a => bif !(onSpan a.In day) then ([], 11) else bif decide ((lastN a).In.From ≥ day) then ([], 5) else bif decide (a.Names.length ≥ 16) then ([], 8) else (l.set (idxOf (fun a => a.ID == id) l).toNat (renamed a day text), 0)
def follows (l : List Aut) (id : Int) (a : Aut) : Bool := decide (a.Next.length > 0) || l.any fun b => b.Next.any fun x => id == x
def endF (l : List Aut) (id day : Int) : List Aut × Int :=
  bif asksF l day != 0 then ([], asksF l day) else match findA l id with
    | none => ([], 7)
    | some a => bif day == 0 then ([], 11) else bif !(onSpan a.In (day - 1)) then ([], 11) else bif follows l id a then ([], 20) else bif decide ((lastN a).In.From ≥ day) then ([], 5) else (l.set (idxOf (fun a => a.ID == id) l).toNat (ended a day), 0)
theorem last_ix {a : Aut} (h0 : 0 < a.Names.length) (h : a.Names.length ≤ 17) : IntKind.i64.wrap ((a.Names.length : Int) - 1) = ((a.Names.length - 1 : Nat) : Int) ∧ ix a.Names ((a.Names.length - 1 : Nat) : Int) = some (lastN a) := by
  have e : IntKind.i64.wrap ((a.Names.length : Int) - 1) = ((a.Names.length - 1 : Nat) : Int) := by
    rw [wrap_id (by unfold okI; omega)]; omega
  refine ⟨e, ?_⟩
  have hl : a.Names.length - 1 < a.Names.length := by omega
  rw [ix_at hl]
  unfold lastN
  rw [List.getLast?_eq_getElem?, List.getElem?_eq_getElem hl]; rfl
theorem pcopied_eq {l : List Aut} (hf : few l = true) : pcopied_S l = some l := by
  have hl := few_len hf
  unfold pcopied_S
  have h1 : l.all smallAut = true := List.all_eq_true.2 fun a ha => few_small (few_mem hf ha)
  rw [h1, decide_eq_true (by omega)]; rfl
theorem pRename_eq {l : List Aut} (h : okAuts l) (hf : few l = true) (id day : Int) (text : Str) : pRename_S l id day text = some (renameF l id day text) := by
  simp only [pRename_S, pRename_F, pasks_eq h hf, Option.bind_some, renameF, pname_eq, pindex_eq h.1, pcopied_eq hf]
  cases ha : asksF l day != 0 with
  | true => rfl
  | false =>
    have hr := (asks_right (by simpa using ha)).1
    simp only [cond_false]
    cases nameOk text with
    | false => rfl
    | true =>
      simp only [Bool.not_true, cond_false]
      cases hq : findA l id with
      | none => rw [decide_eq_true (idx_find.1.2 hq)]; rfl
      | some a =>
        obtain ⟨k, hk, rfl, hi, _⟩ := find_at hq
        obtain ⟨g1, g2, _, _⟩ := names_good (right_names hr (List.getElem_mem hk))
        obtain ⟨e1, e2⟩ := last_ix g2 (by omega)
        rw [hi, decide_eq_false (show ¬ (k : Int) < 0 by omega)]
        have e3 : decide ((l[k].Names.length : Int) ≥ 16) = decide (l[k].Names.length ≥ 16) := by rw [decide_eq_decide]; omega
        have e4 : decide ((l[k].Names.set (l[k].Names.length - 1) (cutN (lastN l[k]) day)).length + 1 ≤ 4294967296) = true := decide_eq_true (by simp; omega)
        simp only [cond_false, ix_at hk, Option.bind_some, pin_eq, List.length_map, e1, e2, e3, Int.toNat_natCast, List.length_singleton]
        cases onSpan l[k].In day with
        | false => rfl
        | true => cases decide ((lastN l[k]).In.From ≥ day) with
          | true => rfl
          | false => cases decide (l[k].Names.length ≥ 16) with
            | true => rfl
            | false =>
              simp only [Bool.not_true, cond_false]
              unfold cutN at e4
              rw [e4]; rfl
theorem pEnd1_eq {a : Aut} (h : a.Next.length ≤ 9223372036854775807) (id : Int) : pEnd_1_S a id = some (a.Next.any fun x => id == x) := by
  simp only [pEnd_1_S, pEnd_1_F, slContains_eq h, Option.bind_some]
theorem slContainsFuncA_eq {l : List Aut} {f : Aut → Option Bool} {p : Aut → Bool} (h : l.length ≤ 9223372036854775807) (hf : ∀ x ∈ l, f x = some (p x)) : slContainsFuncA_S l f = some (l.any p) := by
  simp only [slContainsFuncA_S, slContainsFuncA_F, slIndexFuncA_eq h hf, Option.bind_some, idxOf_nn]
theorem pEnd_eq {l : List Aut} (h : okAuts l) (hf : few l = true) (id : Int) {day : Int} (_ : okI day) : pEnd_S l id day = some (endF l id day) := by
  have hcf := slContainsFuncA_eq (f := fun z0 => pEnd_1_S z0 id) (p := fun b => b.Next.any fun x => id == x) h.1 (fun x hx => pEnd1_eq (h.2 x hx).2.2.2.2.1 id)
  simp only [pEnd_S, pEnd_F, pasks_eq h hf, Option.bind_some, endF, pindex_eq h.1, pcopied_eq hf, hcf]
  cases ha : asksF l day != 0 with
  | true => rfl
  | false =>
    obtain ⟨hr, hd0, hd1⟩ := asks_right (l := l) (day := day) (by simpa using ha)
    simp only [cond_false]
    cases hq : findA l id with
    | none => rw [decide_eq_true (idx_find.1.2 hq)]; rfl
    | some a =>
      obtain ⟨k, hk, rfl, hi, _⟩ := find_at hq
      obtain ⟨g1, g2, _, _⟩ := names_good (right_names hr (List.getElem_mem hk))
      obtain ⟨e1, e2⟩ := last_ix g2 (by omega)
      have e3 : decide ((l[k].Next.length : Int) > 0) = decide (l[k].Next.length > 0) := by rw [decide_eq_decide]; omega
      have e4 : IntKind.i64.wrap (day - 1) = day - 1 := wrap_id (by unfold okI; omega)
      rw [hi, decide_eq_false (show ¬ (k : Int) < 0 by omega)]
      simp only [cond_false, ix_at hk, Option.bind_some, pin_eq, List.length_map, e1, e2, e3, e4, Int.toNat_natCast]
      cases day == 0 with
      | true => rfl
      | false => cases onSpan l[k].In (day - 1) with
        | false => rfl
        | true =>
          unfold follows
          cases decide (l[k].Next.length > 0) with
          | true => rfl
          | false => cases l.any (fun b => b.Next.any fun x => id == x) with
            | true => rfl
            | false => cases decide ((lastN l[k]).In.From ≥ day) <;> rfl
end Go.Proofs.YtgpojnenbmlcbaaDoor
