/- Duties, and what can be reached. -/
import Derived.Test.YtmcolhhmlpicaaaDoorLChn
namespace Go.Proofs.YtmcolhhmlpicaaaDoor
open Go Go.Abs

/- duties -/
def dutyB (l : List Off) (id day : Int) (x : Off) : Bool := (heirF l x.ID day).2 && ((heirF l x.ID day).1 == id)
theorem duties_loop {l : List Off} (hl : l.length ≤ 32) (id day : Int) (L : Nat → List Int → Int → Option (List Int))
    (hL : ∀ fu out (i : Nat) (hi : i < l.length), out.length ≤ 100 → L (fu + 1) out (i : Int) = L fu (out ++ (bif dutyB l id day l[i] then [l[i].ID] else [])) ((i + 1 : Nat) : Int)) (he : ∀ fu out, L (fu + 1) out (l.length : Int) = some out) :
    ∀ (n i fu : Nat) (out : List Int), l.length - i = n → i ≤ l.length → n < fu → out.length ≤ i → L fu out (i : Int) = some (out ++ ((l.drop i).filter (dutyB l id day)).map Off.ID)
  | n, i, 0, _, _, _, h, _ => by omega
  | 0, i, fu + 1, out, hn, hi, _, _ => by
    have : i = l.length := by omega
    subst this
    rw [he]; simp
  | n + 1, i, fu + 1, out, hn, _, hf, ho => by
    have hi : i < l.length := by omega
    rw [hL fu out i hi (by omega), duties_loop hl id day L hL he n (i + 1) fu _ (by omega) (by omega) (by omega) (by cases dutyB l id day l[i] <;> simp <;> omega), List.drop_eq_getElem_cons hi, List.filter_cons]
    cases dutyB l id day l[i] <;> simp
def dutiesF (l : List Off) (id day : Int) : List Int := bif isGood l && (findO l id).isSome then (l.filter (dutyB l id day)).map Off.ID else []
theorem pDuties_eq {l : List Off} (h : okOffs l) (id day : Int) : pDuties_S l id day = some (dutiesF l id day) := by
  simp only [pDuties_S, pDuties_F, pknown_eq h, Option.bind_some, dutiesF]
  cases hg : isGood l with
  | false => simp
  | true =>
    have hG := isGood_iff hg
    cases hf : (findO l id).isSome with
    | false => simp
    | true =>
      simp only [Bool.and_self, cond_true, Bool.not_true, cond_false]
      have := duties_loop hG.len id day (pDuties_L1 l id day) (fun fu out i hi ho => by
          have h0 : decide ((i : Int) < (l.length : Int)) = true := decide_eq_true (by omega)
          have e0 : decide (out.length + ([l[i].ID] : List Int).length ≤ 4294967296) = true := decide_eq_true (by simp; omega)
          simp only [pDuties_L1, List.length_map, ix_at hi, Option.bind_some, h0, cond_true, wrap_succ h.1 hi, pHeir_eq h, e0, dutyB]
          cases (heirF l l[i].ID day).2 <;> cases (heirF l l[i].ID day).1 == id <;> simp)
        (fun fu out => by
          have h0 : decide ((l.length : Int) < (l.length : Int)) = false := decide_eq_false (by omega)
          simp only [pDuties_L1, List.length_map, h0, cond_false]) l.length 0 (l.length + 1) [] (by omega) (by omega) (by omega) (by simp)
      simpa using this
theorem rDuties_eq {l : List Off} (h : okOffs l) (id day : Int) : rDuties_S l id day = some (dutiesF l id day) := by
  simp only [rDuties_S, rDuties_F, rGood_eq h, rFind_eq h.1, Option.bind_some, dutiesF]
  cases hg : isGood l with
  | false => simp
  | true =>
    have hG := isGood_iff hg
    cases hf : findO l id with
    | none => have := (at_find (l := l)).1.2 hf; simp [this]
    | some o =>
      have := ((at_find (l := l)).2 o hf).2.1
      have e : decide (at_ l id < 0) = false := decide_eq_false (by omega)
      simp only [Option.isSome_some, Bool.and_self, cond_true, Bool.not_true, cond_false, e]
      have := duties_loop hG.len id day (rDuties_L1 l id day) (fun fu out i hi ho => by
          have h0 : decide ((i : Int) < (l.length : Int)) = true := decide_eq_true (by omega)
          have e0 : decide (out.length + ([l[i].ID] : List Int).length ≤ 4294967296) = true := decide_eq_true (by simp; omega)
          simp only [rDuties_L1, List.length_map, ix_at hi, Option.bind_some, h0, cond_true, wrap_succ h.1 hi, rHeir_eq h, e0, dutyB]
          cases (heirF l l[i].ID day).2 <;> cases (heirF l l[i].ID day).1 == id <;> simp)
        (fun fu out => by
          have h0 : decide ((l.length : Int) < (l.length : Int)) = false := decide_eq_false (by omega)
          simp only [rDuties_L1, List.length_map, h0, cond_false]) l.length 0 (l.length + 1) [] (by omega) (by omega) (by omega) (by simp)
      simpa using this

/- reach -/
inductive Rch (l : List Off) (a : Int) : Int → Prop
  | refl : Rch l a a
  | step {b c : Int} (h : Rch l a b) (hc : c ∈ (found l b).Next) : Rch l a c
theorem Rch.head {l : List Off} {a b c : Int} (hb : b ∈ (found l a).Next) (h : Rch l b c) : Rch l a c := by
  induction h with
  | refl => exact .step .refl hb
  | step _ hc ih => exact .step ih hc
structure VSpec (l : List Off) (starts out out' : List Int) : Prop where
  nd : out'.Nodup
  ok : ∀ x ∈ out', (findO l x).isSome = true
  sub : ∀ x ∈ out, x ∈ out'
  has : ∀ s ∈ starts, s ∈ out'
  rch : ∀ x ∈ out', x ∈ out ∨ ∃ s ∈ starts, Rch l s x
  cl : ∀ x ∈ out', x ∉ out → ∀ y ∈ (found l x).Next, y ∈ out'
theorem VSpec.nil {l : List Off} {out : List Int} (h1 : out.Nodup) (h2 : ∀ x ∈ out, (findO l x).isSome = true) : VSpec l [] out out :=
  ⟨h1, h2, fun _ h => h, fun _ h => by simp at h, fun _ h => .inl h, fun x h1 h2 => absurd h1 h2⟩
theorem VSpec.trans {l : List Off} {n : Int} {ns a b c : List Int} (h1 : VSpec l [n] a b) (h2 : VSpec l ns b c) : VSpec l (n :: ns) a c where
  nd := h2.nd
  ok := h2.ok
  sub x hx := h2.sub x (h1.sub x hx)
  has s hs := by
    rcases List.mem_cons.1 hs with rfl | hs
    · exact h2.sub _ (h1.has _ (by simp))
    · exact h2.has s hs
  rch x hx := by
    rcases h2.rch x hx with h | ⟨s, hs, h⟩
    · rcases h1.rch x h with h | ⟨s, hs, h⟩
      · exact .inl h
      · exact .inr ⟨s, by simp at hs; simp [hs], h⟩
    · exact .inr ⟨s, List.mem_cons_of_mem _ hs, h⟩
  cl x hx hn y hy := by
    by_cases hb : x ∈ b
    · exact h2.sub y (h1.cl x hb hn y hy)
    · exact h2.cl x hx hb y hy
theorem ids_nodup {l : List Off} (h : Good l) : (l.map Off.ID).Nodup := by
  rw [List.nodup_iff_pairwise_ne, List.pairwise_map]
  exact h.inc.imp fun h e => by omega
theorem isSome_id {l : List Off} {x : Int} (h : (findO l x).isSome = true) : x ∈ l.map Off.ID := by
  obtain ⟨o, ho⟩ := Option.isSome_iff_exists.1 h
  have := find_mem ho
  exact List.mem_map.2 ⟨o, this.1, this.2⟩
theorem out_len {l : List Off} {out : List Int} (h1 : out.Nodup) (h2 : ∀ x ∈ out, (findO l x).isSome = true) : out.length ≤ l.length := by
  have := h1.length_le_of_subset (l₂ := l.map Off.ID) fun x hx => isSome_id (h2 x hx)
  simpa using this
theorem found_next {l : List Off} (h : Good l) {x : Int} (hx : (findO l x).isSome = true) : (found l x).Next.length ≤ 8 ∧ ∀ y ∈ (found l x).Next, (findO l y).isSome = true := by
  obtain ⟨o, ho⟩ := Option.isSome_iff_exists.1 hx
  have hf : found l x = o := by simp [found, ho]
  have := find_mem ho
  rw [hf]
  refine ⟨h.few o this.1, fun y hy => ?_⟩
  obtain ⟨z, hz, _⟩ := (h.next o this.1).2 y hy
  rw [hz]; rfl
theorem visit_spec {l : List Off} (h : Good l) : ∀ (N : Nat) (id : Int) (out : List Int), (findO l id).isSome = true → out.Nodup → (∀ x ∈ out, (findO l x).isSome = true) → l.length + 12 ≤ N + out.length →
    ∃ out', pReach_1_F N id out (imap l) = some out' ∧ VSpec l [id] out out'
  | 0, id, out, hid, h1, h2, hN => by have := out_len h1 h2; omega
  | N + 1, id, out, hid, h1, h2, hN => by
    have hl : l.length ≤ 9223372036854775807 := by have := h.len; omega
    have hol := out_len h1 h2
    have hlen := h.len
    have hc := slContains_eq (l := out) (by omega) id
    simp only [pReach_1_F, hc, Option.bind_some]
    cases hany : out.any (fun x => id == x) with
    | true =>
      have hm : id ∈ out := by
        obtain ⟨x, hx, he⟩ := List.any_eq_true.1 hany
        have : id = x := by simpa using he
        rw [this]; exact hx
      refine ⟨out, rfl, h1, h2, fun _ h => h, fun s hs => by simp at hs; rw [hs]; exact hm, fun _ h => .inl h, fun x h1 h2 => absurd h1 h2⟩
    | false =>
      have hm : id ∉ out := fun hm => by
        rw [List.any_eq_false] at hany
        exact hany id hm (by simp)
      have e0 : decide (out.length + ([id] : List Int).length ≤ 4294967296) = true := decide_eq_true (by simp; omega)
      simp only [cond_false, e0, cond_true, mlk_eq hl, Option.bind_some]
      have h1' : (out ++ [id]).Nodup := List.nodup_append.2 ⟨h1, by simp, fun a ha b hb e => by simp at hb; rw [← hb, ← e] at hm; exact hm ha⟩
      have h2' : ∀ x ∈ out ++ [id], (findO l x).isSome = true := fun x hx => by
        rcases List.mem_append.1 hx with hx | hx
        · exact h2 x hx
        · simp at hx; rw [hx]; exact hid
      have hol' := out_len h1' h2'
      simp at hol'
      obtain ⟨f1, f2⟩ := found_next h hid
      -- the loop over the successors
      have key : ∀ (n i fu : Nat) (o : List Int), (found l id).Next.length - i = n → i ≤ (found l id).Next.length → n < fu → o.Nodup → (∀ x ∈ o, (findO l x).isSome = true) → out.length + 1 ≤ o.length →
          ∃ o', pReach_1_L1 (imap l) (found l id) (pReach_1_F N) fu (i : Int) o = some o' ∧ VSpec l ((found l id).Next.drop i) o o' := by
        intro n
        induction n with
        | zero =>
          intro i fu o hn hi hf q1 q2 _
          obtain ⟨fu, rfl⟩ : ∃ g, fu = g + 1 := ⟨fu - 1, by omega⟩
          have : i = (found l id).Next.length := by omega
          subst this
          have h0 : decide (((found l id).Next.length : Int) < ((found l id).Next.length : Int)) = false := decide_eq_false (by omega)
          refine ⟨o, by simp only [pReach_1_L1, List.length_map, h0, cond_false], ?_⟩
          rw [List.drop_length]
          exact VSpec.nil q1 q2
        | succ n ih =>
          intro i fu o hn hi hf q1 q2 q3
          obtain ⟨fu, rfl⟩ : ∃ g, fu = g + 1 := ⟨fu - 1, by omega⟩
          have hi' : i < (found l id).Next.length := by omega
          have h0 : decide ((i : Int) < ((found l id).Next.length : Int)) = true := decide_eq_true (by omega)
          obtain ⟨o1, r1, v1⟩ := visit_spec h N (found l id).Next[i] o (f2 _ (List.getElem_mem hi')) q1 q2 (by omega)
          have hlo : o.length ≤ o1.length := q1.length_le_of_subset fun x hx => v1.sub x hx
          obtain ⟨o2, r2, v2⟩ := ih (i + 1) fu o1 (by omega) (by omega) (by omega) v1.nd v1.ok (by omega)
          refine ⟨o2, ?_, ?_⟩
          · simp only [pReach_1_L1, List.length_map, h0, cond_true, ix_at hi', Option.bind_some, r1, wrap_succ (n := (found l id).Next.length) (by omega) hi', r2]
          · rw [List.drop_eq_getElem_cons hi']
            exact v1.trans v2
      obtain ⟨o', r, v⟩ := key (found l id).Next.length 0 N (out ++ [id]) (by omega) (by omega) (by omega) h1' h2' (by simp)
      rw [List.drop_zero] at v
      refine ⟨o', r, v.nd, v.ok, fun x hx => v.sub x (by simp [hx]), fun s hs => by simp at hs; rw [hs]; exact v.sub id (by simp), fun x hx => ?_, fun x hx hn y hy => ?_⟩
      · rcases v.rch x hx with hx | ⟨s, hs, hr⟩
        · rcases List.mem_append.1 hx with hx | hx
          · exact .inl hx
          · simp at hx; subst hx; exact .inr ⟨x, by simp, .refl⟩
        · exact .inr ⟨id, by simp, hr.head hs⟩
      · by_cases hxi : x = id
        · subst hxi; exact v.has y hy
        · exact v.cl x hx (by simp [hn, hxi]) y hy
theorem visit_all {l : List Off} {id : Int} {o : List Int} (v : VSpec l [id] [] o) (x : Int) : x ∈ o ↔ Rch l id x := by
  constructor
  · intro hx
    rcases v.rch x hx with h | ⟨s, hs, h⟩
    · simp at h
    · simp at hs; subst hs; exact h
  · intro h
    induction h with
    | refl => exact v.has id (by simp)
    | step _ hc ih => exact v.cl _ ih (by simp) _ hc

theorem rhas_eq {l : List Int} (h : l.length ≤ 9223372036854775807) (n : Int) : rhas_S l n = some (l.any fun x => x == n) := by
  have h1 := loop_scanP (rhas_L1 l n) l (fun _ x => bif x == n then some true else none) false h (fun fu i hi => by
      have h0 : decide ((i : Int) < (l.length : Int)) = true := decide_eq_true (by omega)
      simp only [rhas_L1, List.length_map, ix_at hi, Option.bind_some, h0, cond_true, wrap_succ h hi]
      cases l[i] == n <;> rfl)
    (fun fu => by
      have h0 : decide ((l.length : Int) < (l.length : Int)) = false := decide_eq_false (by omega)
      simp only [rhas_L1, List.length_map, h0, cond_false]) l.length 0 (l.length + 1) (by omega) (by omega) (by omega)
  show rhas_L1 l n (l.length + 1) 0 = _
  rw [show (0 : Int) = ((0 : Nat) : Int) from rfl, h1, List.drop_zero, scanP_any (fun x => x == n)]
  cases l.any (fun x => x == n) <;> rfl
theorem any_mem {l : List Int} {n : Int} : (l.any fun x => x == n) = decide (n ∈ l) := by
  rw [Bool.eq_iff_iff, List.any_eq_true]
  simp
/-- What is not yet there is put behind. -/
def addAll (s ns : List Int) : List Int := ns.foldl (fun s n => bif decide (n ∈ s) then s else s ++ [n]) s
theorem add_loop {x : Off} (hx : x.Next.length ≤ 8) {i : Nat} (hi0 : i ≤ 100) (k : List Int → Int → Option (List Int)) : ∀ (n j fu : Nat) (s : List Int), x.Next.length - j = n → j ≤ x.Next.length → n < fu → s.length + n ≤ 1000 →
    rReach_L2 (i : Int) x k fu s (j : Int) = k (addAll s (x.Next.drop j)) ((i + 1 : Nat) : Int)
  | n, j, 0, _, _, _, h, _ => by omega
  | 0, j, fu + 1, s, hn, hj, _, _ => by
    have : j = x.Next.length := by omega
    subst this
    have h0 : decide ((x.Next.length : Int) < (x.Next.length : Int)) = false := decide_eq_false (by omega)
    simp only [rReach_L2, List.length_map, h0, cond_false, List.drop_length, addAll, List.foldl_nil, wrap_succ (n := 101) (by omega) (show i < 101 by omega)]
  | n + 1, j, fu + 1, s, hn, _, hf, hs => by
    have hj : j < x.Next.length := by omega
    have h0 : decide ((j : Int) < (x.Next.length : Int)) = true := decide_eq_true (by omega)
    have e0 : decide (s.length + ([x.Next[j]] : List Int).length ≤ 4294967296) = true := decide_eq_true (by simp; omega)
    simp only [rReach_L2, List.length_map, h0, cond_true, ix_at hj, Option.bind_some, rhas_eq (l := s) (by omega), any_mem, e0, wrap_succ (n := x.Next.length) (by omega) hj]
    rw [List.drop_eq_getElem_cons hj]
    cases hm : decide (x.Next[j] ∈ s) with
    | true =>
      simp only [Bool.not_true, cond_false]
      rw [add_loop hx hi0 k n (j + 1) fu s (by omega) (by omega) (by omega) (by omega)]
      simp only [addAll, List.foldl_cons, hm, cond_true]
    | false =>
      simp only [Bool.not_false, cond_true]
      rw [add_loop hx hi0 k n (j + 1) fu _ (by omega) (by omega) (by omega) (by simp; omega)]
      simp only [addAll, List.foldl_cons, hm, cond_false]
theorem addAll_spec {l : List Off} : ∀ (ns s : List Int), s.Nodup → (∀ x ∈ s, (findO l x).isSome = true) → (∀ x ∈ ns, (findO l x).isSome = true) →
    (addAll s ns).Nodup ∧ (∀ x ∈ addAll s ns, (findO l x).isSome = true) ∧ (∃ t, addAll s ns = s ++ t) ∧ (∀ x ∈ ns, x ∈ addAll s ns) ∧ ∀ x ∈ addAll s ns, x ∈ s ∨ x ∈ ns
  | [], s, h1, h2, _ => ⟨h1, h2, ⟨[], by simp [addAll]⟩, by simp, fun x h => .inl h⟩
  | n :: r, s, h1, h2, h3 => by
    simp only [addAll, List.foldl_cons]
    cases hm : decide (n ∈ s) with
    | true =>
      have hm' := of_decide_eq_true hm
      obtain ⟨a, b, ⟨t, c⟩, d, e⟩ := addAll_spec r s h1 h2 fun x hx => h3 x (List.mem_cons_of_mem _ hx)
      refine ⟨a, b, ⟨t, c⟩, fun x hx => ?_, fun x hx => (e x hx).imp id (List.mem_cons_of_mem _)⟩
      rcases List.mem_cons.1 hx with rfl | hx
      · simp only [cond_true]; show x ∈ addAll s r; rw [c]; simp [hm']
      · exact d x hx
    | false =>
      have hm' := of_decide_eq_false hm
      obtain ⟨a, b, ⟨t, c⟩, d, e⟩ := addAll_spec r (s ++ [n]) (List.nodup_append.2 ⟨h1, by simp, fun a ha b hb e => by simp at hb; rw [← hb, ← e] at hm'; exact hm' ha⟩) (fun x hx => by
        rcases List.mem_append.1 hx with hx | hx
        · exact h2 x hx
        · simp at hx; rw [hx]; exact h3 n (by simp)) fun x hx => h3 x (List.mem_cons_of_mem _ hx)
      refine ⟨a, b, ⟨n :: t, by simp only [cond_false]; show addAll (s ++ [n]) r = _; rw [c]; simp⟩, fun x hx => ?_, fun x hx => ?_⟩
      · rcases List.mem_cons.1 hx with rfl | hx
        · simp only [cond_false]; show x ∈ addAll (s ++ [x]) r; rw [c]; simp
        · exact d x hx
      · rcases e x hx with h | h
        · rcases List.mem_append.1 h with h | h
          · exact .inl h
          · simp at h; subst h; exact .inr (by simp)
        · exact .inr (List.mem_cons_of_mem _ h)
theorem filter_loop {l : List Off} (hl : l.length ≤ 32) {seen : List Int} (hs : seen.length ≤ 1000) : ∀ (n i fu : Nat) (out : List Int), l.length - i = n → i ≤ l.length → n < fu → out.length ≤ i →
    rReach_L3 l seen fu out (i : Int) = some (out ++ ((l.drop i).filter (fun x => decide (x.ID ∈ seen))).map Off.ID)
  | n, i, 0, _, _, _, h, _ => by omega
  | 0, i, fu + 1, out, hn, hi, _, _ => by
    have : i = l.length := by omega
    subst this
    have h0 : decide ((l.length : Int) < (l.length : Int)) = false := decide_eq_false (by omega)
    simp only [rReach_L3, List.length_map, h0, cond_false]; simp
  | n + 1, i, fu + 1, out, hn, _, hf, ho => by
    have hi : i < l.length := by omega
    have h0 : decide ((i : Int) < (l.length : Int)) = true := decide_eq_true (by omega)
    have e0 : decide (out.length + ([l[i].ID] : List Int).length ≤ 4294967296) = true := decide_eq_true (by simp; omega)
    simp only [rReach_L3, List.length_map, h0, cond_true, ix_at hi, Option.bind_some, rhas_eq (l := seen) (by omega), any_mem, e0, wrap_succ (n := l.length) (by omega) hi]
    rw [List.drop_eq_getElem_cons hi, List.filter_cons]
    cases hm : decide (l[i].ID ∈ seen) with
    | true =>
      simp only [cond_true, if_true]
      rw [filter_loop hl hs n (i + 1) fu _ (by omega) (by omega) (by omega) (by simp; omega)]
      simp
    | false =>
      simp only [cond_false, Bool.false_eq_true, if_false]
      rw [filter_loop hl hs n (i + 1) fu _ (by omega) (by omega) (by omega) (by omega)]
theorem bfs_spec {l : List Off} (h : Good l) {id : Int} : ∀ (n i fu : Nat) (seen : List Int), l.length - i = n → i ≤ seen.length → n < fu → seen.Nodup → (∀ x ∈ seen, (findO l x).isSome = true) → id ∈ seen → (∀ x ∈ seen, Rch l id x) →
    (∀ (j : Nat) (hj : j < seen.length), j < i → ∀ y ∈ (found l seen[j]).Next, y ∈ seen) →
    ∃ s : List Int, rReach_L1 l 1000 fu seen (i : Int) = some ((l.filter (fun x => decide (x.ID ∈ s))).map Off.ID) ∧ (∀ x, x ∈ s ↔ Rch l id x)
  | n, i, 0, _, _, _, h, _, _, _, _, _ => by omega
  | n, i, fu + 1, seen, hn, hi, hf, h1, h2, h3, h4, h5 => by
    have hol := out_len h1 h2
    have hlen := h.len
    by_cases hlt : i < seen.length
    · obtain ⟨n, rfl⟩ : ∃ m, n = m + 1 := ⟨n - 1, by omega⟩
      have h0 : decide ((i : Int) < (seen.length : Int)) = true := decide_eq_true (by omega)
      have hso := h2 _ (List.getElem_mem hlt)
      obtain ⟨f1, f2⟩ := found_next h hso
      have hl : l.length ≤ 9223372036854775807 := by omega
      simp only [rReach_L1, List.length_map, h0, cond_true, ix_at hlt, Option.bind_some, rFind_eq hl, found_ix hso]
      rw [show (0 : Int) = ((0 : Nat) : Int) from rfl, add_loop f1 (i := i) (by omega) _ _ 0 1000 seen rfl (by omega) (by omega) (by omega), List.drop_zero]
      obtain ⟨a, b, ⟨t, c⟩, d, e⟩ := addAll_spec (l := l) (found l seen[i]).Next seen h1 h2 f2
      have hsub : ∀ x ∈ seen, x ∈ addAll seen (found l seen[i]).Next := fun x hx => by rw [c]; simp [hx]
      refine bfs_spec h n (i + 1) fu _ (by omega) (by rw [c]; simp; omega) (by omega) a b (hsub _ h3) (fun x hx => ?_) fun j hj hji y hy => ?_
      · rcases e x hx with h | h
        · exact h4 x h
        · exact .step (h4 _ (List.getElem_mem hlt)) h
      · have hjs : j < seen.length := by omega
        have hg : (addAll seen (found l seen[i]).Next)[j] = seen[j] := by
          simp only [c]; exact List.getElem_append_left hjs
        rw [hg] at hy
        by_cases hji' : j = i
        · subst hji'; exact d y hy
        · exact hsub y (h5 j hjs (by omega) y hy)
    · have : i = seen.length := by omega
      subst this
      have h0 : decide ((seen.length : Int) < (seen.length : Int)) = false := decide_eq_false (by omega)
      simp only [rReach_L1, List.length_map, h0, cond_false]
      refine ⟨seen, ?_, fun x => ⟨h4 x, fun hr => ?_⟩⟩
      · have := filter_loop hlen (seen := seen) (by omega) l.length 0 1000 [] (by omega) (by omega) (by omega) (by simp)
        simpa using this
      · induction hr with
        | refl => exact h3
        | step _ hc ih =>
          obtain ⟨j, hj, he⟩ := List.getElem_of_mem ih
          exact h5 j hj hj _ (by rw [he]; exact hc)
def reachF (l : List Off) (id : Int) : List Int := (rReach_S l id).getD []
theorem reach_both {l : List Off} (h : okOffs l) (id : Int) : pReach_S l id = some (reachF l id) ∧ rReach_S l id = some (reachF l id) ∧ (reachF l id).length ≤ 32 ∧
    (isGood l = true → (findO l id).isSome = true → ∀ x, x ∈ reachF l id ↔ Rch l id x) ∧ ((isGood l && (findO l id).isSome) = false → reachF l id = []) := by
  cases hg : isGood l with
  | false =>
    have hr : rReach_S l id = some [] := by simp [rReach_S, rReach_F, rGood_eq h, hg]
    have hp : pReach_S l id = some [] := by simp [pReach_S, pReach_F, pknown_eq h, hg]
    have hf : reachF l id = [] := by simp [reachF, hr]
    rw [hp, hr, hf]
    exact ⟨rfl, rfl, by simp, fun h => by simp at h, fun _ => rfl⟩
  | true =>
    have hG := isGood_iff hg
    cases hf : (findO l id).isSome with
    | false =>
      have hf' : findO l id = none := by simpa using hf
      have ha := (at_find (l := l)).1.2 hf'
      have hr : rReach_S l id = some [] := by simp [rReach_S, rReach_F, rGood_eq h, hg, rFind_eq h.1, ha]
      have hp : pReach_S l id = some [] := by simp [pReach_S, pReach_F, pknown_eq h, hg, hf']
      have hff : reachF l id = [] := by simp [reachF, hr]
      rw [hp, hr, hff]
      exact ⟨rfl, rfl, by simp, fun _ h => by simp at h, fun _ => rfl⟩
    | true =>
      obtain ⟨o, ho⟩ := Option.isSome_iff_exists.1 hf
      have h0 := (at_find.2 o ho).2.1
      have e : decide (at_ l id < 0) = false := decide_eq_false (by omega)
      have hlen := hG.len
      obtain ⟨s, r1, r2⟩ := bfs_spec hG (id := id) l.length 0 1000 [id] (by omega) (by simp) (by omega) (by simp) (fun x hx => by simp at hx; rw [hx]; exact hf) (by simp) (fun x hx => by simp at hx; rw [hx]; exact .refl) (fun j _ hj => by omega)
      have hr : rReach_S l id = some ((l.filter (fun x => decide (x.ID ∈ s))).map Off.ID) := by
        simp only [rReach_S, rReach_F, rGood_eq h, hg, Option.bind_some, Bool.not_true, cond_false, rFind_eq h.1, e]
        exact r1
      obtain ⟨o', q1, v⟩ := visit_spec hG 1000 id [] hf (by simp) (by simp) (by simp; omega)
      have hol := out_len v.nd v.ok
      have hsort : slSortI_XS o' = some (isort o') := by
        have : decide (o'.length < 4611686018427387904) = true := decide_eq_true (by omega)
        simp [slSortI_XS, this]
      have hp : pReach_S l id = some (isort o') := by
        simp only [pReach_S, pReach_F, pknown_eq h, hg, hf, Bool.and_self, cond_true, Option.bind_some, Bool.not_true, cond_false, pReach_1_XS, q1, hsort]
      have hmem : ∀ x, x ∈ (l.filter (fun x => decide (x.ID ∈ s))).map Off.ID ↔ Rch l id x := fun x => by
        constructor
        · intro hx
          obtain ⟨y, hy, rfl⟩ := List.mem_map.1 hx
          exact (r2 _).1 (by have := (List.mem_filter.1 hy).2; simpa using this)
        · intro hx
          have hxo := (visit_all v x).2 hx
          obtain ⟨y, hy⟩ := Option.isSome_iff_exists.1 (v.ok x hxo)
          obtain ⟨m1, m2⟩ := find_mem hy
          exact List.mem_map.2 ⟨y, List.mem_filter.2 ⟨m1, by simp [m2, (r2 x).2 hx]⟩, m2⟩
      have hinc : ((l.filter (fun x => decide (x.ID ∈ s))).map Off.ID).Pairwise (· < ·) := by
        rw [List.pairwise_map]; exact hG.inc.filter _
      have heq : isort o' = (l.filter (fun x => decide (x.ID ∈ s))).map Off.ID := by
        refine sorted_eq (isort_sorted o') (hinc.imp fun h => by omega) ?_
        rw [List.perm_ext_iff_of_nodup ((isort_perm o').nodup_iff.2 v.nd) (by rw [List.nodup_iff_pairwise_ne]; exact hinc.imp fun h => by omega)]
        intro x
        rw [(isort_perm o').mem_iff, visit_all v x, hmem x]
      have hff : reachF l id = (l.filter (fun x => decide (x.ID ∈ s))).map Off.ID := by simp [reachF, hr]
      rw [hp, hr, hff, heq]
      refine ⟨rfl, rfl, ?_, fun _ _ => hmem, fun h => by simp at h⟩
      have := List.length_filter_le (fun x : Off => decide (x.ID ∈ s)) l
      simp; omega
theorem duties_len (l : List Off) (id day : Int) (h : l.length ≤ 37 ∨ isGood l = true) : (dutiesF l id day).length ≤ 37 := by
  unfold dutiesF
  cases hg : isGood l && (findO l id).isSome with
  | false => simp
  | true =>
    have hgg : isGood l = true := by simp at hg; exact hg.1
    have := (isGood_iff hgg).len
    have := List.length_filter_le (dutyB l id day) l
    simp; omega
theorem officeReaches.law (l : List Off) (id day : Int) (hl : okOffs l) (_ : okI id) (_ : okI day) : lOfficeReaches_S l id day = some true := by
  obtain ⟨h1, h2, h3, _⟩ := reach_both hl id
  have hd : (dutiesF l id day).length ≤ 9223372036854775807 := by
    unfold dutiesF
    cases hg : isGood l && (findO l id).isSome with
    | false => simp
    | true =>
      have hgg : isGood l = true := by simp at hg; exact hg.1
      have := (isGood_iff hgg).len
      have := List.length_filter_le (dutyB l id day) l
      simp; omega
  simp only [lOfficeReaches_S, lOfficeReaches_F, awake_true, Option.bind_some, Bool.not_true, cond_false, rFew_eq hl, h1, h2, sameInts_eq (a := reachF l id) (by omega), beq_self_eq_true, cond_true, pDuties_eq hl, rDuties_eq hl, sameInts_eq hd]
  cases fewO l <;> rfl
end Go.Proofs.YtmcolhhmlpicaaaDoor
