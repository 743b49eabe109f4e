/- Chains, heirs and duties. -/
import Derived.Test.YtmcolhhmlpicaaaDoorLChk
namespace Go.Proofs.YtmcolhhmlpicaaaDoor
open Go Go.Abs

theorem countP_lt {α : Type} {p q : α → Bool} : ∀ {l : List α}, (∀ x ∈ l, p x = true → q x = true) → ∀ {a : α}, a ∈ l → q a = true → p a = false → l.countP p < l.countP q
  | [], _, a, ha, _, _ => by simp at ha
  | y :: r, h, a, ha, hq, hp => by
    have hle : r.countP p ≤ r.countP q := List.countP_mono_left fun x hx => h x (List.mem_cons_of_mem _ hx)
    have hy := h y (by simp)
    rcases List.mem_cons.1 ha with rfl | ha
    · simp only [List.countP_cons, hq, hp]; simp; omega
    · have ih := countP_lt (fun x hx => h x (List.mem_cons_of_mem _ hx)) ha hq hp
      simp only [List.countP_cons]
      cases hpy : p y <;> cases hqy : q y <;> simp_all <;> omega
def succ1 (l : List Off) (o : Off) : Off := found l (o.Next.headD 0)
def rank (l : List Off) (o : Off) : Nat := l.countP fun x => decide (o.In.From ≤ x.In.From)
theorem rank_le {l : List Off} (h : Good l) (o : Off) : rank l o ≤ 32 := Nat.le_trans List.countP_le_length h.len
theorem rank_pos {l : List Off} {o : Off} (ho : o ∈ l) : 1 ≤ rank l o := List.countP_pos_iff.2 ⟨o, ho, by simp⟩
theorem next_in {l : List Off} (h : Good l) {o : Off} (ho : o ∈ l) {id : Int} (hid : id ∈ o.Next) : found l id ∈ l ∧ (found l id).ID = id ∧ (found l id).In.From = o.In.Until ∧ findO l id = some (found l id) := by
  obtain ⟨y, hy, hf⟩ := (h.next o ho).2 id hid
  have := find_mem hy
  simp only [found, hy, Option.getD_some]
  exact ⟨this.1, this.2, hf, trivial⟩
theorem rank_lt {l : List Off} (h : Good l) {o : Off} (ho : o ∈ l) {id : Int} (hid : id ∈ o.Next) : rank l (found l id) < rank l o := by
  obtain ⟨h1, h2, h3, _⟩ := next_in h ho hid
  have hs := h.span o ho
  refine countP_lt (fun x _ hx => ?_) ho (by simp) ?_
  · simp only [decide_eq_true_eq] at hx ⊢; omega
  · simp only [decide_eq_false_iff_not]; omega
theorem head_mem {o : Off} (h : o.Next ≠ []) : o.Next.headD 0 ∈ o.Next := by
  cases hn : o.Next with
  | nil => exact absurd hn h
  | cons a r => simp
theorem succ1_in {l : List Off} (h : Good l) {o : Off} (ho : o ∈ l) (hn : o.Next ≠ []) : succ1 l o ∈ l ∧ (succ1 l o).ID = o.Next.headD 0 ∧ (succ1 l o).In.From = o.In.Until ∧ rank l (succ1 l o) < rank l o :=
  have := next_in h ho (head_mem hn)
  ⟨this.1, this.2.1, this.2.2.1, rank_lt h ho (head_mem hn)⟩

def stop (day : Int) (o : Off) : Bool := onSpan o.In day || o.Next.isEmpty
def chainN (l : List Off) (day : Int) : Nat → Off → List Off
  | 0, o => [o]
  | n + 1, o => bif stop day o then [o] else o :: chainN l day n (succ1 l o)
def lastN (l : List Off) (day : Int) : Nat → Off → Off
  | 0, o => o
  | n + 1, o => bif stop day o then o else lastN l day n (succ1 l o)
theorem chain_len (l : List Off) (day : Int) : ∀ (n : Nat) (o : Off), (chainN l day n o).length ≤ n + 1
  | 0, o => by simp [chainN]
  | n + 1, o => by
    simp only [chainN]
    cases stop day o with
    | true => simp
    | false => simpa using chain_len l day n (succ1 l o)
theorem chain_last (l : List Off) (day : Int) : ∀ (n : Nat) (o : Off), (chainN l day n o).getLast? = some (lastN l day n o)
  | 0, o => rfl
  | n + 1, o => by
    simp only [chainN, lastN]
    cases stop day o with
    | true => rfl
    | false =>
      simp only [cond_false, List.getLast?_cons, chain_last l day n (succ1 l o)]
      rfl
theorem last_in {l : List Off} (h : Good l) (day : Int) : ∀ (n : Nat) (o : Off), o ∈ l → lastN l day n o ∈ l
  | 0, o, ho => ho
  | n + 1, o, ho => by
    simp only [lastN]
    cases hs : stop day o with
    | true => exact ho
    | false =>
      simp only [stop, Bool.or_eq_false_iff] at hs
      exact last_in h day n _ (succ1_in h ho (by simpa using hs.2)).1
theorem isEmpty_len {α β : Type} (f : α → β) (n : List α) : (((n.map f).length : Int) == 0) = n.isEmpty := by
  cases n with
  | nil => rfl
  | cons a r => simp; omega
theorem ix_zero {n : List Int} (h : n ≠ []) : ix n 0 = some (n.headD 0) := by
  cases n with
  | nil => exact absurd rfl h
  | cons a r => rfl
theorem pchain_loop {l : List Off} (h : Good l) (day : Int) (b : Bool) : ∀ (n : Nat) (o : Off) (out : List Int) (fu : Nat), o ∈ l → rank l o ≤ n → n < fu → out.length + n ≤ 100 →
    pChain_L1 day (imap l, b) fu out o.ID o.Name o.In.From o.In.Until o.Next = some (out ++ (chainN l day n o).map Off.ID)
  | 0, o, out, fu, ho, hr, _, _ => by have := rank_pos ho; omega
  | n + 1, o, out, 0, _, _, hf, _ => by omega
  | n + 1, o, out, fu + 1, ho, hr, hf, hl => by
    have e0 : decide (out.length + ([o.ID] : List Int).length ≤ 4294967296) = true := decide_eq_true (by simp; omega)
    simp only [pChain_L1, e0, cond_true, pin_eq, Option.bind_some, isEmpty_len, chainN, stop]
    cases h1 : onSpan o.In day with
    | true => simp
    | false =>
      cases h2 : o.Next.isEmpty with
      | true => simp
      | false =>
        have hne : o.Next ≠ [] := by simpa using h2
        obtain ⟨q1, q2, q3, q4⟩ := succ1_in h ho hne
        have hm := mlk_eq (l := l) (by have := h.len; omega) (o.Next.headD 0)
        simp only [cond_false, Bool.false_or, ix_zero hne, Option.bind_some, hm]
        have ih := pchain_loop h day b n (succ1 l o) (out ++ [o.ID]) fu q1 (by omega) (by omega) (by simp; omega)
        rw [show found l (o.Next.headD 0) = succ1 l o from rfl, ih]
        simp
theorem rchain_loop {l : List Off} (h : Good l) (day : Int) : ∀ (n : Nat) (o : Off) (i : Int) (out : List Int) (fu : Nat), o ∈ l → ix l i = some o → rank l o ≤ n → n < fu → out.length + n ≤ 100 →
    rChain_L1 l day fu out i = some (out ++ (chainN l day n o).map Off.ID)
  | 0, o, i, out, fu, ho, _, hr, _, _ => by have := rank_pos ho; omega
  | n + 1, o, i, out, 0, _, _, _, hf, _ => by omega
  | n + 1, o, i, out, fu + 1, ho, hi, hr, hf, hl => by
    have e0 : decide (out.length + ([o.ID] : List Int).length ≤ 4294967296) = true := decide_eq_true (by simp; omega)
    simp only [rChain_L1, hi, Option.bind_some, e0, cond_true, rIn_eq, isEmpty_len, chainN, stop]
    cases h1 : onSpan o.In day with
    | true => simp
    | false =>
      cases h2 : o.Next.isEmpty with
      | true => simp
      | false =>
        have hne : o.Next ≠ [] := by simpa using h2
        obtain ⟨q1, q2, q3, q4⟩ := succ1_in h ho hne
        have hm := rFind_eq (l := l) (by have := h.len; omega) (o.Next.headD 0)
        have hx := (next_in h ho (head_mem hne)).2.2.2
        simp only [cond_false, Bool.false_or, ix_zero hne, Option.bind_some, hm]
        have ih := rchain_loop h day n (succ1 l o) (at_ l (o.Next.headD 0)) (out ++ [o.ID]) fu q1 (at_find.2 _ hx).1 (by omega) (by omega) (by simp; omega)
        rw [ih]
        simp
def isGood (l : List Off) : Bool := (checkF l).2 == 0
theorem isGood_iff {l : List Off} (h : isGood l = true) : Good l := good_of (by simpa [isGood] using h)
def chn (l : List Off) (id day : Int) : List Off := bif isGood l then (match findO l id with | some o => chainN l day 32 o | none => []) else []
theorem pknown_eq {l : List Off} (h : okOffs l) (id : Int) : pknown_S l id = some (bif isGood l && (findO l id).isSome then (imap l, true) else ([], false)) := by
  simp only [pknown_S, pknown_F, pCheck_eq h, Option.bind_some, pFind_eq h.1, (pindex_eq h.1).1, isGood]
  cases hc : (checkF l).2 == 0 with
  | false => have : ((checkF l).2 != 0) = true := by simp [bne, hc]
             simp [this]
  | true =>
    have : ((checkF l).2 != 0) = false := by simp [bne, hc]
    simp only [this, cond_false, Bool.true_and]
    cases hf : findO l id with
    | none => have := (at_find (l := l)).1.2 hf; simp [this]
    | some a => have := ((at_find (l := l)).2 a hf).2.1; have e : decide (at_ l id < 0) = false := decide_eq_false (by omega); simp [e]
theorem pChain_eq {l : List Off} (h : okOffs l) (id day : Int) : pChain_S l id day = some ((chn l id day).map Off.ID) := by
  simp only [pChain_S, pChain_F, pknown_eq h, Option.bind_some, chn]
  cases hg : isGood l with
  | false => simp
  | true =>
    have hG := isGood_iff hg
    cases hf : findO l id with
    | none => simp
    | some o =>
      have ho := find_mem hf
      simp only [Option.isSome_some, Bool.and_self, cond_true, Bool.not_true, cond_false, mlk_eq h.1, Option.bind_some]
      rw [show found l id = o by simp [found, hf]]
      have := pchain_loop hG day true 32 o [] 1000 ho.1 (rank_le hG o) (by omega) (by simp)
      simpa using this
theorem rGood_eq {l : List Off} (h : okOffs l) : rGood_S l = some (isGood l) := by
  simp only [rGood_S, rGood_F, rCheck_eq h, Option.bind_some, isGood]
theorem rChain_eq {l : List Off} (h : okOffs l) (id day : Int) : rChain_S l id day = some ((chn l id day).map Off.ID) := by
  simp only [rChain_S, rChain_F, rFind_eq h.1, rGood_eq h, Option.bind_some, chn]
  cases hg : isGood l with
  | false => simp
  | true =>
    have hG := isGood_iff hg
    simp only [Bool.not_true, cond_false, cond_true]
    cases hf : findO l id with
    | none => have := (at_find (l := l)).1.2 hf; simp [this]
    | some o =>
      have ho := find_mem hf
      obtain ⟨h1, h2, _⟩ := at_find.2 o hf
      have e : decide (at_ l id < 0) = false := decide_eq_false (by omega)
      simp only [e, cond_false]
      have := rchain_loop hG day 32 o (at_ l id) [] 1000 ho.1 h1 (rank_le hG o) (by omega) (by simp)
      simpa using this
theorem chn_len (l : List Off) (id day : Int) : (chn l id day).length ≤ 33 := by
  unfold chn
  cases isGood l with
  | false => simp
  | true =>
    cases findO l id with
    | none => simp
    | some o => exact chain_len l day 32 o
def heirF (l : List Off) (id day : Int) : Int × Bool := match (chn l id day).getLast? with
  | some x => bif onSpan x.In day then (x.ID, true) else (0, false)
  | none => (0, false)
theorem chn_last {l : List Off} {id day : Int} {x : Off} (h : (chn l id day).getLast? = some x) : Good l ∧ x ∈ l ∧ findO l x.ID = some x := by
  unfold chn at h
  cases hg : isGood l with
  | false => rw [hg] at h; simp at h
  | true =>
    have hG := isGood_iff hg
    rw [hg] at h
    simp only [cond_true] at h
    cases hf : findO l id with
    | none => rw [hf] at h; simp at h
    | some o =>
      rw [hf] at h
      simp only [chain_last, Option.some.injEq] at h
      have hx : x ∈ l := by rw [← h]; exact last_in hG day 32 o (find_mem hf).1
      exact ⟨hG, hx, hG.find hx⟩
theorem ix_last {c : List Off} {x : Off} (h : c.getLast? = some x) (hl : c.length ≤ 33) : (((c.map Off.ID).map cInt).length == 0) = false ∧ ix (c.map Off.ID) (IntKind.i64.wrap ((((c.map Off.ID).map cInt).length : Int) - 1)) = some x.ID := by
  have hne : c ≠ [] := fun e => by rw [e] at h; simp at h
  have hpos : 0 < c.length := List.length_pos_iff.2 hne
  have hw : IntKind.i64.wrap ((((c.map Off.ID).map cInt).length : Int) - 1) = ((c.length - 1 : Nat) : Int) := by
    rw [wrap_id (by unfold okI; simp; omega)]; simp; omega
  refine ⟨by simp; exact hne, ?_⟩
  have hi : c.length - 1 < (c.map Off.ID).length := by simp; omega
  rw [hw, ix_at hi]
  rw [List.getLast?_eq_getElem?, List.getElem?_eq_getElem (by omega)] at h
  simp only [Option.some.injEq] at h
  simp [h]
theorem len_zero {c : List Int} {x : Bool} (h : (((c.map cInt).length == 0)) = x) : (((c.map cInt).length : Int) == 0) = x := by
  rw [← h]; cases c <;> simp; omega
theorem pHeir_eq {l : List Off} (h : okOffs l) (id day : Int) : pHeir_S l id day = some (heirF l id day) := by
  simp only [pHeir_S, pHeir_F, pChain_eq h, Option.bind_some, heirF]
  cases hc : (chn l id day).getLast? with
  | none => have : chn l id day = [] := by simpa using hc
            rw [this]; rfl
  | some x =>
    obtain ⟨h1, h2⟩ := ix_last hc (chn_len l id day)
    obtain ⟨hG, hx, hf⟩ := chn_last hc
    simp only [len_zero h1, cond_false, h2, Option.bind_some, pFind_eq h.1, (at_find.2 x hf).1, pin_eq]
    cases onSpan x.In day <;> rfl
theorem rHeir_eq {l : List Off} (h : okOffs l) (id day : Int) : rHeir_S l id day = some (heirF l id day) := by
  simp only [rHeir_S, rHeir_F, rChain_eq h, Option.bind_some, heirF]
  cases hc : (chn l id day).getLast? with
  | none => have : chn l id day = [] := by simpa using hc
            rw [this]; rfl
  | some x =>
    obtain ⟨h1, h2⟩ := ix_last hc (chn_len l id day)
    obtain ⟨hG, hx, hf⟩ := chn_last hc
    simp only [len_zero h1, cond_false, h2, Option.bind_some, rFind_eq h.1, (at_find.2 x hf).1, rIn_eq]
    cases onSpan x.In day <;> rfl
theorem sameInts_eq {a b : List Int} (ha : a.length ≤ 9223372036854775807) : rSameInts_S a b = some (a == b) := by
  simp only [rSameInts_S, rSameInts_F, List.length_map]
  by_cases hl : a.length = b.length
  · have e : ((a.length : Int) != (b.length : Int)) = false := by simp [hl]
    have key : ∀ (n i fu : Nat), a.length - i = n → i ≤ a.length → n < fu → rSameInts_L1 a b fu (i : Int) = some (a.drop i == b.drop i) := by
      intro n
      induction n with
      | zero =>
        intro i fu hn hi hf
        obtain ⟨fu, rfl⟩ : ∃ g, fu = g + 1 := ⟨fu - 1, by omega⟩
        have : i = a.length := by omega
        subst this
        have h0 : decide ((a.length : Int) < (a.length : Int)) = false := decide_eq_false (by omega)
        simp only [rSameInts_L1, List.length_map, h0, cond_false, List.drop_length]
        rw [hl, List.drop_length]; rfl
      | succ n ih =>
        intro i fu hn hi hf
        obtain ⟨fu, rfl⟩ : ∃ g, fu = g + 1 := ⟨fu - 1, by omega⟩
        have hi' : i < a.length := by omega
        have hb' : i < b.length := by omega
        have h0 : decide ((i : Int) < (a.length : Int)) = true := decide_eq_true (by omega)
        simp only [rSameInts_L1, List.length_map, ix_at hi', ix_at hb', Option.bind_some, h0, cond_true, wrap_succ ha hi', ih (i + 1) fu (by omega) (by omega) (by omega)]
        rw [List.drop_eq_getElem_cons hi', List.drop_eq_getElem_cons hb', List.cons_beq_cons]
        cases hq : a[i] == b[i] with
        | true => have : (a[i] != b[i]) = false := by simp [bne, hq]
                  simp [this]
        | false => have : (a[i] != b[i]) = true := by simp [bne, hq]
                   simp [this]
    simp only [e, cond_false]
    have := key a.length 0 (a.length + 1) (by omega) (by omega) (by omega)
    simpa using this
  · have e : ((a.length : Int) != (b.length : Int)) = true := by simp; omega
    have : (a == b) = false := by
      cases hq : a == b with
      | false => rfl
      | true => have : a = b := by simpa using hq
                exact absurd (by rw [this]) hl
    simp [e, this]
def fewO (l : List Off) : Bool := (!(decide (12 < l.length) && decide (l.length ≤ 32)) && decide (l.length ≤ 37)) && l.all fun x => decide (x.Next.length ≤ 10) && decide (x.Name.length ≤ 100)
theorem few_loop {l : List Off} (h : l.length ≤ 9223372036854775807) (L : Nat → Int → Option Bool)
    (hL : ∀ fu i, L (fu + 1) i = bif decide (i < ((l.map cOff).length : Int)) then (Option.bind (ix l i) fun x6 => bif decide (((x6.Next.map cInt).length : Int) > 10) then some (false) else (Option.bind (ix l i) fun x9 => bif decide ((x9.Name.length : Int) > 100) then some (false) else L fu (IntKind.i64.wrap (i + 1)))) else some (true)) :
    L (l.length + 1) 0 = some (l.all fun x => decide (x.Next.length ≤ 10) && decide (x.Name.length ≤ 100)) := by
  have h1 := loop_scanP L l (fun _ x => bif decide (x.Next.length ≤ 10) && decide (x.Name.length ≤ 100) then none else some false) true h (fun fu i hi => by
      have h0 : decide ((i : Int) < (l.length : Int)) = true := decide_eq_true (by omega)
      simp only [hL, List.length_map, ix_at hi, Option.bind_some, h0, cond_true, wrap_succ h hi]
      by_cases h1 : l[i].Next.length ≤ 10
      · have e1 : decide ((l[i].Next.length : Int) > 10) = false := decide_eq_false (by omega)
        by_cases h2 : l[i].Name.length ≤ 100
        · have e2 : decide ((l[i].Name.length : Int) > 100) = false := decide_eq_false (by omega)
          simp [e1, e2, h1, h2]
        · have e2 : decide ((l[i].Name.length : Int) > 100) = true := decide_eq_true (by omega)
          simp [e1, e2, h2]
      · have e1 : decide ((l[i].Next.length : Int) > 10) = true := decide_eq_true (by omega)
        simp [e1, h1])
    (fun fu => by
      have h0 : decide ((l.length : Int) < (l.length : Int)) = false := decide_eq_false (by omega)
      simp only [hL, List.length_map, h0, cond_false]) l.length 0 (l.length + 1) (by omega) (by omega) (by omega)
  rw [show (0 : Int) = ((0 : Nat) : Int) from rfl, h1, List.drop_zero, scanP_all, Bool.and_true]
theorem rFew_eq {l : List Off} (h : okOffs l) : rFew_S l = some (fewO l) := by
  have h1 := few_loop h.1 (rFew_L1 l) fun _ _ => rfl
  have h2 := few_loop h.1 (rFew_L2 l) fun _ _ => rfl
  simp only [rFew_S, rFew_F, List.length_map, h1, h2, fewO]
  by_cases a : 12 < l.length
  · have e1 : decide ((l.length : Int) > 12) = true := decide_eq_true (by omega)
    by_cases b : l.length ≤ 32
    · have e2 : decide ((l.length : Int) ≤ 32) = true := decide_eq_true (by omega)
      simp [e1, e2, a, b]
    · have e2 : decide ((l.length : Int) ≤ 32) = false := decide_eq_false (by omega)
      by_cases c : l.length ≤ 37
      · have e3 : decide ((l.length : Int) > 37) = false := decide_eq_false (by omega)
        simp [e1, e2, e3, b, c]
      · have e3 : decide ((l.length : Int) > 37) = true := decide_eq_true (by omega)
        simp [e1, e2, e3, c]
  · have e1 : decide ((l.length : Int) > 12) = false := decide_eq_false (by omega)
    have e3 : decide ((l.length : Int) > 37) = false := decide_eq_false (by omega)
    have c : l.length ≤ 37 := by omega
    simp [e1, e3, a, c]
theorem officeChains.law (l : List Off) (id day : Int) (hl : okOffs l) (_ : okI id) (_ : okI day) : lOfficeChains_S l id day = some true := by
  have hc := chn_len l id day
  simp only [lOfficeChains_S, lOfficeChains_F, awake_true, Option.bind_some, Bool.not_true, cond_false, rFew_eq hl, pHeir_eq hl, rHeir_eq hl, pChain_eq hl, rChain_eq hl, sameInts_eq (a := (chn l id day).map Off.ID) (by simp; omega), beq_self_eq_true, cond_true]
  cases fewO l <;> rfl
end Go.Proofs.YtmcolhhmlpicaaaDoor
