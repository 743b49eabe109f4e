/- Ending an office changes nobody's duties on an earlier day. -/
import Derived.Test.YtmcolhhmlpicaaaDoorLEnd
namespace Go.Proofs.YtmcolhhmlpicaaaDoor
open Go Go.Abs

def hOf (l : List Off) (d : Int) (n : Nat) (y : Off) : Int × Bool := bif onSpan (lastN l d n y).In d then ((lastN l d n y).ID, true) else (0, false)
theorem heir_last {l : List Off} (hg : isGood l = true) (x d : Int) : heirF l x d = match findO l x with | none => (0, false) | some y => hOf l d 32 y := by
  unfold heirF chn hOf
  rw [hg]
  simp only [cond_true]
  cases findO l x with
  | none => rfl
  | some y => simp only [chain_last]
theorem last_from {l : List Off} (h : Good l) (d : Int) : ∀ (n : Nat) (y : Off), y ∈ l → y.In.From ≤ (lastN l d n y).In.From
  | 0, y, _ => Int.le_refl _
  | n + 1, y, hy => by
    simp only [lastN]
    cases hs : stop d y with
    | true => exact Int.le_refl _
    | false =>
      have hne : y.Next ≠ [] := by simp only [stop, Bool.or_eq_false_iff] at hs; simpa using hs.2
      obtain ⟨q1, _, q3, _⟩ := succ1_in h hy hne
      have := last_from h d n _ q1
      have := h.span y hy
      simp only [cond_false]; omega
theorem hOf_late {l : List Off} (h : Good l) {d : Int} {y : Off} (hy : y ∈ l) (hd : d < y.In.From) (n : Nat) : hOf l d n y = (0, false) := by
  have := last_from h d n y hy
  have e : onSpan (lastN l d n y).In d = false := by simp only [onSpan, Bool.and_eq_false_iff, decide_eq_false_iff_not]; left; omega
  simp [hOf, e]
theorem at_map (l : List Off) (id : Int) : at_ l id = match (l.map Off.ID).findIdx? (fun x => x == id) with | some k => (k : Int) | none => -1 := by
  unfold at_ idxOf
  rw [List.findIdx?_map]
  rfl
section
variable {l : List Off} {id day : Int} {next : List Int} {o : Off}
theorem set_ids (hf : findO l id = some o) : (l.set (at_ l id).toNat (ended o day next)).map Off.ID = l.map Off.ID := by
  obtain ⟨a1, a2, a3⟩ := at_find.2 o hf
  have hi : (at_ l id).toNat < l.length := by omega
  have hg : l[(at_ l id).toNat] = o := by
    have := ix_get a1
    rw [List.getElem?_eq_getElem hi] at this
    exact Option.some.inj this
  rw [List.map_set]
  have : (ended o day next).ID = (l.map Off.ID)[(at_ l id).toNat]'(by simpa using hi) := by simp [hg, ended]
  rw [this, List.set_getElem_self]
theorem find_set (hf : findO l id = some o) (x : Int) : findO (l.set (at_ l id).toNat (ended o day next)) x = bif x == id then some (ended o day next) else findO l x := by
  obtain ⟨a1, a2, a3⟩ := at_find.2 o hf
  have hi : (at_ l id).toNat < l.length := by omega
  have hat : at_ (l.set (at_ l id).toNat (ended o day next)) x = at_ l x := by
    have h1 := at_map (l.set (at_ l id).toNat (ended o day next)) x
    rw [set_ids hf] at h1
    rw [h1, ← at_map]
  have hoid := (find_mem hf).2
  cases hx : findO l x with
  | none =>
    have h1 := (at_find (l := l)).1.2 hx
    have h2 : findO (l.set (at_ l id).toNat (ended o day next)) x = none := at_find.1.1 (by rw [hat]; exact h1)
    have : (x == id) = false := by
      cases hq : x == id with
      | false => rfl
      | true => have : x = id := by simpa using hq
                rw [this, hf] at hx; cases hx
    rw [h2, this]; rfl
  | some y =>
    obtain ⟨b1, b2, b3⟩ := at_find.2 y hx
    have hyid := (find_mem hx).2
    cases hm : findO (l.set (at_ l id).toNat (ended o day next)) x with
    | none => have := at_find.1.2 hm; rw [hat] at this; omega
    | some z =>
      have c1 := (at_find.2 z hm).1
      rw [hat] at c1
      have c2 := ix_get c1
      cases hq : x == id with
      | true =>
        have : x = id := by simpa using hq
        subst this
        rw [List.getElem?_set_self hi] at c2
        rw [← c2]; rfl
      | false =>
        have hne : x ≠ id := by simpa using hq
        have hk : (at_ l id).toNat ≠ (at_ l x).toNat := fun e => by
          have e1 := ix_get a1
          have e2 := ix_get b1
          rw [e, e2] at e1
          have : y = o := Option.some.inj e1
          rw [this] at hyid
          exact hne (hyid.symm.trans hoid)
        rw [List.getElem?_set_ne hk, ix_get b1] at c2
        rw [← c2]; rfl
def prime (id : Int) (o' y : Off) : Off := bif y.ID == id then o' else y
theorem found_set (hf : findO l id = some o) {x : Int} (hx : (findO l x).isSome = true) : found (l.set (at_ l id).toNat (ended o day next)) x = prime id (ended o day next) (found l x) := by
  obtain ⟨y, hy⟩ := Option.isSome_iff_exists.1 hx
  unfold found prime
  rw [find_set hf, hy]
  have := (find_mem hy).2
  simp only [Option.getD_some, this]
  cases x == id <;> rfl
theorem before_all (h : Good l) (hm : Good (l.set (at_ l id).toNat (ended o day next))) (hf : findO l id = some o) (hd : day ≤ o.In.Until) {d : Int} (hdd : d < day) : ∀ (n n' : Nat) (y : Off), y ∈ l → rank l y ≤ n → rank (l.set (at_ l id).toNat (ended o day next)) (prime id (ended o day next) y) ≤ n' →
    hOf l d n y = hOf (l.set (at_ l id).toNat (ended o day next)) d n' (prime id (ended o day next) y)
  | 0, _, y, hy, hr, _ => by have := rank_pos hy; omega
  | n + 1, n', y, hy, hr, hr' => by
    have hpm : prime id (ended o day next) y ∈ l.set (at_ l id).toNat (ended o day next) := by
      have h1 := h.find hy
      have h2 : findO (l.set (at_ l id).toNat (ended o day next)) y.ID = some (prime id (ended o day next) y) := by
        rw [find_set hf, h1]; unfold prime; cases y.ID == id <;> rfl
      exact (find_mem h2).1
    obtain ⟨n', rfl⟩ : ∃ k, n' = k + 1 := ⟨n' - 1, by have := rank_pos hpm; omega⟩
    cases hq : y.ID == id with
    | true =>
      have hyid : y.ID = id := by simpa using hq
      have hyo : y = o := by
        have := h.find hy
        rw [hyid, hf] at this
        exact (Option.some.inj this).symm
      subst hyo
      have hp : prime id (ended y day next) y = ended y day next := by simp [prime, hq]
      rw [hp] at hpm ⊢
      by_cases hfd : y.In.From ≤ d
      · have e1 : onSpan y.In d = true := by simp only [onSpan, Bool.and_eq_true, decide_eq_true_eq]; omega
        have e2 : onSpan (ended y day next).In d = true := by
          show (decide (y.In.From ≤ d) && decide (d < day)) = true
          simp only [Bool.and_eq_true, decide_eq_true_eq]; omega
        have s1 : stop d y = true := by simp [stop, e1]
        have s2 : stop d (ended y day next) = true := by simp [stop, e2]
        simp only [hOf, lastN, s1, s2, cond_true, e1, e2]
        rfl
      · rw [hOf_late h hy (by omega), hOf_late hm hpm (show d < (ended y day next).In.From by simp only [ended]; omega)]
    | false =>
      have hp : prime id (ended o day next) y = y := by simp [prime, hq]
      rw [hp] at hpm hr' ⊢
      cases hs : stop d y with
      | true => simp only [hOf, lastN, hs, cond_true]
      | false =>
        have hne : y.Next ≠ [] := by simp only [stop, Bool.or_eq_false_iff] at hs; simpa using hs.2
        obtain ⟨q1, q2, q3, q4⟩ := succ1_in h hy hne
        have hsm := succ1_in hm hpm hne
        have hs1 : succ1 (l.set (at_ l id).toNat (ended o day next)) y = prime id (ended o day next) (succ1 l y) := by
          unfold succ1
          exact found_set hf (by rw [(next_in h hy (head_mem hne)).2.2.2]; rfl)
        have ih := before_all h hm hf hd hdd n n' (succ1 l y) q1 (by omega) (by rw [← hs1]; omega)
        simp only [hOf, lastN, hs, cond_false, hs1] at ih ⊢
        exact ih
end
theorem slEqual_self {a : List Int} (ha : a.length ≤ 9223372036854775807) : slEqual_S a a = some true := by
  simp only [slEqual_S, slEqual_F, List.length_map, bne_self_eq_false, cond_false]
  have key : ∀ (n i fu : Nat), a.length - i = n → i ≤ a.length → n < fu → slEqual_L1 a a fu (i : Int) = some true := by
    intro n
    induction n with
    | zero =>
      intro i fu hn hi hf
      obtain ⟨fu, rfl⟩ : ∃ g, fu = g + 1 := ⟨fu - 1, by omega⟩
      have : i = a.length := by omega
      subst this
      have h0 : decide ((a.length : Int) < (a.length : Int)) = false := decide_eq_false (by omega)
      simp only [slEqual_L1, List.length_map, h0, cond_false]
    | succ n ih =>
      intro i fu hn hi hf
      obtain ⟨fu, rfl⟩ : ∃ g, fu = g + 1 := ⟨fu - 1, by omega⟩
      have hi' : i < a.length := by omega
      have h0 : decide ((i : Int) < (a.length : Int)) = true := decide_eq_true (by omega)
      simp only [slEqual_L1, List.length_map, ix_at hi', Option.bind_some, h0, cond_true, wrap_succ ha hi', bne_self_eq_false, cond_false, ih (i + 1) fu (by omega) (by omega) (by omega)]
  have := key a.length 0 (a.length + 1) (by omega) (by omega) (by omega)
  simpa using this
theorem officeBefore.law (l : List Off) (id day : Int) (next : List Int) (other earlier : Int) (hl : okOffs l) (_ : okI id) (hd : okI day) (hn : okInts next) (_ : okI other) (_ : okI earlier) : lOfficeBefore_S l id day next other earlier = some true := by
  simp only [lOfficeBefore_S, lOfficeBefore_F, awake_true, Option.bind_some, Bool.not_true, cond_false, rFew_eq hl, List.length_map]
  cases fewO l with
  | false => rfl
  | true =>
    simp only [Bool.not_true, cond_false]
    by_cases h10 : next.length ≤ 10
    · have e : decide ((next.length : Int) > 10) = false := decide_eq_false (by omega)
      by_cases hlt : earlier < day
      · have e2 : decide (earlier ≥ day) = false := decide_eq_false (by omega)
        have hok := endF_ok (id := id) hl hd hn
        have hpe := pEnd_eq (id := id) hl hd hn (by omega)
        simp only [e, cond_false, e2, hpe, Option.bind_some]
        generalize hE : endF l id day next = E at hok
        unfold endF at hE
        cases hg : isGood l with
        | false => rw [hg] at hE; simp at hE; subst hE; rfl
        | true =>
          have hG := isGood_iff hg
          rw [hg] at hE
          simp only [Bool.not_true, cond_false] at hE
          cases hf : findO l id with
          | none => rw [hf] at hE; simp at hE; subst hE; rfl
          | some o =>
            rw [hf] at hE
            simp only at hE
            cases hq : decide (day ≤ o.In.From) || decide (o.In.Until < day) with
            | true => rw [hq] at hE; simp at hE; subst hE; rfl
            | false =>
              rw [hq] at hE
              simp only [cond_false] at hE
              cases hc : (checkF (l.set (at_ l id).toNat (ended o day next))).2 != 0 with
              | true =>
                rw [hc] at hE
                simp only [cond_true] at hE
                subst hE
                simp only [hc, cond_true]
                rfl
              | false =>
                rw [hc] at hE
                simp only [cond_false] at hE
                subst hE
                have hgm : isGood (l.set (at_ l id).toNat (ended o day next)) = true := by simpa [isGood] using hc
                have hGm := isGood_iff hgm
                simp only [Bool.or_eq_false_iff, decide_eq_false_iff_not] at hq
                obtain ⟨a1, a2, a3⟩ := at_find.2 o hf
                have hi : (at_ l id).toNat < l.length := by omega
                have hfm : findO (l.set (at_ l id).toNat (ended o day next)) id = some (ended o day next) := by rw [find_set hf]; simp
                obtain ⟨b1, b2, b3⟩ := at_find.2 _ hfm
                have e3 : decide (at_ l id < 0) = false := decide_eq_false (by omega)
                have e4 : decide (at_ (l.set (at_ l id).toNat (ended o day next)) id < 0) = false := decide_eq_false (by omega)
                have e5 : decide (at_ l id ≥ (l.length : Int)) = false := decide_eq_false (by omega)
                have e6 : decide (at_ (l.set (at_ l id).toNat (ended o day next)) id ≥ (l.length : Int)) = false := decide_eq_false (by rw [List.length_set] at b3; omega)
                have e7 : ((ended o day next).In.Until != day) = false := by simp [ended]
                have e8 : slEqual_S (ended o day next).Next next = some true := slEqual_self hn.1
                have hh : heirF l other earlier = heirF (l.set (at_ l id).toNat (ended o day next)) other earlier := by
                  rw [heir_last hg, heir_last hgm, find_set hf]
                  cases ho : findO l other with
                  | none =>
                    have : (other == id) = false := by
                      cases hq : other == id with
                      | false => rfl
                      | true => have : other = id := by simpa using hq
                                rw [this, hf] at ho; cases ho
                    rw [this]; rfl
                  | some y =>
                    have hy := find_mem ho
                    have := before_all hG hGm hf (by omega) hlt 32 32 y hy.1 (rank_le hG _) (rank_le hGm _)
                    simp only
                    rw [this]
                    unfold prime
                    rw [hy.2]
                    cases other == id <;> rfl
                have hok' : okOffs (l.set (at_ l id).toNat (ended o day next)) := hok
                simp only [bne_self_eq_false, cond_false, pFind_eq hl.1, pFind_eq hok'.1, Option.bind_some, e3, e4, e5, e6, b1, e7, e8, Bool.not_true, pHeir_eq hl, pHeir_eq hok', List.length_set, beq_self_eq_true, cond_true, hh]
      · have e2 : decide (earlier ≥ day) = true := decide_eq_true (by omega)
        simp [e, e2]
    · have e : decide ((next.length : Int) > 10) = true := decide_eq_true (by omega)
      simp [e]
end Go.Proofs.YtmcolhhmlpicaaaDoor
