/- The end of an office: both ways of the program come to the same list; duties before that day stay. -/
import Derived.Test.YtmcolhhmlpicaaaDoorLUnb
namespace Go.Proofs.YtmcolhhmlpicaaaDoor
open Go Go.Abs

theorem cloneI_eq {s : List Int} (h : s.length ≤ 4294967296) : slCloneI_S s = some s := by
  have e : decide (([] : List Int).length + s.length ≤ 4294967296) = true := decide_eq_true (by simpa using h)
  simp only [slCloneI_S, slCloneI_F, e, cond_true, List.nil_append]
  cases s with
  | nil => rfl
  | cons a r => rfl
theorem cloneO_eq {s : List Off} (h : s.length ≤ 4294967296) : slCloneO_S s = some s := by
  have e : decide (([] : List Off).length + s.length ≤ 4294967296) = true := decide_eq_true (by simpa using h)
  simp only [slCloneO_S, slCloneO_F, e, cond_true, List.nil_append]
  cases s with
  | nil => rfl
  | cons a r => rfl
def ended (o : Off) (day : Int) (next : List Int) : Off := ⟨o.ID, o.Name, ⟨o.In.From, day⟩, next⟩
def endF (l : List Off) (id day : Int) (next : List Int) : List Off × Int :=
  bif !(isGood l) then ([], 1) else match findO l id with
    | none => ([], 7)
    | some o => bif decide (day ≤ o.In.From) || decide (o.In.Until < day) then ([], 2)
        else bif (checkF (l.set (at_ l id).toNat (ended o day next))).2 != 0 then ([], (checkF (l.set (at_ l id).toNat (ended o day next))).2) else (l.set (at_ l id).toNat (ended o day next), 0)
theorem okOffs_set {l : List Off} (h : okOffs l) {o : Off} (ho : okOff o) (i : Nat) : okOffs (l.set i o) := by
  refine ⟨by simpa using h.1, fun x hx => ?_⟩
  rcases List.mem_or_eq_of_mem_set hx with hx | rfl
  · exact h.2 x hx
  · exact ho
theorem okOff_ended {o : Off} (h : okOff o) {day : Int} (hd : okI day) {next : List Int} (hn : okInts next) : okOff (ended o day next) := ⟨h.1, h.2.1, ⟨h.2.2.1.1, hd⟩, hn⟩
theorem pend_loop {l : List Off} (h : Good l) {day : Int} {next : List Int} {y4 : Int} {r : Option (List Off × Int)} (hend : ∀ fu, pEnd_L1 day next y4 l (fu + 1) (l.length : Int) l = r) : ∀ (n i fu : Nat), l.length - i = n → i ≤ l.length → n < fu → pEnd_L1 day next y4 l fu (i : Int) l = r
  | n, i, 0, _, _, h => by omega
  | 0, i, fu + 1, hn, hi, _ => by
    have : i = l.length := by omega
    subst this
    exact hend fu
  | n + 1, i, fu + 1, hn, _, hf => by
    have hi : i < l.length := by omega
    have hlen := h.len
    have h0 : decide ((i : Int) < (l.length : Int)) = true := decide_eq_true (by omega)
    have hc := cloneI_eq (s := l[i].Next) (by have := h.few _ (List.getElem_mem hi); omega)
    simp only [pEnd_L1, List.length_map, h0, cond_true, ix_at hi, Option.bind_some, hc, wrap_succ (n := l.length) (by omega) hi, Int.toNat_natCast]
    rw [show (⟨l[i].ID, l[i].Name, l[i].In, l[i].Next⟩ : Off) = l[i] from rfl, List.set_getElem_self]
    exact pend_loop h hend n (i + 1) fu (by omega) (by omega) (by omega)
theorem pEnd_eq {l : List Off} (h : okOffs l) {id day : Int} (hd : okI day) {next : List Int} (hn : okInts next) (hn4 : next.length ≤ 4294967296) : pEnd_S l id day next = some (endF l id day next) := by
  simp only [pEnd_S, pEnd_F, pCheck_eq h, Option.bind_some, pFind_eq h.1, endF]
  cases hg : isGood l with
  | false =>
    have hb : ((checkF l).2 != 0) = true := by simp only [isGood] at hg; simp [bne, hg]
    simp [hb]
  | true =>
    have hG := isGood_iff hg
    have hlen := hG.len
    have hb : ((checkF l).2 != 0) = false := by simp only [isGood] at hg; simp [bne, hg]
    simp only [hb, cond_false, Bool.not_true]
    cases hf : findO l id with
    | none =>
      have e1 : decide (at_ l id < 0) = true := decide_eq_true ((at_find (l := l)).1.2 hf)
      simp [e1]
    | some o =>
      obtain ⟨a1, a2, a3⟩ := at_find.2 o hf
      have e1 : decide (at_ l id < 0) = false := decide_eq_false (by omega)
      simp only [e1, cond_false, a1, Option.bind_some, cloneO_eq (s := l) (by omega)]
      by_cases q1 : day ≤ o.In.From
      · simp [q1]
      · by_cases q2 : o.In.Until < day
        · simp [q1, q2]
        · have d2 : decide (day > o.In.Until) = false := decide_eq_false q2
          have hbi : (decide (day ≤ o.In.From) || decide (o.In.Until < day)) = false := by simp; omega
          have hok := okOffs_set h (okOff_ended (h.2 o (find_mem hf).1) hd hn) (at_ l id).toNat
          simp only [q1, decide_false, cond_false, d2, hbi]
          have := pend_loop hG (day := day) (next := next) (y4 := at_ l id) (fun fu => by
            have h0 : decide ((l.length : Int) < (l.length : Int)) = false := decide_eq_false (by omega)
            simp only [pEnd_L1, List.length_map, h0, cond_false, cloneI_eq hn4, Option.bind_some, a1, List.set_set]
            rw [show (⟨o.ID, o.Name, ⟨o.In.From, day⟩, next⟩ : Off) = ended o day next from rfl, pCheck_eq hok]) l.length 0 (l.length + 1) (by omega) (by omega) (by omega)
          rw [show (0 : Int) = ((0 : Nat) : Int) from rfl, this]
          simp only [Option.bind_some]
          cases (checkF (l.set (at_ l id).toNat (ended o day next))).2 != 0 <;> rfl
theorem rcopy_loop {l : List Off} (h : Good l) : ∀ (n i fu : Nat) (out : List Off), l.length - i = n → i ≤ l.length → n < fu → out.length = i → rCopy_L1 l fu (i : Int) out = some (out ++ l.drop i)
  | n, i, 0, _, _, _, h, _ => by omega
  | 0, i, fu + 1, out, hn, hi, _, _ => by
    have : i = l.length := by omega
    subst this
    have h0 : decide ((l.length : Int) < (l.length : Int)) = false := decide_eq_false (by omega)
    simp only [rCopy_L1, List.length_map, h0, cond_false, List.drop_length, List.append_nil]
  | n + 1, i, fu + 1, out, hn, _, hf, ho => by
    have hlen := h.len
    have hi : i < l.length := by omega
    have h0 : decide ((i : Int) < (l.length : Int)) = true := decide_eq_true (by omega)
    have e2 : decide (([] : List Int).length + l[i].Next.length ≤ 4294967296) = true := decide_eq_true (by have := h.few _ (List.getElem_mem hi); simp; omega)
    have e3 : ∀ a : Off, decide (out.length + ([a] : List Off).length ≤ 4294967296) = true := fun a => decide_eq_true (by simp; omega)
    simp only [rCopy_L1, List.length_map, ix_at hi, Option.bind_some, h0, cond_true, e2, e3, wrap_succ (n := l.length) (by omega) hi, List.nil_append]
    rw [rcopy_loop h n (i + 1) fu _ (by omega) (by omega) (by omega) (by simp [ho]), List.drop_eq_getElem_cons hi, List.append_assoc]
    rfl
theorem rCopy_eq {l : List Off} (h : Good l) : rCopy_S l = some l := by
  have := rcopy_loop h l.length 0 (l.length + 1) [] (by omega) (by omega) (by omega) rfl
  show rCopy_L1 l (l.length + 1) 0 [] = some l
  simpa using this
theorem rEnd_eq {l : List Off} (h : okOffs l) {id day : Int} (hd : okI day) {next : List Int} (hn : okInts next) (hn4 : next.length ≤ 4294967296) : rEnd_S l id day next = some (endF l id day next) := by
  simp only [rEnd_S, rEnd_F, rGood_eq h, Option.bind_some, rFind_eq h.1, endF]
  cases hg : isGood l with
  | false => simp
  | true =>
    have hG := isGood_iff hg
    simp only [cond_false, Bool.not_true]
    cases hf : findO l id with
    | none =>
      have e1 : decide (at_ l id < 0) = true := decide_eq_true ((at_find (l := l)).1.2 hf)
      simp [e1]
    | some o =>
      obtain ⟨a1, a2, a3⟩ := at_find.2 o hf
      have e1 : decide (at_ l id < 0) = false := decide_eq_false (by omega)
      simp only [e1, cond_false, a1, Option.bind_some, rCopy_eq hG]
      by_cases q1 : day ≤ o.In.From
      · simp [q1]
      · by_cases q2 : o.In.Until < day
        · simp [q1, q2]
        · have d2 : decide (day > o.In.Until) = false := decide_eq_false q2
          have hbi : (decide (day ≤ o.In.From) || decide (o.In.Until < day)) = false := by simp; omega
          have hok := okOffs_set h (okOff_ended (h.2 o (find_mem hf).1) hd hn) (at_ l id).toNat
          have e3 : decide (([] : List Int).length + next.length ≤ 4294967296) = true := decide_eq_true (by simpa using hn4)
          simp only [q1, decide_false, cond_false, d2, hbi, e3, cond_true, List.set_set, List.nil_append]
          rw [show (⟨o.ID, o.Name, ⟨o.In.From, day⟩, next⟩ : Off) = ended o day next from rfl, rCheck_eq hok]
          simp only [Option.bind_some]
          cases (checkF (l.set (at_ l id).toNat (ended o day next))).2 != 0 <;> rfl
theorem rSame_self {a : List Off} (h : okOffs a) : rSame_S a a = some true := by
  simp only [rSame_S, rSame_F, List.length_map, bne_self_eq_false, cond_false]
  have key : ∀ (n i fu : Nat), a.length - i = n → i ≤ a.length → n < fu → rSame_L1 a a fu (i : Int) = some true := by
    intro n
    induction n with
    | zero =>
      intro i fu hn hi hf
      obtain ⟨fu, rfl⟩ : ∃ g, fu = g + 1 := ⟨fu - 1, by omega⟩
      have : i = a.length := by omega
      subst this
      have h0 : decide ((a.length : Int) < (a.length : Int)) = false := decide_eq_false (by omega)
      simp only [rSame_L1, List.length_map, h0, cond_false]
    | succ n ih =>
      intro i fu hn hi hf
      obtain ⟨fu, rfl⟩ : ∃ g, fu = g + 1 := ⟨fu - 1, by omega⟩
      have hi' : i < a.length := by omega
      have h0 : decide ((i : Int) < (a.length : Int)) = true := decide_eq_true (by omega)
      simp only [rSame_L1, List.length_map, ix_at hi', Option.bind_some, h0, cond_true, wrap_succ h.1 hi', bne_self_eq_false, cond_false, beq_self_eq_true, Bool.not_true, sameInts_eq (h.2 _ (List.getElem_mem hi')).2.2.2.1, ih (i + 1) fu (by omega) (by omega) (by omega)]
  have := key a.length 0 (a.length + 1) (by omega) (by omega) (by omega)
  simpa using this
theorem endF_ok {l : List Off} (h : okOffs l) {id day : Int} (hd : okI day) {next : List Int} (hn : okInts next) : okOffs (endF l id day next).1 := by
  have h0 : okOffs [] := ⟨by simp, by simp⟩
  unfold endF
  cases isGood l with
  | false => exact h0
  | true =>
    simp only [Bool.not_true, cond_false]
    cases hf : findO l id with
    | none => exact h0
    | some o =>
      simp only
      cases decide (day ≤ o.In.From) || decide (o.In.Until < day) with
      | true => exact h0
      | false =>
        simp only [cond_false]
        cases (checkF (l.set (at_ l id).toNat (ended o day next))).2 != 0 with
        | true => exact h0
        | false => exact okOffs_set h (okOff_ended (h.2 o (find_mem hf).1) hd hn) _
theorem officeEnds.law (l : List Off) (id day : Int) (next : List Int) (hl : okOffs l) (_ : okI id) (hd : okI day) (hn : okInts next) : lOfficeEnds_S l id day next = some true := by
  simp only [lOfficeEnds_S, lOfficeEnds_F, awake_true, Option.bind_some, Bool.not_true, cond_false, rFew_eq hl, List.length_map]
  cases fewO l with
  | false => rfl
  | true =>
    simp only [Bool.not_true, cond_false]
    by_cases h10 : next.length ≤ 10
    · have e : decide ((next.length : Int) > 10) = false := decide_eq_false (by omega)
      simp only [e, cond_false, pEnd_eq hl hd hn (by omega), rEnd_eq hl hd hn (by omega), Option.bind_some, rSame_self (endF_ok hl hd hn), cond_true, beq_self_eq_true]
    · have e : decide ((next.length : Int) > 10) = true := decide_eq_true (by omega)
      simp [e]
end Go.Proofs.YtmcolhhmlpicaaaDoor
