/- A chain is unbroken; the duties are with at most one. -/
import Derived.Test.YtmcolhhmlpicaaaDoorLReach
namespace Go.Proofs.YtmcolhhmlpicaaaDoor
open Go Go.Abs

structure CProp (l : List Off) (day : Int) (o : Off) (c : List Off) : Prop where
  ne : c ≠ []
  hd : c.head? = some o
  mem : ∀ x ∈ c, x ∈ l ∧ Rch l o.ID x.ID
  fin : ∀ (i : Nat) (hi : i < c.length), i + 1 = c.length → stop day c[i] = true
  nxt : ∀ (i : Nat) (hi : i + 1 < c.length), stop day c[i] = false ∧ c[i + 1] = succ1 l c[i]
theorem found_self {l : List Off} (h : Good l) {x : Off} (hx : x ∈ l) : found l x.ID = x := by simp [found, h.find hx]
theorem chain_prop {l : List Off} (h : Good l) (day : Int) : ∀ (n : Nat) (o : Off), o ∈ l → rank l o ≤ n → CProp l day o (chainN l day n o)
  | 0, o, ho, hr => by have := rank_pos ho; omega
  | n + 1, o, ho, hr => by
    simp only [chainN]
    cases hs : stop day o with
    | true => exact ⟨by simp, rfl, fun x hx => by simp at hx; subst hx; exact ⟨ho, .refl⟩, fun i hi he => by simp at hi; subst hi; exact hs, fun i hi => by simp at hi⟩
    | false =>
      have hne : o.Next ≠ [] := by simp only [stop, Bool.or_eq_false_iff] at hs; simpa using hs.2
      obtain ⟨q1, q2, q3, q4⟩ := succ1_in h ho hne
      have ih := chain_prop h day n (succ1 l o) q1 (by omega)
      have hstep : (succ1 l o).ID ∈ (found l o.ID).Next := by rw [found_self h ho, q2]; exact head_mem hne
      refine ⟨by simp, rfl, fun x hx => ?_, fun i hi he => ?_, fun i hi => ?_⟩
      · rcases List.mem_cons.1 hx with rfl | hx
        · exact ⟨ho, .refl⟩
        · exact ⟨(ih.mem x hx).1, Rch.head hstep (ih.mem x hx).2⟩
      · cases i with
        | zero => simp at he; exact absurd he ih.ne
        | succ i => simp at hi he ⊢; exact ih.fin i hi (by omega)
      · cases i with
        | zero =>
          refine ⟨hs, ?_⟩
          have := ih.hd
          rw [List.head?_eq_getElem?] at this
          simp only [cond_false, List.getElem_cons_succ, List.getElem_cons_zero]
          have h0 : 0 < (chainN l day n (succ1 l o)).length := List.length_pos_iff.2 ih.ne
          rw [List.getElem?_eq_getElem h0] at this
          exact Option.some.inj this
        | succ i => simp only [cond_false, List.length_cons] at hi ⊢; exact ih.nxt i (by omega)
theorem chain_ids {l : List Off} (h : Good l) {day : Int} {o : Off} {c : List Off} (hc : CProp l day o c) : (c.map Off.ID).Nodup := by
  have hp : c.Pairwise fun a b => a.In.From < b.In.From := pairwise_of_next (fun a b : Off => a.In.From < b.In.From) (fun a b c h1 h2 => Int.lt_trans h1 h2) c fun i hi => by
    obtain ⟨h1, h2⟩ := hc.nxt i hi
    have hm := (hc.mem _ (List.getElem_mem (show i < c.length by omega))).1
    have hne : c[i].Next ≠ [] := by simp only [stop, Bool.or_eq_false_iff] at h1; simpa using h1.2
    have := (succ1_in h hm hne).2.2.1
    have := h.span _ hm
    rw [h2]; omega
  rw [List.nodup_iff_pairwise_ne, List.pairwise_map]
  refine List.Pairwise.imp_of_mem (fun {a b} ha hb hab e => ?_) hp
  have h1 := h.find (hc.mem a ha).1
  have h2 := h.find (hc.mem b hb).1
  rw [e, h2] at h1
  have : b = a := Option.some.inj h1
  rw [this] at hab; omega
theorem unb_loop {l : List Off} (hl : okOffs l) (h : Good l) {day : Int} {o : Off} {c : List Off} (hc : CProp l day o c) (hlen : c.length ≤ 33) {reach : List Int} (hr : reach.length ≤ 32) (hin : ∀ x ∈ c, x.ID ∈ reach) : ∀ (n i fu : Nat), c.length - i = n → i < c.length → n ≤ fu →
    lOfficeUnbroken_L1 l day (c.map Off.ID) reach fu (i : Int) = some true
  | n, i, 0, hn, hi, hf => by omega
  | n, i, fu + 1, hn, hi, hf => by
    have hnd := chain_ids h hc
    have him : i < (c.map Off.ID).length := by simpa using hi
    have hm := (hc.mem _ (List.getElem_mem hi)).1
    have hf1 := h.find hm
    obtain ⟨a1, a2, a3⟩ := at_find.2 _ hf1
    have e0 : decide ((i : Int) < (c.length : Int)) = true := decide_eq_true (by omega)
    have e1 : decide (at_ l c[i].ID < 0) = false := decide_eq_false (by omega)
    have e2 : decide (at_ l c[i].ID ≥ (l.length : Int)) = false := decide_eq_false (by omega)
    have e3 : slContains_S ((c.map Off.ID).take i) c[i].ID = some false := by
      rw [slContains_eq (by simp; omega)]
      congr 1
      rw [List.any_eq_false]
      intro x hx he
      have he' : c[i].ID = x := by simpa using he
      rw [List.mem_take_iff_getElem] at hx
      obtain ⟨j, hj, hjx⟩ := hx
      have hji : j < i := by omega
      have := List.pairwise_iff_getElem.1 (List.nodup_iff_pairwise_ne.1 hnd) j i (by omega) him hji
      rw [hjx] at this
      apply this
      rw [← he']; simp
    have e4 : slContains_S reach c[i].ID = some true := by
      rw [slContains_eq (by omega)]
      congr 1
      rw [List.any_eq_true]
      exact ⟨c[i].ID, hin _ (List.getElem_mem hi), by simp⟩
    have e5 : IntKind.i64.wrap ((((c.map Off.ID).map cInt).length : Int) - 1) = (c.length : Int) - 1 := by
      rw [wrap_id (by unfold okI; simp; omega)]; simp
    have e6 : ((i : Int) == (c.length : Int) - 1) = decide (i + 1 = c.length) := by
      rw [Bool.eq_iff_iff]; simp; omega
    have hidx : (c.map Off.ID)[i] = c[i].ID := by simp
    have e7 := pFind_eq hl.1 c[i].ID
    have hsl := slc_take (l := c.map Off.ID) (i := i) (by omega)
    simp only [lOfficeUnbroken_L1, e5]
    simp only [List.length_map, e0, cond_true, ix_at him, Option.bind_some, hidx, e7, e1, cond_false, e2, hsl, e3, e4, Bool.not_true, a1, e6]
    by_cases hlast : i + 1 = c.length
    · have hs := hc.fin i hi hlast
      simp only [stop, Bool.or_eq_true] at hs
      have d1 : decide (i + 1 = c.length) = true := decide_eq_true hlast
      simp only [d1, cond_true]
      by_cases q1 : c[i].In.From ≤ day
      · by_cases q2 : day < c[i].In.Until
        · simp [q1, q2]
        · have : onSpan c[i].In day = false := by simp [onSpan, q2]
          rw [this] at hs
          simp at hs
          simp [q1, q2, hs]
      · have : onSpan c[i].In day = false := by simp [onSpan, q1]
        rw [this] at hs
        simp at hs
        simp [q1, hs]
    · have d1 : decide (i + 1 = c.length) = false := decide_eq_false hlast
      have hi1 : i + 1 < c.length := by omega
      obtain ⟨hs, hn1⟩ := hc.nxt i hi1
      simp only [stop, Bool.or_eq_false_iff] at hs
      have hne : c[i].Next ≠ [] := by simpa using hs.2
      obtain ⟨q1, q2, q3, q4⟩ := succ1_in h hm hne
      have him1 : i + 1 < (c.map Off.ID).length := by simpa using hi1
      have hidx1 : (c.map Off.ID)[i + 1] = (succ1 l c[i]).ID := by simp [hn1]
      obtain ⟨b1, b2, b3⟩ := at_find.2 _ (h.find q1)
      have e8 : decide (at_ l (succ1 l c[i]).ID < 0) = false := decide_eq_false (by omega)
      have e9 : decide (at_ l (succ1 l c[i]).ID ≥ (l.length : Int)) = false := decide_eq_false (by omega)
      have hw : IntKind.i64.wrap ((i : Int) + 1) = ((i + 1 : Nat) : Int) := wrap_succ (n := 33) (by omega) (by omega)
      have e10 : (c[i].Next.headD 0 != (succ1 l c[i]).ID) = false := by simp [q2]
      have e12 : ((c[i].Next.length : Int) == 0) = false := by
        have := List.length_pos_iff.2 hne
        cases hq : ((c[i].Next.length : Int) == 0) with
        | false => rfl
        | true => have : (c[i].Next.length : Int) = 0 := by simpa using hq
                  omega
      have e11 : ((succ1 l c[i]).In.From != c[i].In.Until) = false := by simp [q3]
      have ih := unb_loop hl h hc hlen hr hin (n - 1) (i + 1) fu (by omega) hi1 (by omega)
      simp only [d1, cond_false, hw, ix_at him1, hidx1, Option.bind_some, pFind_eq hl.1, ix_zero hne, e10, e8, e9, b1, e11, e12, ih]
      by_cases q5 : c[i].In.From ≤ day
      · have : ¬ (day < c[i].In.Until) := fun q6 => by have := hs.1; simp [onSpan, q5, q6] at this
        simp only [q5, this, decide_true, decide_false, cond_true, cond_false]
      · simp only [q5, decide_false, cond_false]
theorem officeUnbroken.law (l : List Off) (id day : Int) (hl : okOffs l) (_ : okI id) (_ : okI day) : lOfficeUnbroken_S l id day = some true := by
  obtain ⟨h1, h2, h3, h4, h5⟩ := reach_both hl id
  simp only [lOfficeUnbroken_S, lOfficeUnbroken_F, awake_true, Option.bind_some, Bool.not_true, cond_false, rFew_eq hl, pChain_eq hl, pCheck_eq hl, pFind_eq hl.1, h1]
  cases fewO l with
  | false => rfl
  | true =>
    simp only [Bool.not_true, cond_false]
    cases hg : isGood l with
    | false =>
      have hb : ((checkF l).2 != 0) = true := by simp only [isGood] at hg; simp [bne, hg]
      have hc : chn l id day = [] := by simp [chn, hg]
      have hr : reachF l id = [] := h5 (by simp [hg])
      simp [hb, hc, hr]
    | true =>
      have hG := isGood_iff hg
      have hb : ((checkF l).2 != 0) = false := by simp only [isGood] at hg; simp [bne, hg]
      simp only [hb, cond_false]
      cases hf : findO l id with
      | none =>
        have ha := (at_find (l := l)).1.2 hf
        have e1 : decide (at_ l id < 0) = true := decide_eq_true ha
        have hc : chn l id day = [] := by simp [chn, hg, hf]
        have hr : reachF l id = [] := h5 (by simp [hf])
        simp [e1, hc, hr]
      | some o =>
        have ho := find_mem hf
        have ha := (at_find.2 o hf).2.1
        have e1 : decide (at_ l id < 0) = false := decide_eq_false (by omega)
        have hc : chn l id day = chainN l day 32 o := by simp [chn, hg, hf]
        have hp := chain_prop hG day 32 o ho.1 (rank_le hG o)
        have hpos : 0 < (chainN l day 32 o).length := List.length_pos_iff.2 hp.ne
        have h0 : (((((chainN l day 32 o).map Off.ID).map cInt).length : Int) == 0) = false := by simpa using hp.ne
        have hh : ix ((chainN l day 32 o).map Off.ID) 0 = some id := by
          have := hp.hd
          rw [List.head?_eq_getElem?, List.getElem?_eq_getElem hpos] at this
          have h0' : ix ((chainN l day 32 o).map Off.ID) ((0 : Nat) : Int) = _ := ix_at (by simpa using hpos)
          rw [show (0 : Int) = ((0 : Nat) : Int) from rfl, h0']
          simp only [List.getElem_map, Option.some.inj this, ho.2]
        simp only [e1, cond_false, hc, h0, hh, Option.bind_some, bne_self_eq_false]
        have hmem := h4 hg (by simp [hf])
        have := unb_loop hl hG hp (chain_len l day 32 o) h3 (fun x hx => (hmem x.ID).2 (by rw [← ho.2]; exact (hp.mem x hx).2)) (chainN l day 32 o).length 0 1000 (by omega) hpos (by have := chain_len l day 32 o; omega)
        simpa using this
end Go.Proofs.YtmcolhhmlpicaaaDoor
