/- The plain laws of archivumlaw23.AuthorityRenames and AuthorityEnds. -/
import Derived.Test.YtgpojnenbmlcbaaDoorLChange
import Derived.Test.YtgpojnenbmlcbaaDoorGF
namespace Go.Proofs.YtgpojnenbmlcbaaDoor
open Go Go.Abs

theorem rename_cases (l : List Aut) (id day : Int) (text : Str) : ((renameF l id day text).2 ≠ 0 ∧ (renameF l id day text).1 = []) ∨ (asksF l day = 0 ∧ nameOk text = true ∧ ∃ (k : Nat) (hk : k < l.length), findA l id = some l[k] ∧ l[k].ID = id ∧ onSpan l[k].In day = true ∧ (lastN l[k]).In.From < day ∧ l[k].Names.length < 16 ∧ renameF l id day text = (l.set k (renamed l[k] day text), 0)) := by
  unfold renameF
  cases ha : asksF l day != 0 with
  | true => exact .inl ⟨by simpa using ha, rfl⟩
  | false =>
    cases hn : nameOk text with
    | false => exact .inl ⟨by simp, rfl⟩
    | true =>
      cases hq : findA l id with
      | none => exact .inl ⟨by simp, rfl⟩
      | some a =>
        obtain ⟨k, hk, rfl, hi, hid⟩ := find_at hq
        simp only [Bool.not_true, cond_false]
        cases ho : onSpan l[k].In day with
        | false => exact .inl ⟨by simp, rfl⟩
        | true =>
          by_cases h1 : (lastN l[k]).In.From ≥ day
          · rw [decide_eq_true h1]; exact .inl ⟨by simp, rfl⟩
          · by_cases h2 : l[k].Names.length ≥ 16
            · rw [decide_eq_false h1, decide_eq_true h2]; exact .inl ⟨by simp, rfl⟩
            · refine .inr ⟨by simpa using ha, trivial, k, hk, rfl, hid, ho, by omega, by omega, ?_⟩
              rw [decide_eq_false h1, decide_eq_false h2, hi]; rfl
theorem end_cases (l : List Aut) (id day : Int) : ((endF l id day).2 ≠ 0 ∧ (endF l id day).1 = []) ∨ (asksF l day = 0 ∧ ∃ (k : Nat) (hk : k < l.length), findA l id = some l[k] ∧ l[k].ID = id ∧ day ≠ 0 ∧ onSpan l[k].In (day - 1) = true ∧ l[k].Next = [] ∧ (lastN l[k]).In.From < day ∧ endF l id day = (l.set k (ended l[k] day), 0)) := by
  unfold endF
  cases ha : asksF l day != 0 with
  | true => exact .inl ⟨by simpa using ha, rfl⟩
  | false =>
    cases hq : findA l id with
    | none => exact .inl ⟨by simp, rfl⟩
    | some a =>
      obtain ⟨k, hk, rfl, hi, hid⟩ := find_at hq
      simp only [cond_false]
      cases hd : day == 0 with
      | true => exact .inl ⟨by simp, rfl⟩
      | false => cases ho : onSpan l[k].In (day - 1) with
        | false => exact .inl ⟨by simp, rfl⟩
        | true => cases hw : follows l id l[k] with
          | true => exact .inl ⟨by simp, rfl⟩
          | false =>
            by_cases h1 : (lastN l[k]).In.From ≥ day
            · rw [decide_eq_true h1]; exact .inl ⟨by simp, rfl⟩
            · refine .inr ⟨by simpa using ha, k, hk, rfl, hid, by simpa using hd, ho, ?_, by omega, ?_⟩
              · simp only [follows, Bool.or_eq_false_iff, decide_eq_false_iff_not] at hw
                exact List.length_eq_zero_iff.1 (by omega)
              · rw [decide_eq_false h1, hi]; rfl
theorem names_snoc {a : Aut} (h : 0 < a.Names.length) : ∃ i, a.Names = i ++ [lastN a] ∧ ∀ y, a.Names.set (a.Names.length - 1) y = i ++ [y] := by
  rcases List.eq_nil_or_concat a.Names with h0 | ⟨i, z, hz⟩
  · rw [h0] at h; simp at h
  · have hz' : a.Names = i ++ [z] := by rw [hz, List.concat_eq_append]
    have hl : lastN a = z := by unfold lastN; rw [hz']; simp
    refine ⟨i, by rw [hl]; exact hz', fun y => ?_⟩
    rw [hz']
    simp
def textOn (n : List Nam) (day : Int) : Option Str := (n.find? fun x => onSpan x.In day).map (·.Text)
theorem textOn_app (i r : List Nam) (day : Int) : textOn (i ++ r) day = (textOn i day).or (textOn r day) := by
  unfold textOn
  rw [List.find?_append]
  cases i.find? (fun x => onSpan x.In day) <;> simp
theorem textOn_one (x : Nam) (day : Int) : textOn [x] day = if onSpan x.In day = true then some x.Text else none := by
  unfold textOn
  cases h : onSpan x.In day <;> simp [h]
theorem onSpan_cut {z : Nam} {day d : Int} (h : d < day) : onSpan (cutN z day).In d = onSpan z.In d := by
  unfold onSpan cutN
  simp only
  rw [show decide (d < if day < z.In.Until then day else z.In.Until) = decide (d < z.In.Until) by rw [decide_eq_decide]; split <;> omega]
theorem textOn_cut {z : Nam} {day d : Int} (h : d < day) : textOn [cutN z day] d = textOn [z] d := by
  rw [textOn_one, textOn_one, onSpan_cut h]; rfl
theorem onSpan_iff {x : Span} {d : Int} : onSpan x d = true ↔ x.From ≤ d ∧ d < x.Until := by
  simp only [onSpan, Bool.and_eq_true, decide_eq_true_eq]
theorem spanOk_iff {x : Span} : spanOk x = true ↔ 0 ≤ x.From ∧ x.From < x.Until ∧ x.Until ≤ 1048576 := by
  simp only [spanOk, Bool.and_eq_true, decide_eq_true_eq]
theorem nameF_same {l m : List Aut} {x d : Int} {a b : Aut} (h1 : asksF m d = asksF l d) (h2 : findA l x = some a) (h3 : findA m x = some b) (h4 : onSpan b.In d = onSpan a.In d) (h5 : textOn b.Names d = textOn a.Names d) : nameF m x d = nameF l x d := by
  unfold nameF
  rw [h1, h2, h3]
  simp only [h4]
  have h5' : (onF b d).map (·.Text) = (onF a d).map (·.Text) := h5
  revert h5'
  cases onF b d <;> cases onF a d <;> intro h5' <;> first | rfl | (simp at h5'; try simp only [h5'])
theorem nameF_none {l m : List Aut} {x d : Int} (h1 : asksF m d = asksF l d) (h2 : findA m x = findA l x) : nameF m x d = nameF l x d := by
  unfold nameF
  rw [h1, h2]
theorem cut_facts {z : Nam} {day : Int} (h1 : z.In.From < day) (h2 : spanOk z.In = true) : spanOk (cutN z day).In = true ∧ (cutN z day).In.Until ≤ day ∧ (cutN z day).In.Until ≤ z.In.Until ∧ (cutN z day).In.From = z.In.From := by
  rw [spanOk_iff] at h2 ⊢
  by_cases h : day < z.In.Until
  · have e : cutN z day = ⟨z.Text, ⟨z.In.From, day⟩⟩ := by unfold cutN; rw [if_pos h]
    rw [e]
    exact ⟨⟨h2.1, h1, by show day ≤ 1048576; omega⟩, Int.le_refl _, by show day ≤ z.In.Until; omega, rfl⟩
  · have e : cutN z day = z := by unfold cutN; rw [if_neg h]
    rw [e]
    exact ⟨h2, by omega, Int.le_refl _, rfl⟩
/-- The names of an authority whose last name is cut. -/
theorem cut_names {a : Aut} (hn : namesF a = 0) {day : Int} (h1 : (lastN a).In.From < day) : ∃ i, a.Names = i ++ [lastN a] ∧ (∀ y, a.Names.set (a.Names.length - 1) y = i ++ [y]) ∧ Sorted (i ++ [cutN (lastN a) day]) ∧ (∀ x ∈ i ++ [cutN (lastN a) day], nameOk x.Text = true ∧ spanOk x.In = true ∧ a.In.From ≤ x.In.From ∧ x.In.Until ≤ a.In.Until ∧ x.In.Until ≤ day) ∧ i.length + 1 = a.Names.length := by
  obtain ⟨g1, g2, g3, g4⟩ := names_good hn
  obtain ⟨i, hi, hset⟩ := names_snoc g2
  rw [sorted_iff, hi, List.pairwise_append] at g3
  rw [hi] at g4
  have hz := g4 (lastN a) (by simp)
  obtain ⟨c1, c2, c3, c4⟩ := cut_facts h1 hz.2.1
  have hall : ∀ x ∈ i ++ [cutN (lastN a) day], nameOk x.Text = true ∧ spanOk x.In = true ∧ a.In.From ≤ x.In.From ∧ x.In.Until ≤ a.In.Until ∧ x.In.Until ≤ day := fun x hx => by
    rcases List.mem_append.1 hx with hx | hx
    · obtain ⟨q1, q2, q3, q4⟩ := g4 x (List.mem_append_left _ hx)
      have := g3.2.2.2 x hx (lastN a) (by simp)
      exact ⟨q1, q2, q3, q4, by omega⟩
    · obtain rfl := List.mem_singleton.1 hx
      exact ⟨hz.1, c1, by omega, by omega, c2⟩
  refine ⟨i, hi, hset, sorted_iff.2 ⟨fun x hx => (spanOk_iff.1 (hall x hx).2.1).2.1, List.pairwise_append.2 ⟨g3.2.1, by simp, fun x hx y hy => ?_⟩⟩, hall, ?_⟩
  · obtain rfl := List.mem_singleton.1 hy
    rw [c4]
    exact g3.2.2.2 x hx (lastN a) (by simp)
  · rw [hi]; simp
theorem fewOf_of {a : Aut} (h1 : a.Names.length ≤ 17) (h2 : a.Next.length ≤ 17) (h3 : ∀ n ∈ a.Names, n.Text.length ≤ 100) : fewOf a = true := by
  simp only [fewOf, Bool.and_eq_true, List.all_eq_true, decide_eq_true_eq]
  exact ⟨h3, h1, h2⟩
theorem few_set {l : List Aut} (h : few l = true) {k : Nat} {a : Aut} (ha : fewOf a = true) : few (l.set k a) = true := by
  simp only [few, Bool.and_eq_true, List.all_eq_true, List.length_set] at h ⊢
  refine ⟨fun x hx => ?_, h.2⟩
  rcases List.mem_or_eq_of_mem_set hx with hx | rfl
  · exact h.1 x hx
  · exact ha
theorem ok_set {l : List Aut} (h : okAuts l) {k : Nat} {a : Aut} (ha : okAut a) : okAuts (l.set k a) := by
  refine ⟨by rw [List.length_set]; exact h.1, fun x hx => ?_⟩
  rcases List.mem_or_eq_of_mem_set hx with hx | rfl
  · exact h.2 x hx
  · exact ha
theorem nameOk_len {s : Str} (h : nameOk s = true) : s.length ≤ 64 := by
  simp only [nameOk, Bool.and_eq_true, decide_eq_true_eq] at h
  exact h.2.1
theorem ok_small {x : Nam} (h1 : nameOk x.Text = true) (h2 : spanOk x.In = true) : okNam x := by
  have := nameOk_len h1
  rw [spanOk_iff] at h2
  refine ⟨by omega, ?_, ?_⟩ <;> unfold okI <;> omega
theorem asks_same {l m : List Aut} (h1 : (checkF l).2 = 0) (h2 : checkF m = (-1, 0)) (d : Int) : asksF m d = asksF l d := by
  unfold asksF
  rw [h1, h2]

theorem authorityRenames.law (l : List Aut) (id day : Int) (text : Str) (other at_ : Int) (hl : okAuts l) (_ : okI id) (_ : okI day) (_ : okS text) (_ : okI other) (_ : okI at_) : lAuthorityRenames_S l id day text other at_ = some true := by
  simp only [lAuthorityRenames_S, lAuthorityRenames_F, awake_true, Option.bind_some, Bool.not_true, cond_false, rFew_eq hl]
  cases hf : few l with
  | false => rfl
  | true =>
    simp only [Bool.not_true, cond_false]
    cases decide ((text.length : Int) > 100) with
    | true => rfl
    | false =>
      simp only [cond_false, rCopy_eq hf, Option.bind_some, pRename_eq hl hf]
      rcases rename_cases l id day text with ⟨h1, h2⟩ | ⟨ha, hn, k, hk, hq, hid, ho, hlast, h16, hR⟩
      · rw [show ((renameF l id day text).2 != 0) = true by simpa using h1, h2]; rfl
      · rw [hR]
        obtain ⟨hr, hd0, hd1⟩ := asks_right ha
        have hal := alone_good ((check_good hr).2.1 k hk)
        have hok := hl.2 _ (List.getElem_mem hk)
        have hfw := fewOf_names (few_mem hf (List.getElem_mem hk))
        obtain ⟨i, hi, hset, hsort, hall, hlen⟩ := cut_names hal.2.2.1 hlast
        have hsp : spanOk l[k].In = true := by
          have := hal.1; simp only [idKind, Bool.and_eq_true] at this; exact this.2.2
        have hsp' := spanOk_iff.1 hsp
        have ho' := onSpan_iff.1 ho
        have hnames : (renamed l[k] day text).Names = i ++ [cutN (lastN l[k]) day] ++ [⟨text, ⟨day, l[k].In.Until⟩⟩] := by
          show l[k].Names.set _ _ ++ _ = _
          rw [hset]
        have hall' : ∀ x ∈ (renamed l[k] day text).Names, nameOk x.Text = true ∧ spanOk x.In = true ∧ l[k].In.From ≤ x.In.From ∧ x.In.Until ≤ l[k].In.Until := fun x hx => by
          rw [hnames] at hx
          rcases List.mem_append.1 hx with hx | hx
          · have := hall x hx; exact ⟨this.1, this.2.1, this.2.2.1, this.2.2.2.1⟩
          · obtain rfl := List.mem_singleton.1 hx
            exact ⟨hn, spanOk_iff.2 ⟨hd0, ho'.2, hsp'.2.2⟩, ho'.1, Int.le_refl _⟩
        have hlen' : (renamed l[k] day text).Names.length = l[k].Names.length + 1 := by rw [hnames]; simp; omega
        have hsort' : Sorted (renamed l[k] day text).Names := by
          rw [hnames, sorted_iff]
          refine ⟨fun x hx => ?_, List.pairwise_append.2 ⟨(sorted_iff.1 hsort).2, by simp, fun x hx y hy => ?_⟩⟩
          · rw [← hnames] at hx; exact (spanOk_iff.1 (hall' x hx).2.1).2.1
          · obtain rfl := List.mem_singleton.1 hy
            exact (hall x hx).2.2.2.2
        have hnm : namesF (renamed l[k] day text) = 0 := names_of (by omega) (by omega) hsort' hall'
        have hchk := check_set hr hk (a' := renamed l[k] day text) rfl rfl rfl hsp hnm rfl (.inr rfl)
        have hfm : few (l.set k (renamed l[k] day text)) = true := few_set hf (fewOf_of (by omega) hfw.2.1 fun n hn => by have := nameOk_len (hall' n hn).1; omega)
        have hom : okAuts (l.set k (renamed l[k] day text)) := ok_set hl ⟨hok.1, hok.2.1, hok.2.2.1, ⟨by omega, fun n hn => ok_small (hall' n hn).1 (hall' n hn).2.1⟩, hok.2.2.2.2⟩
        have hfind := fun x => findA_set (a' := renamed l[k] day text) x (right_sorted hr) hk rfl
        simp only [bne_self_eq_false, cond_false, rCopy_eq hfm, Option.bind_some, pCheck_eq hom hfm, hchk, List.length_map, List.length_set, pName_eq hl hf, pName_eq hom hfm, pFind_eq hom hfm]
        have hsame := asks_same hr hchk at_
        by_cases hoth : other = id
        · subst hoth
          have hq' : findA (l.set k (renamed l[k] day text)) other = some (renamed l[k] day text) := by rw [hfind, if_pos hid.symm]
          simp only [bne_self_eq_false, cond_false]
          by_cases hat : at_ < day
          · rw [nameF_same hsame hq hq' rfl (by
              rw [hnames, hi, textOn_app, textOn_app, textOn_app, textOn_cut hat, textOn_one ⟨text, _⟩, if_neg (fun hc => by have := (onSpan_iff.1 hc).1; exact absurd this (by show ¬ day ≤ at_; omega))]
              cases textOn i at_ <;> cases textOn [lastN l[k]] at_ <;> rfl), decide_eq_true hat]
            simp
          · rw [decide_eq_false hat]
            have hfd : found (l.set k (renamed l[k] day text)) other = renamed l[k] day text := by unfold found; rw [hq']; rfl
            have hgn : gone (l.set k (renamed l[k] day text)) other = false := by unfold gone; rw [hq']; rfl
            rw [hfd, hgn]
            simp only [cond_false, Bool.not_false, Bool.not_true]
            unfold nameF
            rw [hq']
            by_cases hmax : at_ > 1048575
            · have : asksF (l.set k (renamed l[k] day text)) at_ = 2 := by
                rw [hsame]; unfold asksF; rw [hr, decide_eq_false (show ¬ at_ ≤ 1048575 by omega)]; simp
              rw [decide_eq_true hmax, this]; rfl
            · have h0 : asksF (l.set k (renamed l[k] day text)) at_ = 0 := by
                rw [hsame]; unfold asksF; rw [hr, decide_eq_true (show at_ ≤ 1048575 by omega), decide_eq_true (show 0 ≤ at_ by omega)]; simp
              rw [decide_eq_false hmax, h0]
              simp only [bne_self_eq_false, cond_false]
              have hIn : (renamed l[k] day text).In = l[k].In := rfl
              rw [hIn]
              by_cases hu : at_ ≥ l[k].In.Until
              · have : onSpan l[k].In at_ = false := by
                  unfold onSpan; rw [decide_eq_false (show ¬ at_ < l[k].In.Until by omega)]; simp
                rw [decide_eq_true hu, this]; rfl
              · have h1 : onSpan l[k].In at_ = true := onSpan_iff.2 (by omega)
                have h2 : onF (renamed l[k] day text) at_ = some ⟨text, ⟨day, l[k].In.Until⟩⟩ := by
                  unfold onF
                  rw [hnames, List.find?_append]
                  have : (i ++ [cutN (lastN l[k]) day]).find? (fun x => onSpan x.In at_) = none := by
                    rw [List.find?_eq_none]
                    intro x hx hc
                    have q1 := (hall x hx).2.2.2.2
                    have q2 := (onSpan_iff.1 hc).2
                    omega
                  rw [this, Option.none_or]
                  exact List.find?_cons_of_pos (p := fun x : Nam => onSpan x.In at_) (a := ⟨text, ⟨day, l[k].In.Until⟩⟩) (onSpan_iff.2 (show day ≤ at_ ∧ at_ < l[k].In.Until by omega))
                rw [decide_eq_false hu, h1, h2]
                simp
        · have hne : (other != id) = true := by simpa using hoth
          rw [nameF_none hsame (by rw [hfind, if_neg (by omega)]), hne]
          simp
theorem authorityEnds.law (l : List Aut) (id day other at_ : Int) (hl : okAuts l) (_ : okI id) (hday : okI day) (_ : okI other) (_ : okI at_) : lAuthorityEnds_S l id day other at_ = some true := by
  simp only [lAuthorityEnds_S, lAuthorityEnds_F, awake_true, Option.bind_some, Bool.not_true, cond_false, rFew_eq hl]
  cases hf : few l with
  | false => rfl
  | true =>
    simp only [Bool.not_true, cond_false, rCopy_eq hf, Option.bind_some, pEnd_eq hl hf id hday]
    rcases end_cases l id day with ⟨h1, h2⟩ | ⟨ha, k, hk, hq, hid, hd, ho, hnx, hlast, hR⟩
    · rw [show ((endF l id day).2 != 0) = true by simpa using h1, h2]; rfl
    · rw [hR]
      obtain ⟨hr, hd0, hd1⟩ := asks_right ha
      have hal := alone_good ((check_good hr).2.1 k hk)
      have hok := hl.2 _ (List.getElem_mem hk)
      have hfw := fewOf_names (few_mem hf (List.getElem_mem hk))
      obtain ⟨i, hi, hset, hsort, hall, hlen⟩ := cut_names hal.2.2.1 hlast
      have hg := names_good hal.2.2.1
      have hsp : spanOk l[k].In = true := by
        have := hal.1; simp only [idKind, Bool.and_eq_true] at this; exact this.2.2
      have hsp' := spanOk_iff.1 hsp
      have ho' := onSpan_iff.1 ho
      have hnames : (ended l[k] day).Names = i ++ [cutN (lastN l[k]) day] := by
        show l[k].Names.set _ _ = _
        rw [hset]
      have hall' : ∀ x ∈ (ended l[k] day).Names, nameOk x.Text = true ∧ spanOk x.In = true ∧ l[k].In.From ≤ x.In.From ∧ x.In.Until ≤ day := fun x hx => by
        rw [hnames] at hx
        have := hall x hx; exact ⟨this.1, this.2.1, this.2.2.1, this.2.2.2.2⟩
      have hlen' : (ended l[k] day).Names.length = l[k].Names.length := by rw [hnames]; simp; omega
      have hsort' : Sorted (ended l[k] day).Names := by rw [hnames]; exact hsort
      have hnm : namesF (ended l[k] day) = 0 := names_of (by omega) (by omega) hsort' hall'
      have hsp2 : spanOk (ended l[k] day).In = true := spanOk_iff.2 (show 0 ≤ l[k].In.From ∧ l[k].In.From < day ∧ day ≤ 1048576 by omega)
      have hchk := check_set hr hk (a' := ended l[k] day) rfl rfl rfl hsp2 hnm rfl (.inl hnx)
      have hfm : few (l.set k (ended l[k] day)) = true := few_set hf (fewOf_of (by omega) hfw.2.1 fun n hn => by have := nameOk_len (hall' n hn).1; omega)
      have hom : okAuts (l.set k (ended l[k] day)) := ok_set hl ⟨hok.1, hok.2.1, ⟨hok.2.2.1.1, hday⟩, ⟨by omega, fun n hn => ok_small (hall' n hn).1 (hall' n hn).2.1⟩, hok.2.2.2.2⟩
      have hfind := fun x => findA_set (a' := ended l[k] day) x (right_sorted hr) hk rfl
      simp only [bne_self_eq_false, cond_false, rCopy_eq hfm, Option.bind_some, pCheck_eq hom hfm, hchk, List.length_map, List.length_set, pName_eq hl hf, pName_eq hom hfm]
      have hsame := asks_same hr hchk at_
      by_cases hoth : other = id
      · subst hoth
        have hq' : findA (l.set k (ended l[k] day)) other = some (ended l[k] day) := by rw [hfind, if_pos hid.symm]
        simp only [bne_self_eq_false, cond_false]
        by_cases hat : at_ < day
        · rw [nameF_same hsame hq hq' (by
            show onSpan ⟨l[k].In.From, day⟩ at_ = _
            unfold onSpan
            rw [show decide (at_ < day) = decide (at_ < l[k].In.Until) by rw [decide_eq_decide]; omega]) (by
            rw [hnames, hi, textOn_app, textOn_app, textOn_cut hat]), decide_eq_true hat]
          simp
        · rw [decide_eq_false hat]
          unfold nameF
          rw [hq']
          by_cases hmax : at_ > 1048575
          · have : asksF (l.set k (ended l[k] day)) at_ = 2 := by
              rw [hsame]; unfold asksF; rw [hr, decide_eq_false (show ¬ at_ ≤ 1048575 by omega)]; simp
            rw [decide_eq_true hmax, this]; rfl
          · have h0 : asksF (l.set k (ended l[k] day)) at_ = 0 := by
              rw [hsame]; unfold asksF; rw [hr, decide_eq_true (show at_ ≤ 1048575 by omega), decide_eq_true (show 0 ≤ at_ by omega)]; simp
            have h1 : onSpan (ended l[k] day).In at_ = false := by
              show onSpan ⟨l[k].In.From, day⟩ at_ = false
              unfold onSpan; rw [decide_eq_false hat]; simp
            rw [decide_eq_false hmax, h0]
            simp only [bne_self_eq_false, cond_false, h1, Bool.not_false, cond_true]
            rfl
      · have hne : (other != id) = true := by simpa using hoth
        rw [nameF_none hsame (by rw [hfind, if_neg (by omega)]), hne]
        simp
end Go.Proofs.YtgpojnenbmlcbaaDoor
