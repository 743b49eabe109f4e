/- The plain law of archivumlaw23.AuthorityOne. -/
import Derived.Test.YtgpojnenbmlcbaaDoorLOne
namespace Go.Proofs.YtgpojnenbmlcbaaDoor
open Go Go.Abs

theorem slIndex_eq {l : List Int} (h : l.length ≤ 9223372036854775807) (v : Int) : slIndex_S l v = some (idxOf (fun x => v == x) l) := by
  have h1 := loop_scanP (slIndex_L1 l v) l (fun i x => bif v == x then some (i : Int) else none) (-1) h (fun fu i hi => by
      have h0 : decide ((i : Int) < (l.length : Int)) = true := decide_eq_true (by omega)
      simp only [slIndex_L1, List.length_map, ix_at hi, Option.bind_some, h0, cond_true, wrap_succ h hi]
      cases v == l[i] <;> rfl)
    (fun fu => by
      have h0 : decide ((l.length : Int) < (l.length : Int)) = false := decide_eq_false (by omega)
      simp only [slIndex_L1, List.length_map, h0, cond_false]) l.length 0 (l.length + 1) (by omega) (by omega) (by omega)
  show slIndex_L1 l v (l.length + 1) 0 = _
  rw [show (0 : Int) = ((0 : Nat) : Int) from rfl, h1, List.drop_zero, scanP_find (fun x => v == x)]
  unfold idxOf
  cases l.findIdx? (fun x => v == x) <;> simp
theorem idxOf_nn {α : Type} (p : α → Bool) (l : List α) : decide (idxOf p l ≥ 0) = l.any p := by
  unfold idxOf
  cases hq : l.findIdx? p with
  | none =>
    rw [List.findIdx?_eq_none_iff] at hq
    have : l.any p = false := by rw [List.any_eq_false]; intro x hx; simp [hq x hx]
    rw [this]; decide
  | some k =>
    obtain ⟨h1, h2, _⟩ := List.findIdx?_eq_some_iff_getElem.1 hq
    have : l.any p = true := List.any_eq_true.2 ⟨l[k], List.getElem_mem h1, h2⟩
    rw [this]
    exact decide_eq_true (show (k : Int) ≥ 0 by omega)
theorem slContains_eq {l : List Int} (h : l.length ≤ 9223372036854775807) (v : Int) : slContains_S l v = some (l.any fun x => v == x) := by
  simp only [slContains_S, slContains_F, slIndex_eq h, Option.bind_some, idxOf_nn]
theorem cmpLess_eq (x y : Int) : cmpLess_S x y = some (decide (x < y)) := by
  simp only [cmpLess_S, cmpLess_F, cmpIsNaN_S, cmpIsNaN_F, Option.bind_some, bne_self_eq_false, cond_false]
theorem sorted_loop {l : List Int} (hl : l.length ≤ 9223372036854775807) (hs : ∀ (i : Nat) (h : i + 1 < l.length), l[i] ≤ l[i + 1]) : ∀ (fu i : Nat), i < l.length → i < fu → slIsSorted_L1 l fu (i : Int) = some true
  | 0, i, _, h => by omega
  | fu + 1, 0, _, _ => by
    have h0 : decide (((0 : Nat) : Int) > 0) = false := by decide
    simp only [slIsSorted_L1, h0, cond_false]
  | fu + 1, i + 1, hi, hf => by
    have h0 : decide (((i + 1 : Nat) : Int) > 0) = true := decide_eq_true (by omega)
    have hw : IntKind.i64.wrap (((i + 1 : Nat) : Int) - 1) = (i : Int) := by rw [wrap_pred hl hi]; omega
    have hi' : i < l.length := by omega
    have h2 : decide (l[i + 1] < l[i]) = false := decide_eq_false (by have := hs i hi; omega)
    simp only [slIsSorted_L1, h0, cond_true, ix_at hi, ix_at hi', Option.bind_some, hw, cmpLess_eq, h2, cond_false]
    exact sorted_loop hl hs fu i (by omega) (by omega)
theorem slIsSorted_eq {l : List Int} (hl : l.length ≤ 9223372036854775807) (hs : ∀ (i : Nat) (h : i + 1 < l.length), l[i] ≤ l[i + 1]) : slIsSorted_S l = some true := by
  simp only [slIsSorted_S, slIsSorted_F, List.length_map]
  by_cases h0 : l.length = 0
  · rw [h0]; rfl
  · have : IntKind.i64.wrap ((l.length : Int) - 1) = ((l.length - 1 : Nat) : Int) := by
      rw [wrap_id (by unfold okI; omega)]; omega
    rw [this]
    exact sorted_loop hl hs _ _ (by omega) (by omega)
theorem alone_prev {p a : Aut} (h : aloneF (some p) a = 0) : p.ID < a.ID := by
  unfold aloneF at h
  cases hk : idKind a with
  | false => rw [hk] at h; simp at h
  | true =>
    rw [hk] at h
    simp only [cond_true] at h
    cases hd : decide (a.ID ≤ p.ID) with
    | true => rw [hd] at h; simp at h
    | false => have := of_decide_eq_false hd; omega
theorem pairwise_of_next {α : Type} (R : α → α → Prop) (ht : ∀ a b c, R a b → R b c → R a c) : ∀ l : List α, (∀ (i : Nat) (h : i + 1 < l.length), R l[i] l[i + 1]) → l.Pairwise R
  | [], _ => .nil
  | [x], _ => by simp
  | x :: y :: r, h => by
    have ih := pairwise_of_next R ht (y :: r) fun i hi => h (i + 1) (by simpa using hi)
    have hxy : R x y := h 0 (by simp)
    refine .cons (fun z hz => ?_) ih
    rcases List.mem_cons.1 hz with rfl | hz
    · exact hxy
    · exact ht _ _ _ hxy ((List.pairwise_cons.1 ih).1 z hz)
theorem right_sorted {l : List Aut} (h : (checkF l).2 = 0) : l.Pairwise fun a b => a.ID < b.ID := by
  refine pairwise_of_next (fun a b : Aut => a.ID < b.ID) (fun _ _ _ h1 h2 => Int.lt_trans h1 h2) l fun i hi => ?_
  have := (check_good h).2.1 (i + 1) hi
  rw [show prevOf l (i + 1) = some l[i] by simp [prevOf, List.getElem?_eq_getElem (show i < l.length by omega)]] at this
  exact alone_prev this
theorem namedL_sorted {l : List Aut} (h : l.Pairwise fun a b => a.ID < b.ID) (text : Str) (day : Int) : ∀ (i : Nat) (hi : i + 1 < (namedL text day l).length), (namedL text day l)[i] ≤ (namedL text day l)[i + 1] := by
  have hp : (namedL text day l).Pairwise (· < ·) := by
    unfold namedL
    rw [List.pairwise_map]
    exact h.filter _
  intro i hi
  have := List.pairwise_iff_getElem.1 hp i (i + 1) (by omega) hi (by omega)
  omega
theorem asks_val {l : List Aut} {day : Int} (h : asksF l day ≠ 0) : asksF l day = 1 ∨ asksF l day = 2 := by
  unfold asksF at h ⊢
  revert h
  cases (checkF l).2 != 0 with
  | true => exact fun _ => .inl rfl
  | false =>
    cases (decide (0 ≤ day) && decide (day ≤ 1048575)) with
    | true => exact fun h => absurd rfl h
    | false => exact fun _ => .inr rfl
theorem one_loop {l : List Aut} {id day : Int} {s : Str} {e : Int} {a : Aut} {b : Bool} (hlen : a.Names.length ≤ 16) (hon : ∀ y ∈ a.Names, onSpan y.In day = true → e = 0 ∧ y.Text = s) :
    lAuthorityOne_L1 l id day (s, e) (a, b) 100 0 0 = lAuthorityOne_L1 l id day (s, e) (a, b) 1 ((a.Names.countP fun x => onSpan x.In day : Nat) : Int) (a.Names.length : Int) := by
  have h0 : decide ((a.Names.length : Int) < (a.Names.length : Int)) = false := decide_eq_false (by omega)
  have := count_loop (n := a.Names) (day := day) (fun fu c i => lAuthorityOne_L1 l id day (s, e) (a, b) fu c i) (fun c => lAuthorityOne_L1 l id day (s, e) (a, b) 1 (c : Int) (a.Names.length : Int))
    (fun fu c => by simp only [lAuthorityOne_L1, List.length_map, h0, cond_false])
    (fun fu c i hi hc => by
      have h1 : decide ((i : Int) < (a.Names.length : Int)) = true := decide_eq_true (by omega)
      have w1 : IntKind.i64.wrap ((c : Int) + 1) = ((c + 1 : Nat) : Int) := wrap_succ (n := a.Names.length) (by omega) (by omega)
      have w2 : IntKind.i64.wrap ((i : Int) + 1) = ((i + 1 : Nat) : Int) := wrap_succ (n := a.Names.length) (by omega) hi
      have hk := hon _ (List.getElem_mem hi)
      simp only [lAuthorityOne_L1, List.length_map, h1, cond_true, ix_at hi, Option.bind_some, w1, w2]
      unfold onSpan at hk ⊢
      cases hd1 : decide (a.Names[i].In.From ≤ day) with
      | false => rfl
      | true => cases hd2 : decide (day < a.Names[i].In.Until) with
        | false => rfl
        | true =>
          rw [hd1, hd2] at hk
          obtain ⟨rfl, rfl⟩ := hk rfl
          simp)
    a.Names.length 0 100 0 (by omega) (by omega) (by omega) (by omega)
  simpa using this
theorem authorityOne.law (l : List Aut) (id day : Int) (hl : okAuts l) (_ : okI id) (_ : okI day) : lAuthorityOne_S l id day = some true := by
  simp only [lAuthorityOne_S, lAuthorityOne_F, awake_true, Option.bind_some, Bool.not_true, cond_false, rFew_eq hl]
  cases hf : few l with
  | false => rfl
  | true =>
    have hlen := few_len hf
    simp only [Bool.not_true, cond_false, rCopy_eq hf, Option.bind_some, pName_eq hl hf, pFind_eq hl hf]
    cases ha : asksF l day != 0 with
    | true =>
      have hn : nameF l id day = ([], asksF l day) := by unfold nameF; rw [ha]; rfl
      rw [hn]
      rcases asks_val (l := l) (day := day) (by simpa using ha) with h | h <;> rw [h] <;> rfl
    | false =>
      have ha0 : asksF l day = 0 := by simpa using ha
      have hr := (asks_right ha0).1
      cases hq : findA l id with
      | none =>
        have hn : nameF l id day = ([], 7) := by unfold nameF; rw [ha, hq]; rfl
        have hg : gone l id = true := by unfold gone; rw [hq]; rfl
        rw [hn, hg]; rfl
      | some a =>
        have hm : a ∈ l := List.mem_of_find?_eq_some hq
        have hfd : found l id = a := by unfold found; rw [hq]; rfl
        obtain ⟨g1, g2, g3, g4⟩ := names_good (right_names hr hm)
        have h0 : decide ((a.Names.length : Int) < (a.Names.length : Int)) = false := decide_eq_false (by omega)
        rw [hfd]
        cases hs : onSpan a.In day with
        | false =>
          have hn : nameF l id day = ([], 11) := by unfold nameF; rw [ha, hq]; simp only [cond_false, hs]; rfl
          have hz : ∀ y ∈ a.Names, ¬ onSpan y.In day = true := fun y hy ho => by
            have := g4 y hy
            simp only [onSpan, Bool.and_eq_true, decide_eq_true_eq] at ho
            rw [show onSpan a.In day = true by simp only [onSpan, Bool.and_eq_true, decide_eq_true_eq]; omega] at hs
            exact nomatch hs
          rw [hn]
          show lAuthorityOne_L1 l id day ([], 11) (a, !(gone l id)) 100 0 0 = some true
          rw [one_loop g1 fun y hy ho => absurd ho (hz y hy), List.countP_eq_zero.2 fun y hy => hz y hy]
          simp only [lAuthorityOne_L1, List.length_map, h0, cond_false]
          simp only [onSpan] at hs
          by_cases q1 : day < a.In.From
          · simp [q1]
          · have q2 : day ≥ a.In.Until := by
              rw [show decide (a.In.From ≤ day) = true from decide_eq_true (by omega)] at hs
              have := of_decide_eq_false hs
              omega
            simp [q1, q2]
        | true =>
          cases ho : onF a day with
          | none =>
            have hn : nameF l id day = ([], 9) := by unfold nameF; rw [ha, hq]; simp only [cond_false, hs, ho]; rfl
            have hz : ∀ y ∈ a.Names, ¬ onSpan y.In day = true := List.find?_eq_none.1 ho
            rw [hn]
            show lAuthorityOne_L1 l id day ([], 9) (a, !(gone l id)) 100 0 0 = some true
            rw [one_loop g1 fun y hy ho => absurd ho (hz y hy), List.countP_eq_zero.2 fun y hy => hz y hy]
            simp only [lAuthorityOne_L1, List.length_map, h0, cond_false]
            simp only [onSpan, Bool.and_eq_true, decide_eq_true_eq] at hs
            have q1 : ¬ day < a.In.From := by omega
            have q2 : ¬ a.In.Until ≤ day := by omega
            simp [q1, q2]
          | some x =>
            have hn : nameF l id day = (x.Text, 0) := by unfold nameF; rw [ha, hq]; simp only [cond_false, hs, ho]; rfl
            obtain ⟨c1, c2⟩ := count_one g3 ho
            rw [hn]
            show lAuthorityOne_L1 l id day (x.Text, 0) (a, !(gone l id)) 100 0 0 = some true
            rw [one_loop g1 fun y hy ho => ⟨rfl, by rw [c2 y hy ho]⟩, c1]
            have hnd : namedF l x.Text day = (namedL x.Text day l, 0) := by unfold namedF; rw [ha]; rfl
            have hln := namedL_len x.Text day l
            have hid : a.ID = id := by have := List.find?_some hq; simpa using this
            have hin : (namedL x.Text day l).any (fun z => id == z) = true := by
              rw [List.any_eq_true]
              refine ⟨a.ID, ?_, by simp [hid]⟩
              unfold namedL
              refine List.mem_map.2 ⟨a, List.mem_filter.2 ⟨hm, ?_⟩, rfl⟩
              unfold hasName; rw [ho]; simp
            simp only [lAuthorityOne_L1, List.length_map, h0, cond_false, bne_self_eq_false, rCopy_eq hf, Option.bind_some, pNamed_eq hl hf, hnd, slContains_eq (show (namedL x.Text day l).length ≤ 9223372036854775807 by omega), hin, slIsSorted_eq (show (namedL x.Text day l).length ≤ 9223372036854775807 by omega) (namedL_sorted (right_sorted hr) _ _)]
            rfl
end Go.Proofs.YtgpojnenbmlcbaaDoor
