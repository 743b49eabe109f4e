/- CitationNumbers: true for every input. -/
import Derived.Test.YtmdhahfminiilaaDoorL50L
import Derived.Test.YtmdhahfminiilaaDoorGDn
import Derived.Test.YtmdhahfminiilaaDoorAw
set_option linter.unusedSimpArgs false
set_option linter.unusedVariables false
namespace Go.Proofs.YtmdhahfminiilaaDoor
open Go Go.Abs
theorem chain_zero (l : List Standing) : ∀ d, chain l d 0 = []
  | 0 => rfl
  | d + 1 => by rw [chain, if_pos rfl]
theorem chain_spec {l : List Standing} : ∀ (d : Nat) (u : Int), up l d u = true → u ≠ 0 → ((chain l d u).reverse.getLast? = some u) ∧ ∀ (k : Nat) (w : Int), (chain l d u).reverse[k]? = some w → ∃ t, fnd l w = some t ∧ (k = 0 → t.Parent = 0) ∧ (0 < k → (chain l d u).reverse[k - 1]? = some t.Parent)
  | 0, u, h, hu => by rw [up] at h; exact absurd (eq_of_beq h) hu
  | d + 1, u, h, hu => by
    rw [up_ne hu] at h
    cases hfd : fnd l u with
    | none => rw [hfd] at h; cases h
    | some s =>
      rw [hfd] at h
      have hch : chain l (d + 1) u = u :: chain l d s.Parent := by rw [chain, if_neg hu, hfd]; rfl
      rw [hch, List.reverse_cons]
      refine ⟨by simp, fun k w hk => ?_⟩
      by_cases hp : s.Parent = 0
      · rw [hp, chain_zero] at hk ⊢
        simp only [List.reverse_nil, List.nil_append] at hk ⊢
        cases k with
        | zero =>
          obtain rfl : u = w := by simpa using hk
          exact ⟨s, hfd, fun _ => hp, fun h => by omega⟩
        | succ k => simp at hk
      · obtain ⟨g1, g2⟩ := chain_spec d s.Parent h hp
        have hpos : 0 < (chain l d s.Parent).reverse.length := by
          rcases Nat.eq_zero_or_pos (chain l d s.Parent).reverse.length with h0 | h0
          · rw [List.length_eq_zero_iff.1 h0] at g1; cases g1
          · exact h0
        rcases Nat.lt_or_ge k (chain l d s.Parent).reverse.length with hlt | hge
        · rw [List.getElem?_append_left hlt] at hk
          obtain ⟨t, t1, t2, t3⟩ := g2 k w hk
          refine ⟨t, t1, t2, fun h0 => ?_⟩
          rw [List.getElem?_append_left (by omega)]
          exact t3 h0
        · have hk' : k = (chain l d s.Parent).reverse.length := by
            have := (List.getElem?_eq_some_iff.1 hk).1
            rw [List.length_append, List.length_singleton] at this
            omega
          rw [List.getElem?_append_right hge, hk', Nat.sub_self] at hk
          obtain rfl : u = w := by simpa using hk
          refine ⟨s, hfd, fun h0 => by omega, fun h0 => ?_⟩
          rw [List.getElem?_append_left (by omega), hk', ← List.getLast?_eq_getElem?]
          exact g1
theorem upto_split {d : Int} {x : Shot} {c : List Shot} (hx : x.Day ≤ d) (hc : ∀ y ∈ c, y.Day > d) : ∀ {a : List Shot}, (∀ y ∈ a, y.Day ≤ d) → upto d (a ++ x :: c) = a ++ [x]
  | [], _ => by
    unfold upto
    rw [List.nil_append, List.takeWhile_cons, decide_eq_true hx, if_pos rfl]
    cases c with
    | nil => rfl
    | cons y r => rw [List.takeWhile_cons, decide_eq_false (by have := hc y (by simp); omega)]; rfl
  | z :: r, h => by
    have ih := upto_split hx hc (a := r) (fun y hy => h y (List.mem_cons_of_mem _ hy))
    unfold upto at ih ⊢
    rw [List.cons_append, List.takeWhile_cons, decide_eq_true (h z (by simp)), if_pos rfl, ih]; rfl
theorem st_at {h : List Shot} (hv : validH h) {a c : List Shot} {x : Shot} (e : h = a ++ x :: c) (w : Int) : stV h w x.Day = fnd x.Units w := by
  have hp := hv.days
  rw [e] at hp
  obtain ⟨p1, p2, p3⟩ := List.pairwise_append.1 hp
  have : upto x.Day h = a ++ [x] := by
    rw [e]
    refine upto_split (Int.le_refl _) (fun y hy => ?_) (fun y hy => ?_)
    · have := (List.pairwise_cons.1 p2).1 y hy; omega
    · have := p3 y hy x (by simp); omega
  unfold stV
  rw [this, List.getLast?_concat, Option.bind_some]
theorem slContainsFuncS_eq {l : List Standing} {f : Standing → Option Bool} {p : Standing → Bool} (h : l.length ≤ 9223372036854775807) (hf : ∀ x ∈ l, f x = some (p x)) : slContainsFuncS_S l f = some (l.any p) := by
  simp only [slContainsFuncS_S, slContainsFuncS_F, slIndexFuncS_eq h hf, Option.bind_some, idxOf_nn]
theorem slContainsFuncH_eq {l : List Shot} {f : Shot → Option Bool} {p : Shot → Bool} (h : l.length ≤ 9223372036854775807) (hf : ∀ x ∈ l, f x = some (p x)) : slContainsFuncH_S l f = some (l.any p) := by
  simp only [slContainsFuncH_S, slContainsFuncH_F, slIndexFuncH_eq h hf, Option.bind_some, idxOf_nn]
theorem path_loop {h : List Shot} {unit : Int} {y9 : List Version × Int} {v12 : Int} {x14 : Version} {k1 : Int → Option Bool} (hcopy : qCopy_S h = some h) (hl : x14.Path.length ≤ 1000)
    (hp : ∀ (k : Nat) (w : Int), x14.Path[k]? = some w → ∃ t, kStanding_S h w x14.Day = some (t, true) ∧ (k = 0 → t.Parent = 0) ∧ (0 < k → x14.Path[k - 1]? = some t.Parent)) {T : Option Bool}
    (hT : ∀ fu, lCitationNumbers_L2 h unit y9 v12 x14 k1 (fu + 1) (x14.Path.length : Int) = T) :
    ∀ (n i fu : Nat), x14.Path.length - i = n → i ≤ x14.Path.length → n < fu → lCitationNumbers_L2 h unit y9 v12 x14 k1 fu (i : Int) = T
  | n, i, 0, _, _, h => by omega
  | 0, i, fu + 1, h1, hi, _ => by
    have : i = x14.Path.length := by omega
    subst this
    exact hT fu
  | n + 1, i, fu + 1, h1, _, hf => by
    have hi : i < x14.Path.length := by omega
    have ih := path_loop hcopy hl hp hT n (i + 1) fu (by omega) (by omega) (by omega)
    obtain ⟨t, t1, t2, t3⟩ := hp i _ (List.getElem?_eq_getElem hi)
    simp only [lCitationNumbers_L2, List.length_map, decide_eq_true (show (i : Int) < (x14.Path.length : Int) by omega), cond_true, ix_at hi, Option.bind_some, hcopy, t1, Bool.not_true, cond_false, wrap_succ (n := x14.Path.length) (by omega) hi, ih]
    cases i with
    | zero =>
      rw [t2 rfl]
      rfl
    | succ j =>
      have hj : j < x14.Path.length := by omega
      have e := t3 (by omega)
      rw [Nat.add_sub_cancel, List.getElem?_eq_getElem hj] at e
      have e := Option.some.inj e
      rw [show (((j + 1 : Nat) : Int) == 0) = false by rw [beq_eq_false_iff_ne]; omega, cond_false, decide_eq_true (by omega), cond_true, wrap_id (by unfold okI; omega), show (((j + 1 : Nat) : Int) - 1) = (j : Int) by omega, ix_at hj, Option.bind_some, e, bne_self_eq_false, cond_false]
end Go.Proofs.YtmdhahfminiilaaDoor
namespace Go.Proofs.YtmdhahfminiilaaDoor.citationNumbers
open Go Go.Abs
theorem outer {h : List Shot} (hv : validH h) (hc : kCheck_S h = some 0) (hcopy : qCopy_S h = some h) {unit e9 : Int} {N : Nat} (hN : 1000 < N) : ∀ (n i fu : Nat), (versV unit h).length - i = n → i ≤ (versV unit h).length → n < fu → lCitationNumbers_L1 h unit (versV unit h, e9) N fu (i : Int) = some true
  | n, i, 0, _, _, h => by omega
  | 0, i, fu + 1, h1, hi, _ => by
    have : i = (versV unit h).length := by omega
    subst this
    simp only [lCitationNumbers_L1, List.length_map, decide_eq_false (show ¬ (((versV unit h).length : Nat) : Int) < (((versV unit h).length : Nat) : Int) by omega), cond_false]
  | n + 1, i, fu + 1, h1, _, hf => by
    have hi : i < (versV unit h).length := by omega
    have hlen := vers_len unit h none 0
    have hhl := hv.len
    have hlv : (versV unit h).length ≤ 64 := by unfold versV; omega
    have ih := outer hv hc hcopy (unit := unit) (e9 := e9) hN n (i + 1) fu (by omega) (by omega) (by omega)
    obtain ⟨a, x, c, s, e, ha, hs, hne, hnth⟩ := vers_nth unit h none 0 i hi
    have hnth' : (versV unit h)[i]? = some ⟨((0 + i + 1 : Nat) : Int), x.Day, s, pathV x.Units unit⟩ := hnth
    rw [List.getElem?_eq_getElem hi] at hnth'
    have hget := Option.some.inj hnth'
    have hx : okShotV x := hv.shot x (by rw [e]; simp)
    obtain ⟨hu0, hup⟩ := up_unit hx hs
    obtain ⟨g1, g2⟩ := chain_spec 12 unit hup hu0
    have hst : ∀ w, kStanding_S h w x.Day = some (findV (fnd x.Units w)) := fun w => by rw [kStanding_eq hv hc, st_at hv e]
    have hpl : (pathV x.Units unit).length ≤ 12 := by
      unfold pathV
      rw [List.length_reverse]
      have key : ∀ (n : Nat) (u : Int), (chain x.Units n u).length ≤ n := by
        intro n
        induction n with
        | zero => intro u; exact Nat.le_refl _
        | succ n ihn =>
          intro u
          rw [chain]
          by_cases h : u = 0
          · rw [if_pos h]; simp
          · rw [if_neg h, List.length_cons]; have := ihn (findV (fnd x.Units u)).1.Parent; omega
      exact key 12 unit
    have hpos : 0 < (pathV x.Units unit).length := by
      rcases Nat.eq_zero_or_pos (pathV x.Units unit).length with h0 | h0
      · unfold pathV at h0; rw [List.length_eq_zero_iff.1 h0] at g1; cases g1
      · exact h0
    have hlast : ix (pathV x.Units unit) (IntKind.i64.wrap ((((pathV x.Units unit).length : Nat) : Int) - 1)) = some unit := by
      have hlt : (pathV x.Units unit).length - 1 < (pathV x.Units unit).length := by omega
      rw [wrap_id (by unfold okI; omega), show (((pathV x.Units unit).length : Nat) : Int) - 1 = (((pathV x.Units unit).length - 1 : Nat) : Int) by omega, ix_at hlt, ← List.getElem?_eq_getElem hlt, ← List.getLast?_eq_getElem?]
      exact g1
    simp only [lCitationNumbers_L1, List.length_map, decide_eq_true (show (i : Int) < (((versV unit h).length : Nat) : Int) by omega), cond_true, ix_at hi, hget, Option.bind_some, hcopy, hst, hs, findV, Bool.not_true, cond_false, wrap_succ (n := (versV unit h).length) (by omega) hi, beq_self_eq_true, hlast, bne_self_eq_false]
    rw [show (((0 + i + 1 : Nat) : Int) != ((i + 1 : Nat) : Int)) = false by rw [bne_eq_false_iff_eq]; omega, cond_false, beq_eq_false_iff_ne.2 (show (((pathV x.Units unit).length : Nat) : Int) ≠ 0 by omega), cond_false]
    refine path_loop (x14 := ⟨((0 + i + 1 : Nat) : Int), x.Day, s, pathV x.Units unit⟩) hcopy (by show (pathV x.Units unit).length ≤ 1000; omega) (fun k w hk => ?_) (fun fu2 => ?_) (pathV x.Units unit).length 0 N (by show _ - 0 = _; rfl) (Nat.zero_le _) (by omega)
    · obtain ⟨t, t1, t2, t3⟩ := g2 k w hk
      exact ⟨t, by show kStanding_S h w x.Day = _; rw [hst, t1]; rfl, t2, t3⟩
    · simp only [lCitationNumbers_L2, List.length_map, decide_eq_false (show ¬ (((pathV x.Units unit).length : Nat) : Int) < (((pathV x.Units unit).length : Nat) : Int) by omega), cond_false, wrap_succ (n := (versV unit h).length) (by omega) hi, ih]
      cases i with
      | zero => rfl
      | succ j =>
        rw [show (((j + 1 : Nat) : Int) == 0) = false by rw [beq_eq_false_iff_ne]; omega, cond_false]
        have hj : j < (versV unit h).length := by omega
        have hwj : IntKind.i64.wrap (((j + 1 : Nat) : Int) - 1) = (j : Int) := by rw [wrap_id (by unfold okI; omega)]; omega
        have hsplit : versV unit h = versV unit a ++ versA unit (prevA unit none a) (0 + (versA unit none 0 a).length) (x :: c) := by
          unfold versV
          rw [← vers_app, ← e]
        have hja : (versV unit a)[j]? = some (versV unit h)[j] := by
          have hlt : j < (versV unit a).length := by unfold versV; omega
          rw [← List.getElem?_eq_getElem hj, hsplit, List.getElem?_append_left hlt]
        have hmem : (versV unit h)[j] ∈ versV unit a := List.mem_of_getElem? hja
        obtain ⟨z, z1, z2, z3, -⟩ := vers_mem unit a none 0 _ hmem
        have hp := hv.days
        rw [e] at hp
        obtain ⟨p1, p2, p3⟩ := List.pairwise_append.1 hp
        have hzx := p3 z z1 x (by simp)
        have hany : slContainsFuncH_S h (fun z0 => lCitationNumbers_1_S z0 (versV unit h) ((j + 1 : Nat) : Int) ⟨((0 + (j + 1) + 1 : Nat) : Int), x.Day, s, pathV x.Units unit⟩ unit) = some (h.any fun y => decide (y.Day > (versV unit h)[j].Day) && decide (y.Day < x.Day) && !(y.Units.any fun q => q.Unit == unit)) := by
          refine slContainsFuncH_eq (by omega) fun y hy => ?_
          have hyl := (hv.shot y hy).len
          simp only [lCitationNumbers_1_S, lCitationNumbers_1_F, hwj, ix_at hj, Option.bind_some, slContainsFuncS_eq (f := fun z0 => lCitationNumbers_1_1_S z0 unit) (p := fun q => q.Unit == unit) (show y.Units.length ≤ 9223372036854775807 by omega) (fun _ _ => rfl)]
          cases decide (y.Day > (versV unit h)[j].Day) <;> cases decide (y.Day < x.Day) <;> rfl
        rw [hany, Option.bind_some, hwj, ix_at hj, Option.bind_some, decide_eq_false (show ¬ (versV unit h)[j].Day ≥ x.Day by omega), cond_false]
        cases hpa : prevA unit none a with
        | some q =>
          have hq : (versV unit h)[j].Unit = q := by
            rcases vers_last unit a none 0 q hpa with ⟨v, q1, q2⟩ | ⟨_, q2⟩
            · have : (versA unit none 0 a).getLast? = some (versV unit h)[j] := by
                rw [List.getLast?_eq_getElem?, ha, Nat.add_sub_cancel]; exact hja
              rw [this] at q1
              rw [Option.some.inj q1]; exact q2
            · cases q2
          have : ((versV unit h)[j].Unit == s) = false := by
            rw [beq_eq_false_iff_ne, hq]
            intro e2
            exact hne (by rw [hpa, e2])
          simp only [Option.bind_some, this, cond_false, Bool.cond_self]
        | none =>
          have hane : a ≠ [] := by rintro rfl; cases z1
          have hla : a.getLast? = some (a.getLast hane) := by cases a with | nil => exact absurd rfl hane | cons b r => rfl
          have hfy := prevA_last unit a none _ hla
          rw [hpa] at hfy
          have hy : a.getLast hane ∈ a := List.getLast_mem hane
          have hyx := p3 _ hy x (by simp)
          have hzy : z.Day < (a.getLast hane).Day := by
            have ea := List.dropLast_concat_getLast hane
            rw [← ea] at z1 p1
            obtain ⟨_, _, p5⟩ := List.pairwise_append.1 p1
            rcases List.mem_append.1 z1 with h5 | h5
            · exact p5 z h5 _ (by simp)
            · rw [List.mem_singleton.1 h5, ← hfy] at z3; cases z3
          have hno : ((a.getLast hane).Units.any fun q => q.Unit == unit) = false := by
            rw [List.any_eq_false]
            exact List.find?_eq_none.1 hfy.symm
          have : (h.any fun y => decide (y.Day > (versV unit h)[j].Day) && decide (y.Day < x.Day) && !(y.Units.any fun q => q.Unit == unit)) = true := by
            rw [List.any_eq_true]
            refine ⟨a.getLast hane, by rw [e]; exact List.mem_append_left _ hy, ?_⟩
            rw [hno, decide_eq_true (by omega), decide_eq_true hyx]; rfl
          rw [this]; rfl
theorem law (h : List Shot) (unit : Int) (_ : okShots h) (_ : okI unit) : lCitationNumbers_S h unit = some true := by
  simp only [lCitationNumbers_S, lCitationNumbers_F, awake_true, Option.bind_some, Bool.not_true, cond_false]
  obtain ⟨b, hb, hfew⟩ := qFew_eq h
  rw [hb, Option.bind_some]
  cases b with
  | false => rfl
  | true =>
    have hf := hfew rfl
    rw [Bool.not_true, cond_false]
    simp only [qCopy_eq hf, Option.bind_some]
    obtain ⟨e, hc, hval⟩ := kCheck_eq h
    by_cases he : e = 0
    · subst he
      have hv := hval rfl
      rw [pVersions_eq hv hc, Option.bind_some]
      by_cases hnil : versV unit h = []
      · rw [if_pos hnil]; rfl
      · rw [if_neg hnil]
        simp only
        rw [show ((0 : Int) != 0) = false by decide, cond_false]
        have hlen := vers_len unit h none 0
        have hhl := hv.len
        exact outer hv hc (qCopy_eq hf) (N := 2000) (by omega) (versV unit h).length 0 2000 (by omega) (by omega) (by unfold versV; omega)
    · rw [pVersions_bad hc he, Option.bind_some]; rfl
end Go.Proofs.YtmdhahfminiilaaDoor.citationNumbers
