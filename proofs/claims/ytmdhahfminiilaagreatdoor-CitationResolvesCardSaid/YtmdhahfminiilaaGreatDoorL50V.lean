/- CitationVersions, CitationResolves: true for every input. -/
import Derived.Test.YtmdhahfminiilaaGreatDoorL50U
import Derived.Test.YtmdhahfminiilaaGreatDoorGF
set_option linter.unusedSimpArgs false
set_option linter.unusedVariables false
namespace Go.Proofs.YtmdhahfminiilaaGreatDoor
open Go Go.Abs
theorem day_upto {h : List Shot} (hv : validH h) {day : Int} {j : Nat} (hj : j < h.length) : h[j].Day ≤ day ↔ j < (upto day h).length := by
  have hsp := upto_behind day h
  constructor
  · intro hd
    rcases Nat.lt_or_ge j (upto day h).length with h1 | h1
    · exact h1
    · exfalso
      have : h[j] ∈ behind day h := by
        have e : h[j]? = (behind day h)[j - (upto day h).length]? := by
          rw [← List.getElem?_append_right h1, hsp]
        rw [List.getElem?_eq_getElem hj] at e
        exact List.mem_of_getElem? e.symm
      have := behind_all hv.days _ this
      omega
  · intro h1
    have : h[j] ∈ upto day h := by
      have e : h[j]? = (upto day h)[j]? := by
        rw [← List.getElem?_append_left h1, hsp]
      rw [List.getElem?_eq_getElem hj] at e
      exact List.mem_of_getElem? e.symm
    exact upto_all this
theorem at_loop {h : List Shot} (hv : validH h) (day : Int) : ∀ (n i fu : Nat), h.length - i = n → i ≤ h.length → n < fu → qAt_L1 h day fu (((min i (upto day h).length : Nat) : Int) - 1) (i : Int) = some ((((upto day h).length : Nat) : Int) - 1)
  | n, i, 0, _, _, h => by omega
  | 0, i, fu + 1, h1, hi, _ => by
    have : i = h.length := by omega
    subst this
    have hle := upto_le day h
    simp only [qAt_L1, List.length_map, decide_eq_false (show ¬ (h.length : Int) < (h.length : Int) by omega), cond_false]
    rw [Nat.min_eq_right hle]
  | n + 1, i, fu + 1, h1, _, hf => by
    have hi : i < h.length := by omega
    have hl := hv.len
    have ih := at_loop hv day n (i + 1) fu (by omega) (by omega) (by omega)
    have hd := day_upto hv (day := day) hi
    simp only [qAt_L1, List.length_map, decide_eq_true (show (i : Int) < (h.length : Int) by omega), cond_true, ix_at hi, Option.bind_some, wrap_succ (n := h.length) (by omega) hi]
    by_cases hlt : i < (upto day h).length
    · rw [decide_eq_true (hd.2 hlt), cond_true]
      rw [Nat.min_eq_left (by omega)] at ih
      rw [show (((i + 1 : Nat) : Int) - 1) = (i : Int) by omega] at ih
      exact ih
    · rw [decide_eq_false (fun q => hlt (hd.1 q)), cond_false]
      rw [Nat.min_eq_right (by omega)] at ih ⊢
      exact ih
theorem findI_neg {l : List Standing} {u : Int} (h : fnd l u = none) : findI l u = -1 := by
  have := findI_spec l u
  rw [h] at this
  exact this
theorem findI_pos {l : List Standing} {u : Int} {s : Standing} (h : fnd l u = some s) : ∃ k : Nat, ∃ hk : k < l.length, findI l u = (k : Int) ∧ l[k] = s := by
  have := findI_spec l u
  rw [h] at this
  exact this
theorem qStanding_eq {h : List Shot} (hv : validH h) (hq : qCheck_S h = some 0) (unit day : Int) : qStanding_S h unit day = some (findV (stV h unit day)) := by
  have hl := hv.len
  have hA : qAt_S h day = some ((((upto day h).length : Nat) : Int) - 1) := by
    simp only [qAt_S, qAt_F, hq, Option.bind_some, bne_self_eq_false, cond_false]
    exact at_loop hv day h.length 0 2000 (by omega) (by omega) (by omega)
  simp only [qStanding_S, qStanding_F, hA, Option.bind_some]
  by_cases hp : 0 < (upto day h).length
  · obtain ⟨hlt, he⟩ := upto_last day h hp
    have hx := (hv.shot _ (List.getElem_mem hlt)).len
    have hcast : (((upto day h).length : Nat) : Int) - 1 = (((upto day h).length - 1 : Nat) : Int) := by omega
    rw [hcast, decide_eq_false (by omega), cond_false, ix_at hlt, Option.bind_some]
    simp only [qFind_eq (x := h[(upto day h).length - 1]) (u := unit) (by omega), Option.bind_some]
    unfold stV
    rw [he, Option.bind_some]
    cases hfd : fnd h[(upto day h).length - 1].Units unit with
    | none => rw [findI_neg hfd]; rfl
    | some s =>
      obtain ⟨k, hk, e1, e2⟩ := findI_pos hfd
      rw [e1, decide_eq_false (by omega), cond_false, ix_at hk, Option.bind_some, e2]; rfl
  · have h0 : (upto day h).length = 0 := by omega
    have hnil : upto day h = [] := List.length_eq_zero_iff.1 h0
    rw [h0, decide_eq_true (by decide), cond_true]
    unfold stV
    rw [hnil]; rfl
theorem chain_zero (l : List Standing) : ∀ d, chain l d 0 = []
  | 0 => rfl
  | d + 1 => by rw [chain, if_pos rfl]
theorem rpath_loop {x : Shot} (hl : x.Units.length ≤ 1000) : ∀ (d N : Nat) (u : Int), up x.Units d u = true → u ≠ 0 → d ≤ 900 → d < N → rpath_F N x u = some (chain x.Units d u).reverse
  | d, 0, _, _, _, _, h => by omega
  | 0, N + 1, u, h, hu, _, _ => by rw [up] at h; exact absurd (eq_of_beq h) hu
  | d + 1, N + 1, u, h, hu, hd, hN => by
    rw [up_ne hu] at h
    cases hfd : fnd x.Units u with
    | none => rw [hfd] at h; cases h
    | some s =>
      rw [hfd] at h
      obtain ⟨k, hk, e1, e2⟩ := findI_pos hfd
      have hch : chain x.Units (d + 1) u = u :: chain x.Units d s.Parent := by rw [chain, if_neg hu, hfd]; rfl
      rw [hch, List.reverse_cons, rpath_F, qFind_eq hl, Option.bind_some, e1, ix_at hk, Option.bind_some, e2]
      by_cases hp : s.Parent = 0
      · rw [hp, chain_zero, show ((0 : Int) == 0) = true by decide, cond_true]; rfl
      · have hcl := chain_len x.Units d s.Parent
        rw [beq_eq_false_iff_ne.2 hp, cond_false, Option.bind_some, rpath_loop hl d N s.Parent h hp (by omega) (by omega), Option.bind_some, decide_eq_true (by simp; omega), cond_true]
theorem rpath_eq {x : Shot} (hx : okShotV x) {u : Int} {s : Standing} (h : fnd x.Units u = some s) : rpath_S x u = some (pathV x.Units u) := by
  have hl := hx.len
  obtain ⟨hu, hup⟩ := up_unit hx h
  exact rpath_loop (by omega) 12 2000 u hup hu (by omega) (by omega)
/-- How the unit stood in the shot ahead. -/
def prevAt (h : List Shot) (unit : Int) : Nat → Option Standing
  | 0 => none
  | j + 1 => match h[j]? with
    | none => none
    | some y => fnd y.Units unit
theorem prevAt_succ {h : List Shot} {unit : Int} {j : Nat} (hj : j < h.length) : prevAt h unit (j + 1) = fnd h[j].Units unit := by rw [prevAt, List.getElem?_eq_getElem hj]
theorem rversions_loop {h : List Shot} (hv : validH h) (unit : Int) : ∀ (n i fu : Nat) (out : List Version), h.length - i = n → i ≤ h.length → n < fu → out.length ≤ i → rversions_L1 h unit fu out (i : Int) = some (out ++ versA unit (prevAt h unit i) out.length (h.drop i))
  | n, i, 0, out, _, _, h, _ => by omega
  | 0, i, fu + 1, out, h1, hi, _, _ => by
    have : i = h.length := by omega
    subst this
    simp only [rversions_L1, List.length_map, decide_eq_false (show ¬ (h.length : Int) < (h.length : Int) by omega), cond_false, List.drop_length, versA, List.append_nil]
  | n + 1, i, fu + 1, out, h1, _, hf, ho => by
    have hi : i < h.length := by omega
    have hl := hv.len
    have hx := hv.shot h[i] (List.getElem_mem hi)
    have hxl := hx.len
    have ih := fun out ho => rversions_loop hv unit n (i + 1) fu out (by omega) (by omega) (by omega) ho
    rw [prevAt_succ hi] at ih
    have wn : IntKind.i64.wrap (((out.length : Nat) : Int) + 1) = ((out.length + 1 : Nat) : Int) := by rw [wrap_id (by unfold okI; omega)]; omega
    rw [List.drop_eq_getElem_cons hi, versA]
    simp only [rversions_L1, List.length_map, decide_eq_true (show (i : Int) < (h.length : Int) by omega), cond_true, ix_at hi, Option.bind_some, qFind_eq (x := h[i]) (u := unit) (by omega), wrap_succ (n := h.length) (by omega) hi, wn]
    cases hfd : fnd h[i].Units unit with
    | none =>
      rw [findI_neg hfd, decide_eq_true (by decide), cond_true]
      simp only
      have := ih out (by omega)
      rw [hfd] at this
      exact this
    | some s =>
      obtain ⟨k, hk, e1, e2⟩ := findI_pos hfd
      have hnew := ih (out ++ [(⟨((out.length + 1 : Nat) : Int), h[i].Day, s, pathV h[i].Units unit⟩ : Version)]) (by simp; omega)
      have hold := ih out (by omega)
      rw [hfd] at hnew hold
      have hlen : decide (out.length + ([(⟨((out.length + 1 : Nat) : Int), h[i].Day, s, pathV h[i].Units unit⟩ : Version)] : List Version).length ≤ 4294967296) = true := decide_eq_true (by simp; omega)
      rw [List.length_append, List.length_singleton, List.append_assoc] at hnew
      simp only [e1, decide_eq_false (show ¬ ((k : Int) < 0) by omega), cond_false, ix_at hk, e2, Option.bind_some, rpath_eq hx hfd, hlen, cond_true]
      cases i with
      | zero =>
        rw [decide_eq_false (by decide), cond_false, prevAt, if_neg (by simp)]
        exact hnew
      | succ j =>
        have hj : j < h.length := by omega
        have hyl := (hv.shot h[j] (List.getElem_mem hj)).len
        have hwj : IntKind.i64.wrap (((j + 1 : Nat) : Int) - 1) = (j : Int) := by rw [wrap_id (by unfold okI; omega)]; omega
        rw [prevAt_succ hj, decide_eq_true (by omega), cond_true]
        simp only [hwj, ix_at hj, Option.bind_some, qFind_eq (x := h[j]) (u := unit) (by omega)]
        cases hfj : fnd h[j].Units unit with
        | none =>
          rw [findI_neg hfj, decide_eq_false (by decide), cond_false, if_neg (by simp)]
          exact hnew
        | some q =>
          obtain ⟨m, hm, f1, f2⟩ := findI_pos hfj
          rw [f1, decide_eq_true (by omega), cond_true, ix_at hm, Option.bind_some, f2]
          by_cases hqs : q = s
          · subst hqs
            rw [beq_self_eq_true, cond_true, if_pos rfl]
            exact hold
          · rw [beq_eq_false_iff_ne.2 hqs, cond_false, if_neg (fun e => hqs (Option.some.inj e))]
            exact hnew
theorem rversions_eq {h : List Shot} (hv : validH h) (unit : Int) : rversions_S h unit = some (versV unit h) := by
  have hl := hv.len
  exact rversions_loop hv unit h.length 0 2000 [] (by omega) (by omega) (by omega) (by simp)
theorem rVersions_eq {h : List Shot} (hv : validH h) (hq : qCheck_S h = some 0) (unit : Int) : rVersions_S h unit = some (if versV unit h = [] then ([], 7) else (versV unit h, 0)) := by
  simp only [rVersions_S, rVersions_F, hq, Option.bind_some, bne_self_eq_false, cond_false, rversions_eq hv, List.length_map]
  by_cases he : versV unit h = []
  · rw [if_pos he, he]; rfl
  · rw [if_neg he, beq_eq_false_iff_ne.2 (by have := List.length_pos_iff.2 he; omega), cond_false]
theorem sameAll_loop {l : List Version} (hl : l.length ≤ 1000) (hp : ∀ v ∈ l, v.Path.length ≤ 1000) : ∀ (n i fu : Nat), l.length - i = n → i ≤ l.length → n < fu → rSameAll_L1 l l fu (i : Int) = some true
  | n, i, 0, _, _, h => by omega
  | 0, i, fu + 1, h1, hi, _ => by
    have : i = l.length := by omega
    subst this
    simp only [rSameAll_L1, List.length_map, decide_eq_false (show ¬ (l.length : Int) < (l.length : Int) by omega), cond_false]
  | n + 1, i, fu + 1, h1, _, hf => by
    have hi : i < l.length := by omega
    simp only [rSameAll_L1, List.length_map, decide_eq_true (show (i : Int) < (l.length : Int) by omega), cond_true, ix_at hi, Option.bind_some, same_self (hp _ (List.getElem_mem hi)), Bool.not_true, cond_false, wrap_succ (n := l.length) (by omega) hi]
    exact sameAll_loop hl hp n (i + 1) fu (by omega) (by omega) (by omega)
theorem sameAll_self {l : List Version} (hl : l.length ≤ 1000) (hp : ∀ v ∈ l, v.Path.length ≤ 1000) : rSameAll_S l l = some true := by
  simp only [rSameAll_S, rSameAll_F, bne_self_eq_false, cond_false]
  exact sameAll_loop hl hp l.length 0 2000 (by omega) (by omega) (by omega)
/-- The number that the specification cites. -/
def lastN (day : Int) : Int → List Version → Int
  | num, [] => num
  | num, v :: r => if v.Day ≤ day then lastN day v.Number r else lastN day num r
theorem rcite_loop {l : List Version} (hl : l.length ≤ 1000) (unit day : Int) : ∀ (n i fu : Nat) (num : Int), l.length - i = n → i ≤ l.length → n < fu → rCite_L1 unit day l fu num (i : Int) = rFormat_S unit (lastN day num (l.drop i))
  | n, i, 0, num, _, _, h => by omega
  | 0, i, fu + 1, num, h1, hi, _ => by
    have : i = l.length := by omega
    subst this
    simp only [rCite_L1, List.length_map, decide_eq_false (show ¬ (l.length : Int) < (l.length : Int) by omega), cond_false, List.drop_length, lastN]
    cases rFormat_S unit num <;> rfl
  | n + 1, i, fu + 1, num, h1, _, hf => by
    have hi : i < l.length := by omega
    have ih := fun num => rcite_loop hl unit day n (i + 1) fu num (by omega) (by omega) (by omega)
    rw [List.drop_eq_getElem_cons hi, lastN]
    simp only [rCite_L1, List.length_map, decide_eq_true (show (i : Int) < (l.length : Int) by omega), cond_true, ix_at hi, Option.bind_some, wrap_succ (n := l.length) (by omega) hi, ih]
    by_cases hd : l[i].Day ≤ day
    · rw [decide_eq_true hd, cond_true, if_pos hd]
    · rw [decide_eq_false hd, cond_false, if_neg hd]
theorem lastN_stop {day : Int} : ∀ {vb : List Version} {num : Int}, (∀ v ∈ vb, v.Day > day) → lastN day num vb = num
  | [], num, _ => rfl
  | v :: r, num, h => by rw [lastN, if_neg (by have := h v (by simp); omega)]; exact lastN_stop fun w hw => h w (List.mem_cons_of_mem _ hw)
theorem lastN_cut {day : Int} {vb : List Version} (hb : ∀ v ∈ vb, v.Day > day) : ∀ (va : List Version) (num : Int), (∀ v ∈ va, v.Day ≤ day) → lastN day num (va ++ vb) = (cut day num (va ++ vb)).2
  | [], num, _ => by rw [List.nil_append, lastN_stop hb, cut_stop hb]
  | v :: r, num, h => by
    have hv := h v (by simp)
    rw [List.cons_append, lastN, cut, if_pos hv, if_neg (by omega)]
    exact lastN_cut hb r v.Number fun w hw => h w (List.mem_cons_of_mem _ hw)
theorem lastN_vers {h : List Shot} (hv : validH h) (unit day : Int) : lastN day 0 (versV unit h) = (cut day 0 (versV unit h)).2 := by
  have hsplit : versV unit h = versV unit (upto day h) ++ versA unit (prevA unit none (upto day h)) (0 + (versA unit none 0 (upto day h)).length) (behind day h) := by
    unfold versV
    rw [← vers_app, upto_behind]
  rw [hsplit]
  refine lastN_cut (fun v hv' => ?_) _ 0 (fun v hv' => ?_)
  · obtain ⟨x, h1, h2, _⟩ := vers_mem _ _ _ _ _ hv'
    have := behind_all hv.days x h1
    omega
  · obtain ⟨x, h1, h2, _⟩ := vers_mem _ _ _ _ _ hv'
    have := upto_all h1
    omega
theorem format_same (u v : Int) : ∃ y, pFormat_S u v = some y ∧ rFormat_S u v = some y := by
  cases hr : ranged u v with
  | false => exact ⟨_, (format_no hr).1, (format_no hr).2⟩
  | true =>
    obtain ⟨a, b, rfl, rfl, hab⟩ := ranged_nat hr
    exact ⟨_, pFormat_nat hab hr, rFormat_nat hab hr⟩
theorem cite_both {h : List Shot} (hv : validH h) (hc : kCheck_S h = some 0) (hq : qCheck_S h = some 0) (unit day : Int) : ∃ y, pCite_S h unit day = some y ∧ rCite_S h unit day = some y := by
  have hl := hv.len
  have hlen := vers_len unit h none 0
  rw [pCite_eq hv hc]
  simp only [rCite_S, rCite_F, hq, Option.bind_some, bne_self_eq_false, cond_false, qStanding_eq hv hq, rversions_eq hv]
  cases stV h unit day with
  | none => exact ⟨_, rfl, rfl⟩
  | some s =>
    simp only [findV, Bool.not_true, cond_false]
    have : rCite_L1 unit day (versV unit h) 2000 0 0 = rFormat_S unit (lastN day 0 (versV unit h)) := rcite_loop (by unfold versV; omega) unit day (versV unit h).length 0 2000 0 (by omega) (by omega) (by unfold versV; omega)
    rw [this, lastN_vers hv]
    exact format_same _ _
theorem shape3 (ps : List Str) : (∃ u n : Nat, parse3 ps = ((u : Int), (n : Int), 0) ∧ okUV u n) ∨ (parse3 ps).2.2 ≠ 0 := by
  unfold parse3
  split
  · rename_i p q a b
    by_cases h : (okN p 1073741824 && okN q 64 && d0 a && d0 b) = true
    · rw [if_pos h]
      by_cases hc : (([a, b] : Str) == chk (valS p) (valS q)) = true
      · rw [if_pos hc]
        rw [Bool.and_eq_true, Bool.and_eq_true, Bool.and_eq_true] at h
        obtain ⟨v1, v2, v3⟩ := num_val (by omega) h.1.1.1
        obtain ⟨w1, w2, w3⟩ := num_val (by omega) h.1.1.2
        exact .inl ⟨_, _, rfl, v2, v3, w2, w3⟩
      · rw [if_neg hc]; exact .inr (by decide)
    · rw [if_neg h]; exact .inr (by decide)
  · exact .inr (by decide)
theorem resolve_both {h : List Shot} (hv : validH h) (hc : kCheck_S h = some 0) (hq : qCheck_S h = some 0) {code : Str} (hl : code.length ≤ 900) :
    (∃ v b e, pResolve_S h code = some (v, e) ∧ rResolve_S h code = some (v, e) ∧ v.Path.length ≤ 1000 ∧ ∃ w, pLatest_S h code = some (w, b, e) ∧ rLatest_S h code = some (w, b, e) ∧ w.Path.length ≤ 1000) := by
  have hP := pParse_eq (s := code) (by omega)
  have hR := rParse_eq (s := code) hl
  rcases shape3 (pieces code) with ⟨u, n, he, hun⟩ | hne
  · rw [he] at hP hR
    have h3 := hun.2.2
    have hvl := vers_len (u : Int) h none 0
    have hhl := hv.len
    have hcit : pcited_S h code = some (if n ≤ (versV (u : Int) h).length then (versV (u : Int) h, (n : Int), 0) else ([], 0, 7)) := by
      simp only [pcited_S, pcited_F, hc, Option.bind_some, bne_self_eq_false, cond_false, hP, pVersions_eq hv hc]
      by_cases hnil : versV (u : Int) h = []
      · rw [if_pos hnil, hnil]
        simp only [List.length_map, List.length_nil]
        rw [if_neg (by omega), decide_eq_true (by omega), cond_true]
      · rw [if_neg hnil]
        simp only [List.length_map]
        by_cases hn : n ≤ (versV (u : Int) h).length
        · rw [if_pos hn, decide_eq_false (by omega), cond_false]
        · rw [if_neg hn, decide_eq_true (by omega), cond_true]
    by_cases hn : n ≤ (versV (u : Int) h).length
    · rw [if_pos hn] at hcit
      have hlt : n - 1 < (versV (u : Int) h).length := by omega
      have hlt2 : (versV (u : Int) h).length - 1 < (versV (u : Int) h).length := by omega
      have hlh : h.length - 1 < h.length := by unfold versV at hlt; omega
      have hw1 : IntKind.i64.wrap ((n : Int) - 1) = ((n - 1 : Nat) : Int) := by rw [wrap_id (by unfold okI; omega)]; omega
      have hw2 : IntKind.i64.wrap ((((versV (u : Int) h).length : Nat) : Int) - 1) = (((versV (u : Int) h).length - 1 : Nat) : Int) := by
        unfold versV at hlt2 ⊢
        rw [wrap_id (by unfold okI; omega)]; omega
      have hw3 : IntKind.i64.wrap (((h.length : Nat) : Int) - 1) = ((h.length - 1 : Nat) : Int) := by rw [wrap_id (by unfold okI; omega)]; omega
      have hunit : ∀ (j : Nat) (hj : j < (versV (u : Int) h).length), (versV (u : Int) h)[j].Unit.Unit = (u : Int) := by
        intro j hj
        obtain ⟨y, _, _, hy, _⟩ := vers_mem (u : Int) h none 0 _ (List.getElem_mem hj)
        exact (fnd_unit hy).1
      have hxl := (hv.shot _ (List.getElem_mem hlh)).len
      have hres : rResolve_S h code = some ((versV (u : Int) h)[n - 1], 0) := by
        simp only [rResolve_S, rResolve_F, hq, hR, Option.bind_some, bne_self_eq_false, cond_false, rversions_eq hv, List.length_map]
        rw [decide_eq_false (by omega), cond_false, hw1, ix_at hlt, Option.bind_some]
      refine ⟨(versV (u : Int) h)[n - 1], (fnd h[h.length - 1].Units (u : Int)).isSome, 0, ?_, hres, vers_path (List.getElem_mem hlt), (versV (u : Int) h)[(versV (u : Int) h).length - 1], ?_, ?_, vers_path (List.getElem_mem hlt2)⟩
      · simp only [pResolve_S, pResolve_F, hcit, Option.bind_some, bne_self_eq_false, cond_false]
        rw [hw1, ix_at hlt, Option.bind_some]
      · simp only [pLatest_S, pLatest_F, hcit, Option.bind_some, bne_self_eq_false, cond_false, List.length_map]
        rw [hw2, ix_at hlt2, Option.bind_some, hw3, ix_at hlh, Option.bind_some, hunit _ hlt2, pfind_eq (by omega), Option.bind_some]
        cases fnd h[h.length - 1].Units (u : Int) <;> rfl
      · simp only [rLatest_S, rLatest_F, hres, Option.bind_some, bne_self_eq_false, cond_false, hunit _ hlt, rversions_eq hv, List.length_map]
        rw [hw2, ix_at hlt2, Option.bind_some, hw3, ix_at hlh, Option.bind_some, qFind_eq (by omega), Option.bind_some]
        cases hfd : fnd h[h.length - 1].Units (u : Int) with
        | none => rw [findI_neg hfd]; rfl
        | some s =>
          obtain ⟨k, hk, e1, e2⟩ := findI_pos hfd
          rw [e1, decide_eq_true (by omega)]; rfl
    · rw [if_neg hn] at hcit
      have hres : rResolve_S h code = some (zeroVr, 7) := by
        simp only [rResolve_S, rResolve_F, hq, hR, Option.bind_some, bne_self_eq_false, cond_false, rversions_eq hv, List.length_map]
        rw [decide_eq_true (by omega), cond_true]
      refine ⟨zeroVr, false, 7, ?_, hres, by simp, zeroVr, ?_, ?_, by simp⟩
      · simp only [pResolve_S, pResolve_F, hcit, Option.bind_some]; rfl
      · simp only [pLatest_S, pLatest_F, hcit, Option.bind_some]; rfl
      · simp only [rLatest_S, rLatest_F, hres, Option.bind_some]; rfl
  · generalize parse3 (pieces code) = t at hP hR hne
    have hb : (t.2.2 != 0) = true := by rw [bne_iff_ne]; exact hne
    have hcit : pcited_S h code = some ([], 0, t.2.2) := by
      simp only [pcited_S, pcited_F, hc, Option.bind_some, bne_self_eq_false, cond_false, hP, hb, cond_true]
    have hres : rResolve_S h code = some (zeroVr, t.2.2) := by
      simp only [rResolve_S, rResolve_F, hq, hR, Option.bind_some, bne_self_eq_false, cond_false, hb, cond_true]
    refine ⟨zeroVr, false, t.2.2, ?_, hres, by simp, zeroVr, ?_, ?_, by simp⟩
    · simp only [pResolve_S, pResolve_F, hcit, Option.bind_some, hb, cond_true]
    · simp only [pLatest_S, pLatest_F, hcit, Option.bind_some, hb, cond_true]
    · simp only [rLatest_S, rLatest_F, hres, Option.bind_some, hb, cond_true]
theorem resolve_bad {h : List Shot} {e : Int} (hc : kCheck_S h = some e) (hq : qCheck_S h = some e) (he : e ≠ 0) (code : Str) :
    pResolve_S h code = some (zeroVr, 1) ∧ rResolve_S h code = some (zeroVr, 1) ∧ pLatest_S h code = some (zeroVr, false, 1) ∧ rLatest_S h code = some (zeroVr, false, 1) := by
  have hb : (e != 0) = true := by rw [bne_iff_ne]; exact he
  have hres : rResolve_S h code = some (zeroVr, 1) := by simp only [rResolve_S, rResolve_F, hq, Option.bind_some, hb, cond_true]
  refine ⟨?_, hres, pLatest_bad hc he code, ?_⟩
  · simp only [pResolve_S, pResolve_F, pcited_bad hc he, Option.bind_some]; rfl
  · simp only [rLatest_S, rLatest_F, hres, Option.bind_some]; rfl
end Go.Proofs.YtmdhahfminiilaaGreatDoor
namespace Go.Proofs.YtmdhahfminiilaaGreatDoor.citationVersions
open Go Go.Abs
theorem law (h : List Shot) (unit : Int) (_ : okShots h) (_ : okI unit) : lCitationVersions_S h unit = some true := by
  simp only [lCitationVersions_S, lCitationVersions_F, awake_true, Option.bind_some, Bool.not_true, cond_false]
  obtain ⟨b, hb, hfew⟩ := qFew_eq h
  rw [hb, Option.bind_some]
  cases b with
  | false => rfl
  | true =>
    have hf := hfew rfl
    have hl := hf.len
    rw [Bool.not_true, cond_false]
    simp only [qCopy_eq hf, Option.bind_some]
    obtain ⟨e, hc, hval⟩ := kCheck_eq h
    have hq : qCheck_S h = some e := (check_same (by omega) (fun x hx => by have := hf.units x hx; omega)).trans hc
    by_cases he : e = 0
    · subst he
      have hv := hval rfl
      have hlen := vers_len unit h none 0
      rw [pVersions_eq hv hc, rVersions_eq hv hq, Option.bind_some, Option.bind_some]
      by_cases hnil : versV unit h = []
      · rw [if_pos hnil]; rfl
      · rw [if_neg hnil]
        simp only
        rw [sameAll_self (by unfold versV; omega) (fun v hv => vers_path hv)]
        rfl
    · have hb : (e != 0) = true := by rw [bne_iff_ne]; exact he
      rw [pVersions_bad hc he, show rVersions_S h unit = some ([], 1) by simp only [rVersions_S, rVersions_F, hq, Option.bind_some, hb, cond_true]]
      rfl
end Go.Proofs.YtmdhahfminiilaaGreatDoor.citationVersions
namespace Go.Proofs.YtmdhahfminiilaaGreatDoor.citationResolves
open Go Go.Abs
theorem law (h : List Shot) (unit day : Int) (code : Str) (_ : okShots h) (_ : okI unit) (_ : okI day) (_ : okS code) : lCitationResolves_S h unit day code = some true := by
  simp only [lCitationResolves_S, lCitationResolves_F, awake_true, Option.bind_some, Bool.not_true, cond_false]
  obtain ⟨b, hb, hfew⟩ := qFew_eq h
  rw [hb, Option.bind_some]
  cases b with
  | false => rfl
  | true =>
    have hf := hfew rfl
    have hl := hf.len
    rw [Bool.not_true, cond_false]
    by_cases h40 : code.length ≤ 40
    · rw [decide_eq_false (by omega), cond_false]
      simp only [qCopy_eq hf, Option.bind_some]
      obtain ⟨e, hc, hval⟩ := kCheck_eq h
      have hq : qCheck_S h = some e := (check_same (by omega) (fun x hx => by have := hf.units x hx; omega)).trans hc
      by_cases he : e = 0
      · subst he
        have hv := hval rfl
        obtain ⟨y, c1, c2⟩ := cite_both hv hc hq unit day
        obtain ⟨v, b2, e2, r1, r2, r3, w, r4, r5, r6⟩ := resolve_both hv hc hq (code := code) (by omega)
        rw [c1, c2, r1, r2, r4, r5]
        simp only [Option.bind_some, beq_self_eq_true, cond_true, same_self r3, same_self r6]
      · have hb : (e != 0) = true := by rw [bne_iff_ne]; exact he
        obtain ⟨r1, r2, r3, r4⟩ := resolve_bad hc hq he code
        rw [r1, r2, r3, r4]
        rw [show pCite_S h unit day = some ([], 1) by simp only [pCite_S, pCite_F, hc, Option.bind_some, hb, cond_true], show rCite_S h unit day = some ([], 1) by simp only [rCite_S, rCite_F, hq, Option.bind_some, hb, cond_true]]
        simp only [Option.bind_some, beq_self_eq_true, cond_true, same_self (v := zeroVr) (by simp)]
    · rw [decide_eq_true (by omega), cond_true]
end Go.Proofs.YtmdhahfminiilaaGreatDoor.citationResolves
