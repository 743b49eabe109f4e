/- Cite, Resolve, Latest (seat Z: printed out of L50M). -/
import Derived.Test.YtmdhahfminiilaaGreatDoorL50L
import Derived.Test.YtmdhahfminiilaaGreatDoorL50P
import Derived.Test.YtmdhahfminiilaaGreatDoorAw
set_option linter.unusedSimpArgs false
set_option linter.unusedVariables false
namespace Go.Proofs.YtmdhahfminiilaaGreatDoor
open Go Go.Abs
abbrev zeroVr : Version := ⟨0, 0, zeroSt, []⟩
theorem same_loop {v : Version} : ∀ (n i fu : Nat), v.Path.length - i = n → i ≤ v.Path.length → v.Path.length ≤ 1000 → n < fu → rSame_L1 v v fu (i : Int) = some true
  | n, i, 0, _, _, _, h => by omega
  | 0, i, fu + 1, h1, hi, hl, _ => by
    have : i = v.Path.length := by omega
    subst this
    simp only [rSame_L1, List.length_map, decide_eq_false (show ¬ (v.Path.length : Int) < (v.Path.length : Int) by omega), cond_false]
  | n + 1, i, fu + 1, h1, _, hl, hf => by
    have hi : i < v.Path.length := by omega
    simp only [rSame_L1, List.length_map, decide_eq_true (show (i : Int) < (v.Path.length : Int) by omega), cond_true, ix_at hi, Option.bind_some, bne_self_eq_false, cond_false, wrap_succ (n := v.Path.length) (by omega) hi]
    exact same_loop n (i + 1) fu (by omega) (by omega) hl (by omega)
theorem same_self {v : Version} (h : v.Path.length ≤ 1000) : rSame_S v v = some true := by
  simp only [rSame_S, rSame_F, bne_self_eq_false, cond_false, beq_self_eq_true, Bool.not_true]
  exact same_loop v.Path.length 0 2000 (by omega) (by omega) h (by omega)
theorem chain_len (l : List Standing) : ∀ (n : Nat) (u : Int), (chain l n u).length ≤ n
  | 0, u => Nat.le_refl _
  | n + 1, u => by
    rw [chain]
    by_cases h : u = 0
    · rw [if_pos h]; simp
    · rw [if_neg h, List.length_cons]; have := chain_len l n (findV (fnd l u)).1.Parent; omega
theorem path_len (l : List Standing) (u : Int) : (pathV l u).length ≤ 12 := by
  unfold pathV; rw [List.length_reverse]; exact chain_len l 12 u
theorem vers_path {unit : Int} {l : List Shot} {v : Version} (h : v ∈ versV unit l) : v.Path.length ≤ 1000 := by
  obtain ⟨x, _, _, _, h4⟩ := vers_mem unit l none 0 v h
  rw [h4]
  have := path_len x.Units unit
  omega
theorem pCite_eq {h : List Shot} (hv : validH h) (hc : kCheck_S h = some 0) (unit day : Int) : pCite_S h unit day = match stV h unit day with
    | some _ => pFormat_S unit (cut day 0 (versV unit h)).2
    | none => some ([], 7) := by
  simp only [pCite_S, pCite_F, hc, Option.bind_some, bne_self_eq_false, cond_false, kStanding_eq hv hc, cut_eq hv]
  cases stV h unit day with
  | none => rfl
  | some s =>
    simp only [findV, Bool.not_true, cond_false]
    cases (cut day 0 (versV unit h)).1 <;> (simp only [cond_true, cond_false]; cases pFormat_S unit (cut day 0 (versV unit h)).2 <;> rfl)
theorem pcited_eq {h : List Shot} (hv : validH h) (hc : kCheck_S h = some 0) {u n : Nat} (hun : okUV u n) : pcited_S h (fmtUV u n) = some (if n ≤ (versV (u : Int) h).length then (versV (u : Int) h, (n : Int), 0) else ([], 0, 7)) := by
  obtain ⟨h1, h2, h3, h4⟩ := hun
  simp only [pcited_S, pcited_F, hc, Option.bind_some, bne_self_eq_false, cond_false, parse_fmt ⟨h1, h2, h3, h4⟩, pVersions_eq hv hc]
  by_cases he : versV (u : Int) h = []
  · rw [if_pos he, he]
    simp only [List.length_map, List.length_nil]
    rw [if_neg (by omega), decide_eq_true (by omega), cond_true]
  · rw [if_neg he]
    simp only [List.length_map]
    by_cases hn : n ≤ (versV (u : Int) h).length
    · rw [if_pos hn, decide_eq_false (by omega), cond_false]
    · rw [if_neg hn, decide_eq_true (by omega), cond_true]
theorem pcited_bad {h : List Shot} {e : Int} (hc : kCheck_S h = some e) (he : e ≠ 0) (code : Str) : pcited_S h code = some ([], 0, 1) := by
  simp only [pcited_S, pcited_F, hc, Option.bind_some]
  rw [show (e != 0) = true by rw [bne_iff_ne]; exact he, cond_true]
theorem pResolve_eq {h : List Shot} (hv : validH h) (hc : kCheck_S h = some 0) {u n : Nat} (hun : okUV u n) {v : Version} (hn : (versV (u : Int) h)[n - 1]? = some v) : pResolve_S h (fmtUV u n) = some (v, 0) := by
  obtain ⟨hlt, hget⟩ := List.getElem?_eq_some_iff.1 hn
  have h3 := hun.2.2
  have hl := vers_len (u : Int) h none 0
  have hhl := hv.len
  unfold versV at hlt
  simp only [pResolve_S, pResolve_F, pcited_eq hv hc hun, Option.bind_some]
  rw [if_pos (by unfold versV; omega)]
  simp only [bne_self_eq_false, cond_false]
  rw [wrap_id (by unfold okI; omega), show ((n : Nat) : Int) - 1 = ((n - 1 : Nat) : Int) by omega, ix_at (l := versV (u : Int) h) hlt, Option.bind_some, hget]
theorem take_all {α : Type} {p : α → Bool} : ∀ {l : List α}, (∀ x ∈ l, p x = true) → l.takeWhile p = l
  | [], _ => rfl
  | x :: r, h => by rw [List.takeWhile_cons, h x (by simp), if_pos rfl, take_all fun y hy => h y (List.mem_cons_of_mem _ hy)]
theorem pLatest_eq {h : List Shot} (hv : validH h) (hc : kCheck_S h = some 0) {u n : Nat} (hun : okUV u n) : pLatest_S h (fmtUV u n) = some (if n ≤ (versV (u : Int) h).length then ((versV (u : Int) h).getLast?.getD zeroVr, (stV h (u : Int) 1048575).isSome, 0) else (zeroVr, false, 7)) := by
  have h3 := hun.2.2
  have hl := vers_len (u : Int) h none 0
  have hhl := hv.len
  simp only [pLatest_S, pLatest_F, pcited_eq hv hc hun, Option.bind_some]
  by_cases hn : n ≤ (versV (u : Int) h).length
  · rw [if_pos hn, if_pos hn]
    simp only [bne_self_eq_false, cond_false, List.length_map]
    unfold versV at hn
    have hlt : (versV (u : Int) h).length - 1 < (versV (u : Int) h).length := by unfold versV; omega
    have hlh : h.length - 1 < h.length := by omega
    rw [wrap_id (by unfold okI versV; omega), wrap_id (by unfold okI; omega), show (((versV (u : Int) h).length : Nat) : Int) - 1 = (((versV (u : Int) h).length - 1 : Nat) : Int) by unfold versV; omega, show ((h.length : Nat) : Int) - 1 = ((h.length - 1 : Nat) : Int) by omega, ix_at hlt, Option.bind_some, ix_at hlh, Option.bind_some]
    have hx := (hv.shot _ (List.getElem_mem hlh)).len
    have hlast : (versV (u : Int) h).getLast? = some (versV (u : Int) h)[(versV (u : Int) h).length - 1] := by
      rw [List.getLast?_eq_getElem?, List.getElem?_eq_getElem hlt]
    obtain ⟨y, _, _, hy, _⟩ := vers_mem (u : Int) h none 0 _ (List.getElem_mem hlt)
    have hunit := (fnd_unit hy).1
    rw [show (versV (u : Int) h)[(versV (u : Int) h).length - 1].Unit.Unit = (u : Int) from hunit, pfind_eq (by omega), Option.bind_some, hlast]
    have hup : upto 1048575 h = h := by
      unfold upto
      refine take_all fun x hx => ?_
      have := (hv.shot x hx).d1
      exact decide_eq_true this
    have hst : stV h (u : Int) 1048575 = fnd h[h.length - 1].Units (u : Int) := by
      unfold stV
      rw [hup, List.getLast?_eq_getElem?, List.getElem?_eq_getElem hlh, Option.bind_some]
    rw [hst]
    cases fnd h[h.length - 1].Units (u : Int) <;> rfl
  · rw [if_neg hn, if_neg hn]
    rfl
theorem pLatest_bad {h : List Shot} {e : Int} (hc : kCheck_S h = some e) (he : e ≠ 0) (code : Str) : pLatest_S h code = some (zeroVr, false, 1) := by
  simp only [pLatest_S, pLatest_F, pcited_bad hc he, Option.bind_some]
  rfl
theorem count_fmt {u v : Nat} (h : okUV u v) : sCount_S (fmtUV u v) [45] = some 2 := by
  obtain ⟨h1, h2, h3, h4⟩ := h
  have hu := dec_spec u h1
  have hv := dec_spec v h3
  have lu := dec_len 10 u (by omega) (by omega)
  have lv := dec_len 2 v (by omega) (by omega)
  have hc := chkC_b u v
  have no : ∀ {s : Str}, s.all d0 = true → s.count 45 = 0 := fun hs => by
    rw [List.count_eq_zero]
    intro hm
    have := List.all_eq_true.1 hs 45 hm
    cases this
  have cd : (chk u v).all d0 = true := by
    unfold chk
    rw [List.all_cons, List.all_cons, (digit_ok ⟨chkC u v / 10, by omega⟩).1, (digit_ok ⟨chkC u v % 10, by omega⟩).1]; rfl
  have hcnt : (fmtUV u v).count 45 = 2 := by
    unfold fmtUV
    simp only [List.count_append, no (canon_all hu.1), no (canon_all hv.1), no cd]
    rfl
  have hlen : (fmtUV u v).length ≤ 100 := by unfold fmtUV chk; simp; omega
  unfold sCount_S
  rw [decide_eq_true (show (fmtUV u v).length < 4294967281 by omega), show decide (1 ≤ ([45] : Str).length) = true by decide, Bool.and_self, cond_true]
  have : Lib.countB ⟨⟨fmtUV u v⟩⟩ ⟨⟨[45]⟩⟩ = Lib.count (fmtUV u v) [45] := rfl
  rw [this, Lib.count_one, hcnt]
  rfl
end Go.Proofs.YtmdhahfminiilaaGreatDoor
