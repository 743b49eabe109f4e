/- The plain law of archivumlaw23.AuthorityOne. -/
import Derived.Test.YtgpojnenbmlcbaaDoorLNames
namespace Go.Proofs.YtgpojnenbmlcbaaDoor
open Go Go.Abs

theorem few_small {a : Aut} (h : fewOf a = true) : smallAut a = true := by
  obtain ⟨h1, h2, _⟩ := fewOf_names h
  simp only [smallAut, Bool.and_eq_true, decide_eq_true_eq]
  omega
theorem pFind_eq {l : List Aut} (h : okAuts l) (hf : few l = true) (id : Int) : pFind_S l id = some (found l id, !(gone l id)) := by
  simp only [pFind_S, pFind_F, pindex_eq h.1, Option.bind_some, found, gone]
  cases hq : findA l id with
  | none => rw [decide_eq_true (idx_find.1.2 hq)]; rfl
  | some a =>
    have hn : ¬ idxOf (fun a => a.ID == id) l < 0 := fun hc => by rw [idx_find.1.1 hc] at hq; exact nomatch hq
    have hm : a ∈ l := List.mem_of_find?_eq_some hq
    rw [decide_eq_false hn]
    simp only [cond_false, idx_find.2 a hq, Option.bind_some, pown_some (few_small (few_mem hf hm))]
    rfl
/-- In order and apart: at most one name on a day. -/
theorem on_one {n : List Nam} (hs : Sorted n) {day : Int} {i j : Nat} (hi : i < n.length) (hj : j < n.length) (h1 : onSpan n[i].In day = true) (h2 : onSpan n[j].In day = true) : i = j := by
  simp only [onSpan, Bool.and_eq_true, decide_eq_true_eq] at h1 h2
  rcases Nat.lt_trichotomy i j with h | h | h
  · have := hs.2 i j hj h; omega
  · exact h
  · have := hs.2 j i hi h; omega
theorem count_loop {n : List Nam} {day : Int} (L : Nat → Int → Int → Option Bool) (fin : Nat → Option Bool) (he : ∀ fu (c : Nat), L (fu + 1) (c : Int) (n.length : Int) = fin c)
    (hs : ∀ (fu c i : Nat) (hi : i < n.length), c ≤ i → L (fu + 1) (c : Int) (i : Int) = bif onSpan n[i].In day then L fu ((c + 1 : Nat) : Int) ((i + 1 : Nat) : Int) else L fu (c : Int) ((i + 1 : Nat) : Int)) :
    ∀ (k i fu c : Nat), n.length - i = k → i ≤ n.length → k < fu → c ≤ i → L fu (c : Int) (i : Int) = fin (c + (n.drop i).countP fun x => onSpan x.In day)
  | k, i, 0, _, _, _, h, _ => by omega
  | 0, i, fu + 1, c, hn, hi, _, _ => by
    have : i = n.length := by omega
    subst this
    rw [he, List.drop_length]; rfl
  | k + 1, i, fu + 1, c, hn, _, hf, hc => by
    have hi : i < n.length := by omega
    rw [hs fu c i hi hc, List.drop_eq_getElem_cons hi, List.countP_cons]
    cases ho : onSpan n[i].In day with
    | true =>
      rw [cond_true, count_loop L fin he hs k (i + 1) fu (c + 1) (by omega) (by omega) (by omega) (by omega)]
      simp only [if_true]
      congr 1; omega
    | false =>
      rw [cond_false, count_loop L fin he hs k (i + 1) fu c (by omega) (by omega) (by omega) (by omega)]
      simp
theorem count_zero {n : List Nam} {day : Int} (h : n.find? (fun x => onSpan x.In day) = none) : n.countP (fun x => onSpan x.In day) = 0 := by
  rw [List.find?_eq_none] at h
  rw [List.countP_eq_zero]
  exact h
theorem count_one {n : List Nam} (hs : Sorted n) {day : Int} {x : Nam} (h : n.find? (fun x => onSpan x.In day) = some x) : n.countP (fun x => onSpan x.In day) = 1 ∧ ∀ y ∈ n, onSpan y.In day = true → y = x := by
  rw [List.find?_eq_some_iff_getElem] at h
  obtain ⟨hx, k, hk, rfl, hj⟩ := h
  have huniq : ∀ y ∈ n, onSpan y.In day = true → y = n[k] := fun y hy ho => by
    obtain ⟨m, hm, rfl⟩ := List.getElem_of_mem hy
    have := on_one hs hm hk ho hx
    subst this; rfl
  refine ⟨?_, huniq⟩
  have e : n = n.take k ++ n[k] :: n.drop (k + 1) := by
    rw [← List.drop_eq_getElem_cons hk]; exact (List.take_append_drop k n).symm
  have z1 : (n.take k).countP (fun x => onSpan x.In day) = 0 := by
    rw [List.countP_eq_zero]
    intro y hy ho
    obtain ⟨m, hm, rfl⟩ := List.getElem_of_mem hy
    rw [List.length_take] at hm
    rw [List.getElem_take] at ho
    have := on_one hs (show m < n.length by omega) hk ho hx
    omega
  have z2 : (n.drop (k + 1)).countP (fun x => onSpan x.In day) = 0 := by
    rw [List.countP_eq_zero]
    intro y hy ho
    obtain ⟨m, hm, rfl⟩ := List.getElem_of_mem hy
    rw [List.length_drop] at hm
    rw [List.getElem_drop] at ho
    have := on_one hs (show k + 1 + m < n.length by omega) hk ho hx
    omega
  have : n.countP (fun x => onSpan x.In day) = (n.take k ++ n[k] :: n.drop (k + 1)).countP (fun x => onSpan x.In day) := congrArg (List.countP fun x => onSpan x.In day) e
  rw [this, List.countP_append, List.countP_cons, z1, z2, hx]
  rfl
end Go.Proofs.YtgpojnenbmlcbaaDoor
