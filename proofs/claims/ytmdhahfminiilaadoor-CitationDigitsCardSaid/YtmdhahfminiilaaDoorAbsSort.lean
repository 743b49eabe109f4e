import Derived.Test.YtmdhahfminiilaaDoorAbsOpF
import Derived.Shelf.Sort.Plain
set_option linter.unusedVariables false
set_option linter.unusedSimpArgs false
/-
  A slice of the caller's own that is sorted in its place: out of the shelf's contract.
-/
namespace Go.Abs
open Go Go.RowKit

theorem effpost_at {Z : Zone} {w : World} {o o' : AObj} {Eo : Nat → Value} {w' : World} {r : SV} {x : Value} (hg : Grp Z w [(0, o)] Eo) (hz : ∀ b o, Z b o → b < w.heap.size) {b : Nat} (hb : o.blk (Eo 0) b) (hb' : ∀ c, o'.blk (Eo 0) c → c = b)
    (hk : Kept (fun k => k < w.heap.size ∧ k ≠ b) w w') (hne : ∀ c, ¬ Z b c) (hok : ObjOk Z w' (objL [(0, o')]) Eo (Eo 0) o') (hsk : ObjKeep (objL [(0, o)]) Eo (objL [(0, o')]) Eo) (hr : RepS Z w' (objL [(0, o')]) Eo r x) :
    EffPost Z w [(0, o)] Eo Z w' [(0, o')] Eo r x :=
  { res := hr
    grp := ⟨fun j => by
        rw [objL_one]
        by_cases hj : j = 0
        · rw [if_pos hj, hj]; exact hok
        · rw [if_neg hj]; trivial,
      fun j j' b hne h1 h2 => hne ((one_obj h1).1.trans (one_obj h2).1.symm)⟩
    keeps := fun c k h => ⟨h, keep_heap (hk.block c ⟨hz c k h, fun e => hne k (e ▸ h)⟩)⟩
    zlt := fun c k h => Nat.lt_of_lt_of_le (hz c k h) hk.size
    znew := fun _ _ h => .inl h
    kept := hk.mono fun k h => ⟨h.1, fun e => h.2 ⟨0, by rw [e]; exact hb⟩⟩
    own := fun c ⟨j, hj⟩ => by
      obtain ⟨_, h⟩ := one_obj hj
      exact .inr ⟨0, by rw [hb' _ h]; exact hb⟩
    ok := hsk }
theorem arr_keep {e sz : Nat} {ds ds' : List (List CV)} {Eo : Nat → Value} : ObjKeep (objL [(0, .arr e sz ds none)]) Eo (objL [(0, .arr e sz ds' none)]) Eo where
  gen t := by rw [objL_one, objL_one]; split <;> exact Nat.le_refl _
  var t g _ hlv := by
    obtain ⟨cs, hlv⟩ := hlv
    rw [objL_one] at hlv
    by_cases ht : t = 0
    · rw [if_pos ht] at hlv; simp at hlv
    · rw [if_neg ht] at hlv; simp at hlv
  ext t g K cs hg hlv := by
    rw [objL_one] at hlv
    by_cases ht : t = 0
    · rw [if_pos ht] at hlv; simp at hlv
    · rw [if_neg ht] at hlv; simp at hlv
  tok t g el s hg hlv := by
    rw [objL_one] at hlv
    by_cases ht : t = 0
    · rw [if_pos ht] at hlv; simp at hlv
    · rw [if_neg ht] at hlv; simp at hlv
  arr t g el sz ds foc hg hlv := by
    rw [objL_one] at hlv
    by_cases ht : t = 0
    · rw [if_pos ht] at hlv
      simp at hlv
      obtain ⟨rfl, rfl, rfl, rfl, rfl⟩ := hlv
      exact ⟨⟨_, none, by rw [ht]; rfl⟩, rfl⟩
    · rw [if_neg ht] at hlv; simp at hlv
  map t g es hg hlv := by
    rw [objL_one] at hlv
    by_cases ht : t = 0
    · rw [if_pos ht] at hlv; simp at hlv
    · rw [if_neg ht] at hlv; simp at hlv

/-- The cells of a row of one-cell values. -/
theorem eff_sortI {P : Program} {G : World → Prop} {f : FuncId} {e : TypeId} (hb : HasBody P f)
    (hnone : ∀ (p : Option Addr) (cap : Nat) (w : World), Calls P f #[.slice p 0 cap] w fun e w' => e = .returned (.tuple #[]) ∧ w' = w)
    (hsort : ∀ (blk off cap : Nat) (zs : List Int) (w : World), Go.Sort.Holds (Value.int .i64) w blk off zs.toArray → blk < w.heap.size → zs.length < 4611686018427387904 →
      Calls P f #[.slice (some ⟨blk, off, none⟩) zs.length cap] w fun e w' => e = .returned (.tuple #[]) ∧ ∃ n os, w' = Sort.grow (Sort.putRow (Value.int .i64) (Sort.ahead w n) blk off (zs.mergeSort fun x y => decide (x ≤ y)).toArray) os) (l : List Int) (hlen : l.length < 4611686018427387904) :
    EffFn P G f [.rs 0 0] [(0, .arr e 1 (l.map cInt) none)] (.c (.tup [])) [(0, .arr e 1 ((l.mergeSort fun x y => decide (x ≤ y)).map cInt) none)] := by
  refine ⟨hb, fun Z w Eo vs hg hz hl hargs hgs => ?_⟩
  match vs, hl with
  | [v], _ =>
    have hx := hargs 0 (.rs 0 0) v rfl rfl
    have hE : Eo 0 = v := by cases hx with | rs _ _ _ hs _ hp => exact hp _ _ _ _ rfl
    obtain ⟨xs, hszp, hown, hfoc, hlens, hcells, hnz⟩ := hg.ok 0
    rw [hE] at hown hnz
    have hres : ∀ w' (obj : Objs), RepS Z w' obj Eo (.c (.tup [])) (.tuple #[]) := fun w' obj => .c _ _ (.tup [] [] rfl fun i c x h => by simp at h)
    obtain ⟨hxl, hown⟩ := hown
    simp only [List.length_map, Nat.mul_one] at hxl hown
    have hxs : xs = l.map (Value.int .i64) := by
      apply List.ext_getElem?
      intro i
      by_cases hi : i < l.length
      · have hd : (l.map cInt)[i]? = some (cInt l[i]) := by rw [List.getElem?_map, List.getElem?_eq_getElem hi]; rfl
        obtain ⟨_, u, hu, hr⟩ := hcells i _ (by simpa using hi) hd 0 _ rfl
        have : u = .int .i64 l[i] := by
          cases hr with
          | one h => cases h with | cl h => exact rep_v h
        simp only [Nat.mul_one, Nat.add_zero] at hu
        rw [hu, this, List.getElem?_map, List.getElem?_eq_getElem hi]; rfl
      · rw [List.getElem?_eq_none (by omega), List.getElem?_eq_none (by simpa using hi)]
    rcases hown with ⟨rfl, h0⟩ | ⟨g, cap, cur, rfl, _, hh, hcap, hmax, hcs, htake⟩
    · have hl0 : l = [] := List.eq_nil_of_length_eq_zero h0
      subst hl0
      refine (hnone none 0 w).mono fun e' w' ⟨he, hw⟩ => ⟨_, Z, Eo, he, ?_⟩
      subst hw
      simp only [List.mergeSort]
      exact effpost_same hg hz (hres _ _)
    · have hlt : g < w.heap.size := (Array.getElem?_eq_some_iff.1 hh).1
      have hcur : ∀ i, i < l.length → cur[i]? = some (.int .i64 (l.getD i 0)) := fun i hi => by
        have h1 : (cur.toList.take l.length)[i]? = (l.map (Value.int .i64))[i]? := by rw [htake, hxs]
        rw [List.getElem?_take, if_pos hi, List.getElem?_map, List.getElem?_eq_getElem hi] at h1
        rw [← Array.getElem?_toList, h1]
        simp [List.getD_eq_getElem?_getD, hi]
      have hH : Go.Sort.Holds (Value.int .i64) w g 0 l.toArray := fun j hj => by
        have hj' : j < l.length := by simpa using hj
        constructor
        · have := hcur j hj'
          simp only [World.cell?, hh, Nat.zero_add]
          rw [this]
          simp [List.getD_eq_getElem?_getD, hj']
        · simp [World.frozen?, hh]
      refine (hsort g 0 cap l w hH hlt hlen).mono fun e' w' ⟨he, n, os, hw⟩ => ⟨_, Z, Eo, he, ?_⟩
      have hml : (l.mergeSort fun x y => decide (x ≤ y)).length = l.length := by simp
      have hcell : w'.heap[g]? = some (.cells (Sort.putCells (Value.int .i64) 0 (l.mergeSort fun x y => decide (x ≤ y)).toArray cur) e (0, 0)) := by
        rw [hw, Sort.heap_grow_old _ _ (by simpa using hlt)]
        simp only [Sort.putRow, Sort.mapBlock, Sort.heap_ahead, Array.getElem?_modify, hh]
        simp [Sort.onCells]
      have hblk : AObj.blk (.arr e 1 (l.map cInt) none) (Eo 0) g := by rw [hE]
      have key : ∀ k, k < w.heap.size → k ≠ g → w'.heap[k]? = w.heap[k]? := fun k hk1 hk2 => by
        rw [hw]
        rw [Sort.heap_grow_old _ _ (by simpa using hk1)]
        simp only [Sort.putRow, Sort.mapBlock, Sort.heap_ahead, Array.getElem?_modify]
        rw [if_neg (fun e => hk2 e.symm)]
      have hks : Kept (fun k => k < w.heap.size ∧ k ≠ g) w w' :=
        ⟨by rw [hw]; rfl, by rw [hw]; rfl, by rw [hw]; rfl, by rw [hw]; simp, fun k hk => key k hk.1 hk.2, fun k hk => (key k (Array.getElem?_eq_some_iff.1 hk).1 (fun e => by rw [e, hh] at hk; exact nomatch hk)).trans hk⟩
      refine effpost_at hg hz hblk (fun c h => by rw [hE] at h; cases h; rfl) hks (fun c => hnz g c rfl) ?_ arr_keep (hres _ _)
      rw [hE]
      refine arr_ok (sz := 1) (xs := (l.mergeSort fun x y => decide (x ≤ y)).map (Value.int .i64)) (fun _ => rfl) Nat.one_pos ?_ (fun i j a c ha hc => ?_) hnz
      · refine ⟨by simp, .inr ⟨g, cap, _, by rw [hml], Nat.zero_le _, hcell, by rw [hml]; exact hcap, hmax, by simp [Sort.putCells, hcs], ?_⟩⟩
        apply List.ext_getElem?
        intro i
        rw [List.getElem?_take, Nat.mul_one, List.getElem?_map]
        by_cases hi : i < (l.mergeSort fun x y => decide (x ≤ y)).length
        · rw [if_pos hi, Array.getElem?_toList, Sort.putCells, Array.getElem?_mapIdx, hcur i (by omega)]
          have hi' : i < (l.mergeSort fun x y => decide (x ≤ y)).toArray.size := by simpa using hi
          simp only [Option.map_some, Nat.zero_le, true_and, Nat.zero_add, Nat.sub_zero]
          rw [if_pos hi', getElem!_pos _ i hi', List.getElem?_eq_getElem hi]
          simp
        · rw [if_neg hi, List.getElem?_eq_none (by omega)]; rfl
      · match j, hc with
        | 0, hc =>
          simp [cInt] at hc
          subst hc
          exact ⟨rfl, .int .i64 a, by simp [List.getElem?_map, ha], .v _⟩
        | j + 1, hc => simp [cInt] at hc
/-- Sorting by insertion: by structure, so that it can be run. -/
def ins (x : Int) : List Int → List Int
  | [] => [x]
  | y :: r => bif decide (x ≤ y) then x :: y :: r else y :: ins x r
def isort : List Int → List Int
  | [] => []
  | x :: r => ins x (isort r)
theorem ins_perm (x : Int) : ∀ l : List Int, (ins x l).Perm (x :: l)
  | [] => .refl _
  | y :: r => by
    simp only [ins]
    cases decide (x ≤ y) with
    | true => exact .refl _
    | false => exact ((ins_perm x r).cons y).trans (.swap x y r)
theorem isort_perm : ∀ l : List Int, (isort l).Perm l
  | [] => .refl _
  | x :: r => (ins_perm x (isort r)).trans ((isort_perm r).cons x)
theorem ins_sorted (x : Int) : ∀ l : List Int, l.Pairwise (· ≤ ·) → (ins x l).Pairwise (· ≤ ·)
  | [], _ => by simp [ins]
  | y :: r, h => by
    simp only [ins]
    have h' := List.pairwise_cons.1 h
    cases hd : decide (x ≤ y) with
    | true =>
      have hxy := of_decide_eq_true hd
      exact List.pairwise_cons.2 ⟨fun z hz => by
        rcases List.mem_cons.1 hz with rfl | hz
        · exact hxy
        · exact Int.le_trans hxy (h'.1 z hz), h⟩
    | false =>
      have hxy := of_decide_eq_false hd
      exact List.pairwise_cons.2 ⟨fun z hz => by
        rcases List.mem_cons.1 ((ins_perm x r).mem_iff.1 hz) with rfl | hz
        · omega
        · exact h'.1 z hz, ins_sorted x r h'.2⟩
theorem isort_sorted : ∀ l : List Int, (isort l).Pairwise (· ≤ ·)
  | [] => .nil
  | x :: r => ins_sorted x _ (isort_sorted r)
theorem sorted_eq {a b : List Int} (ha : a.Pairwise (· ≤ ·)) (hb : b.Pairwise (· ≤ ·)) (h : a.Perm b) : a = b :=
  List.Perm.eq_of_pairwise (fun _ _ _ _ h1 h2 => Int.le_antisymm h1 h2) ha hb h
theorem mergeSort_isort (l : List Int) : (l.mergeSort fun x y => decide (x ≤ y)) = isort l := by
  have h := List.pairwise_mergeSort (le := fun x y : Int => decide (x ≤ y)) (fun a b c h1 h2 => decide_eq_true (Int.le_trans (of_decide_eq_true h1) (of_decide_eq_true h2))) (fun a b => by
    cases h : decide (a ≤ b) with
    | true => rfl
    | false => have := of_decide_eq_false h; simp; omega) l
  exact sorted_eq (h.imp fun h => of_decide_eq_true h) (isort_sorted l) ((List.mergeSort_perm l _).trans (isort_perm l).symm)
end Go.Abs
