/- The laid variables of a witness world, checked block by block (not place by place). -/
import Derived.LaidLaws
namespace Go.Abs
open Go
def rowsOf (bs : List (Nat × Nat)) : List MemPlace := bs.flatMap fun x => MemPlace.row ⟨x.1, 0, none⟩ x.2
def blocksB (P : Program) (w : World) (bs : List (Nat × Nat)) : Bool := bs.all fun x => match w.heap[x.1]? with
  | some (.cells c _ (0, 0)) => c.toList.all fun | .iface u v => Value.okWideB P w u v | _ => true
  | _ => false
theorem mem_rowsOf {bs : List (Nat × Nat)} {b off : Nat} (h : MemPlace.cell b off ∈ rowsOf bs) : ∃ n, (b, n) ∈ bs := by
  obtain ⟨x, hx, hm⟩ := List.mem_flatMap.1 h
  obtain ⟨i, _, hi⟩ := List.mem_map.1 hm
  obtain ⟨h1, h2⟩ := MemPlace.cell.inj hi
  exact ⟨x.2, by rw [← h1]; exact hx⟩
theorem nodup_rowsOf : ∀ {bs : List (Nat × Nat)}, (bs.map (·.1)).Nodup → (rowsOf bs).Nodup
  | [], _ => List.nodup_nil
  | (b, n) :: r, h => by
    rw [List.map_cons, List.nodup_cons] at h
    show (MemPlace.row ⟨b, 0, none⟩ n ++ rowsOf r).Nodup
    rw [List.nodup_append]
    refine ⟨?_, nodup_rowsOf h.2, fun x hx y hy he => ?_⟩
    · refine List.Pairwise.map _ (fun x y hxy => ?_) List.nodup_range
      intro hq
      have := (MemPlace.cell.inj hq).2
      exact hxy (by omega)
    · obtain ⟨i, _, rfl⟩ := List.mem_map.1 hx
      rw [← he] at hy
      obtain ⟨m, hm⟩ := mem_rowsOf hy
      exact h.1 (List.mem_map.2 ⟨_, hm, rfl⟩)
theorem laidMet_of_blocks {P : Program} {w : World} {l : List (String × DataW Unit)} (bs : List (Nat × Nat)) (fuel : Nat) (h : DataW.laidRun P w fuel (l.map (·.1)) = some (l, rowsOf bs))
    (hn : decide (bs.map (·.1)).Nodup = true) (hr : blocksB P w bs = true) : laidMet P l w := by
  refine ⟨rowsOf bs, DataW.LaidVars_of_laidRun h, nodup_rowsOf (of_decide_eq_true hn), fun b off hp => ?_⟩
  obtain ⟨n, hb⟩ := mem_rowsOf hp
  have h1 := List.all_eq_true.1 hr _ hb
  simp only at h1
  split at h1
  · rename_i c t hh
    refine ⟨⟨c, t, hh⟩, fun u v hc => ?_⟩
    simp only [World.cell?, hh, Option.isSome_none, Bool.false_eq_true, if_false] at hc
    have := List.all_eq_true.1 h1 (.iface u v) (Array.mem_toList_iff.2 (Array.mem_of_getElem? hc))
    exact Value.okWide_of_okWideB this
  · cases h1
end Go.Abs
