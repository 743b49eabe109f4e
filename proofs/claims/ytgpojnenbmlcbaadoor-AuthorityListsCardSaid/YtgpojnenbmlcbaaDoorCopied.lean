/-
  Contract: copied returns a list that shares no memory; one of its elements is handed over with its own slices.
-/
import Derived.Test.YtgpojnenbmlcbaaDoorGB
namespace Go.Proofs.YtgpojnenbmlcbaaDoor
open Go Go.Abs
set_option maxRecDepth 10000
set_option maxHeartbeats 400000

def smallAut (a : Aut) : Bool := decide (a.Names.length ≤ 4294967296) && decide (a.Next.length ≤ 4294967296)
def pcopied_S (l : List Aut) : Option (List Aut) := bif decide (l.length ≤ 4294967296) && l.all smallAut then some l else none
theorem pown_some {a : Aut} (h : smallAut a = true) : pown_S a = some a := by
  simp only [smallAut, Bool.and_eq_true] at h
  simp [pown_S, pown_F, cloneName_S, cloneName_F, cloneInt_S, cloneInt_F, h.1, h.2]
theorem get_mapN {α β : Type} (f : α → β) (l : List α) {i : Nat} (hi : i < l.length) : (l.map f)[i]? = some (f l[i]) := by
  rw [List.getElem?_map, List.getElem?_eq_getElem hi]; rfl
theorem set_self {α β : Type} (f : α → β) (l : List α) {i : Nat} (hi : i < l.length) : l.map f = (l.map f).set i (f l[i]) := by
  apply List.ext_getElem?
  intro j
  by_cases h : i = j
  · subst h; rw [List.getElem?_set_self (by simpa using hi), get_mapN f l hi]
  · rw [List.getElem?_set_ne h]
theorem wrapN {i m : Nat} (h : i < m) (hm : m ≤ 4294967296) : IntKind.i64.wrap ((i : Int) + 1) = ((i + 1 : Nat) : Int) := by
  rw [IntKind.wrap_i64]; omega

theorem pcopied_Of {l r : List Aut} {i : Int} {x : Aut} (h : pcopied_S l = some r) (hx : ix r i = some x) :
    Holds Tryd.prog Gw 53 [.sl 6 (l.map cAut)] (.wo (.ow 0) [(28, 6, r.map cAut, some (i.toNat, [I x.ID, I x.Kind, I x.In.From, I x.In.Until, .ow 1, .ow 2])), (53, 3, x.Names.map cNam, none), (3, 1, x.Next.map cInt, none)]) := by
  unfold pcopied_S at h
  cases hb : (decide (l.length ≤ 4294967296) && l.all smallAut) with
  | false => rw [hb] at h; cases h
  | true =>
  rw [hb] at h
  injection h with h
  subst h
  simp only [Bool.and_eq_true, decide_eq_true_eq] at hb
  have hi := (List.getElem?_eq_some_iff.1 (ix_get hx)).1
  have hxe : x = l[i.toNat] := ((List.getElem?_eq_some_iff.1 (ix_get hx)).2).symm
  have hsm : ∀ k, (hk : k < l.length) → pown_S l[k] = some l[k] := fun k hk => pown_some (List.all_eq_true.1 hb.2 _ (List.getElem_mem hk))
  have hcl : cloneAut_F l = some l := by unfold cloneAut_F; rw [show decide (l.length ≤ 4294967296) = true from by simpa using hb.1]; rfl
  have hlm : (l.map cAut).length = l.length := List.length_map ..
  refine holds_of_wq tabOk mixed Tryd.func53 (by decide) rfl (Nat.le_of_ble_eq_true rfl) ?_
  refine Or.inl ?_
  refine Or.inr (Or.inl ⟨_, _, cloneAut_Oh hcl, ?_⟩)
  refine Or.inl ?_
  refine loop_oq (fun p : Nat ⊕ Nat => [(3, .rs 7 0), (8, .rs 7 0), (9, .c (I ((l.map cAut).length : Int))), (10, .c (I ((p.elim id id : Nat) : Int)))])
    (fun p => match p with
      | .inl _ => [(7, .arr 28 6 (l.map cAut) none)]
      | .inr _ => [(7, .arr 28 6 (l.map cAut) (some (i.toNat, [I x.ID, I x.Kind, I x.In.From, I x.In.Until, .rs 18 0, .rs 65554 0]))), (18, .arr 53 3 (x.Names.map cNam) none), (65554, .arr 3 1 (x.Next.map cInt) none)])
    (fun p => match p with | .inl k => k ≤ i.toNat | .inr k => i.toNat < k ∧ k ≤ l.length) (fun p => match p with | .inl k => l.length - k | .inr k => l.length - k) (.inl 0) (Nat.zero_le _) ⟨rfl, rfl, rfl, rfl, trivial⟩ ⟨rfl, trivial⟩ ?_
  rintro (k | k) hI
  · have hk : k < l.length := Nat.lt_of_le_of_lt hI hi
    have hw : SV.c (I (IntKind.i64.wrap ((k : Int) + 1))) = SV.c (I ((k + 1 : Nat) : Int)) := congrArg (fun n => SV.c (I n)) (wrapN hk hb.1)
    refine join_no ?_
    refine And.intro (fun h => ?_) (fun h => ?_)
    · refine join_no ?_
      refine Or.inl ⟨Int.natCast_nonneg k, (by rw [hlm]; exact hk), ?_⟩
      refine Or.inl ⟨_, get_mapN cAut l hk, ?_⟩
      by_cases hki : k = i.toNat
      · have hxk : l[k] = x := by rw [hxe]; exact getElem_congr rfl hki _
        refine Or.inl ?_
        refine Or.inr (Or.inl ⟨_, _, pown_Oh (hsm k hk), ?_⟩)
        refine Or.inl ⟨Int.natCast_nonneg k, (by rw [hlm]; exact hk), ?_⟩
        refine Or.inl ⟨_, get_mapN cAut l hk, ?_⟩
        refine ⟨_, _, .inr ⟨rfl, rfl⟩, ?_⟩
        refine ⟨.inr (k + 1), (show l.length - (k + 1) < l.length - k by omega), ⟨by omega, hk⟩, ⟨rfl, rfl, rfl, hw, trivial⟩, ?_⟩
        refine ⟨?_, ?_, ?_, trivial⟩
        · refine Eq.trans (b := .arr 28 6 (l.map cAut) (some (k, [I l[k].ID, I l[k].Kind, I l[k].In.From, I l[k].In.Until, .rs 18 0, .rs 65554 0]))) rfl ?_
          rw [hxk, hki]
        · refine Eq.trans (b := .arr 53 3 (l[k].Names.map cNam) none) rfl ?_
          rw [hxk]
        · refine Eq.trans (b := .arr 3 1 (l[k].Next.map cInt) none) rfl ?_
          rw [hxk]
      · refine Or.inl ?_
        refine Or.inl ⟨_, pown_h (hsm k hk), rfl, ?_⟩
        refine Or.inl ⟨Int.natCast_nonneg k, (by rw [hlm]; exact hk), ?_⟩
        refine Or.inl ⟨_, get_mapN cAut l hk, ?_⟩
        refine ⟨l.map cAut, _, .inl ⟨rfl, set_self cAut l hk, rfl⟩, ?_⟩
        exact ⟨.inl (k + 1), (show l.length - (k + 1) < l.length - k by omega), (show k + 1 ≤ i.toNat by have : k ≤ i.toNat := hI; omega), ⟨rfl, rfl, rfl, hw, trivial⟩, ⟨rfl, trivial⟩⟩
    · exact absurd (show decide ((k : Int) < ((l.map cAut).length : Int)) = true from by rw [hlm]; simpa using hk) (by rw [show decide ((k : Int) < ((l.map cAut).length : Int)) = false from h]; simp)
  · refine join_no ?_
    refine And.intro (fun h => ?_) (fun h => ?_)
    · have hk : k < l.length := by have := of_decide_eq_true (show decide ((k : Int) < ((l.map cAut).length : Int)) = true from h); rw [hlm] at this; omega
      have hw : SV.c (I (IntKind.i64.wrap ((k : Int) + 1))) = SV.c (I ((k + 1 : Nat) : Int)) := congrArg (fun n => SV.c (I n)) (wrapN hk hb.1)
      have hne : k ≠ i.toNat := by have := hI.1; omega
      refine join_no ?_
      refine Or.inl ⟨Int.natCast_nonneg k, (by rw [hlm]; exact hk), ?_⟩
      refine Or.inl ⟨_, .inr ⟨hne, get_mapN cAut l hk⟩, ?_⟩
      refine Or.inl ?_
      refine Or.inl ⟨_, pown_h (hsm k hk), rfl, ?_⟩
      refine Or.inl ⟨Int.natCast_nonneg k, (by rw [hlm]; exact hk), ?_⟩
      refine Or.inl ⟨_, .inr ⟨hne, get_mapN cAut l hk⟩, ?_⟩
      refine ⟨l.map cAut, _, .inr ⟨hne, rfl, set_self cAut l hk, rfl⟩, ?_⟩
      exact ⟨.inr (k + 1), (show l.length - (k + 1) < l.length - k by omega), ⟨(by have := hI.1; omega), hk⟩, ⟨rfl, rfl, rfl, hw, trivial⟩, ⟨rfl, rfl, rfl, trivial⟩⟩
    · exact Or.inr ⟨[(7, 0), (18, 0), (65554, 0)], rfl, ⟨rfl, ⟨rfl, ⟨rfl, rfl⟩⟩⟩, rfl⟩
end Go.Proofs.YtgpojnenbmlcbaaDoor
