/-
  Contract: Copy (the reference's) returns a list that shares no memory; one of its elements is handed over with its own slices.
-/
import Derived.Test.YtgpojnenbmlcbaaDoorGE
namespace Go.Proofs.YtgpojnenbmlcbaaDoor
open Go Go.Abs
set_option maxRecDepth 10000
set_option maxHeartbeats 400000

theorem bcond {p : Prop} [Decidable p] {α : Type} {x : Option α} {r : α} (h : (bif decide p then x else none) = some r) : p ∧ x = some r := by
  by_cases hp : p
  · rw [decide_eq_true hp] at h; exact ⟨hp, h⟩
  · rw [decide_eq_false hp] at h; cases h
theorem ixN {α : Type} {l : List α} {k : Nat} (h : k < l.length) : ix l (k : Int) = some l[k] := by
  unfold ix
  rw [if_neg (by omega), Int.toNat_natCast, List.getElem?_eq_getElem h]
theorem take_succ_one {α : Type} {l : List α} {k : Nat} (h : k < l.length) : l.take k ++ [l[k]] = l.take (k + 1) := (List.take_append_getElem h)
theorem take_succ_map {l : List Aut} {k : Nat} (h : k < l.length) : (l.take (k + 1)).map cAut = (l.take k).map cAut ++ [cAut l[k]] := by
  rw [← take_succ_one h, List.map_append]; rfl
theorem rCopy_inv_loop {l r : List Aut} : ∀ (fu k : Nat), k ≤ l.length → k ≤ 4294967296 → rCopy_L1 l fu (l.take k) (k : Int) = some r → r = l ∧ l.length ≤ 4294967296 ∧ ∀ a ∈ l.drop k, smallAut a = true
  | 0, _, _, _, h => nomatch h
  | fu + 1, k, hk, hm, h => by
    rw [rCopy_L1, List.length_map] at h
    by_cases hlt : k < l.length
    · rw [decide_eq_true (show (k : Int) < (l.length : Int) by omega), cond_true, ixN hlt, Option.bind_some] at h
      obtain ⟨h1, h⟩ := bcond h
      obtain ⟨h2, h⟩ := bcond h
      obtain ⟨h3, h⟩ := bcond h
      have h3' : k + 1 ≤ 4294967296 := by
        rw [List.length_take, List.length_singleton] at h3
        omega
      rw [wrapN (m := k + 1) (by omega) h3', show ((⟨l[k].ID, l[k].Kind, l[k].In, ([] : List Nam) ++ l[k].Names, ([] : List Int) ++ l[k].Next⟩ : Aut)) = l[k] from rfl, take_succ_one hlt] at h
      obtain ⟨g1, g2, g3⟩ := rCopy_inv_loop fu (k + 1) (by omega) h3' h
      refine ⟨g1, g2, fun a ha => ?_⟩
      rw [List.drop_eq_getElem_cons hlt] at ha
      rcases List.mem_cons.1 ha with rfl | ha
      · rw [List.length_nil, Nat.zero_add] at h1 h2
        simp only [smallAut, Bool.and_eq_true, decide_eq_true_eq]
        exact ⟨h1, h2⟩
      · exact g3 a ha
    · rw [decide_eq_false (show ¬ (k : Int) < (l.length : Int) by omega), cond_false] at h
      have e : k = l.length := by omega
      subst e
      rw [List.take_length] at h
      exact ⟨(Option.some.inj h).symm, hm, by simp⟩
theorem rCopy_inv {l r : List Aut} (h : rCopy_S l = some r) : r = l ∧ l.length ≤ 4294967296 ∧ ∀ a ∈ l, smallAut a = true := by
  have := rCopy_inv_loop (l := l) (r := r) (l.length + 1) 0 (Nat.zero_le _) (Nat.zero_le _) h
  exact this
theorem small_names {a : Aut} (h : smallAut a = true) : (a.Names.map cNam).length ≤ 4294967296 ∧ (a.Next.map cInt).length ≤ 4294967296 := by
  simp only [smallAut, Bool.and_eq_true, decide_eq_true_eq] at h
  rw [List.length_map, List.length_map]
  exact h

theorem small_names0 {a : Aut} (h : smallAut a = true) : ([] : List (List CV)).length + (a.Names.map cNam).length ≤ 4294967296 ∧ ([] : List (List CV)).length + (a.Next.map cInt).length ≤ 4294967296 := by
  rw [List.length_nil, Nat.zero_add, Nat.zero_add]
  exact small_names h

theorem rCopy_Of {l r : List Aut} {i : Int} {x : Aut} (h : rCopy_S l = some r) (hx : ix r i = some x) :
    Holds Tryd.prog Gw 14 [.sl 6 (l.map cAut)] (.wo (.ow 0) [(28, 6, r.map cAut, some (i.toNat, [I x.ID, I x.Kind, I x.In.From, I x.In.Until, .ow 1, .ow 2])), (53, 3, x.Names.map cNam, none), (3, 1, x.Next.map cInt, none)]) := by
  obtain ⟨hr, hlen, hsm⟩ := rCopy_inv h
  rw [hr] at hx ⊢
  have hi := (List.getElem?_eq_some_iff.1 (ix_get hx)).1
  have hxe : x = l[i.toNat] := ((List.getElem?_eq_some_iff.1 (ix_get hx)).2).symm
  have hlm : (l.map cAut).length = l.length := List.length_map ..
  have htl : ∀ k, (l.take k).length ≤ l.length := fun k => by rw [List.length_take]; omega
  refine holds_of_wq tabOk mixed Tryd.func14 (by decide) rfl (Nat.le_of_ble_eq_true rfl) ?_
  refine Or.inl ?_
  refine Or.inr ⟨[], 0, _, _, _, _, rfl, rfl, eff_nilS (e := 28) (ie := ti28) (by decide), rfl, ?_⟩
  refine loop_oq (fun p : Nat ⊕ Nat => match p with
      | .inl k => [(0, .c (.sl 6 (l.map cAut))), (3, .rs 3 0), (4, .c (I (k : Int)))]
      | .inr k => [(0, .c (.sl 6 (l.map cAut))), (3, .rs 29 0), (4, .c (I (k : Int)))])
    (fun p => match p with
      | .inl k => [(3, .arr 28 6 ((l.take k).map cAut) none)]
      | .inr k => [(29, .arr 28 6 ((l.take k).map cAut) (some (i.toNat, [I x.ID, I x.Kind, I x.In.From, I x.In.Until, .rs 65552 0, .rs 65556 0]))), (65552, .arr 53 3 (x.Names.map cNam) none), (65556, .arr 3 1 (x.Next.map cInt) none)])
    (fun p => match p with | .inl k => k ≤ i.toNat | .inr k => i.toNat < k ∧ k ≤ l.length) (fun p => match p with | .inl k => l.length - k | .inr k => l.length - k) (.inl 0) (Nat.zero_le _) ⟨rfl, rfl, rfl, trivial⟩ ⟨rfl, trivial⟩ ?_
  rintro (k | k) hI
  · have hk : k < l.length := Nat.lt_of_le_of_lt hI hi
    have hw : SV.c (I (IntKind.i64.wrap ((k : Int) + 1))) = SV.c (I ((k + 1 : Nat) : Int)) := congrArg (fun n => SV.c (I n)) (wrapN hk hlen)
    have hsk := small_names (hsm _ (List.getElem_mem hk))
    have hsz := small_names0 (hsm _ (List.getElem_mem hk))
    have hle1 : ((l.take k).map cAut).length + 1 ≤ 4294967296 := by rw [List.length_map, List.length_take]; omega
    have hln : decide (([] : List Nam).length + l[k].Names.length ≤ 4294967296) = true := decide_eq_true (by rw [List.length_nil, Nat.zero_add, ← List.length_map (f := cNam)]; exact hsk.1)
    have hlx : decide (([] : List Int).length + l[k].Next.length ≤ 4294967296) = true := decide_eq_true (by rw [List.length_nil, Nat.zero_add, ← List.length_map (f := cInt)]; exact hsk.2)
    have hle2 : decide ((l.take k).length + ([l[k]] : List Aut).length ≤ 4294967296) = true := decide_eq_true (by rw [List.length_map] at hle1; exact hle1)
    refine And.intro (fun h => ?_) (fun h => ?_)
    · refine join_no ?_
      refine ⟨Int.natCast_nonneg k, .inl rfl, _, get_mapN cAut l hk, ?_⟩
      refine Or.inl ?_
      by_cases hki : k = i.toNat
      · have hxk : l[k] = x := by rw [hxe]; exact getElem_congr rfl hki _
        refine Or.inr ⟨[], 1, _, _, _, _, rfl, rfl, eff_build0 tok25.u tok53 (by decide), rfl, ?_⟩
        refine Or.inr ⟨[(65552, 1)], 0, _, _, _, _, rfl, rfl, eff_append (cf := cNam) (l := ([] : List Nam)) (ns := l[k].Names) tok25.u tok53 (by decide) (by decide) (fun _ => rfl) hln, rfl, ?_⟩
        refine Or.inr ⟨[], 1, _, _, _, _, rfl, rfl, eff_build0 tok26.u tok3 (by decide), rfl, ?_⟩
        refine Or.inr ⟨[(65556, 1)], 0, _, _, _, _, rfl, rfl, eff_append (cf := cInt) (l := ([] : List Int)) (ns := l[k].Next) tok26.u tok3 (by decide) (by decide) (fun _ => rfl) hlx, rfl, ?_⟩
        refine Or.inl ?_
        refine Or.inl ?_
        refine Or.inl ?_
        refine And.intro (by kernel_rfl) ?_
        refine Or.inl ?_
        refine Or.inl (Or.inl ⟨cAut l[k], ?_⟩)
        refine Or.inl ⟨hle1, (l.take (k + 1)).map cAut, take_succ_map hk, ?_⟩
        refine ⟨.inr (k + 1), (show l.length - (k + 1) < l.length - k by omega), ⟨by omega, hk⟩, ⟨rfl, rfl, hw, trivial⟩, ?_⟩
        refine ⟨?_, ?_, ?_, trivial⟩
        · refine Eq.trans (b := .arr 28 6 ((l.take (k + 1)).map cAut) (some (((l.take k).map cAut).length, [I l[k].ID, I l[k].Kind, I l[k].In.From, I l[k].In.Until, .rs 65552 0, .rs 65556 0]))) rfl ?_
          rw [hxk, show ((l.take k).map cAut).length = i.toNat by rw [List.length_map, List.length_take]; omega]
        · refine Eq.trans (b := .arr 53 3 (l[k].Names.map cNam) none) rfl ?_
          rw [hxk]
        · refine Eq.trans (b := .arr 3 1 (l[k].Next.map cInt) none) rfl ?_
          rw [hxk]
      · refine Or.inl ?_
        refine Or.inl ⟨len_map (fun _ => rfl), .inl hsz.1, l[k].Names.map cNam, rfl, ?_⟩
        refine Or.inl ?_
        refine Or.inl ⟨len_map (fun _ => rfl), .inl hsz.2, l[k].Next.map cInt, rfl, ?_⟩
        refine And.intro (by kernel_rfl) ?_
        refine Or.inl ?_
        refine Or.inr ⟨[(3, 0)], 0, _, _, _, _, rfl, rfl, eff_append (cf := cAut) (l := l.take k) (ns := [l[k]]) tok22.u tok28 (by decide) (by decide) (fun _ => rfl) hle2, rfl, ?_⟩
        refine ⟨.inl (k + 1), (show l.length - (k + 1) < l.length - k by omega), (show k + 1 ≤ i.toNat by have : k ≤ i.toNat := hI; omega), ⟨rfl, rfl, hw, trivial⟩, ⟨?_, trivial⟩⟩
        refine Eq.trans (b := .arr 28 6 ((l.take k ++ [l[k]]).map cAut) none) rfl ?_
        rw [take_succ_one hk]
    · exact absurd (show decide ((k : Int) < ((l.map cAut).length : Int)) = true from by rw [hlm]; simpa using hk) (by rw [show decide ((k : Int) < ((l.map cAut).length : Int)) = false from h]; simp)
  · refine And.intro (fun h => ?_) (fun h => ?_)
    · have hk : k < l.length := by have := of_decide_eq_true (show decide ((k : Int) < ((l.map cAut).length : Int)) = true from h); rw [hlm] at this; omega
      have hw : SV.c (I (IntKind.i64.wrap ((k : Int) + 1))) = SV.c (I ((k + 1 : Nat) : Int)) := congrArg (fun n => SV.c (I n)) (wrapN hk hlen)
      have hsz := small_names0 (hsm _ (List.getElem_mem hk))
      have hle1 : ((l.take k).map cAut).length + 1 ≤ 4294967296 := by rw [List.length_map, List.length_take]; omega
      refine join_no ?_
      refine ⟨Int.natCast_nonneg k, .inl rfl, _, get_mapN cAut l hk, ?_⟩
      refine Or.inl ?_
      refine Or.inl ?_
      refine Or.inl ⟨len_map (fun _ => rfl), .inl hsz.1, l[k].Names.map cNam, rfl, ?_⟩
      refine Or.inl ?_
      refine Or.inl ⟨len_map (fun _ => rfl), .inl hsz.2, l[k].Next.map cInt, rfl, ?_⟩
      refine And.intro (by kernel_rfl) ?_
      refine Or.inl ?_
      refine Or.inl ⟨len_all rfl, .inl hle1, (l.take (k + 1)).map cAut, take_succ_map hk, ?_⟩
      exact ⟨.inr (k + 1), (show l.length - (k + 1) < l.length - k by omega), ⟨(by have := hI.1; omega), hk⟩, ⟨rfl, rfl, hw, trivial⟩, ⟨rfl, rfl, rfl, trivial⟩⟩
    · have hk : k = l.length := by
        have h1 := of_decide_eq_false (show decide ((k : Int) < ((l.map cAut).length : Int)) = false from h)
        rw [hlm] at h1
        have := hI.2
        omega
      have htk : (l.take k).map cAut = l.map cAut := by rw [hk, List.take_length]
      refine Or.inr ⟨[(29, 0), (65552, 0), (65556, 0)], rfl, ⟨?_, ⟨rfl, ⟨rfl, rfl⟩⟩⟩, rfl⟩
      exact congrArg (fun ds => ((0 : Nat), AObj.arr 28 6 ds (some (i.toNat, [I x.ID, I x.Kind, I x.In.From, I x.In.Until, .rs 65552 0, .rs 65556 0])))) htk
end Go.Proofs.YtgpojnenbmlcbaaDoor
