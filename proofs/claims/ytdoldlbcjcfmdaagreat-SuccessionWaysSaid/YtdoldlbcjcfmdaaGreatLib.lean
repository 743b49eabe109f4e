/- Contracts of the library, as Holds. -/
import Derived.Test.YtdoldlbcjcfmdaaGreatTy
import Derived.Shelf.Spec.SlicesGrow
namespace Go.Proofs.YtdoldlbcjcfmdaaGreat
open Go Go.Abs Go.RowKit

theorem calls_holds {f : FuncId} {args : List CV} {r : CV} {u : Value} (hb : HasBody Tryz.prog f) (hr : r = .v u)
    (h : ∀ (Z : Zone) (w : World) (vs : List Value), RepL Z w args vs → (∀ b o, Z b o → b < w.heap.size) → Gw w → Calls Tryz.prog f vs.toArray w fun e w' => e = .returned u ∧ Below w.heap.size w w') : Holds Tryz.prog Gw f args r :=
  holds_mk hb fun Z w vs h1 h2 h3 => (h Z w vs h1 h2 h3).mono fun _ _ ⟨he, hw⟩ =>
    ⟨u, Z, he, hr ▸ .v u, fun _ _ hz => hz, fun b o hz => ⟨.inl hz, Nat.lt_of_lt_of_le (h2 b o hz) hw.size⟩, hw⟩
theorem repv {Z : Zone} {w : World} {x y : Value} (h : Rep Z w (.v x) y) : y = x := by cases h; rfl

def sContains_S (s sub : Str) : Option Bool := bif decide (s.length < 4294967281) then some (Lib.contains s sub) else none
theorem sContains_h {s sub : Str} {r : Bool} (h : sContains_S s sub = some r) : Holds Tryz.prog Gw 113 [S s, S sub] (B r) := by
  refine gpos h fun hl h => ?_
  refine calls_holds (u := .bool r) ⟨_, Tryz.func113, by decide, rfl⟩ rfl fun Z w vs h1 h2 h3 => ?_
  match vs, h1 with
  | [x, y], h1 =>
    have e1 := repv h1.head
    have e2 := repv h1.tail.head
    subst e1; subst e2
    obtain ⟨m, hm⟩ := h3
    refine (Tryz.strings_Contains ⟨⟨s⟩⟩ ⟨⟨sub⟩⟩ m w (of_decide_eq_true hl) hm).mono fun e w' ⟨he, hw⟩ => ⟨he.trans ?_, hw ▸ Below.refl _ _⟩
    rw [← Option.some.inj h]

def badRune (x : Nat) : Bool := decide (x < 32) || decide (126 < x)
theorem name1 (w : World) : PredAtRunes Tryz.prog 115 #[] badRune w := fun W r _ _ => by
  unfold FnGives
  by_cases h1 : r < 32 <;> by_cases h2 : 126 < r
  all_goals
    have z1 : (r : Int) < 32 ↔ r < 32 := by omega
    have z2 : (r : Int) > 126 ↔ 126 < r := by omega
    go_enter Tryz.func115, Tryz.ntmps115
    go_wp2
    all_goals first | (exfalso; omega) | (go_ret; exact ⟨by simp [badRune, h1, h2], 0, rfl⟩)
def sContainsFunc_S (s : Str) (_ : Int → Option Bool) : Option Bool := some (decide (0 ≤ Lib.idxFunc badRune true ⟨⟨s⟩⟩))
theorem sContainsFunc_h {s : Str} {f : Int → Option Bool} {r : Bool} (_ : ∀ z0 y, f z0 = some y → Holds Tryz.prog Gw 115 [.v (.int .i32 z0)] (B y)) (h : sContainsFunc_S s f = some r) : Holds Tryz.prog Gw 114 [S s, .fn 115 []] (B r) := by
  refine calls_holds (u := .bool r) ⟨_, Tryz.func114, by decide, rfl⟩ rfl fun Z w vs h1 h2 h3 => ?_
  match vs, h1 with
  | [x, y], h1 =>
    have e1 := repv h1.head
    have e2 := h1.tail.head
    subst e1
    cases e2 with
    | fn _ _ us hl _ =>
      have : us = [] := by cases us with | nil => rfl | cons => simp at hl
      subst this
      refine (Tryz.strings_ContainsFunc_runes 115 #[] (enters_of Tryz.func115 (by kernel_rfl) rfl) badRune _ w (name1 w)).mono fun e w' ⟨he, hw⟩ => ⟨he.trans ?_, hw⟩
      rw [← Option.some.inj h]
def slSortI_XS (l : List Int) : Option (List Int) := bif decide (l.length < 4611686018427387904) then some (isort l) else none
theorem slSortI_Xh {l r : List Int} (h : slSortI_XS l = some r) : EffFn Tryz.prog Gw 34 [.rs 0 0] [(0, .arr 3 1 (l.map cInt) none)] (.c (.tup [])) [(0, .arr 3 1 (r.map cInt) none)] := by
  refine gpos h fun hl h => ?_
  rw [← Option.some.inj h, ← mergeSort_isort]
  exact eff_sortI ⟨_, Tryz.func34, by decide, rfl⟩ (fun p cap w => Tryz.slices_Sort_int_none p cap w) (fun blk off cap zs w h1 h2 h3 => Tryz.slices_Sort_int blk off cap zs w h1 h2 h3) l (of_decide_eq_true hl)
theorem filter_len {α : Type} (p : α → Bool) (l : List α) : (l.filter p).length ≤ l.length := List.length_filter_le _ _
theorem compact_len (zs : List Int) : (Lib.compact zs).length ≤ zs.length := by
  unfold Lib.compact Lib.compactUpTo
  rw [List.length_map]
  refine Nat.le_trans (filter_len _ _) ?_
  rw [List.length_range]
  exact Nat.le_refl _
def slCompactI_XS (l : List Int) : Option (List Int) := bif decide (l.length ≤ 9223372036854775807) then some (Lib.compact l) else none
theorem slCompactI_Xh {l r : List Int} (h : slCompactI_XS l = some r) : EffFn Tryz.prog Gw 36 [.rs 0 0] [(0, .arr 3 1 (l.map cInt) none)] (.rs 0 1) [(1, .arr 3 1 (r.map cInt) none)] := by
  refine gpos h fun hl h => ?_
  rw [← Option.some.inj h]
  exact eff_compactI ⟨_, Tryz.func36, by decide, rfl⟩ (fun p cap w => Tryz.slices_Compact_int_empty p cap w) (fun blk off cap zs w h1 h2 h3 => Tryz.slices_Compact_int blk off cap zs w h1 h2 h3) compact_len l (of_decide_eq_true hl)
def growRen : Go.Shelf.Ren := ⟨fun | 4 => 61 | n => n, fun | 0 => 0 | 3 => 3 | 4 => 4 | 9 => 9 | 20 => 20 | 22 => 25 | 25 => 3 | n => n, fun | n => n⟩
theorem growLays : Go.Proofs.Lays8.n4 Tryz.prog growRen := {
  mixed := by kernel_rfl
  f4 := ⟨ "slices.Grow[[]int,int]", by decide, Tryz.func61.trans (congrArg some (by kernel_rfl))⟩
  t0 := Tryz.underlying0
  a0 := Tryz.isAgg0
  z0 := Tryz.sizeOf0
  v0 := Tryz.zeroValue0
  t3 := Tryz.underlying3
  a3 := Tryz.isAgg3
  z3 := Tryz.sizeOf3
  v3 := Tryz.zeroValue3
  t4 := Tryz.underlying4
  a4 := Tryz.isAgg4
  z4 := Tryz.sizeOf4
  v4 := Tryz.zeroValue4
  t9 := Tryz.underlying9
  a9 := Tryz.isAgg9
  z9 := Tryz.sizeOf9
  v9 := Tryz.zeroValue9
  t20 := Tryz.underlying20
  a20 := Tryz.isAgg20
  z20 := Tryz.sizeOf20
  v20 := Tryz.zeroValue20
  t22 := Tryz.underlying25
  a22 := Tryz.isAgg25
  z22 := Tryz.sizeOf25
  v22 := Tryz.zeroValue25 }
def slGrow_XS (n : Int) : Option (List Int) := bif decide (0 ≤ n ∧ n ≤ 4294967296) then some [] else none
theorem slGrow_Xh {n : Int} {r : List Int} (h : slGrow_XS n = some r) : EffFn Tryz.prog Gw 61 [.c (.v (.slice none 0 0)), .c (I n)] [] (.rs 0 1) [(1, .arr 3 1 (r.map cInt) none)] := by
  refine gpos h fun hn h => ?_
  cases h
  obtain ⟨j, hj, hjs, hjb, hjz⟩ := tok3.infoE
  refine effn_growNil ⟨_, Tryz.func61, by decide, rfl⟩ (fun w => ?_) (fun n w h0 hn => ?_) hn
  · exact Any8.slices_Grow_room growLays none 0 0 0 w (Nat.le_refl _) (by decide) (by decide) (Nat.le_refl _)
  · refine (Any8.slices_Grow_grow growLays j _ hj hjz (by rw [hjs]; decide) none 0 0 n [] w (Nat.le_refl _) (by omega) (by rw [hjb, show ti3.bytes = 8 from rfl]; omega) (by omega) (by simp) (fun _ => rfl) (fun a h => nomatch h)).mono fun e' w' ⟨he, hw⟩ => ⟨_, _, he, hw, ?_, ?_⟩
    · have hz : (zeroVal ti3).cells.size = 1 := rfl
      have hg := grownCap_ge w (0 + n) 0 (growRen.t 25)
      simp only [Builtin.zeroCells, Array.size_append, Array.size_map, Array.size_range, hz, Nat.mul_one, List.size_toArray, List.length_nil]
      omega
    · exact grownCap_le_maxLen w (0 + n) 0 (growRen.t 25) (by unfold maxLen; omega)
theorem built49 (a : Option Addr) (l k : Nat) (g : FuncId) (caps : Array Value) : Tryz.prog.built 49 [(0, .slice a l k), (1, .func (.func g) #[] caps)] = some #[.slice a l k, .func (.func g) #[] caps] := by kernel_rfl
end Go.Proofs.YtdoldlbcjcfmdaaGreat
