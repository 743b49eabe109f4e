/- Contracts of the library, as Holds. -/
import Derived.Test.YtmcolhhmlpicaaaDoorGA
import Derived.Test.YtmcolhhmlpicaaaDoorAbsSort
namespace Go.Proofs.YtmcolhhmlpicaaaDoor
open Go Go.Abs Go.RowKit

theorem calls_holds {f : FuncId} {args : List CV} {r : CV} {u : Value} (hb : HasBody Tryd.prog f) (hr : r = .v u)
    (h : ∀ (Z : Zone) (w : World) (vs : List Value), RepL Z w args vs → (∀ b o, Z b o → b < w.heap.size) → Gw w → Calls Tryd.prog f vs.toArray w fun e w' => e = .returned u ∧ Below w.heap.size w w') : Holds Tryd.prog Gw f args r :=
  holds_mk hb fun Z w vs h1 h2 h3 => (h Z w vs h1 h2 h3).mono fun _ _ ⟨he, hw⟩ =>
    ⟨u, Z, he, hr ▸ .v u, fun _ _ hz => hz, fun b o hz => ⟨.inl hz, Nat.lt_of_lt_of_le (h2 b o hz) hw.size⟩, hw⟩
theorem repv {Z : Zone} {w : World} {x y : Value} (h : Rep Z w (.v x) y) : y = x := by cases h; rfl

def sContains_S (s sub : Str) : Option Bool := bif decide (s.length < 4294967281) then some (Lib.contains s sub) else none
theorem sContains_h {s sub : Str} {r : Bool} (h : sContains_S s sub = some r) : Holds Tryd.prog Gw 52 [S s, S sub] (B r) := by
  refine gpos h fun hl h => ?_
  refine calls_holds (u := .bool r) ⟨_, Tryd.func52, by decide, rfl⟩ rfl fun Z w vs h1 h2 h3 => ?_
  match vs, h1 with
  | [x, y], h1 =>
    have e1 := repv h1.head
    have e2 := repv h1.tail.head
    subst e1; subst e2
    obtain ⟨⟨m, hm⟩, -⟩ := h3
    refine (Tryd.strings_Contains ⟨⟨s⟩⟩ ⟨⟨sub⟩⟩ m w (of_decide_eq_true hl) hm).mono fun e w' ⟨he, hw⟩ => ⟨he.trans ?_, hw ▸ Below.refl _ _⟩
    rw [← Option.some.inj h]
def sTrimSpace_S (s : Str) : Option Str := bif decide (s.length ≤ 9223372036854775807) then some (Lib.trimSpaceD s) else none
theorem sTrimSpace_h {s r : Str} (h : sTrimSpace_S s = some r) : Holds Tryd.prog Gw 51 [S s] (S r) := by
  refine gpos h fun hl h => ?_
  refine calls_holds (u := .string ⟨⟨r⟩⟩) ⟨_, Tryd.func51, by decide, rfl⟩ rfl fun Z w vs h1 h2 h3 => ?_
  match vs, h1 with
  | [x], h1 =>
    have e1 := repv h1.head
    subst e1
    refine (Tryd.strings_TrimSpace_any ⟨⟨s⟩⟩ w (of_decide_eq_true hl) h3.2.1 h3.2.2.1 h3.2.2.2).mono fun e w' ⟨he, hw⟩ => ⟨he.trans ?_, hw⟩
    rw [← Option.some.inj h]
def slSortI_XS (l : List Int) : Option (List Int) := bif decide (l.length < 4611686018427387904) then some (isort l) else none
theorem slSortI_Xh {l r : List Int} (h : slSortI_XS l = some r) : EffFn Tryd.prog Gw 35 [.rs 0 0] [(0, .arr 3 1 (l.map cInt) none)] (.c (.tup [])) [(0, .arr 3 1 (r.map cInt) none)] := by
  refine gpos h fun hl h => ?_
  rw [← Option.some.inj h, ← mergeSort_isort]
  exact eff_sortI ⟨_, Tryd.func35, by decide, rfl⟩ (fun p cap w => Tryd.slices_Sort_int_none p cap w) (fun blk off cap zs w h1 h2 h3 => Tryd.slices_Sort_int blk off cap zs w h1 h2 h3) l (of_decide_eq_true hl)
end Go.Proofs.YtmcolhhmlpicaaaDoor
