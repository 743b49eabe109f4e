/- Types of the seat; what is known of the package variables. -/
import Derived.Test.YtgpojnenbmlcbaaDoorTab
import Derived.Test.YtgpojnenbmlcbaaDoorAbsPre
import Derived.Test.YtgpojnenbmlcbaaDoorShelf
namespace Go.Proofs.YtgpojnenbmlcbaaDoor
open Go Go.Abs Go.RowKit
/-- What is known of the package variables. -/
def Gw : World → Prop := fun w => (∃ m, w.cell? ⟨5, 0, none⟩ = some (.int .i64 m)) ∧ Lib.TabIs Tryd.prog w "internal/strconv.uint64pow10" .u64 Lib.pow10Tab
theorem cell_lt {w : World} {a : Addr} {v : Value} (h : w.cell? a = some v) : a.block < w.heap.size := by
  rcases Nat.lt_or_ge a.block w.heap.size with h' | h'
  · exact h'
  · simp [World.cell?, Array.getElem?_eq_none h'] at h
theorem tab_below {P : Program} {w w' : World} {n : String} {k : IntKind} {zs : List Int} (h : Lib.TabIs P w n k zs) (hb : Below w.heap.size w w') : Lib.TabIs P w' n k zs := by
  unfold Lib.TabIs World.var? at h ⊢
  cases hg : P.globalNamed n with
  | none => rw [hg] at h; exact nomatch h
  | some g =>
    rw [hg] at h
    simp only [Option.bind_some] at h ⊢
    have hlt : g < w.heap.size := by
      rcases Nat.lt_or_ge g w.heap.size with h' | h'
      · exact h'
      · rw [Array.getElem?_eq_none h'] at h; exact nomatch h
    rw [hb.block g hlt]; exact h
theorem Gs : ∀ w w', Gw w → Below w.heap.size w w' → Gw w' := by
  rintro w w' ⟨⟨m, hm⟩, ht⟩ hb
  exact ⟨⟨m, (hb.cell (p := ⟨5, 0, none⟩) (cell_lt hm)).trans hm⟩, tab_below ht hb⟩
structure Span where
  From : Int
  Until : Int
  deriving DecidableEq, Inhabited
def cSpan (x : Span) : List CV := [I x.From, I x.Until]
structure Nam where
  Text : Str
  In : Span
  deriving DecidableEq, Inhabited
def cNam (x : Nam) : List CV := [S x.Text, I x.In.From, I x.In.Until]
structure Aut where
  ID : Int
  Kind : Int
  In : Span
  Names : List Nam
  Next : List Int
  deriving DecidableEq, Inhabited
def cAut (x : Aut) : List CV := [I x.ID, I x.Kind, I x.In.From, I x.In.Until, .sl 3 (x.Names.map cNam), .sl 1 (x.Next.map cInt)]
end Go.Proofs.YtgpojnenbmlcbaaDoor
