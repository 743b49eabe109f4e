/- Types of the seat; what is known of the package variables. -/
import Derived.Test.YtdoldlbcjcfmdaaGreatTab
import Derived.Test.YtdoldlbcjcfmdaaGreatAbsMore
import Derived.Test.YtdoldlbcjcfmdaaGreatAbsNest4
import Derived.Test.YtdoldlbcjcfmdaaGreatAbsQue2
import Derived.Test.YtdoldlbcjcfmdaaGreatShelf
namespace Go.Proofs.YtdoldlbcjcfmdaaGreat
open Go Go.Abs Go.RowKit
/-- What is known of the package variables. -/
def Gw : World → Prop := fun w => ∃ m, w.cell? ⟨0, 0, none⟩ = some (.int .i64 m)
theorem cell_lt {w : World} {a : Addr} {v : Value} (h : w.cell? a = some v) : a.block < w.heap.size := by
  rcases Nat.lt_or_ge a.block w.heap.size with h' | h'
  · exact h'
  · simp [World.cell?, Array.getElem?_eq_none h'] at h
theorem Gs : ∀ w w', Gw w → Below w.heap.size w w' → Gw w' := by
  rintro w w' ⟨m, hm⟩ hb
  exact ⟨m, (hb.cell (p := ⟨0, 0, none⟩) (cell_lt hm)).trans hm⟩
theorem cells_one {Z : Zone} {w : World} {c : CV} {x : Value} (h : Rep Z w c x) (ha : c.atom = true) : x.cells = #[x] := by
  have := h.atom ha
  cases x <;> first | rfl | (simp [Value.oneCell'] at this)
structure Span where
  From : Int
  Until : Int
  deriving DecidableEq, Inhabited
def cSpan (x : Span) : List CV := [I x.From, I x.Until]
abbrev eSpan (x : Span) : CV := .agg (cSpan x)
structure Nam where
  Text : Str
  In : Span
  deriving DecidableEq, Inhabited
def cNam (x : Nam) : List CV := [S x.Text, I x.In.From, I x.In.Until]
abbrev eNam (x : Nam) : CV := .agg (cNam x)
structure Aut where
  ID : Int
  Kind : Int
  In : Span
  Names : List Nam
  Next : List Int
  deriving DecidableEq, Inhabited
def cAut (x : Aut) : List CV := [I x.ID, I x.Kind, I x.In.From, I x.In.Until, .sl 3 (x.Names.map cNam), .sl 1 (x.Next.map cInt)]
abbrev eAut (x : Aut) : CV := .agg (cAut x)
def cSl_Int (x : List Int) : List CV := [.sl 1 (x.map cInt)]
abbrev eSl_Int (x : List Int) : CV := .sl 1 (x.map cInt)
end Go.Proofs.YtdoldlbcjcfmdaaGreat
