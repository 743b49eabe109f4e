/- Types of the seat; what is known of the package variables. -/
import Derived.Test.YtmcolhhmlpicaaaDoorTab
import Derived.Test.YtmcolhhmlpicaaaDoorAbsOpF
import Derived.Test.YtmcolhhmlpicaaaDoorShelf
namespace Go.Proofs.YtmcolhhmlpicaaaDoor
open Go Go.Abs Go.RowKit
/-- What is known of the package variables. -/
def Gw : World → Prop := fun w => (∃ m, w.cell? ⟨2, 0, none⟩ = some (.int .i64 m)) ∧ Lib.TabIs Tryd.prog w "strings.asciiSpace" .u8 Lib.asciiSpaceTab ∧ Lib.Utf8Tabs 3 4 w ∧ Lib.WhiteTab 1 w
theorem cell_lt {w : World} {a : Addr} {v : Value} (h : w.cell? a = some v) : a.block < w.heap.size := by
  rcases Nat.lt_or_ge a.block w.heap.size with h' | h'
  · exact h'
  · simp [World.cell?, Array.getElem?_eq_none h'] at h
theorem tab_below {P : Program} {w w' : World} {n : String} {k : IntKind} {zs : List Int} (h : Lib.TabIs P w n k zs) (hb : Below w.heap.size w w') : Lib.TabIs P w' n k zs := by
  unfold Lib.TabIs World.var? at h ⊢
  cases hg : P.globalNamed n with
  | none => rw [hg] at h; exact nomatch h
  | some g =>
    rw [hg] at h
    simp only [Option.bind_some] at h ⊢
    have hlt : g < w.heap.size := by
      rcases Nat.lt_or_ge g w.heap.size with h' | h'
      · exact h'
      · rw [Array.getElem?_eq_none h'] at h; exact nomatch h
    rw [hb.block g hlt]; exact h
theorem Gs : ∀ w w', Gw w → Below w.heap.size w w' → Gw w' := by
  rintro w w' ⟨⟨m, hm⟩, ht, hu, hw⟩ hb
  exact ⟨⟨m, (hb.cell (p := ⟨2, 0, none⟩) (cell_lt hm)).trans hm⟩, tab_below ht hb, Utf8Tabs_below hu hb, WhiteTab_below hw hb⟩
theorem cells_one {Z : Zone} {w : World} {c : CV} {x : Value} (h : Rep Z w c x) (ha : c.atom = true) : x.cells = #[x] := by
  have := h.atom ha
  cases x <;> first | rfl | (simp [Value.oneCell'] at this)
structure Span where
  From : Int
  Until : Int
  deriving DecidableEq, Inhabited
def cSpan (x : Span) : List CV := [I x.From, I x.Until]
abbrev eSpan (x : Span) : CV := .agg (cSpan x)
structure Off where
  ID : Int
  Name : Str
  In : Span
  Next : List Int
  deriving DecidableEq, Inhabited
def cOff (x : Off) : List CV := [I x.ID, S x.Name, I x.In.From, I x.In.Until, .sl 1 (x.Next.map cInt)]
abbrev eOff (x : Off) : CV := .agg (cOff x)
theorem eqv_Span (x y : Span) : (x == y) = ((x.From == y.From) && (x.Until == y.Until)) := by
  cases x; cases y
  simp only [BEq.beq, decide_eq_true_eq, Bool.decide_and]
  simp [Span.mk.injEq, Bool.decide_and]
theorem seq_Span (x y : Span) {a b : Operand} {ty z : TypeId} : EffOp Tryd.prog Gw (.binOp .eql 38 a b z) ty [.c (.agg [I x.From, I x.Until]), .c (.agg [I y.From, I y.Until])] [] (.c (B (x == y))) [] :=
  eff_eqs (xs := [.int .i64 x.From, .int .i64 x.Until]) (ys := [.int .i64 y.From, .int .i64 y.Until]) rfl rfl (by kernel_rfl) fun w => by
    rw [eqv_Span]
    simp [run_eql_struct, Tryd.underlying3, Tryd.underlying38, go_sem] <;> (repeat' split) <;> simp_all
theorem sne_Span (x y : Span) {a b : Operand} {ty z : TypeId} : EffOp Tryd.prog Gw (.binOp .neq 38 a b z) ty [.c (.agg [I x.From, I x.Until]), .c (.agg [I y.From, I y.Until])] [] (.c (B (!(x == y)))) [] :=
  eff_eqs (xs := [.int .i64 x.From, .int .i64 x.Until]) (ys := [.int .i64 y.From, .int .i64 y.Until]) rfl rfl (by kernel_rfl) fun w => by
    rw [eqv_Span]
    simp [run_neq_struct, Tryd.underlying3, Tryd.underlying38, go_sem] <;> (repeat' split) <;> simp_all
end Go.Proofs.YtmcolhhmlpicaaaDoor
