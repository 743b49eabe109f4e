/- Types of the seat; what is known of the package variables. -/
import Derived.Test.YtgpojnenbmlcbaaDoorTab
import Derived.Test.YtgpojnenbmlcbaaDoorAbsOpG
import Derived.Test.YtgpojnenbmlcbaaDoorAbsSort
import Derived.Test.YtgpojnenbmlcbaaDoorShelf
namespace Go.Proofs.YtgpojnenbmlcbaaDoor
open Go Go.Abs Go.RowKit
/-- What is known of the package variables. -/
def Gw : World → Prop := fun w => (∃ m, w.cell? ⟨5, 0, none⟩ = some (.int .i64 m)) ∧ Lib.TabIs Tryd.prog w "internal/strconv.uint64pow10" .u64 Lib.pow10Tab
theorem cell_lt {w : World} {a : Addr} {v : Value} (h : w.cell? a = some v) : a.block < w.heap.size := by
  rcases Nat.lt_or_ge a.block w.heap.size with h' | h'
  · exact h'
  · simp [World.cell?, Array.getElem?_eq_none h'] at h
theorem tab_below {P : Program} {w w' : World} {n : String} {k : IntKind} {zs : List Int} (h : Lib.TabIs P w n k zs) (hb : Below w.heap.size w w') : Lib.TabIs P w' n k zs := by
  unfold Lib.TabIs World.var? at h ⊢
  cases hg : P.globalNamed n with
  | none => rw [hg] at h; exact nomatch h
  | some g =>
    rw [hg] at h
    simp only [Option.bind_some] at h ⊢
    have hlt : g < w.heap.size := by
      rcases Nat.lt_or_ge g w.heap.size with h' | h'
      · exact h'
      · rw [Array.getElem?_eq_none h'] at h; exact nomatch h
    rw [hb.block g hlt]; exact h
theorem Gs : ∀ w w', Gw w → Below w.heap.size w w' → Gw w' := by
  rintro w w' ⟨⟨m, hm⟩, ht⟩ hb
  exact ⟨⟨m, (hb.cell (p := ⟨5, 0, none⟩) (cell_lt hm)).trans hm⟩, tab_below ht hb⟩
theorem cells_one {Z : Zone} {w : World} {c : CV} {x : Value} (h : Rep Z w c x) (ha : c.atom = true) : x.cells = #[x] := by
  have := h.atom ha
  cases x <;> first | rfl | (simp [Value.oneCell'] at this)
/-- What AuthorityLists reads besides. -/
def Gw2 : World → Prop := fun w => Gw w ∧ Lib.TabIs Tryd.prog w "strings.asciiSpace" .u8 Lib.asciiSpaceTab ∧ Lib.Utf8Tabs 2 3 w ∧ Lib.WhiteTab 1 w
theorem Gs2 : ∀ w w', Gw2 w → Below w.heap.size w w' → Gw2 w' := by
  rintro w w' ⟨hg, ht, hu, hw⟩ hb
  exact ⟨Gs w w' hg hb, tab_below ht hb, Utf8Tabs_below hu hb, WhiteTab_below hw hb⟩
theorem holds_up {f : FuncId} {args : List CV} {r : CV} (h : Holds Tryd.prog Gw f args r) : Holds Tryd.prog Gw2 f args r :=
  ⟨h.1, fun Z w vs h1 h2 h3 => h.2 Z w vs h1 h2 fun w' hb => (h3 w' hb).1⟩
structure Span where
  From : Int
  Until : Int
  deriving DecidableEq, Inhabited
def cSpan (x : Span) : List CV := [I x.From, I x.Until]
abbrev eSpan (x : Span) : CV := .agg (cSpan x)
structure Nam where
  Text : Str
  In : Span
  deriving DecidableEq, Inhabited
def cNam (x : Nam) : List CV := [S x.Text, I x.In.From, I x.In.Until]
abbrev eNam (x : Nam) : CV := .agg (cNam x)
structure Aut where
  ID : Int
  Kind : Int
  In : Span
  Names : List Nam
  Next : List Int
  deriving DecidableEq, Inhabited
def cAut (x : Aut) : List CV := [I x.ID, I x.Kind, I x.In.From, I x.In.Until, .sl 3 (x.Names.map cNam), .sl 1 (x.Next.map cInt)]
abbrev eAut (x : Aut) : CV := .agg (cAut x)
theorem eqv_Span (x y : Span) : (x == y) = ((x.From == y.From) && (x.Until == y.Until)) := by
  obtain ⟨q1, q2⟩ := x
  obtain ⟨q3, q4⟩ := y
  rw [Bool.eq_iff_iff]
  simp [Span.mk.injEq, and_assoc]
theorem seq_Span (x y : Span) {a b : Operand} {ty z : TypeId} : EffOp Tryd.prog Gw (.binOp .eql 24 a b z) ty [.c (.agg [I x.From, I x.Until]), .c (.agg [I y.From, I y.Until])] [] (.c (B (x == y))) [] :=
  eff_eqs (xs := [.int .i64 x.From, .int .i64 x.Until]) (ys := [.int .i64 y.From, .int .i64 y.Until]) rfl rfl (by kernel_rfl) fun w => by
    rw [eqv_Span]
    simp [run_eql_struct, Tryd.underlying3, Tryd.underlying24, go_sem] <;> (repeat' split) <;> simp_all
theorem sne_Span (x y : Span) {a b : Operand} {ty z : TypeId} : EffOp Tryd.prog Gw (.binOp .neq 24 a b z) ty [.c (.agg [I x.From, I x.Until]), .c (.agg [I y.From, I y.Until])] [] (.c (B (!(x == y)))) [] :=
  eff_eqs (xs := [.int .i64 x.From, .int .i64 x.Until]) (ys := [.int .i64 y.From, .int .i64 y.Until]) rfl rfl (by kernel_rfl) fun w => by
    rw [eqv_Span]
    simp [run_neq_struct, Tryd.underlying3, Tryd.underlying24, go_sem] <;> (repeat' split) <;> simp_all
theorem eqv_Nam (x y : Nam) : (x == y) = ((x.Text == y.Text) && (x.In.From == y.In.From) && (x.In.Until == y.In.Until)) := by
  obtain ⟨q1, ⟨q2, q3⟩⟩ := x
  obtain ⟨q4, ⟨q5, q6⟩⟩ := y
  rw [Bool.eq_iff_iff]
  simp [Span.mk.injEq, Nam.mk.injEq, and_assoc]
theorem seq_Nam (x y : Nam) {a b : Operand} {ty z : TypeId} : EffOp Tryd.prog Gw (.binOp .eql 53 a b z) ty [.c (.agg [S x.Text, I x.In.From, I x.In.Until]), .c (.agg [S y.Text, I y.In.From, I y.In.Until])] [] (.c (B (x == y))) [] :=
  eff_eqs (xs := [.string ⟨⟨x.Text⟩⟩, .int .i64 x.In.From, .int .i64 x.In.Until]) (ys := [.string ⟨⟨y.Text⟩⟩, .int .i64 y.In.From, .int .i64 y.In.Until]) rfl rfl (by kernel_rfl) fun w => by
    rw [eqv_Nam]
    simp [run_eql_struct, Tryd.underlying3, Tryd.underlying9, Tryd.underlying24, Tryd.underlying53, go_sem] <;> (repeat' split) <;> simp_all
theorem sne_Nam (x y : Nam) {a b : Operand} {ty z : TypeId} : EffOp Tryd.prog Gw (.binOp .neq 53 a b z) ty [.c (.agg [S x.Text, I x.In.From, I x.In.Until]), .c (.agg [S y.Text, I y.In.From, I y.In.Until])] [] (.c (B (!(x == y)))) [] :=
  eff_eqs (xs := [.string ⟨⟨x.Text⟩⟩, .int .i64 x.In.From, .int .i64 x.In.Until]) (ys := [.string ⟨⟨y.Text⟩⟩, .int .i64 y.In.From, .int .i64 y.In.Until]) rfl rfl (by kernel_rfl) fun w => by
    rw [eqv_Nam]
    simp [run_neq_struct, Tryd.underlying3, Tryd.underlying9, Tryd.underlying24, Tryd.underlying53, go_sem] <;> (repeat' split) <;> simp_all
end Go.Proofs.YtgpojnenbmlcbaaDoor
