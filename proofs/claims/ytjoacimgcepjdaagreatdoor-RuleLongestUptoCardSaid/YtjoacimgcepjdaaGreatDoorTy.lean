/- Types of the seat; what is known of the package variables. -/
import Derived.Test.YtjoacimgcepjdaaGreatDoorTab
import Derived.Test.YtjoacimgcepjdaaGreatDoorAbsOpG
import Derived.Test.YtjoacimgcepjdaaGreatDoorAbsSort
import Derived.Test.YtjoacimgcepjdaaGreatDoorShelf
namespace Go.Proofs.YtjoacimgcepjdaaGreatDoor
open Go Go.Abs Go.RowKit
/-- What is known of the package variables. -/
def isErr (v : Value) : Prop := v = .nilIface ∨ ∃ te pe, v = .iface te pe
def Gw : World → Prop := fun w => (∃ m, w.cell? ⟨1, 0, none⟩ = some (.int .i64 m)) ∧ Lib.TabIs Tryz.prog w "strings.asciiSpace" .u8 Lib.asciiSpaceTab ∧ Lib.Utf8Tabs 6 7 w ∧ Lib.WhiteTab 2 w ∧ Lib.TabIs Tryz.prog w "internal/strconv.uint64pow10" .u64 Lib.pow10Tab ∧
  (∃ ev, w.cell? ⟨3, 0, none⟩ = some ev ∧ isErr ev) ∧ ∃ ev, w.cell? ⟨4, 0, none⟩ = some ev ∧ isErr ev
theorem cell_lt {w : World} {a : Addr} {v : Value} (h : w.cell? a = some v) : a.block < w.heap.size := by
  rcases Nat.lt_or_ge a.block w.heap.size with h' | h'
  · exact h'
  · simp [World.cell?, Array.getElem?_eq_none h'] at h
theorem tab_below {P : Program} {w w' : World} {n : String} {k : IntKind} {zs : List Int} (h : Lib.TabIs P w n k zs) (hb : Below w.heap.size w w') : Lib.TabIs P w' n k zs := by
  unfold Lib.TabIs World.var? at h ⊢
  cases hg : P.globalNamed n with
  | none => rw [hg] at h; exact nomatch h
  | some g =>
    rw [hg] at h
    simp only [Option.bind_some] at h ⊢
    have hlt : g < w.heap.size := by
      rcases Nat.lt_or_ge g w.heap.size with h' | h'
      · exact h'
      · rw [Array.getElem?_eq_none h'] at h; exact nomatch h
    rw [hb.block g hlt]; exact h
theorem Gs : ∀ w w', Gw w → Below w.heap.size w w' → Gw w' := by
  rintro w w' ⟨⟨m, hm⟩, ht, hu, hw, hp, ⟨e1, h1, g1⟩, e2, h2, g2⟩ hb
  exact ⟨⟨m, (hb.cell (p := ⟨1, 0, none⟩) (cell_lt hm)).trans hm⟩, tab_below ht hb, Utf8Tabs_below hu hb, WhiteTab_below hw hb, tab_below hp hb,
    ⟨e1, (hb.cell (p := ⟨3, 0, none⟩) (cell_lt h1)).trans h1, g1⟩, e2, (hb.cell (p := ⟨4, 0, none⟩) (cell_lt h2)).trans h2, g2⟩
theorem errTy : Tryz.prog.underlying 61 = some (.interface (Tryz.prog.methodsAt 61)) := by kernel_rfl
theorem cells_one {Z : Zone} {w : World} {c : CV} {x : Value} (h : Rep Z w c x) (ha : c.atom = true) : x.cells = #[x] := by
  have := h.atom ha
  cases x <;> first | rfl | (simp [Value.oneCell'] at this)
structure Span where
  From : Int
  Until : Int
  deriving DecidableEq, Inhabited
def cSpan (x : Span) : List CV := [I x.From, I x.Until]
abbrev eSpan (x : Span) : CV := .agg (cSpan x)
structure Rule where
  ID : Int
  Class : Str
  Trigger : Str
  Years : Int
  YearEnd : Bool
  Action : Int
  In : Span
  deriving DecidableEq, Inhabited
def cRule (x : Rule) : List CV := [I x.ID, S x.Class, S x.Trigger, I x.Years, B x.YearEnd, I x.Action, I x.In.From, I x.In.Until]
abbrev eRule (x : Rule) : CV := .agg (cRule x)
structure Dating where
  First : Int
  Last : Int
  deriving DecidableEq, Inhabited
def cDating (x : Dating) : List CV := [I x.First, I x.Last]
abbrev eDating (x : Dating) : CV := .agg (cDating x)
structure RestT where
  s : Str
  bad : Bool
  deriving DecidableEq, Inhabited
def cRestT (x : RestT) : List CV := [S x.s, B x.bad]
abbrev eRestT (x : RestT) : CV := .agg (cRestT x)
theorem eqv_Rule (x y : Rule) : (x == y) = ((x.ID == y.ID) && (x.Class == y.Class) && (x.Trigger == y.Trigger) && (x.Years == y.Years) && (x.YearEnd == y.YearEnd) && (x.Action == y.Action) && (x.In.From == y.In.From) && (x.In.Until == y.In.Until)) := by
  obtain ⟨q1, q2, q3, q4, q5, q6, ⟨q7, q8⟩⟩ := x
  obtain ⟨q9, q10, q11, q12, q13, q14, ⟨q15, q16⟩⟩ := y
  rw [Bool.eq_iff_iff]
  simp [Span.mk.injEq, Rule.mk.injEq, and_assoc]
theorem seq_Rule (x y : Rule) {a b : Operand} {ty z : TypeId} : EffOp Tryz.prog Gw (.binOp .eql 34 a b z) ty [.c (.agg [I x.ID, S x.Class, S x.Trigger, I x.Years, B x.YearEnd, I x.Action, I x.In.From, I x.In.Until]), .c (.agg [I y.ID, S y.Class, S y.Trigger, I y.Years, B y.YearEnd, I y.Action, I y.In.From, I y.In.Until])] [] (.c (B (x == y))) [] :=
  eff_eqs (xs := [.int .i64 x.ID, .string ⟨⟨x.Class⟩⟩, .string ⟨⟨x.Trigger⟩⟩, .int .i64 x.Years, .bool x.YearEnd, .int .i64 x.Action, .int .i64 x.In.From, .int .i64 x.In.Until]) (ys := [.int .i64 y.ID, .string ⟨⟨y.Class⟩⟩, .string ⟨⟨y.Trigger⟩⟩, .int .i64 y.Years, .bool y.YearEnd, .int .i64 y.Action, .int .i64 y.In.From, .int .i64 y.In.Until]) rfl rfl (by kernel_rfl) fun w => by
    rw [eqv_Rule]
    simp [run_eql_struct, Tryz.underlying3, Tryz.underlying4, Tryz.underlying9, Tryz.underlying32, Tryz.underlying34, go_sem] <;> (repeat' split) <;> simp_all
theorem sne_Rule (x y : Rule) {a b : Operand} {ty z : TypeId} : EffOp Tryz.prog Gw (.binOp .neq 34 a b z) ty [.c (.agg [I x.ID, S x.Class, S x.Trigger, I x.Years, B x.YearEnd, I x.Action, I x.In.From, I x.In.Until]), .c (.agg [I y.ID, S y.Class, S y.Trigger, I y.Years, B y.YearEnd, I y.Action, I y.In.From, I y.In.Until])] [] (.c (B (!(x == y)))) [] :=
  eff_eqs (xs := [.int .i64 x.ID, .string ⟨⟨x.Class⟩⟩, .string ⟨⟨x.Trigger⟩⟩, .int .i64 x.Years, .bool x.YearEnd, .int .i64 x.Action, .int .i64 x.In.From, .int .i64 x.In.Until]) (ys := [.int .i64 y.ID, .string ⟨⟨y.Class⟩⟩, .string ⟨⟨y.Trigger⟩⟩, .int .i64 y.Years, .bool y.YearEnd, .int .i64 y.Action, .int .i64 y.In.From, .int .i64 y.In.Until]) rfl rfl (by kernel_rfl) fun w => by
    rw [eqv_Rule]
    simp [run_neq_struct, Tryz.underlying3, Tryz.underlying4, Tryz.underlying9, Tryz.underlying32, Tryz.underlying34, go_sem] <;> (repeat' split) <;> simp_all
end Go.Proofs.YtjoacimgcepjdaaGreatDoor
