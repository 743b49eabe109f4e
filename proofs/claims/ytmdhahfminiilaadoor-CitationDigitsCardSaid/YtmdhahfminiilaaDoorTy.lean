/- Types of the seat; what is known of the package variables. -/
import Derived.Test.YtmdhahfminiilaaDoorTab
import Derived.Test.YtmdhahfminiilaaDoorAbsOpG
import Derived.Test.YtmdhahfminiilaaDoorAbsSort
import Derived.Test.YtmdhahfminiilaaDoorShelf
namespace Go.Proofs.YtmdhahfminiilaaDoor
open Go Go.Abs Go.RowKit
/-- What is known of the package variables. -/
def isErr (v : Value) : Prop := v = .nilIface ∨ ∃ te pe, v = .iface te pe
def Gw : World → Prop := fun w => (∃ m, w.cell? ⟨0, 0, none⟩ = some (.int .i64 m)) ∧ Lib.TabIs Tryd.prog w "internal/strconv.uint64pow10" .u64 Lib.pow10Tab ∧
  (∃ ev, w.cell? ⟨1, 0, none⟩ = some ev ∧ isErr ev) ∧ ∃ ev, w.cell? ⟨2, 0, none⟩ = some ev ∧ isErr ev
theorem cell_lt {w : World} {a : Addr} {v : Value} (h : w.cell? a = some v) : a.block < w.heap.size := by
  rcases Nat.lt_or_ge a.block w.heap.size with h' | h'
  · exact h'
  · simp [World.cell?, Array.getElem?_eq_none h'] at h
theorem tab_below {P : Program} {w w' : World} {n : String} {k : IntKind} {zs : List Int} (h : Lib.TabIs P w n k zs) (hb : Below w.heap.size w w') : Lib.TabIs P w' n k zs := by
  unfold Lib.TabIs World.var? at h ⊢
  cases hg : P.globalNamed n with
  | none => rw [hg] at h; exact nomatch h
  | some g =>
    rw [hg] at h
    simp only [Option.bind_some] at h ⊢
    have hlt : g < w.heap.size := by
      rcases Nat.lt_or_ge g w.heap.size with h' | h'
      · exact h'
      · rw [Array.getElem?_eq_none h'] at h; exact nomatch h
    rw [hb.block g hlt]; exact h
theorem Gs : ∀ w w', Gw w → Below w.heap.size w w' → Gw w' := by
  rintro w w' ⟨⟨m, hm⟩, hp, ⟨e1, h1, g1⟩, e2, h2, g2⟩ hb
  exact ⟨⟨m, (hb.cell (p := ⟨0, 0, none⟩) (cell_lt hm)).trans hm⟩, tab_below hp hb,
    ⟨e1, (hb.cell (p := ⟨1, 0, none⟩) (cell_lt h1)).trans h1, g1⟩, e2, (hb.cell (p := ⟨2, 0, none⟩) (cell_lt h2)).trans h2, g2⟩
theorem errTy : Tryd.prog.underlying 71 = some (.interface (Tryd.prog.methodsAt 71)) := by kernel_rfl
theorem cells_one {Z : Zone} {w : World} {c : CV} {x : Value} (h : Rep Z w c x) (ha : c.atom = true) : x.cells = #[x] := by
  have := h.atom ha
  cases x <;> first | rfl | (simp [Value.oneCell'] at this)
structure Standing where
  Unit : Int
  Parent : Int
  Level : Int
  Mark : Str
  Title : Str
  deriving DecidableEq, Inhabited
def cStanding (x : Standing) : List CV := [I x.Unit, I x.Parent, I x.Level, S x.Mark, S x.Title]
abbrev eStanding (x : Standing) : CV := .agg (cStanding x)
structure Shot where
  Day : Int
  Units : List Standing
  deriving DecidableEq, Inhabited
def cShot (x : Shot) : List CV := [I x.Day, .sl 5 (x.Units.map cStanding)]
abbrev eShot (x : Shot) : CV := .agg (cShot x)
structure Version where
  Number : Int
  Day : Int
  Unit : Standing
  Path : List Int
  deriving DecidableEq, Inhabited
def cVersion (x : Version) : List CV := [I x.Number, I x.Day, I x.Unit.Unit, I x.Unit.Parent, I x.Unit.Level, S x.Unit.Mark, S x.Unit.Title, .sl 1 (x.Path.map cInt)]
abbrev eVersion (x : Version) : CV := .agg (cVersion x)
theorem eqv_Standing (x y : Standing) : (x == y) = ((x.Unit == y.Unit) && (x.Parent == y.Parent) && (x.Level == y.Level) && (x.Mark == y.Mark) && (x.Title == y.Title)) := by
  obtain ⟨q1, q2, q3, q4, q5⟩ := x
  obtain ⟨q6, q7, q8, q9, q10⟩ := y
  rw [Bool.eq_iff_iff]
  simp [Standing.mk.injEq, and_assoc]
theorem seq_Standing (x y : Standing) {a b : Operand} {ty z : TypeId} : EffOp Tryd.prog Gw (.binOp .eql 37 a b z) ty [.c (.agg [I x.Unit, I x.Parent, I x.Level, S x.Mark, S x.Title]), .c (.agg [I y.Unit, I y.Parent, I y.Level, S y.Mark, S y.Title])] [] (.c (B (x == y))) [] :=
  eff_eqs (xs := [.int .i64 x.Unit, .int .i64 x.Parent, .int .i64 x.Level, .string ⟨⟨x.Mark⟩⟩, .string ⟨⟨x.Title⟩⟩]) (ys := [.int .i64 y.Unit, .int .i64 y.Parent, .int .i64 y.Level, .string ⟨⟨y.Mark⟩⟩, .string ⟨⟨y.Title⟩⟩]) rfl rfl (by kernel_rfl) fun w => by
    rw [eqv_Standing]
    simp [run_eql_struct, Tryd.underlying3, Tryd.underlying9, Tryd.underlying37, go_sem] <;> (repeat' split) <;> simp_all
theorem sne_Standing (x y : Standing) {a b : Operand} {ty z : TypeId} : EffOp Tryd.prog Gw (.binOp .neq 37 a b z) ty [.c (.agg [I x.Unit, I x.Parent, I x.Level, S x.Mark, S x.Title]), .c (.agg [I y.Unit, I y.Parent, I y.Level, S y.Mark, S y.Title])] [] (.c (B (!(x == y)))) [] :=
  eff_eqs (xs := [.int .i64 x.Unit, .int .i64 x.Parent, .int .i64 x.Level, .string ⟨⟨x.Mark⟩⟩, .string ⟨⟨x.Title⟩⟩]) (ys := [.int .i64 y.Unit, .int .i64 y.Parent, .int .i64 y.Level, .string ⟨⟨y.Mark⟩⟩, .string ⟨⟨y.Title⟩⟩]) rfl rfl (by kernel_rfl) fun w => by
    rw [eqv_Standing]
    simp [run_neq_struct, Tryd.underlying3, Tryd.underlying9, Tryd.underlying37, go_sem] <;> (repeat' split) <;> simp_all
end Go.Proofs.YtmdhahfminiilaaDoor
