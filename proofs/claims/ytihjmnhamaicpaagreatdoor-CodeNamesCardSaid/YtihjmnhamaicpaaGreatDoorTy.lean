/- Types of the seat; what is known of the package variables. -/
import Derived.Test.YtihjmnhamaicpaaGreatDoorTab
import Derived.Test.YtihjmnhamaicpaaGreatDoorAbsOpG
import Derived.Test.YtihjmnhamaicpaaGreatDoorAbsSort
import Derived.Test.YtihjmnhamaicpaaGreatDoorShelf
namespace Go.Proofs.YtihjmnhamaicpaaGreatDoor
open Go Go.Abs Go.RowKit
/-- What is known of the package variables. -/
def isErr (v : Value) : Prop := v = .nilIface ∨ ∃ te pe, v = .iface te pe
def Gw : World → Prop := fun w => (∃ m, w.cell? ⟨4, 0, none⟩ = some (.int .i64 m)) ∧ Lib.TabIs Tryz.prog w "strings.asciiSpace" .u8 Lib.asciiSpaceTab ∧ Lib.Utf8Tabs 6 7 w ∧ Lib.WhiteTab 1 w ∧ Lib.TabIs Tryz.prog w "internal/strconv.uint64pow10" .u64 Lib.pow10Tab ∧
  (∃ ev, w.cell? ⟨2, 0, none⟩ = some ev ∧ isErr ev) ∧ ∃ ev, w.cell? ⟨3, 0, none⟩ = some ev ∧ isErr ev
theorem cell_lt {w : World} {a : Addr} {v : Value} (h : w.cell? a = some v) : a.block < w.heap.size := by
  rcases Nat.lt_or_ge a.block w.heap.size with h' | h'
  · exact h'
  · simp [World.cell?, Array.getElem?_eq_none h'] at h
theorem tab_below {P : Program} {w w' : World} {n : String} {k : IntKind} {zs : List Int} (h : Lib.TabIs P w n k zs) (hb : Below w.heap.size w w') : Lib.TabIs P w' n k zs := by
  unfold Lib.TabIs World.var? at h ⊢
  cases hg : P.globalNamed n with
  | none => rw [hg] at h; exact nomatch h
  | some g =>
    rw [hg] at h
    simp only [Option.bind_some] at h ⊢
    have hlt : g < w.heap.size := by
      rcases Nat.lt_or_ge g w.heap.size with h' | h'
      · exact h'
      · rw [Array.getElem?_eq_none h'] at h; exact nomatch h
    rw [hb.block g hlt]; exact h
theorem Gs : ∀ w w', Gw w → Below w.heap.size w w' → Gw w' := by
  rintro w w' ⟨⟨m, hm⟩, ht, hu, hw, hp, ⟨e1, h1, g1⟩, e2, h2, g2⟩ hb
  exact ⟨⟨m, (hb.cell (p := ⟨4, 0, none⟩) (cell_lt hm)).trans hm⟩, tab_below ht hb, Utf8Tabs_below hu hb, WhiteTab_below hw hb, tab_below hp hb,
    ⟨e1, (hb.cell (p := ⟨2, 0, none⟩) (cell_lt h1)).trans h1, g1⟩, e2, (hb.cell (p := ⟨3, 0, none⟩) (cell_lt h2)).trans h2, g2⟩
theorem errTy : Tryz.prog.underlying 59 = some (.interface (Tryz.prog.methodsAt 59)) := by kernel_rfl
theorem cells_one {Z : Zone} {w : World} {c : CV} {x : Value} (h : Rep Z w c x) (ha : c.atom = true) : x.cells = #[x] := by
  have := h.atom ha
  cases x <;> first | rfl | (simp [Value.oneCell'] at this)

end Go.Proofs.YtihjmnhamaicpaaGreatDoor
