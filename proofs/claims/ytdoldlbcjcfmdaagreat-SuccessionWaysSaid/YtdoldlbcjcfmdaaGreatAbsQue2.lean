/-
  The queue of typed elements.
-/
import Derived.Test.YtdoldlbcjcfmdaaGreatAbsQue
import Derived.Test.YtdoldlbcjcfmdaaGreatAbsNest4
namespace Go.Abs
open Go Go.RowKit
section
variable {P : Program} {G : World → Prop} {e : TypeId} {α : Type} {af : α → CV} {l : List α}
theorem eff_qlenT {t e' : TypeId} (ht : P.underlying t = some (.slice e')) {x : Operand} {ty : TypeId} :
    EffOp P G (.call ⟨.builtin .len, ⟨[x]⟩, ⟨[t]⟩⟩) ty [.xr 0 0] [(0, .ext (queK e (l.map af)) [])] (.c (.v (.int .i64 (l.length : Int)))) [(0, .ext (queK e (l.map af)) [])] := by
  have := eff_qlen (P := P) (G := G) (e := e) (l := l.map af) ht (x := x) (ty := ty)
  rw [List.length_map] at this
  exact this
theorem eff_qidxT {t : TypeId} {i : TI} (ht : P.underlying t = some (.slice e)) (hi : TOk1 P e i) (h1 : i.size = 1) {n : Int} {r : α} (h : ix l n = some r) {x y : Operand} {ty : TypeId} {k : IntKind} :
    EffOp P G (.indexAddr t x y) ty [.xr 0 0, .c (.v (.int k n))] [(0, .ext (queK e (l.map af)) [])] (.xf 0 0 (cellOf n.toNat)) [(0, .ext (queK e (l.map af)) [])] :=
  eff_qidx ht hi h1 (by rw [List.length_map]; exact ix_dec h)
theorem eff_qloadT {t : TypeId} {i : TI} (hi : TOk1 P t i) (hagg : i.isAgg = false) {n : Int} {r : α} (h : ix l n = some r) {x : Operand} {ty : TypeId} :
    EffOp P G (.load t x) ty [.xf 0 0 (cellOf n.toNat)] [(0, .ext (queK e (l.map af)) [])] (.c (af r)) [(0, .ext (queK e (l.map af)) [])] :=
  eff_qload hi hagg (by rw [List.getElem?_map, ix_get h]; rfl)
theorem eff_qtailT {t : TypeId} {i : TI} (ht : P.underlying t = some (.slice e)) (hi : TOk1 P e i) (h1 : i.size = 1) {lo : Int} (hlo : decide (0 ≤ lo ∧ lo ≤ (l.length : Int)) = true) {x b : Operand} {ty : TypeId} {k : IntKind} :
    EffOp P G (.slice t x (some b) none none) ty [.xr 0 0, .c (.v (.int k lo))] [(0, .ext (queK e (l.map af)) [])] (.xr 0 1) [(1, .ext (queK e ((l.drop lo.toNat).map af)) [])] := by
  rw [List.map_drop]
  exact eff_qtail ht hi h1 (by rw [List.length_map]; exact hlo)
theorem eff_qlitT {t : TypeId} {i : TI} (ht : P.underlying t = some (.slice e)) (hi : TOk1 P e i) (h1 : i.size = 1) {a : α} (hat : (af a).atom = true) (hcell : ∀ Z w x, Rep Z w (af a) x → x.cells = #[x]) {x : Operand} {ty : TypeId} :
    EffOp P G (.buildSlice t 1 ⟨[(0, x)]⟩) ty [.c (af a)] [] (.xr 0 1) [(1, .ext (queK e ([a].map af)) [])] := eff_qlit ht hi h1 hat hcell
theorem eff_qappT {t : TypeId} {i : TI} (ht : P.underlying t = some (.slice e)) (hi : TOk1 P e i) (h1 : i.size = 1) (hby : i.bytes ≤ 4096) {a : α} (hle : decide (l.length + 1 ≤ 4294967296) = true) {x y : Operand} {ty : TypeId} :
    EffOp P G (.call ⟨.builtin .append, ⟨[x, y]⟩, ⟨[t, t]⟩⟩) ty [.xr 0 0, .c (.sl 1 [[af a]])] [(0, .ext (queK e (l.map af)) [])] (.xr 0 1) [(1, .ext (queK e ((l ++ [a]).map af)) [])] := by
  rw [List.map_append]
  exact eff_qapp ht hi h1 hby (by rw [List.length_map]; exact hle)
end
end Go.Abs
