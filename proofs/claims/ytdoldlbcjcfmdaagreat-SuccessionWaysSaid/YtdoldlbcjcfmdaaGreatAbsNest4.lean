/-
  The same of typed rows.
-/
import Derived.Test.YtdoldlbcjcfmdaaGreatAbsNest3
namespace Go.Abs
open Go Go.RowKit
/-- The cells of rows. -/
def nrows {α : Type} (cf : α → List CV) (l : List (List α)) : List (List (List CV)) := l.map fun r => r.map cf
section
variable {P : Program} {G : World → Prop} {eo ei sz : Nat} {α : Type} {cf : α → List CV} {l : List (List α)}
theorem nrows_len : (nrows cf l).length = l.length := by simp [nrows]
theorem nest_cl {csl : List α → List CV} (h : ∀ x, csl x = [.sl sz (x.map cf)]) : (nestK eo ei sz (nrows cf l) none).cl = some (.sl 1 (l.map csl)) := by
  simp only [nestK, nrows, List.map_map]
  congr 2
  exact List.map_congr_left fun x _ => (h x).symm
theorem eff_nlenT {t e : TypeId} (ht : P.underlying t = some (.slice e)) {x : Operand} {ty : TypeId} :
    EffOp P G (.call ⟨.builtin .len, ⟨[x]⟩, ⟨[t]⟩⟩) ty [.xr 0 0] [(0, .ext (nestK eo ei sz (nrows cf l) none) [])] (.c (.v (.int .i64 (l.length : Int)))) [(0, .ext (nestK eo ei sz (nrows cf l) none) [])] := by
  have := eff_nlen (P := P) (G := G) (eo := eo) (ei := ei) (sz := sz) (rows := nrows cf l) ht (x := x) (ty := ty)
  rw [nrows_len] at this
  exact this
theorem ix_dec {α : Type} {l : List α} {n : Int} {r : α} (h : ix l n = some r) : decide (0 ≤ n ∧ n < (l.length : Int)) = true := by
  have h1 := ix_nn h
  have h2 := (List.getElem?_eq_some_iff.1 (ix_get h)).1
  rw [decide_eq_true_eq]
  omega
theorem ix_decN {α : Type} {l : List α} {n : Int} {r : α} (h : ix l n = some r) : decide (n.toNat < l.length) = true := by
  rw [decide_eq_true_eq]
  exact (List.getElem?_eq_some_iff.1 (ix_get h)).1
theorem eff_nidxT {foc : Option Nat} {t : TypeId} {i : TI} (ht : P.underlying t = some (.slice eo)) (hi : TOk1 P eo i) (h1 : i.size = 1) {n : Int} {r : List α} (h : ix l n = some r) {x y : Operand} {ty : TypeId} {k : IntKind} :
    EffOp P G (.indexAddr t x y) ty [.xr 0 0, .c (.v (.int k n))] [(0, .ext (nestK eo ei sz (nrows cf l) foc) [])] (.xf 0 0 (cellOf n.toNat)) [(0, .ext (nestK eo ei sz (nrows cf l) foc) [])] :=
  eff_nidx ht hi h1 (by rw [nrows_len]; exact ix_dec h)
theorem eff_ntakeT {t : TypeId} {i : TI} (hi : TOk1 P t i) (hagg : i.isAgg = false) {n : Int} {r : List α} (h : ix l n = some r) {x : Operand} {ty : TypeId} :
    EffOp P G (.load t x) ty [.xf 0 0 (cellOf n.toNat)] [(0, .ext (nestK eo ei sz (nrows cf l) none) [])] (.rs 1 1) [(0, .ext (nestK eo ei sz (nrows cf l) (some n.toNat)) []), (1, .arr ei sz (r.map cf) none)] :=
  eff_ntake hi hagg (by simp [nrows, List.getElem?_map, ix_get h]) (.inl rfl)
theorem eff_ntakeRT {t : TypeId} {i : TI} (hi : TOk1 P t i) (hagg : i.isAgg = false) {n : Int} {r : List α} (h : ix l n = some r) {x : Operand} {ty : TypeId} :
    EffOp P G (.load t x) ty [.xf 0 0 (cellOf n.toNat)] [(0, .ext (nestK eo ei sz (nrows cf l) none) [])] (.rs 1 1) [(0, .ext (nestK eo ei sz (nrows cf l) (some n.toNat)) [.rs 1 1]), (1, .arr ei sz (r.map cf) none)] :=
  eff_ntake hi hagg (by simp [nrows, List.getElem?_map, ix_get h]) (.inr rfl)
theorem nrows_set {n : Nat} {r : List α} : nrows cf (l.set n r) = (nrows cf l).set n (r.map cf) := by simp [nrows, List.map_set]
theorem eff_nputT {t : TypeId} {i : TI} (hi : TOk1 P t i) (h1s : i.size = 1) {n : Int} {r0 : List α} (h : ix l n = some r0) {r : List α} {x y : Operand} {ty : TypeId} :
    EffOp P G (.store t x y) ty [.xf 0 0 (cellOf n.toNat), .rs 1 0] [(0, .ext (nestK eo ei sz (nrows cf l) (some n.toNat)) []), (0, .arr ei sz (r.map cf) none)] .any [(0, .ext (nestK eo ei sz (nrows cf (l.set n.toNat r)) none) []), (1, .spent)] := by
  rw [nrows_set]
  exact eff_nput hi h1s (by rw [nrows_len]; exact ix_decN h)
theorem effn_nrowT {f : FuncId} {n : Int} {r0 r r' : List α} (hn : ix l n = some r0) (h : EffFn P G f [.rs 0 0] [(0, .arr ei sz (r.map cf) none)] (.c (.tup [])) [(0, .arr ei sz (r'.map cf) none)]) :
    EffFn P G f [.rs 1 0] [(0, .ext (nestK eo ei sz (nrows cf l) (some n.toNat)) [.rs 1 0]), (0, .arr ei sz (r.map cf) none)] (.c (.tup [])) [(0, .ext (nestK eo ei sz (nrows cf (l.set n.toNat r')) none) []), (1, .spent)] := by
  rw [nrows_set]
  exact effn_nrow (by rw [nrows_len]; exact ix_decN hn) h
theorem eff_nnilT (hsz : 0 < sz) {ty : TypeId} : EffOp P G (.assign (.const (.slice .none 0 0))) ty [.c (.sl 0 [])] [] (.xr 0 1) [(1, .ext (nestK eo ei sz (nrows cf []) none) [])] := eff_nnil hsz
theorem eff_nallocT {t : TypeId} {i : TI} (ht : TOk1 P t i) (hz : i.zero = [.slice none 0 0]) (hagg : i.isAgg = false) (hsz : 0 < sz) {ty : TypeId} :
    EffOp P G (.alloc t) ty [] [] (.pm 0 1 0) [(1, .varx [.xr 1 1]), (1, .ext (nestK eo ei sz (nrows cf []) none) [])] := eff_nalloc ht hz hagg hsz
theorem eff_nlitT {t : TypeId} {i : TI} (ht : P.underlying t = some (.slice eo)) (hi : TOk1 P eo i) (h1 : i.size = 1) (hsz : 0 < sz) {ty : TypeId} :
    EffOp P G (.buildSlice t 1 ⟨[(0, .const (.slice .none 0 0))]⟩) ty [.c (.sl 0 [])] [] (.xr 0 1) [(1, .ext (nestK eo ei sz (nrows cf [[]]) none) [])] := eff_nlit ht hi h1 hsz
theorem eff_nappT {t : TypeId} {i : TI} {l2 : List (List α)} (ht : P.underlying t = some (.slice eo)) (hi : TOk1 P eo i) (h1 : i.size = 1) (hby : i.bytes ≤ 4096) (hle : decide (l.length + l2.length ≤ 4294967296) = true) {x y : Operand} {ty : TypeId} :
    EffOp P G (.call ⟨.builtin .append, ⟨[x, y]⟩, ⟨[t, t]⟩⟩) ty [.xr 0 0, .xr 1 0] [(0, .ext (nestK eo ei sz (nrows cf l) none) []), (0, .ext (nestK eo ei sz (nrows cf l2) none) [])] (.xr 0 1) [(1, .ext (nestK eo ei sz (nrows cf (l ++ l2)) none) []), (1, .spent)] := by
  rw [show nrows cf (l ++ l2) = nrows cf l ++ nrows cf l2 by simp [nrows]]
  exact eff_napp ht hi h1 hby (by rw [nrows_len, nrows_len]; exact hle)
end
end Go.Abs
