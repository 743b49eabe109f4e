/-
  Small words in which the typed functions are written, and the steps of their walks.
-/
import Derived.Test.YtmcolhhmlpicaaaDoorAbsRec
namespace Go.Abs
open Go Go.RowKit

abbrev Str := List UInt8
abbrev I (n : Int) : CV := .v (.int .i64 n)
abbrev B (b : Bool) : CV := .v (.bool b)
abbrev S (s : Str) : CV := .v (.string ⟨⟨s⟩⟩)
def cInt (n : Int) : List CV := [I n]
def cInt_u8 (n : Int) : List CV := [.v (.int .u8 n)]
def cInt_i32 (n : Int) : List CV := [.v (.int .i32 n)]
def cBool (b : Bool) : List CV := [B b]
def cStr (s : Str) : List CV := [S s]
def cFnc (f : FuncId) : List CV := [.fn f []]
/-- An element by its index, as Go counts. -/
def ix {α : Type} (l : List α) (n : Int) : Option α := if n < 0 then none else l[n.toNat]?

section
variable {α β : Type} {G : Prop}
theorem obind {o : Option α} {f : α → Option β} {r : β} (h : Option.bind o f = some r) (k : ∀ x, o = some x → f x = some r → G) : G := by
  cases o with
  | none => exact nomatch h
  | some x => exact k x rfl h
theorem cpos {b : Bool} {x y : Option α} {r : α} (hb : b = true) (h : (bif b then x else y) = some r) : x = some r := by subst hb; exact h
theorem cneg {b : Bool} {x y : Option α} {r : α} (hb : b = false) (h : (bif b then x else y) = some r) : y = some r := by subst hb; exact h
theorem gpos {b : Bool} {x : Option α} {r : α} (h : (bif b then x else none) = some r) (k : b = true → x = some r → G) : G := by
  cases b with
  | true => exact k rfl h
  | false => exact nomatch h
theorem gneg {b : Bool} {x : Option α} {r : α} (h : (bif b then none else x) = some r) (k : b = false → x = some r → G) : G := by
  cases b with
  | false => exact k rfl h
  | true => exact nomatch h
theorem ix_nn {l : List α} {n : Int} {x : α} (h : ix l n = some x) : 0 ≤ n := by
  unfold ix at h
  split at h
  · exact nomatch h
  · omega
theorem ix_get {l : List α} {n : Int} {x : α} (h : ix l n = some x) : l[n.toNat]? = some x := by
  unfold ix at h
  split at h
  · exact nomatch h
  · exact h
theorem ix_map (f : α → β) {l : List α} {n : Int} {x : α} (h : ix l n = some x) : (l.map f)[n.toNat]? = some (f x) := by
  rw [List.getElem?_map, ix_get h]; rfl
theorem ix_str {s : Str} {n : Int} {b : UInt8} (h : ix s n = some b) : (ByteArray.mk ⟨s⟩)[n.toNat]? = some b := by
  have h1 := ix_get h
  have h2 := (List.getElem?_eq_some_iff.1 h1).1
  have h3 := (List.getElem?_eq_some_iff.1 h1).2
  have hs : n.toNat < (ByteArray.mk ⟨s⟩).size := h2
  rw [getElem?_pos (ByteArray.mk ⟨s⟩) n.toNat hs]
  exact congrArg some h3
theorem scat (a b : Str) : (ByteArray.mk ⟨a ++ b⟩) = ByteArray.mk ⟨a⟩ ++ ByteArray.mk ⟨b⟩ := by
  apply ByteArray.ext
  rw [ByteArray.data_append]
  simp
theorem len_map {f : α → List CV} {sz : Nat} {l : List α} (h : ∀ x, (f x).length = sz) : ∀ n ∈ l.map f, n.length = sz := by
  intro n hn
  obtain ⟨x, _, rfl⟩ := List.mem_map.1 hn
  exact h x
theorem len_all {sz : Nat} : ∀ {l : List (List β)}, l.all (fun d => Nat.beq d.length sz) = true → ∀ n ∈ l, n.length = sz := by
  intro l h n hn
  rw [List.all_eq_true] at h
  exact Nat.eq_of_beq_eq_true (h n hn)
theorem map_app (f : α → β) (a b : List α) : (a ++ b).map f = a.map f ++ b.map f := List.map_append
theorem app_le {f : α → β} {a b : List α} (h : decide (a.length + b.length ≤ 4294967296) = true) : (a.map f).length + (b.map f).length ≤ 4294967296 := by
  simpa using h
theorem ix_lt {l : List α} {f : α → β} {n : Int} {x : α} (h : ix l n = some x) : n.toNat < (l.map f).length := by
  rw [List.length_map]; exact (List.getElem?_eq_some_iff.1 (ix_get h)).1
theorem ix_set {l : List α} {n : Int} {x y : α} (h : ix l n = some x) : ix (l.set n.toNat y) n = some y := by
  have h0 := ix_nn h
  have h1 := (List.getElem?_eq_some_iff.1 (ix_get h)).1
  unfold ix
  rw [if_neg (by omega), List.getElem?_set_self h1]
theorem set_map (f : α → β) (l : List α) (n : Nat) (y : α) : (l.set n y).map f = (l.map f).set n (f y) := List.map_set
theorem one_le {f : α → β} {a : List α} (h : decide (a.length ≤ 4294967296) = true) : (a.map f).length ≤ 4294967296 := by
  simpa using h
theorem ret_eq {p : α → Prop} {v r : α} (h : some v = some r) (hp : p v) : p r := Option.some.inj h ▸ hp
end
end Go.Abs
