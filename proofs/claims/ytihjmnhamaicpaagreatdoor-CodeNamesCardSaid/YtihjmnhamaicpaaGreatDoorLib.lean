/- Contracts of the library, as Holds. -/
import Derived.Test.YtihjmnhamaicpaaGreatDoorTy
namespace Go.Proofs.YtihjmnhamaicpaaGreatDoor
open Go Go.Abs Go.RowKit

theorem calls_holds {f : FuncId} {args : List CV} {r : CV} {u : Value} (hb : HasBody Tryz.prog f) (hr : r = .v u)
    (h : ∀ (Z : Zone) (w : World) (vs : List Value), RepL Z w args vs → (∀ b o, Z b o → b < w.heap.size) → Gw w → Calls Tryz.prog f vs.toArray w fun e w' => e = .returned u ∧ Below w.heap.size w w') : Holds Tryz.prog Gw f args r :=
  holds_mk hb fun Z w vs h1 h2 h3 => (h Z w vs h1 h2 h3).mono fun _ _ ⟨he, hw⟩ =>
    ⟨u, Z, he, hr ▸ .v u, fun _ _ hz => hz, fun b o hz => ⟨.inl hz, Nat.lt_of_lt_of_le (h2 b o hz) hw.size⟩, hw⟩
theorem repv {Z : Zone} {w : World} {x y : Value} (h : Rep Z w (.v x) y) : y = x := by cases h; rfl

def sContains_S (s sub : Str) : Option Bool := bif decide (s.length < 4294967281) then some (Lib.contains s sub) else none
theorem sContains_h {s sub : Str} {r : Bool} (h : sContains_S s sub = some r) : Holds Tryz.prog Gw 54 [S s, S sub] (B r) := by
  refine gpos h fun hl h => ?_
  refine calls_holds (u := .bool r) ⟨_, Tryz.func54, by decide, rfl⟩ rfl fun Z w vs h1 h2 h3 => ?_
  match vs, h1 with
  | [x, y], h1 =>
    have e1 := repv h1.head
    have e2 := repv h1.tail.head
    subst e1; subst e2
    obtain ⟨⟨m, hm⟩, -⟩ := h3
    refine (Tryz.strings_Contains ⟨⟨s⟩⟩ ⟨⟨sub⟩⟩ m w (of_decide_eq_true hl) hm).mono fun e w' ⟨he, hw⟩ => ⟨he.trans ?_, hw ▸ Below.refl _ _⟩
    rw [← Option.some.inj h]

def itoa_S (n : Int) : Option Str := bif decide (-9223372036854775808 ≤ n) && decide (n ≤ 9223372036854775807) then some (Lib.itoa n) else none
theorem itoa_h {n : Int} {r : Str} (h : itoa_S n = some r) : Holds Tryz.prog Gw 48 [I n] (S r) := by
  refine gpos h fun hl h => ?_
  refine calls_holds (u := .string ⟨⟨r⟩⟩) ⟨_, Tryz.func48, by decide, rfl⟩ rfl fun Z w vs h1 h2 h3 => ?_
  match vs, h1 with
  | [x], h1 =>
    have e1 := repv h1.head
    subst e1
    simp only [Bool.and_eq_true, decide_eq_true_eq] at hl
    refine (Tryz.strconv_Itoa n hl.1 hl.2 w h3.2.2.2.2.1).mono fun e w' ⟨he, k, os, hw⟩ => ⟨he.trans ?_, ?_⟩
    · rw [Option.some.inj h]
    · rw [hw]; exact below_grown w k os

def join_S (l : List Str) (sep : Str) : Option Str := bif decide (l.length ≤ 140737488355328) && decide ((Lib.join l sep).length ≤ 140737488355328) then some (Lib.join l sep) else none
theorem join_h {l : List Str} {sep r : Str} (h : join_S l sep = some r) : Holds Tryz.prog Gw 67 [.sl 1 (l.map cStr), S sep] (S r) := by
  refine gpos h fun hl h => ?_
  refine calls_holds (u := .string ⟨⟨r⟩⟩) ⟨_, Tryz.func67, by decide, rfl⟩ rfl fun Z w vs h1 h2 h3 => ?_
  simp only [Bool.and_eq_true, decide_eq_true_eq] at hl
  match vs, h1 with
  | [x, y], h1 =>
    have e1 := h1.head
    have e2 := repv h1.tail.head
    subst e2
    generalize hds : l.map cStr = ds at e1
    cases e1 with
    | nil _ a cap =>
      have : l = [] := by simpa using hds
      subst this
      refine (Tryz.strings_Join_none a cap _ w).mono fun e w' ⟨he, hw⟩ => ⟨he.trans ?_, hw ▸ Below.refl _ _⟩
      rw [← Option.some.inj h]; rfl
    | sl _ _ b o cap f hcap hsz hc hrep =>
      subst hds
      have hcell : ∀ (j : Nat) (x : ByteArray), (l.map fun s : Str => (ByteArray.mk ⟨s⟩))[j]? = some x → Z b (o + j) ∧ w.cell? ⟨b, o + j, none⟩ = some (.string x) := by
        intro j x hj
        rw [List.getElem?_map] at hj
        obtain ⟨s, hs, rfl⟩ := Option.map_eq_some_iff.1 hj
        have hd : (l.map cStr)[j]? = some [S s] := by rw [List.getElem?_map, hs]; rfl
        have h1 := hc j 0 _ _ hd rfl
        have h2 := repv (hrep j 0 _ _ hd rfl)
        rw [h2] at h1
        rw [Nat.mul_one, Nat.add_zero] at h1
        exact ⟨h1.1, h1.2.1⟩
      have hmm : (l.map fun s : Str => (ByteArray.mk ⟨s⟩)).map (·.data.toList) = l := by simp [List.map_map, Function.comp_def]
      cases l with
      | nil =>
        refine (Tryz.strings_Join_none _ cap _ w).mono fun e w' ⟨he, hw⟩ => ⟨he.trans ?_, hw ▸ Below.refl _ _⟩
        rw [← Option.some.inj h]; rfl
      | cons s l =>
        have hb : b < w.heap.size := h2 _ _ (hcell 0 _ rfl).1
        have hJ := Tryz.strings_Join b o cap ((s :: l).map fun s : Str => (ByteArray.mk ⟨s⟩)) ⟨⟨sep⟩⟩ w (fun j x hj => (hcell j x hj).2) hb (by simpa using hl.1) (by simpa using hcap) (by rw [hmm]; exact hl.2)
        rw [hmm] at hJ
        simp only [List.length_map] at hJ ⊢
        refine hJ.mono fun e w' ⟨he, hw⟩ => ⟨he.trans ?_, hw⟩
        rw [← Option.some.inj h]
def sTrimSpace_S (s : Str) : Option Str := bif decide (s.length ≤ 9223372036854775807) then some (Lib.trimSpaceD s) else none
theorem sTrimSpace_h {s r : Str} (h : sTrimSpace_S s = some r) : Holds Tryz.prog Gw 53 [S s] (S r) := by
  refine gpos h fun hl h => ?_
  refine calls_holds (u := .string ⟨⟨r⟩⟩) ⟨_, Tryz.func53, by decide, rfl⟩ rfl fun Z w vs h1 h2 h3 => ?_
  match vs, h1 with
  | [x], h1 =>
    have e1 := repv h1.head
    subst e1
    refine (Tryz.strings_TrimSpace_any ⟨⟨s⟩⟩ w (of_decide_eq_true hl) h3.2.1 h3.2.2.1 h3.2.2.2.1).mono fun e w' ⟨he, hw⟩ => ⟨he.trans ?_, hw⟩
    rw [← Option.some.inj h]

/-- What Atoi gives: the number, and whether there is an error. -/
def atoiV (s : Str) : Int × Bool := match Lib.atoiAll s with
  | .ok v => (v, false)
  | .range => (Lib.atoiSat s, true)
  | _ => (0, true)
def atoi_S (s : Str) : Option (Int × Bool) := bif decide (s.length ≤ 281474976710656) then some (atoiV s) else none
theorem err_res {Z : Zone} {w w' : World} {n : Int} {x : Value} {b : Bool} (hz : ∀ b o, Z b o → b < w.heap.size) (hr : Rep Z w' (errC b) x) (hb : Below w.heap.size w w') :
    ∃ (y : Value) (Z' : Zone), Ending.returned (.tuple #[.int .i64 n, x]) = .returned y ∧ Rep Z' w' (.tup [I n, errC b]) y ∧ (∀ b o, Z b o → Z' b o) ∧ (∀ b o, Z' b o → (Z b o ∨ w.heap.size ≤ b) ∧ b < w'.heap.size) ∧ Below w.heap.size w w' :=
  ⟨_, Z, rfl, .tup [I n, errC b] [.int .i64 n, x] rfl (fun i c y h1 h2 => by
    match i, h1, h2 with
    | 0, h1, h2 => simp at h1 h2; subst h1; subst h2; exact .v _
    | 1, h1, h2 => simp at h1 h2; subst h1; subst h2; exact hr
    | i + 2, h1, _ => simp at h1), fun _ _ h => h, fun b o h => ⟨.inl h, Nat.lt_of_lt_of_le (hz b o h) hb.size⟩, hb⟩
theorem atoi_h {s : Str} {r : Int × Bool} (h : atoi_S s = some r) : Holds Tryz.prog Gw 47 [S s] (.tup [I r.1, errC r.2]) := by
  refine gpos h fun hl h => ?_
  have hl := of_decide_eq_true hl
  obtain rfl := Option.some.inj h
  refine holds_mk ⟨_, Tryz.func47, by decide, rfl⟩ fun Z w vs h1 h2 h3 => ?_
  match vs, h1 with
  | [x], h1 =>
    have e1 := repv h1.head
    subst e1
    obtain ⟨-, -, -, -, -, ⟨e1, hc1, g1⟩, e2, hc2, g2⟩ := h3
    unfold atoiV
    rcases ha : Lib.atoiAll s with v | _ | _
    · refine (Tryz.strconv_Atoi_ok ⟨⟨s⟩⟩ (show s.length ≤ _ by omega) v ha w).mono fun e w' ⟨he, hw⟩ => ?_
      subst he
      refine err_res h2 (b := false) (.v _) ?_
      rcases hw with rfl | ⟨t, rfl⟩
      · exact Below.refl _ _
      · exact Lib.bytesWorld_below _ _ _
    · refine (Tryz.strconv_Atoi_syntax ⟨⟨s⟩⟩ hl ha e1 w hc1 g1).mono fun e w' ⟨N, he, _, _, hb⟩ => ?_
      subst he
      exact err_res h2 (b := true) (.er _ _) hb
    · refine (Tryz.strconv_Atoi_range ⟨⟨s⟩⟩ hl ha e2 w hc2 g2).mono fun e w' ⟨N, he, _, _, hb⟩ => ?_
      subst he
      exact err_res h2 (b := true) (.er _ _) hb

def sSplit_S (s sep : Str) : Option (List Str) := bif decide (s.length < 4294967281) && decide (1 ≤ sep.length) then some (Lib.split s sep) else none
theorem strs_rep {Z : Zone} {w : World} {b : Nat} (xs : List ByteArray) (hz : ∀ o, Z b o) (hh : w.heap[b]? = some (.cells (xs.map Value.string).toArray 9 (0, 0))) :
    Rep Z w (.sl 1 ((xs.map (·.data.toList)).map cStr)) (.slice (some ⟨b, 0, none⟩) xs.length xs.length) := by
  have hc : ∀ (i : Nat) (x : ByteArray), xs[i]? = some x → w.cell? ⟨b, i, none⟩ = some (.string x) := fun i x hi => by
    simp [World.cell?, hh, hi]
  have hlen : xs.length = ((xs.map (·.data.toList)).map cStr).length := by simp
  have hget : ∀ (i : Nat) (d : List CV), ((xs.map (·.data.toList)).map cStr)[i]? = some d → ∃ x, xs[i]? = some x ∧ d = [S x.data.toList] := fun i d hd => by
    rw [List.getElem?_map, List.getElem?_map] at hd
    cases hx : xs[i]? with
    | none => rw [hx] at hd; cases hd
    | some x => rw [hx] at hd; exact ⟨x, rfl, (Option.some.inj hd).symm⟩
  have h := Rep.sl (Z := Z) (w := w) 1 ((xs.map (·.data.toList)).map cStr) b 0 xs.length (fun i _ => .string (xs.getD i ⟨#[]⟩)) (by rw [← hlen]; exact Nat.le_refl _)
    (fun i d hd => by obtain ⟨x, _, rfl⟩ := hget i d hd; rfl)
    (fun i j d c hd hj => by
      obtain ⟨x, hx, rfl⟩ := hget i d hd
      match j, hj with
      | 0, hj =>
        simp at hj
        subst hj
        refine ⟨hz _, ?_, rfl⟩
        rw [Nat.zero_add, Nat.mul_one, Nat.add_zero, hc i x hx]
        simp [List.getD_eq_getElem?_getD, hx]
      | j + 1, hj => simp at hj)
    (fun i j d c hd hj => by
      obtain ⟨x, hx, rfl⟩ := hget i d hd
      match j, hj with
      | 0, hj =>
        simp at hj
        subst hj
        simp only [List.getD_eq_getElem?_getD, hx, Option.getD_some]
        exact .v _
      | j + 1, hj => simp at hj)
  rw [← hlen] at h
  exact h
theorem sSplit_h {s sep : Str} {r : List Str} (h : sSplit_S s sep = some r) : Holds Tryz.prog Gw 46 [S s, S sep] (.sl 1 (r.map cStr)) := by
  refine gpos h fun hl h => ?_
  simp only [Bool.and_eq_true, decide_eq_true_eq] at hl
  obtain rfl := Option.some.inj h
  refine holds_mk ⟨_, Tryz.func46, by decide, rfl⟩ fun Z w vs h1 h2 h3 => ?_
  match vs, h1 with
  | [x, y], h1 =>
    have e1 := repv h1.head
    have e2 := repv h1.tail.head
    subst e1; subst e2
    obtain ⟨⟨m, hm⟩, -⟩ := h3
    refine (Tryz.strings_Split ⟨⟨s⟩⟩ ⟨⟨sep⟩⟩ m w hl.1 hm hl.2).mono fun e w' ⟨he, hw⟩ => ?_
    subst he
    have hsz : (Lib.splitB ⟨⟨sep⟩⟩ 0 (Lib.countB ⟨⟨s⟩⟩ ⟨⟨sep⟩⟩) ⟨⟨s⟩⟩).length = Lib.countB ⟨⟨s⟩⟩ ⟨⟨sep⟩⟩ + 1 := Lib.splitB_all ⟨⟨sep⟩⟩ hl.2 0 _ _ rfl
    have hda : (Lib.splitB ⟨⟨sep⟩⟩ 0 (Lib.countB ⟨⟨s⟩⟩ ⟨⟨sep⟩⟩) ⟨⟨s⟩⟩).map (·.data.toList) = Lib.split s sep := Lib.splitB_data ⟨⟨sep⟩⟩ 0 _ ⟨⟨s⟩⟩
    have hh : w'.heap[w.heap.size]? = some (.cells ((Lib.splitB ⟨⟨sep⟩⟩ 0 (Lib.countB ⟨⟨s⟩⟩ ⟨⟨sep⟩⟩) ⟨⟨s⟩⟩).map Value.string).toArray 9 (0, 0)) := by rw [hw]; exact heap_alloc_new w _
    have hb : Below w.heap.size w w' := by rw [hw]; exact (Below.refl _ w).alloc (Nat.le_refl _) _
    have hr := strs_rep (Z := fun b o => Z b o ∨ b = w.heap.size) _ (fun _ => .inr rfl) hh
    rw [hda, hsz] at hr
    refine ⟨_, _, rfl, hr, fun _ _ h => .inl h, fun b o h => ?_, hb⟩
    rcases h with h | rfl
    · exact ⟨.inl h, Nat.lt_of_lt_of_le (h2 b o h) hb.size⟩
    · exact ⟨.inr (Nat.le_refl _), by rw [hw]; simp⟩
def sTrimLeft_S (s cut : Str) : Option Str := match cut with
  | [c] => bif decide (c.toNat < 128) then some (Lib.trimLeftB s c) else none
  | _ => none
theorem sTrimLeft_h {s cut r : Str} (h : sTrimLeft_S s cut = some r) : Holds Tryz.prog Gw 80 [S s, S cut] (S r) := by
  match cut, h with
  | [c], h =>
    refine gpos (b := decide (c.toNat < 128)) h fun hl h => ?_
    refine calls_holds (u := .string ⟨⟨r⟩⟩) ⟨_, Tryz.func80, by decide, rfl⟩ rfl fun Z w vs h1 h2 h3 => ?_
    match vs, h1 with
    | [x, y], h1 =>
      have e1 := repv h1.head
      have e2 := repv h1.tail.head
      subst e1; subst e2
      refine (Tryz.strings_TrimLeft_one ⟨⟨s⟩⟩ c (of_decide_eq_true hl) w).mono fun e w' ⟨he, hw⟩ => ⟨he.trans ?_, hw ▸ Below.refl _ _⟩
      rw [← Option.some.inj h]
end Go.Proofs.YtihjmnhamaicpaaGreatDoor
