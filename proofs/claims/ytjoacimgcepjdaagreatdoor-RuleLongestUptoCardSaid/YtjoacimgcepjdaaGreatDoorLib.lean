/- Contracts of the library, as Holds. -/
import Derived.Test.YtjoacimgcepjdaaGreatDoorTy
namespace Go.Proofs.YtjoacimgcepjdaaGreatDoor
open Go Go.Abs Go.RowKit

theorem calls_holds {f : FuncId} {args : List CV} {r : CV} {u : Value} (hb : HasBody Tryz.prog f) (hr : r = .v u)
    (h : ∀ (Z : Zone) (w : World) (vs : List Value), RepL Z w args vs → (∀ b o, Z b o → b < w.heap.size) → Gw w → Calls Tryz.prog f vs.toArray w fun e w' => e = .returned u ∧ Below w.heap.size w w') : Holds Tryz.prog Gw f args r :=
  holds_mk hb fun Z w vs h1 h2 h3 => (h Z w vs h1 h2 h3).mono fun _ _ ⟨he, hw⟩ =>
    ⟨u, Z, he, hr ▸ .v u, fun _ _ hz => hz, fun b o hz => ⟨.inl hz, Nat.lt_of_lt_of_le (h2 b o hz) hw.size⟩, hw⟩
theorem repv {Z : Zone} {w : World} {x y : Value} (h : Rep Z w (.v x) y) : y = x := by cases h; rfl

def sContains_S (s sub : Str) : Option Bool := bif decide (s.length < 4294967281) then some (Lib.contains s sub) else none
theorem sContains_h {s sub : Str} {r : Bool} (h : sContains_S s sub = some r) : Holds Tryz.prog Gw 66 [S s, S sub] (B r) := by
  refine gpos h fun hl h => ?_
  refine calls_holds (u := .bool r) ⟨_, Tryz.func66, by decide, rfl⟩ rfl fun Z w vs h1 h2 h3 => ?_
  match vs, h1 with
  | [x, y], h1 =>
    have e1 := repv h1.head
    have e2 := repv h1.tail.head
    subst e1; subst e2
    obtain ⟨⟨m, hm⟩, -⟩ := h3
    refine (Tryz.strings_Contains ⟨⟨s⟩⟩ ⟨⟨sub⟩⟩ m w (of_decide_eq_true hl) hm).mono fun e w' ⟨he, hw⟩ => ⟨he.trans ?_, hw ▸ Below.refl _ _⟩
    rw [← Option.some.inj h]

def itoa_S (n : Int) : Option Str := bif decide (-9223372036854775808 ≤ n) && decide (n ≤ 9223372036854775807) then some (Lib.itoa n) else none
theorem itoa_h {n : Int} {r : Str} (h : itoa_S n = some r) : Holds Tryz.prog Gw 55 [I n] (S r) := by
  refine gpos h fun hl h => ?_
  refine calls_holds (u := .string ⟨⟨r⟩⟩) ⟨_, Tryz.func55, by decide, rfl⟩ rfl fun Z w vs h1 h2 h3 => ?_
  match vs, h1 with
  | [x], h1 =>
    have e1 := repv h1.head
    subst e1
    simp only [Bool.and_eq_true, decide_eq_true_eq] at hl
    refine (Tryz.strconv_Itoa n hl.1 hl.2 w h3.2.2.2.2.1).mono fun e w' ⟨he, k, os, hw⟩ => ⟨he.trans ?_, ?_⟩
    · rw [Option.some.inj h]
    · rw [hw]; exact below_grown w k os

def sTrimSpace_S (s : Str) : Option Str := bif decide (s.length ≤ 9223372036854775807) then some (Lib.trimSpaceD s) else none
theorem sTrimSpace_h {s r : Str} (h : sTrimSpace_S s = some r) : Holds Tryz.prog Gw 90 [S s] (S r) := by
  refine gpos h fun hl h => ?_
  refine calls_holds (u := .string ⟨⟨r⟩⟩) ⟨_, Tryz.func90, by decide, rfl⟩ rfl fun Z w vs h1 h2 h3 => ?_
  match vs, h1 with
  | [x], h1 =>
    have e1 := repv h1.head
    subst e1
    refine (Tryz.strings_TrimSpace_any ⟨⟨s⟩⟩ w (of_decide_eq_true hl) h3.2.1 h3.2.2.1 h3.2.2.2.1).mono fun e w' ⟨he, hw⟩ => ⟨he.trans ?_, hw⟩
    rw [← Option.some.inj h]

/-- What Atoi gives: the number, and whether there is an error. -/
def atoiV (s : Str) : Int × Bool := match Lib.atoiAll s with
  | .ok v => (v, false)
  | .range => (Lib.atoiSat s, true)
  | _ => (0, true)
def atoi_S (s : Str) : Option (Int × Bool) := bif decide (s.length ≤ 281474976710656) then some (atoiV s) else none
theorem err_res {Z : Zone} {w w' : World} {n : Int} {x : Value} {b : Bool} (hz : ∀ b o, Z b o → b < w.heap.size) (hr : Rep Z w' (errC b) x) (hb : Below w.heap.size w w') :
    ∃ (y : Value) (Z' : Zone), Ending.returned (.tuple #[.int .i64 n, x]) = .returned y ∧ Rep Z' w' (.tup [I n, errC b]) y ∧ (∀ b o, Z b o → Z' b o) ∧ (∀ b o, Z' b o → (Z b o ∨ w.heap.size ≤ b) ∧ b < w'.heap.size) ∧ Below w.heap.size w w' :=
  ⟨_, Z, rfl, .tup [I n, errC b] [.int .i64 n, x] rfl (fun i c y h1 h2 => by
    match i, h1, h2 with
    | 0, h1, h2 => simp at h1 h2; subst h1; subst h2; exact .v _
    | 1, h1, h2 => simp at h1 h2; subst h1; subst h2; exact hr
    | i + 2, h1, _ => simp at h1), fun _ _ h => h, fun b o h => ⟨.inl h, Nat.lt_of_lt_of_le (hz b o h) hb.size⟩, hb⟩
theorem atoi_h {s : Str} {r : Int × Bool} (h : atoi_S s = some r) : Holds Tryz.prog Gw 76 [S s] (.tup [I r.1, errC r.2]) := by
  refine gpos h fun hl h => ?_
  have hl := of_decide_eq_true hl
  obtain rfl := Option.some.inj h
  refine holds_mk ⟨_, Tryz.func76, by decide, rfl⟩ fun Z w vs h1 h2 h3 => ?_
  match vs, h1 with
  | [x], h1 =>
    have e1 := repv h1.head
    subst e1
    obtain ⟨-, -, -, -, -, ⟨e1, hc1, g1⟩, e2, hc2, g2⟩ := h3
    unfold atoiV
    rcases ha : Lib.atoiAll s with v | _ | _
    · refine (Tryz.strconv_Atoi_ok ⟨⟨s⟩⟩ (show s.length ≤ _ by omega) v ha w).mono fun e w' ⟨he, hw⟩ => ?_
      subst he
      refine err_res h2 (b := false) (.v _) ?_
      rcases hw with rfl | ⟨t, rfl⟩
      · exact Below.refl _ _
      · exact Lib.bytesWorld_below _ _ _
    · refine (Tryz.strconv_Atoi_syntax ⟨⟨s⟩⟩ hl ha e1 w hc1 g1).mono fun e w' ⟨N, he, _, _, hb⟩ => ?_
      subst he
      exact err_res h2 (b := true) (.er _ _) hb
    · refine (Tryz.strconv_Atoi_range ⟨⟨s⟩⟩ hl ha e2 w hc2 g2).mono fun e w' ⟨N, he, _, _, hb⟩ => ?_
      subst he
      exact err_res h2 (b := true) (.er _ _) hb

def sSplit_S (s sep : Str) : Option (List Str) := bif decide (s.length < 4294967281) && decide (1 ≤ sep.length) then some (Lib.split s sep) else none
theorem strs_rep {Z : Zone} {w : World} {b : Nat} (xs : List ByteArray) (hz : ∀ o, Z b o) (hh : w.heap[b]? = some (.cells (xs.map Value.string).toArray 9 (0, 0))) :
    Rep Z w (.sl 1 ((xs.map (·.data.toList)).map cStr)) (.slice (some ⟨b, 0, none⟩) xs.length xs.length) := by
  have hc : ∀ (i : Nat) (x : ByteArray), xs[i]? = some x → w.cell? ⟨b, i, none⟩ = some (.string x) := fun i x hi => by
    simp [World.cell?, hh, hi]
  have hlen : xs.length = ((xs.map (·.data.toList)).map cStr).length := by simp
  have hget : ∀ (i : Nat) (d : List CV), ((xs.map (·.data.toList)).map cStr)[i]? = some d → ∃ x, xs[i]? = some x ∧ d = [S x.data.toList] := fun i d hd => by
    rw [List.getElem?_map, List.getElem?_map] at hd
    cases hx : xs[i]? with
    | none => rw [hx] at hd; cases hd
    | some x => rw [hx] at hd; exact ⟨x, rfl, (Option.some.inj hd).symm⟩
  have h := Rep.sl (Z := Z) (w := w) 1 ((xs.map (·.data.toList)).map cStr) b 0 xs.length (fun i _ => .string (xs.getD i ⟨#[]⟩)) (by rw [← hlen]; exact Nat.le_refl _)
    (fun i d hd => by obtain ⟨x, _, rfl⟩ := hget i d hd; rfl)
    (fun i j d c hd hj => by
      obtain ⟨x, hx, rfl⟩ := hget i d hd
      match j, hj with
      | 0, hj =>
        simp at hj
        subst hj
        refine ⟨hz _, ?_, rfl⟩
        rw [Nat.zero_add, Nat.mul_one, Nat.add_zero, hc i x hx]
        simp [List.getD_eq_getElem?_getD, hx]
      | j + 1, hj => simp at hj)
    (fun i j d c hd hj => by
      obtain ⟨x, hx, rfl⟩ := hget i d hd
      match j, hj with
      | 0, hj =>
        simp at hj
        subst hj
        simp only [List.getD_eq_getElem?_getD, hx, Option.getD_some]
        exact .v _
      | j + 1, hj => simp at hj)
  rw [← hlen] at h
  exact h
theorem sSplit_h {s sep : Str} {r : List Str} (h : sSplit_S s sep = some r) : Holds Tryz.prog Gw 75 [S s, S sep] (.sl 1 (r.map cStr)) := by
  refine gpos h fun hl h => ?_
  simp only [Bool.and_eq_true, decide_eq_true_eq] at hl
  obtain rfl := Option.some.inj h
  refine holds_mk ⟨_, Tryz.func75, by decide, rfl⟩ fun Z w vs h1 h2 h3 => ?_
  match vs, h1 with
  | [x, y], h1 =>
    have e1 := repv h1.head
    have e2 := repv h1.tail.head
    subst e1; subst e2
    obtain ⟨⟨m, hm⟩, -⟩ := h3
    refine (Tryz.strings_Split ⟨⟨s⟩⟩ ⟨⟨sep⟩⟩ m w hl.1 hm hl.2).mono fun e w' ⟨he, hw⟩ => ?_
    subst he
    have hsz : (Lib.splitB ⟨⟨sep⟩⟩ 0 (Lib.countB ⟨⟨s⟩⟩ ⟨⟨sep⟩⟩) ⟨⟨s⟩⟩).length = Lib.countB ⟨⟨s⟩⟩ ⟨⟨sep⟩⟩ + 1 := Lib.splitB_all ⟨⟨sep⟩⟩ hl.2 0 _ _ rfl
    have hda : (Lib.splitB ⟨⟨sep⟩⟩ 0 (Lib.countB ⟨⟨s⟩⟩ ⟨⟨sep⟩⟩) ⟨⟨s⟩⟩).map (·.data.toList) = Lib.split s sep := Lib.splitB_data ⟨⟨sep⟩⟩ 0 _ ⟨⟨s⟩⟩
    have hh : w'.heap[w.heap.size]? = some (.cells ((Lib.splitB ⟨⟨sep⟩⟩ 0 (Lib.countB ⟨⟨s⟩⟩ ⟨⟨sep⟩⟩) ⟨⟨s⟩⟩).map Value.string).toArray 9 (0, 0)) := by rw [hw]; exact heap_alloc_new w _
    have hb : Below w.heap.size w w' := by rw [hw]; exact (Below.refl _ w).alloc (Nat.le_refl _) _
    have hr := strs_rep (Z := fun b o => Z b o ∨ b = w.heap.size) _ (fun _ => .inr rfl) hh
    rw [hda, hsz] at hr
    refine ⟨_, _, rfl, hr, fun _ _ h => .inl h, fun b o h => ?_, hb⟩
    rcases h with h | rfl
    · exact ⟨.inl h, Nat.lt_of_lt_of_le (h2 b o h) hb.size⟩
    · exact ⟨.inr (Nat.le_refl _), by rw [hw]; simp⟩
theorem calls_tup {f : FuncId} {args : List CV} {us : List Value} (hb : HasBody Tryz.prog f)
    (h : ∀ (Z : Zone) (w : World) (vs : List Value), RepL Z w args vs → (∀ b o, Z b o → b < w.heap.size) → Gw w → Calls Tryz.prog f vs.toArray w fun e w' => e = .returned (.tuple us.toArray) ∧ Below w.heap.size w w') : Holds Tryz.prog Gw f args (.tup (us.map CV.v)) :=
  holds_mk hb fun Z w vs h1 h2 h3 => (h Z w vs h1 h2 h3).mono fun _ _ ⟨he, hw⟩ =>
    ⟨_, Z, he, .tup _ us (by simp) (fun i c y h1 h2 => by
      rw [List.getElem?_map, h2] at h1
      exact Option.some.inj h1 ▸ .v y), fun _ _ hz => hz, fun b o hz => ⟨.inl hz, Nat.lt_of_lt_of_le (h2 b o hz) hw.size⟩, hw⟩
def sCut_S (s sep : Str) : Option (Str × Str × Bool) := bif decide (s.length < 4294967281) then some (Lib.cut s sep) else none
theorem sCut_h {s sep : Str} {r : Str × Str × Bool} (h : sCut_S s sep = some r) : Holds Tryz.prog Gw 58 [S s, S sep] (.tup [S r.1, S r.2.1, B r.2.2]) := by
  refine gpos h fun hl h => ?_
  obtain rfl := Option.some.inj h
  refine calls_tup (us := [.string ⟨⟨(Lib.cut s sep).1⟩⟩, .string ⟨⟨(Lib.cut s sep).2.1⟩⟩, .bool (Lib.cut s sep).2.2]) ⟨_, Tryz.func58, by decide, rfl⟩ fun Z w vs h1 h2 h3 => ?_
  match vs, h1 with
  | [x, y], h1 =>
    have e1 := repv h1.head
    have e2 := repv h1.tail.head
    subst e1; subst e2
    obtain ⟨⟨m, hm⟩, -⟩ := h3
    refine (Tryz.strings_Cut ⟨⟨s⟩⟩ ⟨⟨sep⟩⟩ m w (of_decide_eq_true hl) hm).mono fun e w' ⟨he, n, hw⟩ => ⟨he, ?_⟩
    rw [hw]; exact ⟨rfl, rfl, rfl, Nat.le_refl _, fun _ _ => rfl⟩
def sCutPrefix_S (s p : Str) : Option (Str × Bool) := some (Lib.trimPrefix s p, Lib.hasPrefix s p)
theorem sCutPrefix_h {s p : Str} {r : Str × Bool} (h : sCutPrefix_S s p = some r) : Holds Tryz.prog Gw 88 [S s, S p] (.tup [S r.1, B r.2]) := by
  obtain rfl := Option.some.inj h
  refine calls_tup (us := [.string ⟨⟨Lib.trimPrefix s p⟩⟩, .bool (Lib.hasPrefix s p)]) ⟨_, Tryz.func88, by decide, rfl⟩ fun Z w vs h1 h2 h3 => ?_
  match vs, h1 with
  | [x, y], h1 =>
    have e1 := repv h1.head
    have e2 := repv h1.tail.head
    subst e1; subst e2
    refine (Tryz.strings_CutPrefix ⟨⟨s⟩⟩ ⟨⟨p⟩⟩ w).mono fun e w' ⟨he, hw⟩ => ⟨he, hw ▸ Below.refl _ _⟩
def sIndexAny_S (s cs : Str) : Option Int := match cs with
  | [c] => bif decide (c.toNat < 128) then some (Lib.indexAny s [c]) else none
  | _ => none
theorem sIndexAny_h {s cs : Str} {r : Int} (h : sIndexAny_S s cs = some r) : Holds Tryz.prog Gw 87 [S s, S cs] (I r) := by
  match cs, h with
  | [c], h =>
    refine gpos (b := decide (c.toNat < 128)) h fun hl h => ?_
    refine calls_holds (u := .int .i64 r) ⟨_, Tryz.func87, by decide, rfl⟩ rfl fun Z w vs h1 h2 h3 => ?_
    match vs, h1 with
    | [x, y], h1 =>
      have e1 := repv h1.head
      have e2 := repv h1.tail.head
      subst e1; subst e2
      refine (Tryz.strings_IndexAny_one ⟨⟨s⟩⟩ ⟨⟨[c]⟩⟩ w rfl (fun j b hb => ?_)).mono fun e w' ⟨he, hw⟩ => ⟨he.trans ?_, hw ▸ Below.refl _ _⟩
      · cases j with
        | zero => simp at hb; subst hb; exact of_decide_eq_true hl
        | succ j => simp at hb
      · rw [← Option.some.inj h]
end Go.Proofs.YtjoacimgcepjdaaGreatDoor
