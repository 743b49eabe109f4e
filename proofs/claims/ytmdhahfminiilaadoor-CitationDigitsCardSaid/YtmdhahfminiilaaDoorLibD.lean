/- Contracts of the library, as Holds. -/
import Derived.Test.YtmdhahfminiilaaDoorTy
import Derived.Test.YtmdhahfminiilaaDoorAbsIns
import Derived.Lib.AsciiSet
import Derived.WalkKit
set_option linter.unusedVariables false
namespace Go.Proofs.YtmdhahfminiilaaDoor
open Go Go.Abs Go.RowKit

theorem calls_holds {f : FuncId} {args : List CV} {r : CV} {u : Value} (hb : HasBody Tryd.prog f) (hr : r = .v u)
    (h : ∀ (Z : Zone) (w : World) (vs : List Value), RepL Z w args vs → (∀ b o, Z b o → b < w.heap.size) → Gw w → Calls Tryd.prog f vs.toArray w fun e w' => e = .returned u ∧ Below w.heap.size w w') : Holds Tryd.prog Gw f args r :=
  holds_mk hb fun Z w vs h1 h2 h3 => (h Z w vs h1 h2 h3).mono fun _ _ ⟨he, hw⟩ =>
    ⟨u, Z, he, hr ▸ .v u, fun _ _ hz => hz, fun b o hz => ⟨.inl hz, Nat.lt_of_lt_of_le (h2 b o hz) hw.size⟩, hw⟩
theorem repv {Z : Zone} {w : World} {x y : Value} (h : Rep Z w (.v x) y) : y = x := by cases h; rfl

theorem below_gr (w : World) (k : Nat) (os : Array Obj) : Below w.heap.size w (Go.Sort.grow (w.drewN k) os) :=
  ⟨rfl, rfl, rfl, by show w.heap.size ≤ (w.heap ++ os).size; rw [Array.size_append]; omega, fun j hj => by show (w.heap ++ os)[j]? = _; rw [Array.getElem?_append_left hj]⟩
def itoa_S (n : Int) : Option Str := bif decide (-9223372036854775808 ≤ n) && decide (n ≤ 9223372036854775807) then some (Lib.itoa n) else none
theorem itoa_h {n : Int} {r : Str} (h : itoa_S n = some r) : Holds Tryd.prog Gw 29 [I n] (S r) := by
  refine gpos h fun hl h => ?_
  refine calls_holds (u := .string ⟨⟨r⟩⟩) ⟨_, Tryd.func29, by decide, rfl⟩ rfl fun Z w vs h1 h2 h3 => ?_
  match vs, h1 with
  | [x], h1 =>
    have e1 := repv h1.head
    subst e1
    simp only [Bool.and_eq_true, decide_eq_true_eq] at hl
    refine (Tryd.strconv_Itoa n hl.1 hl.2 w h3.2.1).mono fun e w' ⟨he, k, os, hw⟩ => ⟨he.trans ?_, ?_⟩
    · rw [Option.some.inj h]
    · rw [hw]; exact below_gr w k os

/-- What Atoi gives: the number, and whether there is an error. -/
def atoiV (s : Str) : Int × Bool := match Lib.atoiAll s with
  | .ok v => (v, false)
  | .range => (Lib.atoiSat s, true)
  | _ => (0, true)
def atoi_S (s : Str) : Option (Int × Bool) := bif decide (s.length ≤ 281474976710656) then some (atoiV s) else none
theorem err_res {Z : Zone} {w w' : World} {n : Int} {x : Value} {b : Bool} (hz : ∀ b o, Z b o → b < w.heap.size) (hr : Rep Z w' (errC b) x) (hb : Below w.heap.size w w') :
    ∃ (y : Value) (Z' : Zone), Ending.returned (.tuple #[.int .i64 n, x]) = .returned y ∧ Rep Z' w' (.tup [I n, errC b]) y ∧ (∀ b o, Z b o → Z' b o) ∧ (∀ b o, Z' b o → (Z b o ∨ w.heap.size ≤ b) ∧ b < w'.heap.size) ∧ Below w.heap.size w w' :=
  ⟨_, Z, rfl, .tup [I n, errC b] [.int .i64 n, x] rfl (fun i c y h1 h2 => by
    match i, h1, h2 with
    | 0, h1, h2 => simp at h1 h2; subst h1; subst h2; exact .v _
    | 1, h1, h2 => simp at h1 h2; subst h1; subst h2; exact hr
    | i + 2, h1, _ => simp at h1), fun _ _ h => h, fun b o h => ⟨.inl h, Nat.lt_of_lt_of_le (hz b o h) hb.size⟩, hb⟩
theorem atoi_h {s : Str} {r : Int × Bool} (h : atoi_S s = some r) : Holds Tryd.prog Gw 52 [S s] (.tup [I r.1, errC r.2]) := by
  refine gpos h fun hl h => ?_
  have hl := of_decide_eq_true hl
  obtain rfl := Option.some.inj h
  refine holds_mk ⟨_, Tryd.func52, by decide, rfl⟩ fun Z w vs h1 h2 h3 => ?_
  match vs, h1 with
  | [x], h1 =>
    have e1 := repv h1.head
    subst e1
    obtain ⟨-, -, ⟨e1, hc1, g1⟩, e2, hc2, g2⟩ := h3
    unfold atoiV
    rcases ha : Lib.atoiAll s with v | _ | _
    · refine (Tryd.strconv_Atoi_ok ⟨⟨s⟩⟩ (show s.length ≤ _ by omega) v ha w).mono fun e w' ⟨he, hw⟩ => ?_
      subst he
      refine err_res h2 (b := false) (.v _) ?_
      rcases hw with rfl | ⟨t, rfl⟩
      · exact Below.refl _ _
      · exact Lib.bytesWorld_below _ _ _
    · refine (Tryd.strconv_Atoi_syntax ⟨⟨s⟩⟩ hl ha e1 w hc1 g1).mono fun e w' ⟨N, he, _, _, hb⟩ => ?_
      subst he
      exact err_res h2 (b := true) (.er _ _) hb
    · refine (Tryd.strconv_Atoi_range ⟨⟨s⟩⟩ hl ha e2 w hc2 g2).mono fun e w' ⟨N, he, _, _, hb⟩ => ?_
      subst he
      exact err_res h2 (b := true) (.er _ _) hb

def sSplit_S (s sep : Str) : Option (List Str) := bif decide (s.length < 4294967281) && decide (1 ≤ sep.length) then some (Lib.split s sep) else none
theorem strs_rep {Z : Zone} {w : World} {b : Nat} (xs : List ByteArray) (hz : ∀ o, Z b o) (hh : w.heap[b]? = some (.cells (xs.map Value.string).toArray 9 (0, 0))) :
    Rep Z w (.sl 1 ((xs.map (·.data.toList)).map cStr)) (.slice (some ⟨b, 0, none⟩) xs.length xs.length) := by
  have hc : ∀ (i : Nat) (x : ByteArray), xs[i]? = some x → w.cell? ⟨b, i, none⟩ = some (.string x) := fun i x hi => by
    simp [World.cell?, hh, hi]
  have hlen : xs.length = ((xs.map (·.data.toList)).map cStr).length := by simp
  have hget : ∀ (i : Nat) (d : List CV), ((xs.map (·.data.toList)).map cStr)[i]? = some d → ∃ x, xs[i]? = some x ∧ d = [S x.data.toList] := fun i d hd => by
    rw [List.getElem?_map, List.getElem?_map] at hd
    cases hx : xs[i]? with
    | none => rw [hx] at hd; cases hd
    | some x => rw [hx] at hd; exact ⟨x, rfl, (Option.some.inj hd).symm⟩
  have h := Rep.sl (Z := Z) (w := w) 1 ((xs.map (·.data.toList)).map cStr) b 0 xs.length (fun i _ => .string (xs.getD i ⟨#[]⟩)) (by rw [← hlen]; exact Nat.le_refl _)
    (fun i d hd => by obtain ⟨x, _, rfl⟩ := hget i d hd; rfl)
    (fun i j d c hd hj => by
      obtain ⟨x, hx, rfl⟩ := hget i d hd
      match j, hj with
      | 0, hj =>
        simp at hj
        subst hj
        refine ⟨hz _, ?_, rfl⟩
        rw [Nat.zero_add, Nat.mul_one, Nat.add_zero, hc i x hx]
        simp [List.getD_eq_getElem?_getD, hx]
      | j + 1, hj => simp at hj)
    (fun i j d c hd hj => by
      obtain ⟨x, hx, rfl⟩ := hget i d hd
      match j, hj with
      | 0, hj =>
        simp at hj
        subst hj
        simp only [List.getD_eq_getElem?_getD, hx, Option.getD_some]
        exact .v _
      | j + 1, hj => simp at hj)
  rw [← hlen] at h
  exact h
theorem sSplit_h {s sep : Str} {r : List Str} (h : sSplit_S s sep = some r) : Holds Tryd.prog Gw 33 [S s, S sep] (.sl 1 (r.map cStr)) := by
  refine gpos h fun hl h => ?_
  simp only [Bool.and_eq_true, decide_eq_true_eq] at hl
  obtain rfl := Option.some.inj h
  refine holds_mk ⟨_, Tryd.func33, by decide, rfl⟩ fun Z w vs h1 h2 h3 => ?_
  match vs, h1 with
  | [x, y], h1 =>
    have e1 := repv h1.head
    have e2 := repv h1.tail.head
    subst e1; subst e2
    obtain ⟨⟨m, hm⟩, -⟩ := h3
    refine (Tryd.strings_Split ⟨⟨s⟩⟩ ⟨⟨sep⟩⟩ m w hl.1 hm hl.2).mono fun e w' ⟨he, hw⟩ => ?_
    subst he
    have hsz : (Lib.splitB ⟨⟨sep⟩⟩ 0 (Lib.countB ⟨⟨s⟩⟩ ⟨⟨sep⟩⟩) ⟨⟨s⟩⟩).length = Lib.countB ⟨⟨s⟩⟩ ⟨⟨sep⟩⟩ + 1 := Lib.splitB_all ⟨⟨sep⟩⟩ hl.2 0 _ _ rfl
    have hda : (Lib.splitB ⟨⟨sep⟩⟩ 0 (Lib.countB ⟨⟨s⟩⟩ ⟨⟨sep⟩⟩) ⟨⟨s⟩⟩).map (·.data.toList) = Lib.split s sep := Lib.splitB_data ⟨⟨sep⟩⟩ 0 _ ⟨⟨s⟩⟩
    have hh : w'.heap[w.heap.size]? = some (.cells ((Lib.splitB ⟨⟨sep⟩⟩ 0 (Lib.countB ⟨⟨s⟩⟩ ⟨⟨sep⟩⟩) ⟨⟨s⟩⟩).map Value.string).toArray 9 (0, 0)) := by rw [hw]; exact heap_alloc_new w _
    have hb : Below w.heap.size w w' := by rw [hw]; exact (Below.refl _ w).alloc (Nat.le_refl _) _
    have hr := strs_rep (Z := fun b o => Z b o ∨ b = w.heap.size) _ (fun _ => .inr rfl) hh
    rw [hda, hsz] at hr
    refine ⟨_, _, rfl, hr, fun _ _ h => .inl h, fun b o h => ?_, hb⟩
    rcases h with h | rfl
    · exact ⟨.inl h, Nat.lt_of_lt_of_le (h2 b o h) hb.size⟩
    · exact ⟨.inr (Nat.le_refl _), by rw [hw]; simp⟩

/-- The bytes that a set of ASCII characters holds, as cells. -/
def setC (c : Str) : List CV := (Lib.setCells c).toList.map CV.v
/-- The ten digits; the set of them. -/
abbrev digs : Str := [48, 49, 50, 51, 52, 53, 54, 55, 56, 57]
def digC : List CV := [.v (.bool false), .v (.bool false), .v (.bool false), .v (.bool false), .v (.bool false), .v (.bool false), .v (.bool false), .v (.bool false), .v (.bool false), .v (.bool false), .v (.bool false), .v (.bool false), .v (.bool false), .v (.bool false), .v (.bool false), .v (.bool false), .v (.bool false), .v (.bool false), .v (.bool false), .v (.bool false), .v (.bool false), .v (.bool false), .v (.bool false), .v (.bool false), .v (.bool false), .v (.bool false), .v (.bool false), .v (.bool false), .v (.bool false), .v (.bool false), .v (.bool false), .v (.bool false), .v (.bool false), .v (.bool false), .v (.bool false), .v (.bool false), .v (.bool false), .v (.bool false), .v (.bool false), .v (.bool false), .v (.bool false), .v (.bool false), .v (.bool false), .v (.bool false), .v (.bool false), .v (.bool false), .v (.bool false), .v (.bool false), .v (.bool true), .v (.bool true), .v (.bool true), .v (.bool true), .v (.bool true), .v (.bool true), .v (.bool true), .v (.bool true), .v (.bool true), .v (.bool true), .v (.bool false), .v (.bool false), .v (.bool false), .v (.bool false), .v (.bool false), .v (.bool false), .v (.bool false), .v (.bool false), .v (.bool false), .v (.bool false), .v (.bool false), .v (.bool false), .v (.bool false), .v (.bool false), .v (.bool false), .v (.bool false), .v (.bool false), .v (.bool false), .v (.bool false), .v (.bool false), .v (.bool false), .v (.bool false), .v (.bool false), .v (.bool false), .v (.bool false), .v (.bool false), .v (.bool false), .v (.bool false), .v (.bool false), .v (.bool false), .v (.bool false), .v (.bool false), .v (.bool false), .v (.bool false), .v (.bool false), .v (.bool false), .v (.bool false), .v (.bool false), .v (.bool false), .v (.bool false), .v (.bool false), .v (.bool false), .v (.bool false), .v (.bool false), .v (.bool false), .v (.bool false), .v (.bool false), .v (.bool false), .v (.bool false), .v (.bool false), .v (.bool false), .v (.bool false), .v (.bool false), .v (.bool false), .v (.bool false), .v (.bool false), .v (.bool false), .v (.bool false), .v (.bool false), .v (.bool false), .v (.bool false), .v (.bool false), .v (.bool false), .v (.bool false), .v (.bool false), .v (.bool false), .v (.bool false), .v (.bool false), .v (.bool false), .v (.bool false), .v (.bool false), .v (.bool false), .v (.bool false), .v (.bool false), .v (.bool false), .v (.bool false), .v (.bool false), .v (.bool false), .v (.bool false), .v (.bool false), .v (.bool false), .v (.bool false), .v (.bool false), .v (.bool false), .v (.bool false), .v (.bool false), .v (.bool false), .v (.bool false), .v (.bool false), .v (.bool false), .v (.bool false), .v (.bool false), .v (.bool false), .v (.bool false), .v (.bool false), .v (.bool false), .v (.bool false), .v (.bool false), .v (.bool false), .v (.bool false), .v (.bool false), .v (.bool false), .v (.bool false), .v (.bool false), .v (.bool false), .v (.bool false), .v (.bool false), .v (.bool false), .v (.bool false), .v (.bool false), .v (.bool false), .v (.bool false), .v (.bool false), .v (.bool false), .v (.bool false), .v (.bool false), .v (.bool false), .v (.bool false), .v (.bool false), .v (.bool false), .v (.bool false), .v (.bool false), .v (.bool false), .v (.bool false), .v (.bool false), .v (.bool false), .v (.bool false), .v (.bool false), .v (.bool false), .v (.bool false), .v (.bool false), .v (.bool false), .v (.bool false), .v (.bool false), .v (.bool false), .v (.bool false), .v (.bool false), .v (.bool false), .v (.bool false), .v (.bool false), .v (.bool false), .v (.bool false), .v (.bool false), .v (.bool false), .v (.bool false), .v (.bool false), .v (.bool false), .v (.bool false), .v (.bool false), .v (.bool false), .v (.bool false), .v (.bool false), .v (.bool false), .v (.bool false), .v (.bool false), .v (.bool false), .v (.bool false), .v (.bool false), .v (.bool false), .v (.bool false), .v (.bool false), .v (.bool false), .v (.bool false), .v (.bool false), .v (.bool false), .v (.bool false), .v (.bool false), .v (.bool false), .v (.bool false), .v (.bool false), .v (.bool false), .v (.bool false), .v (.bool false), .v (.bool false), .v (.bool false), .v (.bool false), .v (.bool false), .v (.bool false), .v (.bool false), .v (.bool false), .v (.bool false), .v (.bool false), .v (.bool false), .v (.bool false), .v (.bool false), .v (.bool false), .v (.bool false), .v (.bool false), .v (.bool false), .v (.bool false), .v (.bool false), .v (.bool false), .v (.bool false), .v (.bool false), .v (.bool false), .v (.bool false), .v (.bool false), .v (.bool false)]
theorem setC_digs : setC digs = digC := by kernel_rfl
def mkAscii_S (c : Str) : Option (List CV × Bool) := bif c == digs then some (digC, true) else none
theorem zero99 : ∀ w, (zeroValue 99).run Tryd.prog w = .ok (.agg (Array.replicate 256 (.bool false))) w := fun w => by
  obtain ⟨j, hj, hjs, hjb, hjz⟩ := tok99.infoE
  have : zeroVal ti99 = .agg (Array.replicate 256 (.bool false)) := by kernel_rfl
  rw [← this]
  simp [zeroValue, typeInfo, hj, hjz]
set_option maxRecDepth 100000 in
theorem mkAscii_h {c : Str} {r : List CV × Bool} (h : mkAscii_S c = some r) : Holds Tryd.prog Gw 58 [S c] (.tup [.agg digC, B true]) := by
  refine gpos h fun hl _ => ?_
  obtain rfl := eq_of_beq hl
  refine holds_mk ⟨_, Tryd.func58, by decide, rfl⟩ fun Z w vs h1 h2 h3 => ?_
  match vs, h1 with
  | [x], h1 =>
    have e1 := repv h1.head
    subst e1
    refine (Tryd.strings_makeASCIISet zero99 ⟨⟨digs⟩⟩ w (by decide) (fun j b hb => by
      have hm := List.mem_of_getElem? hb
      have : ∀ b ∈ digs, b.toNat < 128 := by decide
      exact this b hm)).mono fun e w' ⟨he, hw⟩ => ?_
    subst he
    have hb : Below w.heap.size w w' := by rw [hw]; exact (Below.refl _ w).alloc (Nat.le_refl _) _
    refine ⟨_, Z, rfl, .tup [.agg digC, B true] [.agg (Lib.setCells digs), .bool true] rfl (fun i d y q1 q2 => ?_), fun _ _ h => h, fun b o h => ⟨.inl h, Nat.lt_of_lt_of_le (h2 b o h) hb.size⟩, hb⟩
    match i, q1, q2 with
    | 0, q1, q2 =>
      simp at q1 q2
      subst q1; subst q2
      have := Rep.agg (Z := Z) (w := w') (setC digs) (Lib.setCells digs).toList (by simp [setC]) (fun i d y q1 q2 => by
        rw [setC, List.getElem?_map, q2] at q1
        obtain rfl := Option.some.inj q1
        exact .v _) (fun i d q1 => by
        rw [setC_digs] at q1
        have hm := List.mem_of_getElem? q1
        have : digC.all CV.atom = true := by kernel_rfl
        exact List.all_eq_true.1 this d hm)
      rw [setC_digs] at this
      exact this
    | 1, q1, q2 => simp at q1 q2; subst q1; subst q2; exact .v _
    | i + 2, q1, _ => simp at q1
def ascHas_S (cs : List CV) (c : Int) : Option Bool := match decide (0 ≤ c ∧ c < 256), cs[c.toNat]? with
  | true, some (.v (.bool b)) => some b
  | _, _ => none
set_option maxHeartbeats 2000000 in
theorem has_calls (b o : Nat) (x : UInt8) (v : Bool) (w : World) (hc : w.cell? ⟨b, o + x.toNat, none⟩ = some (.bool v)) :
    Calls Tryd.prog 78 #[.pointer (some ⟨b, o, none⟩), .int .u8 x.toNat] w fun e w' => e = .returned (.bool v) ∧ w' = w := by
  have hx256 : (x.toNat : Int) < 256 := by have := UInt8.toNat_lt x; omega
  have t4 := Tryd.underlying4; have a4 := Tryd.isAgg4; have z4 := Tryd.sizeOf4; have v4 := Tryd.zeroValue4
  have t5 := Tryd.underlying5; have a5 := Tryd.isAgg5; have z5 := Tryd.sizeOf5; have v5 := Tryd.zeroValue5
  have t99 := Tryd.underlying99
  go_enter Tryd.func78, Tryd.ntmps78
  go_wp2
  go_ret
  exact ⟨rfl, rfl⟩
theorem ascHas_h {cs : List CV} {c : Int} {r : Bool} (h : ascHas_S cs c = some r) : Holds Tryd.prog Gw 78 [.pi cs 0, .v (.int .u8 c)] (B r) := by
  unfold ascHas_S at h
  split at h
  case h_2 => cases h
  case h_1 b hd hc =>
  obtain rfl := Option.some.inj h
  obtain ⟨h0, h1⟩ := of_decide_eq_true hd
  refine calls_holds (u := .bool b) ⟨_, Tryd.func78, by decide, rfl⟩ rfl fun Z w vs g1 g2 g3 => ?_
  match vs, g1 with
  | [x, y], g1 =>
    have e2 := repv g1.tail.head
    subst e2
    cases g1.head with
    | pi _ bl o off f hcell hr =>
      obtain ⟨_, k2, _⟩ := hcell _ _ hc
      have k3 := repv (hr _ _ hc)
      rw [k3] at k2
      obtain ⟨x, rfl⟩ : ∃ x : UInt8, c = (x.toNat : Int) := ⟨UInt8.ofNat c.toNat, by rw [UInt8.toNat_ofNat']; omega⟩
      exact (has_calls bl o x b w (by simpa using k2)).mono fun e w' ⟨he, hw⟩ => ⟨he, hw ▸ Below.refl _ _⟩
def trimLB_S (_ : Str) (_ : Int) : Option Str := none
theorem trimLB_h {s : Str} {c : Int} {r : Str} (h : trimLB_S s c = some r) : Holds Tryd.prog Gw 56 [S s, .v (.int .u8 c)] (S r) := nomatch h
def trimRB_S (_ : Str) (_ : Int) : Option Str := none
theorem trimRB_h {s : Str} {c : Int} {r : Str} (h : trimRB_S s c = some r) : Holds Tryd.prog Gw 57 [S s, .v (.int .u8 c)] (S r) := nomatch h
def trimLU_S (_ _ : Str) : Option Str := none
theorem trimLU_h {s c r : Str} (h : trimLU_S s c = some r) : Holds Tryd.prog Gw 61 [S s, S c] (S r) := nomatch h
def trimRU_S (_ _ : Str) : Option Str := none
theorem trimRU_h {s c r : Str} (h : trimRU_S s c = some r) : Holds Tryd.prog Gw 62 [S s, S c] (S r) := nomatch h
def sCount_S (s sep : Str) : Option Int := bif decide (s.length < 4294967281) && decide (1 ≤ sep.length) then some (Lib.countB ⟨⟨s⟩⟩ ⟨⟨sep⟩⟩ : Nat) else none
theorem sCount_h {s sep : Str} {r : Int} (h : sCount_S s sep = some r) : Holds Tryd.prog Gw 22 [S s, S sep] (I r) := by
  refine gpos h fun hl h => ?_
  simp only [Bool.and_eq_true, decide_eq_true_eq] at hl
  refine calls_holds (u := .int .i64 r) ⟨_, Tryd.func22, by decide, rfl⟩ rfl fun Z w vs h1 h2 h3 => ?_
  match vs, h1 with
  | [x, y], h1 =>
    have e1 := repv h1.head
    have e2 := repv h1.tail.head
    subst e1; subst e2
    obtain ⟨⟨m, hm⟩, -⟩ := h3
    refine (Tryd.strings_Count_any ⟨⟨s⟩⟩ ⟨⟨sep⟩⟩ m w hl.1 hm hl.2).mono fun e w' ⟨he, hw⟩ => ⟨he.trans ?_, hw ▸ Below.refl _ _⟩
    rw [← Option.some.inj h]
def toErr_S (fn s : Str) (base bits e : Int) : Option Bool := bif decide (s.length ≤ 281474976710656) && (e == 1 || e == 2) then some true else none
theorem err_one {Z : Zone} {w w' : World} {x : Value} (hz : ∀ b o, Z b o → b < w.heap.size) (hr : Rep Z w' (errC true) x) (hb : Below w.heap.size w w') :
    ∃ (y : Value) (Z' : Zone), Ending.returned x = .returned y ∧ Rep Z' w' (errC true) y ∧ (∀ b o, Z b o → Z' b o) ∧ (∀ b o, Z' b o → (Z b o ∨ w.heap.size ≤ b) ∧ b < w'.heap.size) ∧ Below w.heap.size w w' :=
  ⟨_, Z, rfl, hr, fun _ _ h => h, fun b o h => ⟨.inl h, Nat.lt_of_lt_of_le (hz b o h) hb.size⟩, hb⟩
theorem toErr_h {fn s : Str} {base bits e : Int} {r : Bool} (h : toErr_S fn s base bits e = some r) : Holds Tryd.prog Gw 55 [S fn, S s, I base, I bits, .v (ifcV 109 e)] (errC true) := by
  refine gpos h fun hl h => ?_
  simp only [Bool.and_eq_true, Bool.or_eq_true, decide_eq_true_eq, beq_iff_eq] at hl
  refine holds_mk ⟨_, Tryd.func55, by decide, rfl⟩ fun Z w vs h1 h2 h3 => ?_
  match vs, h1 with
  | [x1, x2, x3, x4, x5], h1 =>
    have e1 := repv h1.head
    have e2 := repv h1.tail.head
    have e3 := repv h1.tail.tail.head
    have e4 := repv h1.tail.tail.tail.head
    have e5 := repv h1.tail.tail.tail.tail.head
    subst e1; subst e2; subst e3; subst e4; subst e5
    obtain ⟨-, -, ⟨e1, hc1, g1⟩, e2, hc2, g2⟩ := h3
    rcases hl.2 with rfl | rfl
    · refine (Tryd.strconv_toError_range ⟨⟨fn⟩⟩ ⟨⟨s⟩⟩ base bits e2 w hl.1 hc2 g2).mono fun e w' ⟨N, he, _, _, hb⟩ => ?_
      subst he
      exact err_one h2 (.er _ _) hb
    · refine (Tryd.strconv_toError_syntax ⟨⟨fn⟩⟩ ⟨⟨s⟩⟩ base bits e1 w hl.1 hc1 g1).mono fun e w' ⟨N, he, _, _, hb⟩ => ?_
      subst he
      exact err_one h2 (.er _ _) hb
end Go.Proofs.YtmdhahfminiilaaDoor
