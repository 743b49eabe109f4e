/- The arguments of the rows, opened; the package variables; a world for the witness. -/
import Derived.Test.YtmcolhhmlpicaaaDoorLGen
import Derived.Test.YtmcolhhmlpicaaaDoorAbsRow
import Derived.Test.YtmcolhhmlpicaaaDoorCards
import Derived.Test.YtmcolhhmlpicaaaDoorTie
import Derived.Stop.LaidErr
import Derived.Lib.LaidU8
import Derived.Deep.DeepWitnessRowRef
namespace Go.Proofs.YtmcolhhmlpicaaaDoor
open Go Go.Abs Go.RowKit Go.ChangeShapes Go.WideShapes Go.ChangeAt

theorem okI_of {n : Int} (h : (Lit.int .i64 n).wf = true) : okI n := by
  simp only [Lit.wf, Bool.and_eq_true, decide_eq_true_eq] at h
  exact h
section
variable {H : Type} {enc : TypeId × Value → H} {w : World}
theorem rdInt : Reads enc Tryd.prog w 3 cInt okI := reads_map id (fun _ => rfl) (fun _ => okI_of) (reads_int Tryd.underlying3)
theorem rdSpan : Reads enc Tryd.prog w 38 cSpan okSpan := by
  have h := reads_struct (enc := enc) (w := w) Tryd.underlying38 (n := 2) (by kernel_rfl) (freads_cons (g := (⟨ "From", 3, 0, false, "", "", 0⟩ : Field)) (off := 0) (n := 1) rfl (by kernel_rfl) rdInt (freads_cons (g := (⟨ "Until", 3, 1, false, "", "", 8⟩ : Field)) (off := 1) (n := 1) rfl (by kernel_rfl) rdInt (freads_nil (tot := 2))))
  exact h.turn (fun p => (⟨p.1, p.2.1⟩ : Span)) (fun _ => rfl) (fun _ h => ⟨h.1, h.2.1⟩)
theorem rdInts : Reads enc Tryd.prog w 28 (fun l : List Int => [.sl 1 (l.map cInt)]) okInts := reads_slice Tryd.underlying28 (by kernel_rfl) (by decide) (fun _ => rfl) rdInt
theorem rdOff : Reads enc Tryd.prog w 40 cOff okOff := by
  have h := reads_struct (enc := enc) (w := w) Tryd.underlying40 (n := 5) (by kernel_rfl) (freads_cons (g := (⟨ "ID", 3, 0, false, "", "", 0⟩ : Field)) (off := 0) (n := 1) rfl (by kernel_rfl) rdInt (freads_cons (g := (⟨ "Name", 9, 1, false, "", "", 8⟩ : Field)) (off := 1) (n := 1) rfl (by kernel_rfl) (reads_str Tryd.underlying9) (freads_cons (g := (⟨ "In", 38, 2, false, "", "", 24⟩ : Field)) (off := 2) (n := 2) rfl (by kernel_rfl) rdSpan (freads_cons (g := (⟨ "Next", 28, 4, false, "", "", 40⟩ : Field)) (off := 4) (n := 1) rfl (by kernel_rfl) rdInts (freads_nil (tot := 5))))))
  exact h.turn (fun p => (⟨p.1, p.2.1, p.2.2.1, p.2.2.2.1⟩ : Off)) (fun _ => rfl) (fun _ h => ⟨h.1, h.2.1, h.2.2.1, h.2.2.2.1⟩)
theorem rdOffs : Reads enc Tryd.prog w 22 (fun l : List Off => [.sl 5 (l.map cOff)]) okOffs := reads_slice Tryd.underlying22 (by kernel_rfl) (by decide) (fun _ => rfl) rdOff
end
theorem own : ownKnob Tryd.prog.godebug = none := by kernel_rfl
theorem laidOut : laidOutB Tryd.prog = true := by kernel_rfl

abbrev laidL : List (String × DataW Unit) := [("unicode/utf8.acceptRanges", Rows.laid_unicode_utf8_acceptRanges), ("unicode.White_Space", Rows.laid_unicode_White_Space), ("strings.asciiSpace", Rows.laid_strings_asciiSpace), ("unicode/utf8.first", Rows.laid_unicode_utf8_first)]
theorem acc_eq : (Rows.laid_unicode_utf8_acceptRanges : DataW Unit) = Lib.acceptData := by kernel_rfl
theorem wht_eq : (Rows.laid_unicode_White_Space : DataW Unit) = Lib.whiteData := by kernel_rfl
theorem asc_eq : (Rows.laid_strings_asciiSpace : DataW Unit) = Lib.tabData .u8 Lib.asciiSpaceTab := by kernel_rfl
theorem fst_eq : (Rows.laid_unicode_utf8_first : DataW Unit) = Lib.firstData := by kernel_rfl
theorem u8x : U8Extra Tryd.prog Tryd.lays260_ren := ⟨by kernel_rfl, by kernel_rfl, by kernel_rfl, by kernel_rfl, by kernel_rfl, by kernel_rfl, by kernel_rfl⟩
theorem whx : WhiteExtra Tryd.prog Tryd.lays199_ren := ⟨by kernel_rfl, by kernel_rfl, by kernel_rfl, by kernel_rfl, by kernel_rfl, by kernel_rfl, by kernel_rfl, by kernel_rfl⟩
theorem gw_of {W : World} (h : laidMetH Tryd.prog laidL W) (hs : W.ShapedOpen Tryd.prog) : Gw W := by
  have h1 : laidMet Tryd.prog laidL W := h
  have ra := Lib.laidMet.reads h1 (n := "unicode/utf8.acceptRanges") (d := Rows.laid_unicode_utf8_acceptRanges) (by simp)
  have rw_ := Lib.laidMet.reads h1 (n := "unicode.White_Space") (d := Rows.laid_unicode_White_Space) (by simp)
  have rf := Lib.laidMet.reads h1 (n := "unicode/utf8.first") (d := Rows.laid_unicode_utf8_first) (by simp)
  rw [acc_eq] at ra
  rw [wht_eq] at rw_
  rw [fst_eq] at rf
  refine ⟨Tryd.laysM144.s1_3 W hs, ?_, utf8Tabs_of_reads Tryd.lays260 u8x rf ra, whiteTab_of_reads Tryd.lays199 whx rw_⟩
  have h2 := h1.tail.tail
  rw [asc_eq] at h2
  exact Lib.tabIs_of_head (by kernel_rfl) (g := 0) (t := 90) (n := 256) (e := 5) (by kernel_rfl) (by kernel_rfl) (by kernel_rfl) (by kernel_rfl) (by kernel_rfl) h2
noncomputable def laidWorld (os : Os) : World :=
  let N := (World.settled Tryd.prog os).heap.size
  let w0 := World.holding Tryd.prog os ⟨#[.cells (Lib.whiteT.map fun (z : Nat) => Value.int .u16 (z : Int)).toArray (Tryd.lays199_ren.t 198), .cells #[.slice (some ⟨N, 0, none⟩) 7 7, .slice none 0 0, .int .i64 2] (Tryd.lays199_ren.t 196)], #[], []⟩
  let put (h : Array Obj) (g : Nat) (cs : Array Value) : Array Obj := h.modify g fun
    | .cells _ t frozen => .cells cs t frozen
    | o => o
  let h1 := put w0.heap 0 (Lib.asciiSpaceTab.map fun z => Value.int .u8 z).toArray
  let h2 := put h1 3 (Lib.firstTab.map fun z => Value.int .u8 z).toArray
  let h3 := put h2 4 ((List.range 16).flatMap fun i => [Value.int .u8 (Lib.accLo i), Value.int .u8 (Lib.accHi i)]).toArray
  let h4 := put h3 1 #[.pointer (some ⟨N + 1, 0, none⟩)]
  { w0 with heap := h4 }
end Go.Proofs.YtmcolhhmlpicaaaDoor
