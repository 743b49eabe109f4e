/- AuthorityLists: its arguments opened with the room that they take; the package variables; a world for the witness. -/
import Derived.Test.YtgpojnenbmlcbaaDoorRowTy
import Derived.Test.YtgpojnenbmlcbaaDoorAbsRowW
import Derived.Test.YtgpojnenbmlcbaaDoorLaidBlocks
import Derived.Test.YtgpojnenbmlcbaaDoorLLists
import Derived.Lib.LaidU8
import Derived.Deep.DeepWitnessRowRef
set_option linter.unusedVariables false
namespace Go.Proofs.YtgpojnenbmlcbaaDoor
open Go Go.Abs Go.RowKit Go.ChangeShapes Go.WideShapes Go.ChangeAt
theorem okU16_of {n : Int} (h : (Lit.int .u16 n).wf = true) : authorityLists.okU16 n := by
  simp only [Lit.wf, Bool.and_eq_true, decide_eq_true_eq] at h
  exact h
def okAutsW (l : List Aut) : Prop := okAuts l ∧ ∀ a ∈ l, roomA a
section
variable {H : Type} {enc : TypeId × Value → H} {w : World}
theorem rdU16 : Reads enc Tryd.prog w 57 (fun n : Int => [.v (.int .u16 n)]) authorityLists.okU16 := reads_map id (fun _ => rfl) (fun _ => okU16_of) (reads_int Tryd.underlying57)
theorem b53 : Tryd.prog.bytesOf 53 = 32 := by kernel_rfl
theorem b3 : Tryd.prog.bytesOf 3 = 8 := by kernel_rfl
theorem wrdNams : WReads enc Tryd.prog w 140737488351232 25 (fun l : List Nam => [.sl 3 (l.map cNam)]) (fun l => (l.length ≤ 9223372036854775807 ∧ ∀ x ∈ l, okNam x) ∧ l.length * Tryd.prog.bytesOf 53 ≤ 140737488351232) := wreads_slice Tryd.underlying25 (by kernel_rfl) (by decide) (fun _ => rfl) (wreads_of rdNam)
theorem wrdInts : WReads enc Tryd.prog w 140737488351232 26 (fun l : List Int => [.sl 1 (l.map cInt)]) (fun l => (l.length ≤ 9223372036854775807 ∧ ∀ x ∈ l, okI x) ∧ l.length * Tryd.prog.bytesOf 3 ≤ 140737488351232) := wreads_slice Tryd.underlying26 (by kernel_rfl) (by decide) (fun _ => rfl) (wreads_of rdInt)
theorem wrdAut : WReads enc Tryd.prog w 140737488351232 28 cAut (fun a => okAut a ∧ roomA a) := by
  have h := wreads_struct (enc := enc) (w := w) (B := 140737488351232) Tryd.underlying28 (n := 6) (by kernel_rfl) (wfreads_cons (g := (⟨ "ID", 3, 0, false, "", "", 0⟩ : Field)) (off := 0) (n := 1) rfl (by kernel_rfl) (wreads_of rdInt) (wfreads_cons (g := (⟨ "Kind", 3, 1, false, "", "", 8⟩ : Field)) (off := 1) (n := 1) rfl (by kernel_rfl) (wreads_of rdInt) (wfreads_cons (g := (⟨ "In", 24, 2, false, "", "", 16⟩ : Field)) (off := 2) (n := 2) rfl (by kernel_rfl) (wreads_of rdSpan) (wfreads_cons (g := (⟨ "Names", 25, 4, false, "", "", 32⟩ : Field)) (off := 4) (n := 1) rfl (by kernel_rfl) wrdNams (wfreads_cons (g := (⟨ "Next", 26, 5, false, "", "", 56⟩ : Field)) (off := 5) (n := 1) rfl (by kernel_rfl) wrdInts (wfreads_nil (tot := 6)))))))
  exact h.turn (fun p => (⟨p.1, p.2.1, p.2.2.1, p.2.2.2.1, p.2.2.2.2.1⟩ : Aut)) (fun _ => rfl) (fun p h => by
    rw [b53, b3] at h
    exact ⟨⟨h.1, h.2.1, h.2.2.1, h.2.2.2.1.1, h.2.2.2.2.1.1⟩, h.2.2.2.1.2, h.2.2.2.2.1.2⟩)
theorem wrdAuts0 : WReads enc Tryd.prog w 140737488351232 22 (fun l : List Aut => [.sl 6 (l.map cAut)]) (fun l => (l.length ≤ 9223372036854775807 ∧ ∀ x ∈ l, okAut x ∧ roomA x) ∧ l.length * Tryd.prog.bytesOf 28 ≤ 140737488351232) := wreads_slice Tryd.underlying22 (by kernel_rfl) (by decide) (fun _ => rfl) wrdAut
theorem wrdAuts : WReads enc Tryd.prog w 140737488351232 22 (fun l : List Aut => [.sl 6 (l.map cAut)]) okAutsW :=
  wrdAuts0.turn id (fun _ => rfl) (fun l h => ⟨⟨h.1.1, fun a ha => (h.1.2 a ha).1⟩, fun a ha => (h.1.2 a ha).2⟩)
end
abbrev laidL2 : List (String × DataW Unit) := [("math/bits.deBruijn32tab", Rows.laid_math_bits_deBruijn32tab), ("math/bits.deBruijn64tab", Rows.laid_math_bits_deBruijn64tab), ("internal/strconv.uint64pow10", Rows.laid_internal_strconv_uint64pow10), ("unicode/utf8.acceptRanges", Rows.laid_unicode_utf8_acceptRanges), ("unicode.White_Space", Rows.laid_unicode_White_Space), ("strings.asciiSpace", Rows.laid_strings_asciiSpace), ("unicode/utf8.first", Rows.laid_unicode_utf8_first)]
theorem acc_eq : (Rows.laid_unicode_utf8_acceptRanges : DataW Unit) = Lib.acceptData := by kernel_rfl
theorem wht_eq : (Rows.laid_unicode_White_Space : DataW Unit) = Lib.whiteData := by kernel_rfl
theorem asc_eq : (Rows.laid_strings_asciiSpace : DataW Unit) = Lib.tabData .u8 Lib.asciiSpaceTab := by kernel_rfl
theorem fst_eq : (Rows.laid_unicode_utf8_first : DataW Unit) = Lib.firstData := by kernel_rfl
theorem u8x : U8Extra Tryd.prog Tryd.lays260_ren := ⟨by kernel_rfl, by kernel_rfl, by kernel_rfl, by kernel_rfl, by kernel_rfl, by kernel_rfl, by kernel_rfl⟩
theorem whx : WhiteExtra Tryd.prog Tryd.lays199_ren := ⟨by kernel_rfl, by kernel_rfl, by kernel_rfl, by kernel_rfl, by kernel_rfl, by kernel_rfl, by kernel_rfl, by kernel_rfl⟩
theorem gw2_of {W : World} (h : laidMetH Tryd.prog laidL2 W) (hs : W.ShapedOpen Tryd.prog) : Gw2 W := by
  have h1 : laidMet Tryd.prog laidL2 W := h
  have ra := Lib.laidMet.reads h1 (n := "unicode/utf8.acceptRanges") (d := Rows.laid_unicode_utf8_acceptRanges) (by simp)
  have rw_ := Lib.laidMet.reads h1 (n := "unicode.White_Space") (d := Rows.laid_unicode_White_Space) (by simp)
  have rf := Lib.laidMet.reads h1 (n := "unicode/utf8.first") (d := Rows.laid_unicode_utf8_first) (by simp)
  rw [acc_eq] at ra
  rw [wht_eq] at rw_
  rw [fst_eq] at rf
  have h2 := h1.tail.tail
  rw [pow_eq] at h2
  have h5 := h1.tail.tail.tail.tail.tail
  rw [asc_eq] at h5
  refine ⟨⟨Tryd.laysM144.s1_3 W hs, ?_⟩, ?_, utf8Tabs_of_reads Tryd.lays260 u8x rf ra, whiteTab_of_reads Tryd.lays199 whx rw_⟩
  · exact Lib.tabIs_of_head (by kernel_rfl) (g := 4) (t := 145) (n := 20) (e := 129) (by kernel_rfl) (by kernel_rfl) (by kernel_rfl) (by kernel_rfl) (by kernel_rfl) h2
  · exact Lib.tabIs_of_head (by kernel_rfl) (g := 0) (t := 84) (n := 256) (e := 5) (by kernel_rfl) (by kernel_rfl) (by kernel_rfl) (by kernel_rfl) (by kernel_rfl) h5
noncomputable def laidWorld2 (os : Os) : World :=
  let N := (World.settled Tryd.prog os).heap.size
  let w0 := World.holding Tryd.prog os ⟨#[.cells (Lib.whiteT.map fun (z : Nat) => Value.int .u16 (z : Int)).toArray (Tryd.lays199_ren.t 198), .cells #[.slice (some ⟨N, 0, none⟩) 7 7, .slice none 0 0, .int .i64 2] (Tryd.lays199_ren.t 196)], #[], []⟩
  let put (h : Array Obj) (g : Nat) (cs : Array Value) : Array Obj := h.modify g fun
    | .cells _ t frozen => .cells cs t frozen
    | o => o
  let h1 := put w0.heap 0 (Lib.asciiSpaceTab.map fun z => Value.int .u8 z).toArray
  let h2 := put h1 2 (Lib.firstTab.map fun z => Value.int .u8 z).toArray
  let h3 := put h2 3 ((List.range 16).flatMap fun i => [Value.int .u8 (Lib.accLo i), Value.int .u8 (Lib.accHi i)]).toArray
  let h4 := put h3 1 #[.pointer (some ⟨N + 1, 0, none⟩)]
  let h7 := put h4 4 (litCells Rows.laid_internal_strconv_uint64pow10)
  let h8 := put h7 6 (litCells Rows.laid_math_bits_deBruijn32tab)
  let h9 := put h8 7 (litCells Rows.laid_math_bits_deBruijn64tab)
  { w0 with heap := h9 }
noncomputable abbrev blocks2 (os : Os) : List (Nat × Nat) :=
  let N := (World.settled Tryd.prog os).heap.size
  [(6, 32), (7, 64), (4, 20), (3, 32), (1, 1), (N + 1, 3), (N, 21), (0, 256), (2, 256)]
theorem laid_any2 (os : Os) (args : Array Value) : laidMet Tryd.prog laidL2 ((laidWorld2 os).forCall (fun _ _ => 0) ⟨#[], args, []⟩).memory :=
  laidMet_of_blocks (blocks2 os) 8 (by kernel_rfl) (by kernel_rfl) (by kernel_rfl)
end Go.Proofs.YtgpojnenbmlcbaaDoor
