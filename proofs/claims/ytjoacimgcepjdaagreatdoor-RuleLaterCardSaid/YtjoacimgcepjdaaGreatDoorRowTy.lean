/- The arguments of the rows, opened; the package variables; a world for the witness. -/
import Derived.Test.YtjoacimgcepjdaaGreatDoorLOk
import Derived.Test.YtjoacimgcepjdaaGreatDoorAbsRow
import Derived.Test.YtjoacimgcepjdaaGreatDoorLaidBlocks
import Derived.Test.YtjoacimgcepjdaaGreatDoorCards
import Derived.Test.YtjoacimgcepjdaaGreatDoorTie
import Derived.Stop.LaidErr
import Derived.Lib.LaidU8
import Derived.Deep.DeepWitnessRowRef
set_option linter.unusedSimpArgs false
set_option linter.unusedVariables false
namespace Go.Proofs.YtjoacimgcepjdaaGreatDoor
open Go Go.Abs Go.RowKit Go.ChangeShapes Go.WideShapes Go.ChangeAt

theorem okI_of {n : Int} (h : (Lit.int .i64 n).wf = true) : okI n := by
  simp only [Lit.wf, Bool.and_eq_true, decide_eq_true_eq] at h
  exact h
theorem okU8_of {n : Int} (h : (Lit.int .u8 n).wf = true) : okU8 n := by
  simp only [Lit.wf, Bool.and_eq_true, decide_eq_true_eq] at h
  exact h
section
variable {H : Type} {enc : TypeId × Value → H} {w : World}
theorem rdInt : Reads enc Tryz.prog w 3 cInt okI := reads_map id (fun _ => rfl) (fun _ => okI_of) (reads_int Tryz.underlying3)
theorem rdBool : Reads enc Tryz.prog w 4 cBool okB := reads_map id (fun _ => rfl) (fun _ _ => trivial) (reads_bool Tryz.underlying4)
theorem rdU8 : Reads enc Tryz.prog w 5 (fun n : Int => [.v (.int .u8 n)]) okU8 := reads_map id (fun _ => rfl) (fun _ => okU8_of) (reads_int Tryz.underlying5)
theorem rdSpan : Reads enc Tryz.prog w 32 cSpan okSpan := by
  have h := reads_struct (enc := enc) (w := w) Tryz.underlying32 (n := 2) (by kernel_rfl) (freads_cons (g := (⟨ "From", 3, 0, false, "", "", 0⟩ : Field)) (off := 0) (n := 1) rfl (by kernel_rfl) rdInt (freads_cons (g := (⟨ "Until", 3, 1, false, "", "", 8⟩ : Field)) (off := 1) (n := 1) rfl (by kernel_rfl) rdInt (freads_nil (tot := 2))))
  exact h.turn (fun p => (⟨p.1, p.2.1⟩ : Span)) (fun _ => rfl) (fun _ h => ⟨h.1, h.2.1⟩)
theorem rdRule : Reads enc Tryz.prog w 34 cRule okRule := by
  have h := reads_struct (enc := enc) (w := w) Tryz.underlying34 (n := 8) (by kernel_rfl) (freads_cons (g := (⟨ "ID", 3, 0, false, "", "", 0⟩ : Field)) (off := 0) (n := 1) rfl (by kernel_rfl) rdInt (freads_cons (g := (⟨ "Class", 9, 1, false, "", "", 8⟩ : Field)) (off := 1) (n := 1) rfl (by kernel_rfl) (reads_str Tryz.underlying9) (freads_cons (g := (⟨ "Trigger", 9, 2, false, "", "", 24⟩ : Field)) (off := 2) (n := 1) rfl (by kernel_rfl) (reads_str Tryz.underlying9) (freads_cons (g := (⟨ "Years", 3, 3, false, "", "", 40⟩ : Field)) (off := 3) (n := 1) rfl (by kernel_rfl) rdInt (freads_cons (g := (⟨ "YearEnd", 4, 4, false, "", "", 48⟩ : Field)) (off := 4) (n := 1) rfl (by kernel_rfl) rdBool (freads_cons (g := (⟨ "Action", 3, 5, false, "", "", 56⟩ : Field)) (off := 5) (n := 1) rfl (by kernel_rfl) rdInt (freads_cons (g := (⟨ "In", 32, 6, false, "", "", 64⟩ : Field)) (off := 6) (n := 2) rfl (by kernel_rfl) rdSpan (freads_nil (tot := 8)))))))))
  exact h.turn (fun p => (⟨p.1, p.2.1, p.2.2.1, p.2.2.2.1, p.2.2.2.2.1, p.2.2.2.2.2.1, p.2.2.2.2.2.2.1⟩ : Rule)) (fun _ => rfl) (fun _ h => ⟨h.1, h.2.1, h.2.2.1, h.2.2.2.1, h.2.2.2.2.1, h.2.2.2.2.2.1, h.2.2.2.2.2.2.1⟩)
theorem rdRules : Reads enc Tryz.prog w 22 (fun l : List Rule => [.sl 8 (l.map cRule)]) okRules := reads_slice Tryz.underlying22 (by kernel_rfl) (by decide) (fun _ => rfl) rdRule
theorem rdDating : Reads enc Tryz.prog w 39 cDating okDating := by
  have h := reads_struct (enc := enc) (w := w) Tryz.underlying39 (n := 2) (by kernel_rfl) (freads_cons (g := (⟨ "First", 3, 0, false, "", "", 0⟩ : Field)) (off := 0) (n := 1) rfl (by kernel_rfl) rdInt (freads_cons (g := (⟨ "Last", 3, 1, false, "", "", 8⟩ : Field)) (off := 1) (n := 1) rfl (by kernel_rfl) rdInt (freads_nil (tot := 2))))
  exact h.turn (fun p => (⟨p.1, p.2.1⟩ : Dating)) (fun _ => rfl) (fun _ h => ⟨h.1, h.2.1⟩)
end
theorem own : ownKnob Tryz.prog.godebug = none := by kernel_rfl
theorem laidOut : laidOutB Tryz.prog = true := by kernel_rfl

abbrev laidL : List (String × DataW Unit) := [("math/bits.deBruijn32tab", Rows.laid_math_bits_deBruijn32tab), ("math/bits.deBruijn64tab", Rows.laid_math_bits_deBruijn64tab), ("internal/strconv.uint64pow10", Rows.laid_internal_strconv_uint64pow10), ("unicode/utf8.acceptRanges", Rows.laid_unicode_utf8_acceptRanges), ("strconv.ErrRange", Rows.laid_strconv_ErrRange), ("strconv.ErrSyntax", Rows.laid_strconv_ErrSyntax), ("unicode.White_Space", Rows.laid_unicode_White_Space), ("strings.asciiSpace", Rows.laid_strings_asciiSpace), ("unicode/utf8.first", Rows.laid_unicode_utf8_first)]
theorem pow_eq : (Rows.laid_internal_strconv_uint64pow10 : DataW Unit) = Lib.tabData .u64 Lib.pow10Tab := by kernel_rfl
theorem acc_eq : (Rows.laid_unicode_utf8_acceptRanges : DataW Unit) = Lib.acceptData := by kernel_rfl
theorem wht_eq : (Rows.laid_unicode_White_Space : DataW Unit) = Lib.whiteData := by kernel_rfl
theorem asc_eq : (Rows.laid_strings_asciiSpace : DataW Unit) = Lib.tabData .u8 Lib.asciiSpaceTab := by kernel_rfl
theorem fst_eq : (Rows.laid_unicode_utf8_first : DataW Unit) = Lib.firstData := by kernel_rfl
theorem u8x : U8Extra Tryz.prog Tryz.lays260_ren := ⟨by kernel_rfl, by kernel_rfl, by kernel_rfl, by kernel_rfl, by kernel_rfl, by kernel_rfl, by kernel_rfl⟩
theorem whx : WhiteExtra Tryz.prog Tryz.lays199_ren := ⟨by kernel_rfl, by kernel_rfl, by kernel_rfl, by kernel_rfl, by kernel_rfl, by kernel_rfl, by kernel_rfl, by kernel_rfl⟩
theorem gE2 : Tryz.prog.globalNamed "strconv.ErrSyntax" = some 3 := by kernel_rfl
theorem gE3 : Tryz.prog.globalNamed "strconv.ErrRange" = some 4 := by kernel_rfl
theorem tE2 : (Tryz.prog.globals[3]?).map (·.type) = some 61 := by kernel_rfl
theorem tE3 : (Tryz.prog.globals[4]?).map (·.type) = some 61 := by kernel_rfl
theorem u151 : Tryz.prog.underlying 178 = some (.pointer 180) := by kernel_rfl
theorem u153 : Tryz.prog.underlying 180 = some (.struct #[⟨ "s", 9, 0, false, "", "errors", 0⟩]) := by kernel_rfl
theorem u9 : Tryz.prog.underlying 9 = some .string := by kernel_rfl
theorem star : "*" ++ "errors.errorString" = "*errors.errorString" := by decide
theorem row151 (u : TypeId) (h : Tryz.prog.typeName? 3 u = some "*errors.errorString") : u = 178 :=
  typeName_ptr_named (nm := "errors.errorString") (by rw [star]; kernel_rfl) (by kernel_rfl) (by decide) u (by rw [star]; exact h)
theorem gw_of {W : World} (h : laidMetH Tryz.prog laidL W) (hs : W.ShapedOpen Tryz.prog) : Gw W := by
  have h1 : laidMet Tryz.prog laidL W := h
  have ra := Lib.laidMet.reads h1 (n := "unicode/utf8.acceptRanges") (d := Rows.laid_unicode_utf8_acceptRanges) (by simp)
  have rw_ := Lib.laidMet.reads h1 (n := "unicode.White_Space") (d := Rows.laid_unicode_White_Space) (by simp)
  have rf := Lib.laidMet.reads h1 (n := "unicode/utf8.first") (d := Rows.laid_unicode_utf8_first) (by simp)
  rw [acc_eq] at ra
  rw [wht_eq] at rw_
  rw [fst_eq] at rf
  have h2 := h1.tail.tail
  rw [pow_eq] at h2
  have h4 := h1.tail.tail.tail.tail
  have h5 := h4.tail
  have h7 := h5.tail.tail
  rw [asc_eq] at h7
  obtain ⟨a3, s3, v3, _, _, _⟩ := laid_sentinel h4 gE3 tE3 errTy row151 u151 u153 rfl rfl u9 (by kernel_rfl) (by kernel_rfl)
  obtain ⟨a2, s2, v2, _, _, _⟩ := laid_sentinel h5 gE2 tE2 errTy row151 u151 u153 rfl rfl u9 (by kernel_rfl) (by kernel_rfl)
  have c3 : W.cell? ⟨4, 0, none⟩ = some (.iface 178 (.pointer (some a3))) := by simpa using World.var?_cell gE3 v3 0
  have c2 : W.cell? ⟨3, 0, none⟩ = some (.iface 178 (.pointer (some a2))) := by simpa using World.var?_cell gE2 v2 0
  refine ⟨Tryz.laysM144.s1_3 W hs, ?_, utf8Tabs_of_reads Tryz.lays260 u8x rf ra, whiteTab_of_reads Tryz.lays199 whx rw_, ?_, ⟨_, c2, .inr ⟨_, _, rfl⟩⟩, _, c3, .inr ⟨_, _, rfl⟩⟩
  · exact Lib.tabIs_of_head (by kernel_rfl) (g := 0) (t := 132) (n := 256) (e := 5) (by kernel_rfl) (by kernel_rfl) (by kernel_rfl) (by kernel_rfl) (by kernel_rfl) h7
  · exact Lib.tabIs_of_head (by kernel_rfl) (g := 5) (t := 161) (n := 20) (e := 141) (by kernel_rfl) (by kernel_rfl) (by kernel_rfl) (by kernel_rfl) (by kernel_rfl) h2
def litCells : DataW Unit → Array Value
  | .agg l => (l.map fun | .lit (.int k n) => Value.int k n | _ => undef).toArray
  | _ => #[]
def errText : DataW Unit → ByteArray
  | .iface _ (.ptr (.agg [.lit (.string s)])) => ⟨s.toArray⟩
  | _ => ⟨#[]⟩
noncomputable def laidWorld (os : Os) : World :=
  let N := (World.settled Tryz.prog os).heap.size
  let w0 := World.holding Tryz.prog os ⟨#[.cells (Lib.whiteT.map fun (z : Nat) => Value.int .u16 (z : Int)).toArray (Tryz.lays199_ren.t 198), .cells #[.slice (some ⟨N, 0, none⟩) 7 7, .slice none 0 0, .int .i64 2] (Tryz.lays199_ren.t 196), .cells #[.string (errText Rows.laid_strconv_ErrSyntax)] 180, .cells #[.string (errText Rows.laid_strconv_ErrRange)] 180], #[], []⟩
  let put (h : Array Obj) (g : Nat) (cs : Array Value) : Array Obj := h.modify g fun
    | .cells _ t frozen => .cells cs t frozen
    | o => o
  let h1 := put w0.heap 0 (Lib.asciiSpaceTab.map fun z => Value.int .u8 z).toArray
  let h2 := put h1 6 (Lib.firstTab.map fun z => Value.int .u8 z).toArray
  let h3 := put h2 7 ((List.range 16).flatMap fun i => [Value.int .u8 (Lib.accLo i), Value.int .u8 (Lib.accHi i)]).toArray
  let h4 := put h3 2 #[.pointer (some ⟨N + 1, 0, none⟩)]
  let h5 := put h4 3 #[.iface 178 (.pointer (some ⟨N + 2, 0, none⟩))]
  let h6 := put h5 4 #[.iface 178 (.pointer (some ⟨N + 3, 0, none⟩))]
  let h7 := put h6 5 (litCells Rows.laid_internal_strconv_uint64pow10)
  let h8 := put h7 8 (litCells Rows.laid_math_bits_deBruijn32tab)
  let h9 := put h8 9 (litCells Rows.laid_math_bits_deBruijn64tab)
  { w0 with heap := h9 }
noncomputable abbrev blocks (os : Os) : List (Nat × Nat) :=
  let N := (World.settled Tryz.prog os).heap.size
  [(8, 32), (9, 64), (5, 20), (7, 32), (4, 1), (N + 3, 1), (3, 1), (N + 2, 1), (2, 1), (N + 1, 3), (N, 21), (0, 256), (6, 256)]
theorem laid_any (os : Os) (args : Array Value) : laidMet Tryz.prog laidL ((laidWorld os).forCall (fun _ _ => 0) ⟨#[], args, []⟩).memory :=
  laidMet_of_blocks (blocks os) 8 (by kernel_rfl) (by kernel_rfl) (by kernel_rfl)
end Go.Proofs.YtjoacimgcepjdaaGreatDoor
