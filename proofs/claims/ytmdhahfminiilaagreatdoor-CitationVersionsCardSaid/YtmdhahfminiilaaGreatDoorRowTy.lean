/- The arguments of the rows, opened; the package variables; a world for the witness. -/
import Derived.Test.YtmdhahfminiilaaGreatDoorAw
import Derived.Test.YtmdhahfminiilaaGreatDoorOkD
import Derived.Test.YtmdhahfminiilaaGreatDoorAbsRow
import Derived.Test.YtmdhahfminiilaaGreatDoorLaidBlocks
import Derived.Test.YtmdhahfminiilaaGreatDoorCards
import Derived.Test.YtmdhahfminiilaaGreatDoorTie
import Derived.Stop.LaidErr
import Derived.Lib.LaidU8
import Derived.Deep.DeepWitnessRowRef
set_option linter.unusedSimpArgs false
set_option linter.unusedVariables false
namespace Go.Proofs.YtmdhahfminiilaaGreatDoor
open Go Go.Abs Go.RowKit Go.ChangeShapes Go.WideShapes Go.ChangeAt

theorem okI_of {n : Int} (h : (Lit.int .i64 n).wf = true) : okI n := by
  simp only [Lit.wf, Bool.and_eq_true, decide_eq_true_eq] at h
  exact h
section
variable {H : Type} {enc : TypeId × Value → H} {w : World}
theorem rdInt : Reads enc Tryz.prog w 3 cInt okI := reads_map id (fun _ => rfl) (fun _ => okI_of) (reads_int Tryz.underlying3)
theorem rdStanding : Reads enc Tryz.prog w 35 cStanding okStanding := by
  have h := reads_struct (enc := enc) (w := w) Tryz.underlying35 (n := 5) (by kernel_rfl) (freads_cons (g := (⟨ "Unit", 3, 0, false, "", "", 0⟩ : Field)) (off := 0) (n := 1) rfl (by kernel_rfl) rdInt (freads_cons (g := (⟨ "Parent", 3, 1, false, "", "", 8⟩ : Field)) (off := 1) (n := 1) rfl (by kernel_rfl) rdInt (freads_cons (g := (⟨ "Level", 3, 2, false, "", "", 16⟩ : Field)) (off := 2) (n := 1) rfl (by kernel_rfl) rdInt (freads_cons (g := (⟨ "Mark", 9, 3, false, "", "", 24⟩ : Field)) (off := 3) (n := 1) rfl (by kernel_rfl) (reads_str Tryz.underlying9) (freads_cons (g := (⟨ "Title", 9, 4, false, "", "", 40⟩ : Field)) (off := 4) (n := 1) rfl (by kernel_rfl) (reads_str Tryz.underlying9) (freads_nil (tot := 5)))))))
  exact h.turn (fun p => (⟨p.1, p.2.1, p.2.2.1, p.2.2.2.1, p.2.2.2.2.1⟩ : Standing)) (fun _ => rfl) (fun _ h => ⟨h.1, h.2.1, h.2.2.1, h.2.2.2.1, h.2.2.2.2.1⟩)
theorem rdStandings : Reads enc Tryz.prog w 48 (fun l : List Standing => [.sl 5 (l.map cStanding)]) okStandings := reads_slice Tryz.underlying48 (by kernel_rfl) (by decide) (fun _ => rfl) rdStanding
theorem rdShot : Reads enc Tryz.prog w 50 cShot okShot := by
  have h := reads_struct (enc := enc) (w := w) Tryz.underlying50 (n := 2) (by kernel_rfl) (freads_cons (g := (⟨ "Day", 3, 0, false, "", "", 0⟩ : Field)) (off := 0) (n := 1) rfl (by kernel_rfl) rdInt (freads_cons (g := (⟨ "Units", 48, 1, false, "", "", 8⟩ : Field)) (off := 1) (n := 1) rfl (by kernel_rfl) rdStandings (freads_nil (tot := 2))))
  exact h.turn (fun p => (⟨p.1, p.2.1⟩ : Shot)) (fun _ => rfl) (fun _ h => ⟨h.1, h.2.1⟩)
theorem rdShots : Reads enc Tryz.prog w 22 (fun l : List Shot => [.sl 2 (l.map cShot)]) okShots := reads_slice Tryz.underlying22 (by kernel_rfl) (by decide) (fun _ => rfl) rdShot
end
theorem own : ownKnob Tryz.prog.godebug = none := by kernel_rfl
theorem laidOut : laidOutB Tryz.prog = true := by kernel_rfl

abbrev laidL : List (String × DataW Unit) := [("math/bits.deBruijn32tab", Rows.laid_math_bits_deBruijn32tab), ("math/bits.deBruijn64tab", Rows.laid_math_bits_deBruijn64tab), ("internal/strconv.uint64pow10", Rows.laid_internal_strconv_uint64pow10), ("unicode/utf8.acceptRanges", Rows.laid_unicode_utf8_acceptRanges), ("strconv.ErrRange", Rows.laid_strconv_ErrRange), ("strconv.ErrSyntax", Rows.laid_strconv_ErrSyntax), ("unicode/utf8.first", Rows.laid_unicode_utf8_first)]
theorem pow_eq : (Rows.laid_internal_strconv_uint64pow10 : DataW Unit) = Lib.tabData .u64 Lib.pow10Tab := by kernel_rfl
theorem gE2 : Tryz.prog.globalNamed "strconv.ErrSyntax" = some 0 := by kernel_rfl
theorem gE3 : Tryz.prog.globalNamed "strconv.ErrRange" = some 1 := by kernel_rfl
theorem tE2 : (Tryz.prog.globals[0]?).map (·.type) = some 67 := by kernel_rfl
theorem tE3 : (Tryz.prog.globals[1]?).map (·.type) = some 67 := by kernel_rfl
theorem u151 : Tryz.prog.underlying 136 = some (.pointer 138) := by kernel_rfl
theorem u153 : Tryz.prog.underlying 138 = some (.struct #[⟨ "s", 9, 0, false, "", "errors", 0⟩]) := by kernel_rfl
theorem u9 : Tryz.prog.underlying 9 = some .string := by kernel_rfl
theorem star : "*" ++ "errors.errorString" = "*errors.errorString" := by decide
theorem row151 (u : TypeId) (h : Tryz.prog.typeName? 3 u = some "*errors.errorString") : u = 136 :=
  typeName_ptr_named (nm := "errors.errorString") (by rw [star]; kernel_rfl) (by kernel_rfl) (by decide) u (by rw [star]; exact h)
theorem gw_of {W : World} (h : laidMetH Tryz.prog laidL W) (hs : W.ShapedOpen Tryz.prog) : Gw W := by
  have h1 : laidMet Tryz.prog laidL W := h
  have h2 := h1.tail.tail
  rw [pow_eq] at h2
  have h4 := h1.tail.tail.tail.tail
  have h5 := h4.tail
  obtain ⟨a3, s3, v3, _, _, _⟩ := laid_sentinel h4 gE3 tE3 errTy row151 u151 u153 rfl rfl u9 (by kernel_rfl) (by kernel_rfl)
  obtain ⟨a2, s2, v2, _, _, _⟩ := laid_sentinel h5 gE2 tE2 errTy row151 u151 u153 rfl rfl u9 (by kernel_rfl) (by kernel_rfl)
  have c3 : W.cell? ⟨1, 0, none⟩ = some (.iface 136 (.pointer (some a3))) := by simpa using World.var?_cell gE3 v3 0
  have c2 : W.cell? ⟨0, 0, none⟩ = some (.iface 136 (.pointer (some a2))) := by simpa using World.var?_cell gE2 v2 0
  refine ⟨Tryz.laysM146.s1_3 W hs, ?_, ⟨_, c2, .inr ⟨_, _, rfl⟩⟩, _, c3, .inr ⟨_, _, rfl⟩⟩
  exact Lib.tabIs_of_head (by kernel_rfl) (g := 5) (t := 145) (n := 20) (e := 65) (by kernel_rfl) (by kernel_rfl) (by kernel_rfl) (by kernel_rfl) (by kernel_rfl) h2
def litCells : DataW Unit → Array Value
  | .agg l => (l.map fun | .lit (.int k n) => Value.int k n | _ => undef).toArray
  | _ => #[]
def errText : DataW Unit → ByteArray
  | .iface _ (.ptr (.agg [.lit (.string s)])) => ⟨s.toArray⟩
  | _ => ⟨#[]⟩
noncomputable def laidWorld (os : Os) : World :=
  let N := (World.settled Tryz.prog os).heap.size
  let w0 := World.holding Tryz.prog os ⟨#[.cells #[.string (errText Rows.laid_strconv_ErrSyntax)] 138, .cells #[.string (errText Rows.laid_strconv_ErrRange)] 138], #[], []⟩
  let put (h : Array Obj) (g : Nat) (cs : Array Value) : Array Obj := h.modify g fun
    | .cells _ t frozen => .cells cs t frozen
    | o => o
  let h2 := put w0.heap 3 (Lib.firstTab.map fun z => Value.int .u8 z).toArray
  let h3 := put h2 4 ((List.range 16).flatMap fun i => [Value.int .u8 (Lib.accLo i), Value.int .u8 (Lib.accHi i)]).toArray
  let h5 := put h3 0 #[.iface 136 (.pointer (some ⟨N, 0, none⟩))]
  let h6 := put h5 1 #[.iface 136 (.pointer (some ⟨N + 1, 0, none⟩))]
  let h7 := put h6 5 (litCells Rows.laid_internal_strconv_uint64pow10)
  let h8 := put h7 6 (litCells Rows.laid_math_bits_deBruijn32tab)
  let h9 := put h8 7 (litCells Rows.laid_math_bits_deBruijn64tab)
  { w0 with heap := h9 }
noncomputable abbrev blocks (os : Os) : List (Nat × Nat) :=
  let N := (World.settled Tryz.prog os).heap.size
  [(6, 32), (7, 64), (5, 20), (4, 32), (1, 1), (N + 1, 1), (0, 1), (N, 1), (3, 256)]
theorem laid_any (os : Os) (args : Array Value) : laidMet Tryz.prog laidL ((laidWorld os).forCall (fun _ _ => 0) ⟨#[], args, []⟩).memory :=
  laidMet_of_blocks (blocks os) 8 (by kernel_rfl) (by kernel_rfl) (by kernel_rfl)
end Go.Proofs.YtmdhahfminiilaaGreatDoor
