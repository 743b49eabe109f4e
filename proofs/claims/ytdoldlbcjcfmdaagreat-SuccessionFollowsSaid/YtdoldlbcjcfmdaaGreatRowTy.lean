/- The arguments of the rows, opened; the package variables; a world for the witness. -/
import Derived.Test.YtdoldlbcjcfmdaaGreatLib
import Derived.Test.YtdoldlbcjcfmdaaGreatAbsRow
import Derived.Stop.LaidErr
namespace Go.Proofs.YtdoldlbcjcfmdaaGreat
open Go Go.Abs Go.RowKit Go.ChangeShapes Go.WideShapes Go.ChangeAt

def okI (n : Int) : Prop := -9223372036854775808 ≤ n ∧ n ≤ 9223372036854775807
def okSpan (x : Span) : Prop := okI x.From ∧ okI x.Until
def okNam (x : Nam) : Prop := x.Text.length ≤ 9223372036854775807 ∧ okSpan x.In
def okAut (x : Aut) : Prop := okI x.ID ∧ okI x.Kind ∧ okSpan x.In ∧ (x.Names.length ≤ 9223372036854775807 ∧ ∀ n ∈ x.Names, okNam n) ∧ (x.Next.length ≤ 9223372036854775807 ∧ ∀ n ∈ x.Next, okI n)
def okAuts (l : List Aut) : Prop := l.length ≤ 9223372036854775807 ∧ ∀ a ∈ l, okAut a
theorem okI_of {n : Int} (h : (Lit.int .i64 n).wf = true) : okI n := by
  simp only [Lit.wf, Bool.and_eq_true, decide_eq_true_eq] at h
  exact h
section
variable {H : Type} {enc : TypeId × Value → H} {w : World}
theorem rdInt : Reads enc Tryz.prog w 3 cInt okI := reads_map id (fun _ => rfl) (fun _ => okI_of) (reads_int Tryz.underlying3)
theorem rdSpan : Reads enc Tryz.prog w 42 cSpan okSpan := by
  have h := reads_struct (enc := enc) (w := w) Tryz.underlying42 (n := 2) (by kernel_rfl) (freads_cons (g := (⟨ "From", 3, 0, false, "", "", 0⟩ : Field)) (off := 0) (n := 1) rfl (by kernel_rfl) rdInt (freads_cons (g := (⟨ "Until", 3, 1, false, "", "", 8⟩ : Field)) (off := 1) (n := 1) rfl (by kernel_rfl) rdInt (freads_nil (tot := 2))))
  exact h.turn (fun p => (⟨p.1, p.2.1⟩ : Span)) (fun _ => rfl) (fun _ h => ⟨h.1, h.2.1⟩)
theorem rdNam : Reads enc Tryz.prog w 76 cNam okNam := by
  have h := reads_struct (enc := enc) (w := w) Tryz.underlying76 (n := 3) (by kernel_rfl) (freads_cons (g := (⟨ "Text", 9, 0, false, "", "", 0⟩ : Field)) (off := 0) (n := 1) rfl (by kernel_rfl) (reads_str Tryz.underlying9) (freads_cons (g := (⟨ "In", 42, 1, false, "", "", 16⟩ : Field)) (off := 1) (n := 2) rfl (by kernel_rfl) rdSpan (freads_nil (tot := 3))))
  exact h.turn (fun p => (⟨p.1, p.2.1⟩ : Nam)) (fun _ => rfl) (fun _ h => ⟨h.1, h.2.1⟩)
theorem rdNams : Reads enc Tryz.prog w 43 (fun l : List Nam => [.sl 3 (l.map cNam)]) (fun l => l.length ≤ 9223372036854775807 ∧ ∀ x ∈ l, okNam x) := reads_slice Tryz.underlying43 (by kernel_rfl) (by decide) (fun _ => rfl) rdNam
theorem rdInts : Reads enc Tryz.prog w 25 (fun l : List Int => [.sl 1 (l.map cInt)]) (fun l => l.length ≤ 9223372036854775807 ∧ ∀ x ∈ l, okI x) := reads_slice Tryz.underlying25 (by kernel_rfl) (by decide) (fun _ => rfl) rdInt
theorem rdAut : Reads enc Tryz.prog w 45 cAut okAut := by
  have h := reads_struct (enc := enc) (w := w) Tryz.underlying45 (n := 6) (by kernel_rfl) (freads_cons (g := (⟨ "ID", 3, 0, false, "", "", 0⟩ : Field)) (off := 0) (n := 1) rfl (by kernel_rfl) rdInt (freads_cons (g := (⟨ "Kind", 3, 1, false, "", "", 8⟩ : Field)) (off := 1) (n := 1) rfl (by kernel_rfl) rdInt (freads_cons (g := (⟨ "In", 42, 2, false, "", "", 16⟩ : Field)) (off := 2) (n := 2) rfl (by kernel_rfl) rdSpan (freads_cons (g := (⟨ "Names", 43, 4, false, "", "", 32⟩ : Field)) (off := 4) (n := 1) rfl (by kernel_rfl) rdNams (freads_cons (g := (⟨ "Next", 25, 5, false, "", "", 56⟩ : Field)) (off := 5) (n := 1) rfl (by kernel_rfl) rdInts (freads_nil (tot := 6)))))))
  exact h.turn (fun p => (⟨p.1, p.2.1, p.2.2.1, p.2.2.2.1, p.2.2.2.2.1⟩ : Aut)) (fun _ => rfl) (fun _ h => ⟨h.1, h.2.1, h.2.2.1, h.2.2.2.1, h.2.2.2.2.1⟩)
theorem rdAuts : Reads enc Tryz.prog w 22 (fun l : List Aut => [.sl 6 (l.map cAut)]) okAuts := reads_slice Tryz.underlying22 (by kernel_rfl) (by decide) (fun _ => rfl) rdAut
end
theorem own : ownKnob Tryz.prog.godebug = none := by kernel_rfl
theorem laidOut : laidOutB Tryz.prog = true := by kernel_rfl
theorem gw_of {W : World} {L : List (String × DataW Unit)} (_ : laidMetH Tryz.prog L W) (hs : W.ShapedOpen Tryz.prog) : Gw W := Tryz.laysM144.s1_3 W hs
noncomputable def laidWorld (os : Os) : World := World.holding Tryz.prog os ⟨#[], #[], []⟩
end Go.Proofs.YtdoldlbcjcfmdaaGreat
