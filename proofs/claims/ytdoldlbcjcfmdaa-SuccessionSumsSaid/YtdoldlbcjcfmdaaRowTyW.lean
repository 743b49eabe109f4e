/- The arguments opened with the room that they take. -/
import Derived.Test.YtdoldlbcjcfmdaaRowTy
import Derived.Test.YtdoldlbcjcfmdaaAbsRowW
set_option linter.unusedVariables false
namespace Go.Proofs.Ytdoldlbcjcfmdaa
open Go Go.Abs Go.RowKit Go.ChangeShapes Go.WideShapes Go.ChangeAt
/-- The lists of an authority have room. -/
def roomA (a : Aut) : Prop := a.Names.length * 32 ≤ 140737488351232 ∧ a.Next.length * 8 ≤ 140737488351232
def okAutsW (l : List Aut) : Prop := okAuts l ∧ ∀ a ∈ l, roomA a
section
variable {H : Type} {enc : TypeId × Value → H} {w : World}
theorem bNam : Try.prog.bytesOf 75 = 32 := by kernel_rfl
theorem bInt : Try.prog.bytesOf 3 = 8 := by kernel_rfl
theorem wrdNams : WReads enc Try.prog w 140737488351232 37 (fun l : List Nam => [.sl 3 (l.map cNam)]) (fun l => (l.length ≤ 9223372036854775807 ∧ ∀ x ∈ l, okNam x) ∧ l.length * Try.prog.bytesOf 75 ≤ 140737488351232) := wreads_slice Try.underlying37 (by kernel_rfl) (by decide) (fun _ => rfl) (wreads_of rdNam)
theorem wrdInts : WReads enc Try.prog w 140737488351232 25 (fun l : List Int => [.sl 1 (l.map cInt)]) (fun l => (l.length ≤ 9223372036854775807 ∧ ∀ x ∈ l, okI x) ∧ l.length * Try.prog.bytesOf 3 ≤ 140737488351232) := wreads_slice Try.underlying25 (by kernel_rfl) (by decide) (fun _ => rfl) (wreads_of rdInt)
theorem wrdAut : WReads enc Try.prog w 140737488351232 39 cAut (fun a => okAut a ∧ roomA a) := by
  have h := wreads_struct (enc := enc) (w := w) (B := 140737488351232) Try.underlying39 (n := 6) (by kernel_rfl) (wfreads_cons (g := (⟨ "ID", 3, 0, false, "", "", 0⟩ : Field)) (off := 0) (n := 1) rfl (by kernel_rfl) (wreads_of rdInt) (wfreads_cons (g := (⟨ "Kind", 3, 1, false, "", "", 8⟩ : Field)) (off := 1) (n := 1) rfl (by kernel_rfl) (wreads_of rdInt) (wfreads_cons (g := (⟨ "In", 36, 2, false, "", "", 16⟩ : Field)) (off := 2) (n := 2) rfl (by kernel_rfl) (wreads_of rdSpan) (wfreads_cons (g := (⟨ "Names", 37, 4, false, "", "", 32⟩ : Field)) (off := 4) (n := 1) rfl (by kernel_rfl) wrdNams (wfreads_cons (g := (⟨ "Next", 25, 5, false, "", "", 56⟩ : Field)) (off := 5) (n := 1) rfl (by kernel_rfl) wrdInts (wfreads_nil (tot := 6)))))))
  exact h.turn (fun p => (⟨p.1, p.2.1, p.2.2.1, p.2.2.2.1, p.2.2.2.2.1⟩ : Aut)) (fun _ => rfl) (fun p h => by
    rw [bNam, bInt] at h
    exact ⟨⟨h.1, h.2.1, h.2.2.1, h.2.2.2.1.1, h.2.2.2.2.1.1⟩, h.2.2.2.1.2, h.2.2.2.2.1.2⟩)
theorem wrdAuts0 : WReads enc Try.prog w 140737488351232 22 (fun l : List Aut => [.sl 6 (l.map cAut)]) (fun l => (l.length ≤ 9223372036854775807 ∧ ∀ x ∈ l, okAut x ∧ roomA x) ∧ l.length * Try.prog.bytesOf 39 ≤ 140737488351232) := wreads_slice Try.underlying22 (by kernel_rfl) (by decide) (fun _ => rfl) wrdAut
theorem wrdAuts : WReads enc Try.prog w 140737488351232 22 (fun l : List Aut => [.sl 6 (l.map cAut)]) okAutsW :=
  wrdAuts0.turn id (fun _ => rfl) (fun l h => ⟨⟨h.1.1, fun a ha => (h.1.2 a ha).1⟩, fun a ha => (h.1.2 a ha).2⟩)
end
end Go.Proofs.Ytdoldlbcjcfmdaa
