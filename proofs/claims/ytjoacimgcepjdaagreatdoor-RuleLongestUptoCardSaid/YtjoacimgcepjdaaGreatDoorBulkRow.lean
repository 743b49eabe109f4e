/- Rules, read with their bulk. -/
import Derived.Test.YtjoacimgcepjdaaGreatDoorRowTy
import Derived.Test.YtjoacimgcepjdaaGreatDoorBulkA
namespace Go.Proofs.YtjoacimgcepjdaaGreatDoor
open Go Go.Abs Go.RowKit Go.ChangeShapes
/-- A rule whose texts have at most B bytes. -/
def bRule (B : Nat) (x : Rule) : Prop := okI x.ID ∧ x.Class.length ≤ B ∧ x.Trigger.length ≤ B ∧ okI x.Years ∧ okB x.YearEnd ∧ okI x.Action ∧ okSpan x.In
section
variable {H : Type} {enc : TypeId × Value → H} {w : World} {B : Nat}
theorem bdRule : BReads enc Tryz.prog w B 34 cRule (bRule B) := by
  have h := breads_struct (enc := enc) (w := w) (B := B) Tryz.underlying34 (n := 8) (by kernel_rfl) (bfreads_cons (g := (⟨ "ID", 3, 0, false, "", "", 0⟩ : Field)) (off := 0) (n := 1) rfl (by kernel_rfl) (breads_of rdInt) (bfreads_cons (g := (⟨ "Class", 9, 1, false, "", "", 8⟩ : Field)) (off := 1) (n := 1) rfl (by kernel_rfl) (breads_str Tryz.underlying9) (bfreads_cons (g := (⟨ "Trigger", 9, 2, false, "", "", 24⟩ : Field)) (off := 2) (n := 1) rfl (by kernel_rfl) (breads_str Tryz.underlying9) (bfreads_cons (g := (⟨ "Years", 3, 3, false, "", "", 40⟩ : Field)) (off := 3) (n := 1) rfl (by kernel_rfl) (breads_of rdInt) (bfreads_cons (g := (⟨ "YearEnd", 4, 4, false, "", "", 48⟩ : Field)) (off := 4) (n := 1) rfl (by kernel_rfl) (breads_of rdBool) (bfreads_cons (g := (⟨ "Action", 3, 5, false, "", "", 56⟩ : Field)) (off := 5) (n := 1) rfl (by kernel_rfl) (breads_of rdInt) (bfreads_cons (g := (⟨ "In", 32, 6, false, "", "", 64⟩ : Field)) (off := 6) (n := 2) rfl (by kernel_rfl) (breads_of rdSpan) (bfreads_nil (tot := 8)))))))))
  exact h.turn (fun p => (⟨p.1, p.2.1, p.2.2.1, p.2.2.2.1, p.2.2.2.2.1, p.2.2.2.2.2.1, p.2.2.2.2.2.2.1⟩ : Rule)) (fun _ => rfl) (fun _ h => ⟨h.1, h.2.1, h.2.2.1, h.2.2.2.1, h.2.2.2.2.1, h.2.2.2.2.2.1, h.2.2.2.2.2.2.1⟩)
theorem bdRules : BReads enc Tryz.prog w B 22 (fun l : List Rule => [.sl 8 (l.map cRule)]) (fun l : List Rule => l.length ≤ 9223372036854775807 ∧ ∀ x ∈ l, bRule B x) := breads_slice Tryz.underlying22 (by kernel_rfl) (by decide) (fun _ => rfl) bdRule
end
end Go.Proofs.YtjoacimgcepjdaaGreatDoor
