/-
  Soundness of the abstract weakest precondition: regions, code, functions.
-/
import Derived.Test.YtmcolhhmlpicaaaDoorAbsMain
namespace Go.Abs
open Go Go.RowKit

section
variable {P : Program} {G : World → Prop} {T : Tab} {Z0 : Base} {w0 : World} {S : Nat → Prop} {n : Nat} {Z Z' : Zone} {E : Nat → Value} {st : St} {a : Act} {w w' : World}

theorem Inv.know (hI : Inv G Z0 w0 S n Z E st a w) {d : Nat} {r : SV} (hr : RepS Z w st.obj E r (a.tmps.getD d undef)) : Inv G Z0 w0 S n Z E ⟨put st.env (some d) r, st.obj⟩ a w :=
  { hI with
    env := fun t => by
      simp only [put]
      cases hb : Nat.beq d t with
      | false => exact hI.env t
      | true => have := Nat.eq_of_beq_eq_true hb; subst this; exact hr }

theorem yielded_un {ops : Array Oper} {j dj : Nat} (h : (ops[j]?).bind (·.dst) = some dj) (hv : a.tmps.getD dj undef = undef) : yielded ops a.tmps j = none := by
  unfold yielded
  rw [h]
  simp only [Option.bind_some]
  rw [Array.getD_eq_getD_getElem?] at hv
  cases hx : a.tmps[dj]? with
  | none => rfl
  | some x => rw [hx] at hv; simp at hv; rw [hv]; rfl
theorem yielded_of {ops : Array Oper} {j dj : Nat} {b : Bool} (h : (ops[j]?).bind (·.dst) = some dj) (hv : a.tmps.getD dj undef = .bool b) : yielded ops a.tmps j = some b := by
  have : a.tmps[dj]? = some (.bool b) := by
    rw [Array.getD_eq_getD_getElem?] at hv
    cases hx : a.tmps[dj]? with
    | none => rw [hx] at hv; simp [undef] at hv
    | some x => rw [hx] at hv; simp at hv; rw [hv]
  simp [yielded, h, this]

end
end Go.Abs
