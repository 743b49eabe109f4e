import Derived.Test.YtgpojnenbmlcbaaDoorAbsOpF
import Derived.Laws.BytesArg
set_option linter.unusedVariables false
set_option linter.unusedSimpArgs false
/-
  Bytes turned into a string.
-/
namespace Go.Abs
open Go Go.RowKit

section
variable {P : Program} {G : World → Prop}
def b2s (l : List Int) : Str := l.map fun n => UInt8.ofNat n.toNat
theorem eff_b2s {s t e : TypeId} (hs : P.underlying s = some (.slice e)) (he : P.underlying e = some (.int .u8)) (ht : P.underlying t = some .string) {l : List Int} {x : Operand} {ty : TypeId} :
    EffOp P G (.convert s t x) ty [.c (.sl 1 (l.map cInt_u8))] [] (.c (.v (.string ⟨⟨b2s l⟩⟩))) [] := by
  intro Z w Eo ac o next Q ho hty hg hzl hl hargs hgs hnext
  have hx : Rep Z w (.sl 1 (l.map cInt_u8)) (ac.eval x) := by
    have := hargs 0 (.c (.sl 1 (l.map cInt_u8))) x rfl rfl
    cases this with | c _ _ h => exact h
  have hrun : (convert s t (ac.eval x)).run P w = .ok (.string ⟨⟨b2s l⟩⟩) w := by
    generalize hds : l.map cInt_u8 = ds at hx
    generalize ac.eval x = v at hx
    cases hx with
    | nil _ a cap =>
      have hl0 : l = [] := by simpa using hds
      subst hl0
      cases a with
      | none => exact run_convert_bytes_nil w s e hs he 0 cap t ht
      | some a =>
        have h0 := run_loadCells_list (P := P) w a [] (fun j v hj => by simp at hj)
        rw [run_convert_bytes_string w s t e _ 0 cap hs he ht, run_bytesToString w _ 0 cap [] (by simpa using h0)]
        rfl
    | sl _ _ b o cap f hcap hsz hc hr =>
      have hlen : ds.length = l.length := by rw [← hds]; simp
      rw [hlen]
      refine run_convert_bytes_arg w s e hs he b o l.length cap l rfl (fun i hi => ?_) t ht
      have hd : ds[i]? = some (cInt_u8 l[i]) := by rw [← hds, List.getElem?_map, List.getElem?_eq_getElem hi]; rfl
      obtain ⟨_, h2, _⟩ := hc i 0 _ _ hd rfl
      have h3 := rep_v (hr i 0 _ _ hd rfl)
      rw [Nat.mul_one, Nat.add_zero, h3] at h2
      rw [h2]
      simp [List.getD_eq_getElem?_getD, hi]
  have hex : (execOp ac.eval o).run P w = .ok (.value (.string ⟨⟨b2s l⟩⟩)) w := by
    obtain ⟨dst, op, type, pos, after, guard⟩ := o
    simp only at ho
    subst ho
    simp only [execOp, Sem.run_bind, hrun, Result.andThen_ok, Sem.run_pure]
  exact wp_value hex (hnext _ Z w Eo (effpost_same hg hzl (.c _ _ (.v _))))
end
end Go.Abs
