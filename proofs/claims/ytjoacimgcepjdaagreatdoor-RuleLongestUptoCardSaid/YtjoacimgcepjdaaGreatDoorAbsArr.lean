/-
  An element of an array of numbers.
-/
import Derived.Test.YtjoacimgcepjdaaGreatDoorAbsIns
namespace Go.Abs
open Go Go.RowKit
def ixA (n : Nat) (cs : List CV) (i : Int) : Option Int := if cs.length = n ∧ 0 ≤ i ∧ i < (n : Int) then (match cs[i.toNat]? with | some (.v (.int .i64 r)) => some r | _ => none) else none
section
variable {P : Program} {G : World → Prop}
theorem eff_ixA {t e : TypeId} {n : Nat} {cs : List CV} {i r : Int} (ht : P.underlying t = some (.array n e)) (hs : ∀ w, (Go.sizeOf e).run P w = .ok 1 w) (ha : ∀ w, (isAgg e).run P w = .ok false w) (h : ixA n cs i = some r) {x y : Operand} {k : IntKind} {ty : TypeId} :
    EffOp P G (.index t x y) ty [.c (.agg cs), .c (.v (.int k i))] [] (.c (.v (.int .i64 r))) [] := by
  intro Z w Eo ac o next Q ho hty hg hz hl hargs hgs hnext
  have hx := rep_sc (hargs 0 _ x rfl rfl)
  have hy := rep_v (rep_sc (hargs 1 _ y rfl rfl))
  unfold ixA at h
  split at h
  · rename_i hc
    obtain ⟨hlen, h0, hn⟩ := hc
    obtain ⟨p, rfl⟩ : ∃ p : Nat, i = p := ⟨i.toNat, by omega⟩
    simp only [Int.toNat_natCast] at h
    cases hcp : cs[p]? with
    | none => rw [hcp] at h; exact nomatch h
    | some c =>
      rw [hcp] at h
      split at h
      · rename_i r' he
        obtain rfl := Option.some.inj h
        obtain rfl := Option.some.inj he
        generalize hax : ac.eval x = vx at hx
        cases hx with
        | agg _ vs hlv hrep _ =>
          have hpl : p < vs.length := by omega
          have hr := rep_v (hrep p _ _ hcp (List.getElem?_eq_getElem hpl))
          have hex : (execOp ac.eval o).run P w = .ok (.value (.int .i64 r')) w := by
            obtain ⟨dst, op, type, pos, after, guard⟩ := o
            simp only at ho
            subst ho
            have hg2 : vs.toArray[p]? = some (.int .i64 r') := by rw [List.getElem?_toArray, List.getElem?_eq_getElem hpl, hr]
            have hin : (0 : Int) ≤ (p : Int) ∧ (p : Int) < (n : Int) := ⟨h0, hn⟩
            simp only [execOp, hax, hy, Instr.index, asIntOf, Sem.run_bind, Sem.run_pure, Result.andThen_ok, run_underlying ht, if_pos hin, hs w, Int.toNat_natCast, Nat.mul_one, Go.part, ha w, hg2, Bool.false_eq_true, if_false]
          exact wp_value hex (hnext _ Z w Eo (effpost_same hg hz (.c _ _ (.v _))))
      · exact nomatch h
  · exact nomatch h
theorem eff_min3 {x y z : Operand} {k : IntKind} {a b c : Int} {t1 t2 t3 ty : TypeId} : EffOp P G (.call ⟨.builtin .min, ⟨[x, y, z]⟩, ⟨[t1, t2, t3]⟩⟩) ty [.c (.v (.int k a)), .c (.v (.int k b)), .c (.v (.int k c))] [] (.c (.v (.int k (if c < (if b < a then b else a) then c else if b < a then b else a)))) [] := by
  intro Z w Eo ac o next Q ho hty hg hz hl hargs hgs hnext
  have e1 := rep_v (rep_sc (hargs 0 _ x rfl rfl))
  have e2 := rep_v (rep_sc (hargs 1 _ y rfl rfl))
  have e3 := rep_v (rep_sc (hargs 2 _ z rfl rfl))
  refine wp_value (x := .int k (if c < (if b < a then b else a) then c else if b < a then b else a)) ?_ (hnext _ Z w Eo (effpost_same hg hz (.c _ _ (.v _))))
  obtain ⟨dst, op, type, pos, after, guard⟩ := o
  simp only at ho hty
  subst ho
  rw [exec_builtin]
  simp [builtin, Builtin.min_, Builtin.min2, e1, e2, e3]
end
end Go.Abs
