/- The lengths of the months, as a contract; an element of an array. -/
import Derived.Test.YtjoacimgcepjdaaGreatDoorLib
import Derived.Test.YtjoacimgcepjdaaGreatDoorAbsArr
import Derived.Test.YtjoacimgcepjdaaGreatDoorAbsSub
import Derived.WalkKit
import Derived.BigCall
namespace Go.Proofs.YtjoacimgcepjdaaGreatDoor
open Go Go.Abs Go.RowKit
def monthC : List CV := [I 31, I 28, I 31, I 30, I 31, I 30, I 31, I 31, I 30, I 31, I 30, I 31]
def monthV : List Value := [.int .i64 31, .int .i64 28, .int .i64 31, .int .i64 30, .int .i64 31, .int .i64 30, .int .i64 31, .int .i64 31, .int .i64 30, .int .i64 31, .int .i64 30, .int .i64 31]
theorem lengths_calls (w : World) : Calls Tryz.prog 94 #[] w fun e w' => e = .returned (.agg monthV.toArray) ∧ Below w.heap.size w w' := by
  go_enter Tryz.func94, Tryz.ntmps94
  go_wp2
  refine bodyPost_ret (by simp [results, Tryz.results94, go_sem]; try rfl) rfl ?_
  exact ⟨rfl, (Below.refl _ w).alloc (Nat.le_refl _) _⟩
theorem monthR {Z : Zone} {w : World} : Rep Z w (.agg monthC) (.agg monthV.toArray) := by
  refine .agg monthC monthV rfl (fun i c x h1 h2 => ?_) (fun i c h1 => ?_)
  · have : monthC = monthV.map CV.v := rfl
    rw [this, List.getElem?_map, h2] at h1
    exact Option.some.inj h1 ▸ .v x
  · have : monthC = monthV.map CV.v := rfl
    rw [this, List.getElem?_map] at h1
    cases hx : monthV[i]? with
    | none => rw [hx] at h1; cases h1
    | some x => rw [hx] at h1; obtain rfl := Option.some.inj h1; rcases i with _ | _ | _ | _ | _ | _ | _ | _ | _ | _ | _ | _ | i <;> first | (simp [monthV] at hx; subst hx; rfl) | (simp [monthV] at hx)
def dlengths_S : Option (List CV) := some monthC
theorem dlengths_h {r : List CV} (h : dlengths_S = some r) : Holds Tryz.prog Gw 94 [] (.agg r) := by
  obtain rfl := Option.some.inj h
  refine holds_mk ⟨_, Tryz.func94, by decide, rfl⟩ fun Z w vs h1 h2 h3 => ?_
  match vs, h1 with
  | [], h1 =>
    exact (lengths_calls w).mono fun e w' ⟨he, hw⟩ => ⟨_, Z, he, monthR, fun _ _ hz => hz, fun b o hz => ⟨.inl hz, Nat.lt_of_lt_of_le (h2 b o hz) hw.size⟩, hw⟩
theorem eff_build117 {ty : TypeId} : EffOp Tryz.prog Gw (.build 117 ⟨[(0, .const (.int .i64 31)), (1, .const (.int .i64 28)), (2, .const (.int .i64 31)), (3, .const (.int .i64 30)), (4, .const (.int .i64 31)), (5, .const (.int .i64 30)), (6, .const (.int .i64 31)), (7, .const (.int .i64 31)), (8, .const (.int .i64 30)), (9, .const (.int .i64 31)), (10, .const (.int .i64 30)), (11, .const (.int .i64 31))]⟩) ty [.c (I 31), .c (I 28), .c (I 31), .c (I 30), .c (I 31), .c (I 30), .c (I 31), .c (I 31), .c (I 30), .c (I 31), .c (I 30), .c (I 31)] [] (.c (.agg monthC)) [] := by
  intro Z w Eo ac o next Q ho hty hg hz hl hargs hgs hnext
  refine wp_value (x := .agg monthV.toArray) ?_ (hnext _ Z w Eo (effpost_same hg hz (.c _ _ monthR)))
  obtain ⟨dst, op, type, pos, after, guard⟩ := o
  simp only at ho hty
  subst ho
  simp only [execOp, Instr.build, Sem.run_bind, Tryz.zeroValue117, Result.andThen_ok, run_underlying Tryz.underlying117, Tryz.sizeOf3, Sem.run_pure]
  simp [Instr.fill, Act.eval, monthV, Value.cells, go_sem]
end Go.Proofs.YtjoacimgcepjdaaGreatDoor
