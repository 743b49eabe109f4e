/- The row of archivumlaw09.RuleLater: for every input it returns true. -/
import Derived.Test.YtjoacimgcepjdaaGreatDoorRowTy
import Derived.Test.YtjoacimgcepjdaaGreatDoorLApply
import Derived.Test.YtjoacimgcepjdaaGreatDoorLLater
namespace Go.Proofs.YtjoacimgcepjdaaGreatDoor.ruleLater
open Go Go.Abs Go.RowKit Go.ChangeShapes Go.WideShapes Go.ChangeAt

set_option maxRecDepth 100000 in
theorem contract (H : Type) (enc : TypeId × Value → H) (W : World) (base : Nat) (args : Array Value) (ds gs : List (DataW H)) (before : List MemPlace)
    (hval : ∀ (j : Nat) t v, Tryz.f4.params[j]? = some t → args[j]? = some v → Value.okWide Tryz.prog W .any base t v)
    (hW : DataW.Whole enc Tryz.prog Tryz.f4.params.toList Rows.ruleLaterSpec.vars false W args.toList ds gs before) (hL : laidMetH Tryz.prog Rows.ruleLaterRow.laid W) (hsh : W.ShapedOpen Tryz.prog) :
    Calls Tryz.prog 4 args W fun e W' => ∃ v, e = .returned v ∧ Rows.ruleLaterSpec.post enc Tryz.prog Tryz.f4 false true false false W args v W' := by
  have hW' := hW
  obtain ⟨p, q, hA0, hV, rfl, hfz, hnd⟩ := hW
  have hA : DataW.TrodAll enc Tryz.prog W 0 (fun _ => true) true Tryz.f4.params.toList args.toList ds p := hA0
  rw [Tryz.params4] at hA hval
  obtain ⟨v0, vs0, d0, ds0, p0, q0, hargs, rfl, rfl, h0, r0⟩ := trodAll_cons hA
  obtain ⟨v1, vs1, d1, ds1, p1, q1, rfl, rfl, rfl, h1, r1⟩ := trodAll_cons r0
  obtain ⟨v2, vs2, d2, ds2, p2, q2, rfl, rfl, rfl, h2, r2⟩ := trodAll_cons r1
  obtain ⟨v3, vs3, d3, ds3, p3, q3, rfl, rfl, rfl, h3, r3⟩ := trodAll_cons r2
  obtain ⟨rfl, rfl, rfl⟩ := trodAll_nil r3
  obtain rfl : args = #[v0, v1, v2, v3] := by cases args; simp_all
  obtain ⟨rfl, rfl⟩ := trodVars_none hV
  clear hA0
  have a0 := hval 0 34 v0 (by simp) (by simp)
  have a1 := hval 1 39 v1 (by simp) (by simp)
  have a2 := hval 2 39 v2 (by simp) (by simp)
  have a3 := hval 3 5 v3 (by simp) (by simp)
  have b0 := @arg_agg H enc Tryz.prog W 34 base v0 d0 p0 Rule cRule okRule _ Tryz.underlying34 rdRule a0 h0
  have b1 := @arg_agg H enc Tryz.prog W 39 base v1 d1 p1 Dating cDating okDating _ Tryz.underlying39 rdDating a1 h1
  have b2 := @arg_agg H enc Tryz.prog W 39 base v2 d2 p2 Dating cDating okDating _ Tryz.underlying39 rdDating a2 h2
  have b3 := @arg_cell H enc Tryz.prog W 5 base v3 d3 p3 Int (fun n => [.v (.int .u8 n)]) (fun n => .v (.int .u8 n)) okU8 (no_agg_int Tryz.underlying5) (fun _ => rfl) rdU8 a3 h3
  obtain ⟨x0, k0, w0⟩ := b0
  obtain ⟨x1, k1, w1⟩ := b1
  obtain ⟨x2, k2, w2⟩ := b2
  obtain ⟨x3, k3, w3⟩ := b3
  have hH := (holds_use Gs (lRuleLater_h (law x0 x1 x2 x3 w0 w1 w2 w3)) rfl).2 (Zold W) W [v0, v1, v2, v3] (.cons k0 (.cons k1 (.cons k2 (.cons k3 (.nil _ _))))) (fun _ _ h => h) (gw_of hL hsh)
  refine hH.mono fun e W' ⟨x, Z', he, hr, _, _, hb⟩ => ?_
  obtain rfl := repv hr
  exact ⟨_, he, post_true laidOut hW' rfl (by kernel_rfl) (by kernel_rfl) Tryz.underlying4 rfl rfl rfl hb⟩

abbrev wit : Array Value := #[.agg #[.int .i64 0, .string ⟨#[]⟩, .string ⟨#[]⟩, .int .i64 0, .bool false, .int .i64 0, .int .i64 0, .int .i64 0], .agg #[.int .i64 0, .int .i64 0], .agg #[.int .i64 0, .int .i64 0], .int .u8 0]
theorem laid_met (os : Os) : laidMet Tryz.prog Rows.ruleLaterRow.laid ((laidWorld os).forCall (fun _ _ => 0) ⟨#[], wit, []⟩).memory :=
  laid_any os wit
theorem reads (os : Os) {H : Type} (enc : TypeId × Value → H) : ∃ places, DataW.whole enc Tryz.prog ((laidWorld os).forCall (fun _ _ => 0) ⟨#[], wit, []⟩).memory Tryz.f4.params.toList Rows.ruleLaterSpec.vars false wit.toList 8 = some ([.agg [.lit (.int .i64 0), .lit (.string []), .lit (.string []), .lit (.int .i64 0), .lit (.bool false), .lit (.int .i64 0), .agg [.lit (.int .i64 0), .lit (.int .i64 0)]], .agg [.lit (.int .i64 0), .lit (.int .i64 0)], .agg [.lit (.int .i64 0), .lit (.int .i64 0)], .lit (.int .u8 0)], [], places) :=
  ⟨[], by kernel_rfl⟩

set_option maxRecDepth 100000 in
theorem lifted (os : Os) (started : os.Started) (H : Type) (enc : TypeId × Value → H) (F : Stop.Interp) :
    ReturnsInHanded {} Tryz.checked os 4 .any ((OpenSpec.ofChange Rows.ruleLaterSpec).preRow enc Tryz.prog Tryz.f4 Rows.ruleLaterRow.domain false Rows.ruleLaterRow.laid) (((OpenSpec.ofChange Rows.ruleLaterSpec).at F).post enc Tryz.prog Tryz.f4 false true false false) := by
  obtain ⟨places, hx⟩ := reads os enc
  refine returnsInHanded_of_row (C := Tryz.checked) (s := OpenSpec.ofChange Rows.ruleLaterSpec) own started (by kernel_rfl) Tryz.func4
    (witness_row_atRef (enc := enc) (C := Tryz.checked) false (laidWorld os) wit rfl (by kernel_rfl) (by kernel_rfl) (by kernel_rfl)
      (OpenSpec.preRow_of_cond 8 hx (by kernel_rfl) (fun k hk => by cases hk) (by kernel_rfl) (laid_met os))) ?_
  intro W base args ds gs before hval hW _ _ _ hL hsh _
  exact contract H enc W base args ds gs before hval hW hL hsh

theorem said : Rows.RuleLaterSaid :=
  OpenClaim.holds_of_cond 4 Tryz.f4 rfl rfl rfl rfl rfl rfl rfl ⟨rfl, rfl, rfl, rfl, rfl⟩ rfl rfl rfl rfl rfl (by kernel_rfl) Tryz.func4 (by kernel_rfl)
    (of_decide_eq_true (by kernel_rfl)) (by unfold Func.isWrapper; first | (rw [if_pos (by decide +kernel)]; kernel_rfl) | (rw [if_neg (by decide +kernel)]; exact ⟨rfl, rfl⟩))
    (fun os started H enc _ F => by rw [OpenClaim.pre_eq_preRow]; exact lifted os started H enc F)

theorem plain (f : FuncId) (fn : Func) (hf : Tryz.pinned.checked.prog.funcNamed "archivum/archivumlaw09.RuleLater" = some f) (hfn : Tryz.pinned.checked.prog.funcs[f]? = some fn) :
    true = Tryz.pinned.checked.prog.looks [] ∧ ∀ (j : Nat) t, fn.params[j]? = some t → Tryz.pinned.checked.prog.wantsStandIn t = false := by
  obtain rfl : f = 4 := Option.some.inj ((show Tryz.prog.funcNamed "archivum/archivumlaw09.RuleLater" = some 4 by kernel_rfl).symm.trans hf) |>.symm
  obtain rfl : fn = Tryz.f4 := (Option.some.inj (Tryz.func4.symm.trans hfn)).symm
  refine ⟨by kernel_rfl, fun j t ht => ?_⟩
  have hall : Tryz.f4.params.toList.all (fun t => !Tryz.prog.wantsStandIn t) = true := by kernel_rfl
  have hm : t ∈ Tryz.f4.params.toList := by simpa using Array.mem_of_getElem? ht
  have := List.all_eq_true.1 hall t hm
  exact (show Tryz.prog.wantsStandIn t = false by simpa using this)

theorem card : Rows.RuleLaterCardSaid :=
  Claim7.holds_tied_plain_at .later [] _ _ _ _ said (fun _ h => by cases h) (by kernel_rfl) (fun _ h => by cases h) ruleLater_row_tie rfl ⟨rfl, rfl⟩ (by kernel_rfl) rfl plain (by kernel_rfl)
end Go.Proofs.YtjoacimgcepjdaaGreatDoor.ruleLater
