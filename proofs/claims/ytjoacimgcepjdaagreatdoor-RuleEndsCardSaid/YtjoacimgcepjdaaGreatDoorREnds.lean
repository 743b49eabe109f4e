/- The row of archivumlaw09.RuleEnds: for every input it returns true. -/
import Derived.Test.YtjoacimgcepjdaaGreatDoorRowTy
import Derived.Test.YtjoacimgcepjdaaGreatDoorLApply
import Derived.Test.YtjoacimgcepjdaaGreatDoorLEnds
namespace Go.Proofs.YtjoacimgcepjdaaGreatDoor.ruleEnds
open Go Go.Abs Go.RowKit Go.ChangeShapes Go.WideShapes Go.ChangeAt

set_option maxRecDepth 100000 in
theorem contract (H : Type) (enc : TypeId × Value → H) (W : World) (base : Nat) (args : Array Value) (ds gs : List (DataW H)) (before : List MemPlace)
    (hval : ∀ (j : Nat) t v, Tryz.f8.params[j]? = some t → args[j]? = some v → Value.okWide Tryz.prog W .any base t v)
    (hW : DataW.Whole enc Tryz.prog Tryz.f8.params.toList Rows.ruleEndsSpec.vars false W args.toList ds gs before) (hL : laidMetH Tryz.prog Rows.ruleEndsRow.laid W) (hsh : W.ShapedOpen Tryz.prog) :
    Calls Tryz.prog 8 args W fun e W' => ∃ v, e = .returned v ∧ Rows.ruleEndsSpec.post enc Tryz.prog Tryz.f8 false true false false W args v W' := by
  have hW' := hW
  obtain ⟨p, q, hA0, hV, rfl, hfz, hnd⟩ := hW
  have hA : DataW.TrodAll enc Tryz.prog W 0 (fun _ => true) true Tryz.f8.params.toList args.toList ds p := hA0
  rw [Tryz.params8] at hA hval
  obtain ⟨v0, vs0, d0, ds0, p0, q0, hargs, rfl, rfl, h0, r0⟩ := trodAll_cons hA
  obtain ⟨v1, vs1, d1, ds1, p1, q1, rfl, rfl, rfl, h1, r1⟩ := trodAll_cons r0
  obtain ⟨v2, vs2, d2, ds2, p2, q2, rfl, rfl, rfl, h2, r2⟩ := trodAll_cons r1
  obtain ⟨v3, vs3, d3, ds3, p3, q3, rfl, rfl, rfl, h3, r3⟩ := trodAll_cons r2
  obtain ⟨v4, vs4, d4, ds4, p4, q4, rfl, rfl, rfl, h4, r4⟩ := trodAll_cons r3
  obtain ⟨rfl, rfl, rfl⟩ := trodAll_nil r4
  obtain rfl : args = #[v0, v1, v2, v3, v4] := by cases args; simp_all
  obtain ⟨rfl, rfl⟩ := trodVars_none hV
  clear hA0
  have a0 := hval 0 22 v0 (by simp) (by simp)
  have a1 := hval 1 3 v1 (by simp) (by simp)
  have a2 := hval 2 3 v2 (by simp) (by simp)
  have a3 := hval 3 9 v3 (by simp) (by simp)
  have a4 := hval 4 3 v4 (by simp) (by simp)
  have b0 := @arg_cell H enc Tryz.prog W 22 base v0 d0 p0 (List Rule) (fun l : List Rule => [.sl 8 (l.map cRule)]) (fun l : List Rule => .sl 8 (l.map cRule)) okRules (no_agg_slice Tryz.underlying22) (fun _ => rfl) rdRules a0 h0
  have b1 := @arg_cell H enc Tryz.prog W 3 base v1 d1 p1 Int cInt I okI (no_agg_int Tryz.underlying3) (fun _ => rfl) rdInt a1 h1
  have b2 := @arg_cell H enc Tryz.prog W 3 base v2 d2 p2 Int cInt I okI (no_agg_int Tryz.underlying3) (fun _ => rfl) rdInt a2 h2
  have b3 := @arg_cell H enc Tryz.prog W 9 base v3 d3 p3 Str cStr S okS (no_agg_str Tryz.underlying9) (fun _ => rfl) (reads_str Tryz.underlying9) a3 h3
  have b4 := @arg_cell H enc Tryz.prog W 3 base v4 d4 p4 Int cInt I okI (no_agg_int Tryz.underlying3) (fun _ => rfl) rdInt a4 h4
  obtain ⟨x0, k0, w0⟩ := b0
  obtain ⟨x1, k1, w1⟩ := b1
  obtain ⟨x2, k2, w2⟩ := b2
  obtain ⟨x3, k3, w3⟩ := b3
  obtain ⟨x4, k4, w4⟩ := b4
  have hH := (holds_use Gs (lRuleEnds_h (law x0 x1 x2 x3 x4 w0 w1 w2 w3 w4)) rfl).2 (Zold W) W [v0, v1, v2, v3, v4] (.cons k0 (.cons k1 (.cons k2 (.cons k3 (.cons k4 (.nil _ _)))))) (fun _ _ h => h) (gw_of hL hsh)
  refine hH.mono fun e W' ⟨x, Z', he, hr, _, _, hb⟩ => ?_
  obtain rfl := repv hr
  exact ⟨_, he, post_true laidOut hW' rfl (by kernel_rfl) (by kernel_rfl) Tryz.underlying4 rfl rfl rfl hb⟩

abbrev wit : Array Value := #[.slice none 0 0, .int .i64 0, .int .i64 0, .string ⟨#[]⟩, .int .i64 0]
theorem laid_met (os : Os) : laidMet Tryz.prog Rows.ruleEndsRow.laid ((laidWorld os).forCall (fun _ _ => 0) ⟨#[], wit, []⟩).memory :=
  laid_any os wit
theorem reads (os : Os) {H : Type} (enc : TypeId × Value → H) : ∃ places, DataW.whole enc Tryz.prog ((laidWorld os).forCall (fun _ _ => 0) ⟨#[], wit, []⟩).memory Tryz.f8.params.toList Rows.ruleEndsSpec.vars false wit.toList 8 = some ([.nil, .lit (.int .i64 0), .lit (.int .i64 0), .lit (.string []), .lit (.int .i64 0)], [], places) :=
  ⟨[], by kernel_rfl⟩

set_option maxRecDepth 100000 in
theorem lifted (os : Os) (started : os.Started) (H : Type) (enc : TypeId × Value → H) (F : Stop.Interp) :
    ReturnsInHanded {} Tryz.checked os 8 .any ((OpenSpec.ofChange Rows.ruleEndsSpec).preRow enc Tryz.prog Tryz.f8 Rows.ruleEndsRow.domain false Rows.ruleEndsRow.laid) (((OpenSpec.ofChange Rows.ruleEndsSpec).at F).post enc Tryz.prog Tryz.f8 false true false false) := by
  obtain ⟨places, hx⟩ := reads os enc
  refine returnsInHanded_of_row (C := Tryz.checked) (s := OpenSpec.ofChange Rows.ruleEndsSpec) own started (by kernel_rfl) Tryz.func8
    (witness_row_atRef (enc := enc) (C := Tryz.checked) false (laidWorld os) wit rfl (by kernel_rfl) (by kernel_rfl) (by kernel_rfl)
      (OpenSpec.preRow_of_cond 8 hx (by kernel_rfl) (fun k hk => by cases hk) (by kernel_rfl) (laid_met os))) ?_
  intro W base args ds gs before hval hW _ _ _ hL hsh _
  exact contract H enc W base args ds gs before hval hW hL hsh

theorem said : Rows.RuleEndsSaid :=
  OpenClaim.holds_of_cond 8 Tryz.f8 rfl rfl rfl rfl rfl rfl rfl ⟨rfl, rfl, rfl, rfl, rfl⟩ rfl rfl rfl rfl rfl (by kernel_rfl) Tryz.func8 (by kernel_rfl)
    (of_decide_eq_true (by kernel_rfl)) (by unfold Func.isWrapper; first | (rw [if_pos (by decide +kernel)]; kernel_rfl) | (rw [if_neg (by decide +kernel)]; exact ⟨rfl, rfl⟩))
    (fun os started H enc _ F => by rw [OpenClaim.pre_eq_preRow]; exact lifted os started H enc F)

theorem plain (f : FuncId) (fn : Func) (hf : Tryz.pinned.checked.prog.funcNamed "archivum/archivumlaw09.RuleEnds" = some f) (hfn : Tryz.pinned.checked.prog.funcs[f]? = some fn) :
    true = Tryz.pinned.checked.prog.looks [] ∧ ∀ (j : Nat) t, fn.params[j]? = some t → Tryz.pinned.checked.prog.wantsStandIn t = false := by
  obtain rfl : f = 8 := Option.some.inj ((show Tryz.prog.funcNamed "archivum/archivumlaw09.RuleEnds" = some 8 by kernel_rfl).symm.trans hf) |>.symm
  obtain rfl : fn = Tryz.f8 := (Option.some.inj (Tryz.func8.symm.trans hfn)).symm
  refine ⟨by kernel_rfl, fun j t ht => ?_⟩
  have hall : Tryz.f8.params.toList.all (fun t => !Tryz.prog.wantsStandIn t) = true := by kernel_rfl
  have hm : t ∈ Tryz.f8.params.toList := by simpa using Array.mem_of_getElem? ht
  have := List.all_eq_true.1 hall t hm
  exact (show Tryz.prog.wantsStandIn t = false by simpa using this)

theorem card : Rows.RuleEndsCardSaid :=
  Claim7.holds_tied_plain_at .later [] _ _ _ _ said (fun _ h => by cases h) (by kernel_rfl) (fun _ h => by cases h) ruleEnds_row_tie rfl ⟨rfl, rfl⟩ (by kernel_rfl) rfl plain (by kernel_rfl)
end Go.Proofs.YtjoacimgcepjdaaGreatDoor.ruleEnds
