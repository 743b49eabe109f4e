/- The row of archivumlaw06.OfficeBefore: for every input it returns true. -/
import Derived.Test.YtmcolhhmlpicaaaDoorRowTy
import Derived.Test.YtmcolhhmlpicaaaDoorGE
import Derived.Test.YtmcolhhmlpicaaaDoorLBef
namespace Go.Proofs.YtmcolhhmlpicaaaDoor.officeBefore
open Go Go.Abs Go.RowKit Go.ChangeShapes Go.WideShapes Go.ChangeAt

set_option maxRecDepth 100000 in
theorem contract (H : Type) (enc : TypeId × Value → H) (W : World) (base : Nat) (args : Array Value) (ds gs : List (DataW H)) (before : List MemPlace)
    (hval : ∀ (j : Nat) t v, Tryd.f8.params[j]? = some t → args[j]? = some v → Value.okWide Tryd.prog W .any base t v)
    (hW : DataW.Whole enc Tryd.prog Tryd.f8.params.toList Rows.officeBeforeSpec.vars false W args.toList ds gs before) (hL : laidMetH Tryd.prog Rows.officeBeforeRow.laid W) (hsh : W.ShapedOpen Tryd.prog) :
    Calls Tryd.prog 8 args W fun e W' => ∃ v, e = .returned v ∧ Rows.officeBeforeSpec.post enc Tryd.prog Tryd.f8 false true false false W args v W' := by
  have hW' := hW
  obtain ⟨p, q, hA0, hV, rfl, hfz, hnd⟩ := hW
  have hA : DataW.TrodAll enc Tryd.prog W 0 (fun _ => true) true Tryd.f8.params.toList args.toList ds p := hA0
  rw [Tryd.params8] at hA hval
  obtain ⟨v0, vs0, d0, ds0, p0, q0, hargs, rfl, rfl, h0, r0⟩ := trodAll_cons hA
  obtain ⟨v1, vs1, d1, ds1, p1, q1, rfl, rfl, rfl, h1, r1⟩ := trodAll_cons r0
  obtain ⟨v2, vs2, d2, ds2, p2, q2, rfl, rfl, rfl, h2, r2⟩ := trodAll_cons r1
  obtain ⟨v3, vs3, d3, ds3, p3, q3, rfl, rfl, rfl, h3, r3⟩ := trodAll_cons r2
  obtain ⟨v4, vs4, d4, ds4, p4, q4, rfl, rfl, rfl, h4, r4⟩ := trodAll_cons r3
  obtain ⟨v5, vs5, d5, ds5, p5, q5, rfl, rfl, rfl, h5, r5⟩ := trodAll_cons r4
  obtain ⟨rfl, rfl, rfl⟩ := trodAll_nil r5
  obtain rfl : args = #[v0, v1, v2, v3, v4, v5] := by cases args; simp_all
  obtain ⟨rfl, rfl⟩ := trodVars_none hV
  clear hA0
  have a0 := hval 0 22 v0 (by simp) (by simp)
  have a1 := hval 1 3 v1 (by simp) (by simp)
  have a2 := hval 2 3 v2 (by simp) (by simp)
  have a3 := hval 3 28 v3 (by simp) (by simp)
  have a4 := hval 4 3 v4 (by simp) (by simp)
  have a5 := hval 5 3 v5 (by simp) (by simp)
  have b0 := @arg_cell H enc Tryd.prog W 22 base v0 d0 p0 (List Off) (fun l : List Off => [.sl 5 (l.map cOff)]) (fun l : List Off => .sl 5 (l.map cOff)) okOffs (no_agg_slice Tryd.underlying22) (fun _ => rfl) rdOffs a0 h0
  have b1 := @arg_cell H enc Tryd.prog W 3 base v1 d1 p1 Int cInt I okI (no_agg_int Tryd.underlying3) (fun _ => rfl) rdInt a1 h1
  have b2 := @arg_cell H enc Tryd.prog W 3 base v2 d2 p2 Int cInt I okI (no_agg_int Tryd.underlying3) (fun _ => rfl) rdInt a2 h2
  have b3 := @arg_cell H enc Tryd.prog W 28 base v3 d3 p3 (List Int) (fun l : List Int => [.sl 1 (l.map cInt)]) (fun l : List Int => .sl 1 (l.map cInt)) okInts (no_agg_slice Tryd.underlying28) (fun _ => rfl) rdInts a3 h3
  have b4 := @arg_cell H enc Tryd.prog W 3 base v4 d4 p4 Int cInt I okI (no_agg_int Tryd.underlying3) (fun _ => rfl) rdInt a4 h4
  have b5 := @arg_cell H enc Tryd.prog W 3 base v5 d5 p5 Int cInt I okI (no_agg_int Tryd.underlying3) (fun _ => rfl) rdInt a5 h5
  obtain ⟨x0, k0, w0⟩ := b0
  obtain ⟨x1, k1, w1⟩ := b1
  obtain ⟨x2, k2, w2⟩ := b2
  obtain ⟨x3, k3, w3⟩ := b3
  obtain ⟨x4, k4, w4⟩ := b4
  obtain ⟨x5, k5, w5⟩ := b5
  have hH := (holds_use Gs (lOfficeBefore_h (law x0 x1 x2 x3 x4 x5 w0 w1 w2 w3 w4 w5)) rfl).2 (Zold W) W [v0, v1, v2, v3, v4, v5] (.cons k0 (.cons k1 (.cons k2 (.cons k3 (.cons k4 (.cons k5 (.nil _ _))))))) (fun _ _ h => h) (gw_of hL hsh)
  refine hH.mono fun e W' ⟨x, Z', he, hr, _, _, hb⟩ => ?_
  obtain rfl := repv hr
  exact ⟨_, he, post_true laidOut hW' rfl (by kernel_rfl) (by kernel_rfl) Tryd.underlying4 rfl rfl rfl hb⟩

abbrev wit : Array Value := #[.slice none 0 0, .int .i64 0, .int .i64 0, .slice none 0 0, .int .i64 0, .int .i64 0]
theorem laid_met (os : Os) : laidMet Tryd.prog Rows.officeBeforeRow.laid ((laidWorld os).forCall (fun _ _ => 0) ⟨#[], wit, []⟩).memory :=
  laidMet_of_run' 8 (by kernel_rfl) (by kernel_rfl)
theorem reads (os : Os) {H : Type} (enc : TypeId × Value → H) : ∃ places, DataW.whole enc Tryd.prog ((laidWorld os).forCall (fun _ _ => 0) ⟨#[], wit, []⟩).memory Tryd.f8.params.toList Rows.officeBeforeSpec.vars false wit.toList 8 = some ([.nil, .lit (.int .i64 0), .lit (.int .i64 0), .nil, .lit (.int .i64 0), .lit (.int .i64 0)], [], places) :=
  ⟨[], by kernel_rfl⟩

set_option maxRecDepth 100000 in
theorem lifted (os : Os) (started : os.Started) (H : Type) (enc : TypeId × Value → H) (F : Stop.Interp) :
    ReturnsInHanded {} Tryd.checked os 8 .any ((OpenSpec.ofChange Rows.officeBeforeSpec).preRow enc Tryd.prog Tryd.f8 Rows.officeBeforeRow.domain false Rows.officeBeforeRow.laid) (((OpenSpec.ofChange Rows.officeBeforeSpec).at F).post enc Tryd.prog Tryd.f8 false true false false) := by
  obtain ⟨places, hx⟩ := reads os enc
  refine returnsInHanded_of_row (C := Tryd.checked) (s := OpenSpec.ofChange Rows.officeBeforeSpec) own started (by kernel_rfl) Tryd.func8
    (witness_row_atRef (enc := enc) (C := Tryd.checked) false (laidWorld os) wit rfl (by kernel_rfl) (by kernel_rfl) (by kernel_rfl)
      (OpenSpec.preRow_of_cond 8 hx (by kernel_rfl) (fun k hk => by cases hk) (by kernel_rfl) (laid_met os))) ?_
  intro W base args ds gs before hval hW _ _ _ hL hsh _
  exact contract H enc W base args ds gs before hval hW hL hsh

theorem said : Rows.OfficeBeforeSaid :=
  OpenClaim.holds_of_cond 8 Tryd.f8 rfl rfl rfl rfl rfl rfl rfl ⟨rfl, rfl, rfl, rfl, rfl⟩ rfl rfl rfl rfl rfl (by kernel_rfl) Tryd.func8 (by kernel_rfl)
    (of_decide_eq_true (by kernel_rfl)) (by unfold Func.isWrapper; first | (rw [if_pos (by decide +kernel)]; kernel_rfl) | (rw [if_neg (by decide +kernel)]; exact ⟨rfl, rfl⟩))
    (fun os started H enc _ F => by rw [OpenClaim.pre_eq_preRow]; exact lifted os started H enc F)

theorem plain (f : FuncId) (fn : Func) (hf : Tryd.pinned.checked.prog.funcNamed "archivum/archivumlaw06.OfficeBefore" = some f) (hfn : Tryd.pinned.checked.prog.funcs[f]? = some fn) :
    false = Tryd.pinned.checked.prog.looks [] ∧ ∀ (j : Nat) t, fn.params[j]? = some t → Tryd.pinned.checked.prog.wantsStandIn t = false := by
  obtain rfl : f = 8 := Option.some.inj ((show Tryd.prog.funcNamed "archivum/archivumlaw06.OfficeBefore" = some 8 by kernel_rfl).symm.trans hf) |>.symm
  obtain rfl : fn = Tryd.f8 := (Option.some.inj (Tryd.func8.symm.trans hfn)).symm
  refine ⟨by kernel_rfl, fun j t ht => ?_⟩
  have hall : Tryd.f8.params.toList.all (fun t => !Tryd.prog.wantsStandIn t) = true := by kernel_rfl
  have hm : t ∈ Tryd.f8.params.toList := by simpa using Array.mem_of_getElem? ht
  have := List.all_eq_true.1 hall t hm
  exact (show Tryd.prog.wantsStandIn t = false by simpa using this)

theorem card : Rows.OfficeBeforeCardSaid :=
  Claim7.holds_tied_plain_at .later [] _ _ _ _ said (fun _ h => by cases h) (by kernel_rfl) (fun _ h => by cases h) officeBefore_row_tie rfl ⟨rfl, rfl⟩ (by kernel_rfl) rfl plain (by kernel_rfl)
end Go.Proofs.YtmcolhhmlpicaaaDoor.officeBefore
