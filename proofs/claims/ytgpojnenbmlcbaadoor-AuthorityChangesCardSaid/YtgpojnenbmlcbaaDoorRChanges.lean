/- The row of archivumlaw23.AuthorityChanges: for every input it returns true. -/
import Derived.Test.YtgpojnenbmlcbaaDoorRowTy
import Derived.Test.YtgpojnenbmlcbaaDoorGD
import Derived.Test.YtgpojnenbmlcbaaDoorLChg
namespace Go.Proofs.YtgpojnenbmlcbaaDoor.authorityChanges
open Go Go.Abs Go.RowKit Go.ChangeShapes Go.WideShapes Go.ChangeAt

set_option maxRecDepth 100000 in
theorem contract (H : Type) (enc : TypeId × Value → H) (W : World) (base : Nat) (args : Array Value) (ds gs : List (DataW H)) (before : List MemPlace)
    (hval : ∀ (j : Nat) t v, Tryd.f5.params[j]? = some t → args[j]? = some v → Value.okWide Tryd.prog W .any base t v)
    (hW : DataW.Whole enc Tryd.prog Tryd.f5.params.toList Rows.authorityChangesSpec.vars false W args.toList ds gs before) (hL : laidMetH Tryd.prog Rows.authorityChangesRow.laid W) (hsh : W.ShapedOpen Tryd.prog) :
    Calls Tryd.prog 5 args W fun e W' => ∃ v, e = .returned v ∧ Rows.authorityChangesSpec.post enc Tryd.prog Tryd.f5 false true false false W args v W' := by
  have hW' := hW
  obtain ⟨p, q, hA0, hV, rfl, hfz, hnd⟩ := hW
  have hA : DataW.TrodAll enc Tryd.prog W 0 (fun _ => true) true Tryd.f5.params.toList args.toList ds p := hA0
  rw [Tryd.params5] at hA hval
  obtain ⟨v0, vs0, d0, ds0, p0, q0, hargs, rfl, rfl, h0, r0⟩ := trodAll_cons hA
  obtain ⟨v1, vs1, d1, ds1, p1, q1, rfl, rfl, rfl, h1, r1⟩ := trodAll_cons r0
  obtain ⟨v2, vs2, d2, ds2, p2, q2, rfl, rfl, rfl, h2, r2⟩ := trodAll_cons r1
  obtain ⟨v3, vs3, d3, ds3, p3, q3, rfl, rfl, rfl, h3, r3⟩ := trodAll_cons r2
  obtain ⟨rfl, rfl, rfl⟩ := trodAll_nil r3
  obtain rfl : args = #[v0, v1, v2, v3] := by cases args; simp_all
  obtain ⟨rfl, rfl⟩ := trodVars_none hV
  clear hA0
  have a0 := hval 0 22 v0 (by simp) (by simp)
  have a1 := hval 1 3 v1 (by simp) (by simp)
  have a2 := hval 2 3 v2 (by simp) (by simp)
  have a3 := hval 3 9 v3 (by simp) (by simp)
  have b0 := @arg_cell H enc Tryd.prog W 22 base v0 d0 p0 (List Aut) (fun l : List Aut => [.sl 6 (l.map cAut)]) (fun l : List Aut => .sl 6 (l.map cAut)) okAuts (no_agg_slice Tryd.underlying22) (fun _ => rfl) rdAuts a0 h0
  have b1 := @arg_cell H enc Tryd.prog W 3 base v1 d1 p1 Int cInt I okI (no_agg_int Tryd.underlying3) (fun _ => rfl) rdInt a1 h1
  have b2 := @arg_cell H enc Tryd.prog W 3 base v2 d2 p2 Int cInt I okI (no_agg_int Tryd.underlying3) (fun _ => rfl) rdInt a2 h2
  have b3 := @arg_cell H enc Tryd.prog W 9 base v3 d3 p3 Str cStr S okS (no_agg_str Tryd.underlying9) (fun _ => rfl) (reads_str Tryd.underlying9) a3 h3
  obtain ⟨x0, k0, w0⟩ := b0
  obtain ⟨x1, k1, w1⟩ := b1
  obtain ⟨x2, k2, w2⟩ := b2
  obtain ⟨x3, k3, w3⟩ := b3
  have hH := (holds_use Gs (lAuthorityChanges_h (law x0 x1 x2 x3 w0 w1 w2 w3)) rfl).2 (Zold W) W [v0, v1, v2, v3] (.cons k0 (.cons k1 (.cons k2 (.cons k3 (.nil _ _))))) (fun _ _ h => h) (gw_of hL hsh)
  refine hH.mono fun e W' ⟨x, Z', he, hr, _, _, hb⟩ => ?_
  obtain rfl := repv hr
  exact ⟨_, he, post_true laidOut hW' rfl (by kernel_rfl) (by kernel_rfl) Tryd.underlying4 rfl rfl rfl hb⟩

abbrev wit : Array Value := #[.slice none 0 0, .int .i64 0, .int .i64 0, .string ⟨#[]⟩]
theorem laid_met (os : Os) : laidMet Tryd.prog Rows.authorityChangesRow.laid ((laidWorld os).forCall (fun _ _ => 0) ⟨#[], wit, []⟩).memory :=
  laidMet_of_run' 8 (by kernel_rfl) (by kernel_rfl)
theorem reads (os : Os) {H : Type} (enc : TypeId × Value → H) : ∃ places, DataW.whole enc Tryd.prog ((laidWorld os).forCall (fun _ _ => 0) ⟨#[], wit, []⟩).memory Tryd.f5.params.toList Rows.authorityChangesSpec.vars false wit.toList 8 = some ([.nil, .lit (.int .i64 0), .lit (.int .i64 0), .lit (.string [])], [], places) :=
  ⟨[], by kernel_rfl⟩

set_option maxRecDepth 100000 in
theorem lifted (os : Os) (started : os.Started) (H : Type) (enc : TypeId × Value → H) (F : Stop.Interp) :
    ReturnsInHanded {} Tryd.checked os 5 .any ((OpenSpec.ofChange Rows.authorityChangesSpec).preRow enc Tryd.prog Tryd.f5 Rows.authorityChangesRow.domain false Rows.authorityChangesRow.laid) (((OpenSpec.ofChange Rows.authorityChangesSpec).at F).post enc Tryd.prog Tryd.f5 false true false false) := by
  obtain ⟨places, hx⟩ := reads os enc
  refine returnsInHanded_of_row (C := Tryd.checked) (s := OpenSpec.ofChange Rows.authorityChangesSpec) own started (by kernel_rfl) Tryd.func5
    (witness_row_at (enc := enc) (C := Tryd.checked) false (laidWorld os) wit rfl (by kernel_rfl) (by kernel_rfl) (by kernel_rfl)
      (OpenSpec.preRow_of_cond 8 hx (by kernel_rfl) (fun k hk => by cases hk) (by kernel_rfl) (laid_met os))) ?_
  intro W base args ds gs before hval hW _ _ _ hL hsh _
  exact contract H enc W base args ds gs before hval hW hL hsh

theorem said : Rows.AuthorityChangesSaid :=
  OpenClaim.holds_of_cond 5 Tryd.f5 rfl rfl rfl rfl rfl rfl rfl ⟨rfl, rfl, rfl, rfl, rfl⟩ rfl rfl rfl rfl rfl (by kernel_rfl) Tryd.func5 (by kernel_rfl)
    (of_decide_eq_true (by kernel_rfl)) (by unfold Func.isWrapper; first | (rw [if_pos (by decide +kernel)]; kernel_rfl) | (rw [if_neg (by decide +kernel)]; exact ⟨rfl, rfl⟩))
    (fun os started H enc _ F => by rw [OpenClaim.pre_eq_preRow]; exact lifted os started H enc F)

theorem plain (f : FuncId) (fn : Func) (hf : Tryd.pinned.checked.prog.funcNamed "archivum/archivumlaw23.AuthorityChanges" = some f) (hfn : Tryd.pinned.checked.prog.funcs[f]? = some fn) :
    false = Tryd.pinned.checked.prog.looks [] ∧ ∀ (j : Nat) t, fn.params[j]? = some t → Tryd.pinned.checked.prog.wantsStandIn t = false := by
  obtain rfl : f = 5 := Option.some.inj ((show Tryd.prog.funcNamed "archivum/archivumlaw23.AuthorityChanges" = some 5 by kernel_rfl).symm.trans hf) |>.symm
  obtain rfl : fn = Tryd.f5 := (Option.some.inj (Tryd.func5.symm.trans hfn)).symm
  refine ⟨by kernel_rfl, fun j t ht => ?_⟩
  have hall : Tryd.f5.params.toList.all (fun t => !Tryd.prog.wantsStandIn t) = true := by kernel_rfl
  have hm : t ∈ Tryd.f5.params.toList := by simpa using Array.mem_of_getElem? ht
  have := List.all_eq_true.1 hall t hm
  exact (show Tryd.prog.wantsStandIn t = false by simpa using this)

theorem card : Rows.AuthorityChangesCardSaid :=
  Claim7.holds_tied_plain_at .later [] _ _ _ _ said (fun _ h => by cases h) (by kernel_rfl) (fun _ h => by cases h) authorityChanges_row_tie rfl ⟨rfl, rfl⟩ (by kernel_rfl) rfl plain (by kernel_rfl)
end Go.Proofs.YtgpojnenbmlcbaaDoor.authorityChanges
