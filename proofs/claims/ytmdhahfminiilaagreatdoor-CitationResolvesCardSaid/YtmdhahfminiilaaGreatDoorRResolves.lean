/- The row of archivumlaw50.CitationResolves: for every input it returns true. -/
import Derived.Test.YtmdhahfminiilaaGreatDoorRowTy
import Derived.Test.YtmdhahfminiilaaGreatDoorAw
import Derived.Test.YtmdhahfminiilaaGreatDoorL50V
namespace Go.Proofs.YtmdhahfminiilaaGreatDoor.citationResolves
open Go Go.Abs Go.RowKit Go.ChangeShapes Go.WideShapes Go.ChangeAt

set_option maxRecDepth 100000 in
theorem contract (H : Type) (enc : TypeId × Value → H) (W : World) (base : Nat) (args : Array Value) (ds gs : List (DataW H)) (before : List MemPlace)
    (hval : ∀ (j : Nat) t v, Tryz.f4.params[j]? = some t → args[j]? = some v → Value.okWide Tryz.prog W .any base t v)
    (hW : DataW.Whole enc Tryz.prog Tryz.f4.params.toList Rows.citationResolvesSpec.vars false W args.toList ds gs before) (hL : laidMetH Tryz.prog Rows.citationResolvesRow.laid W) (hsh : W.ShapedOpen Tryz.prog) :
    Calls Tryz.prog 4 args W fun e W' => ∃ v, e = .returned v ∧ Rows.citationResolvesSpec.post enc Tryz.prog Tryz.f4 false true false false W args v W' := by
  have hW' := hW
  obtain ⟨p, q, hA0, hV, rfl, hfz, hnd⟩ := hW
  have hA : DataW.TrodAll enc Tryz.prog W 0 (fun _ => true) true Tryz.f4.params.toList args.toList ds p := hA0
  rw [Tryz.params4] at hA hval
  obtain ⟨v0, vs0, d0, ds0, p0, q0, hargs, rfl, rfl, h0, r0⟩ := trodAll_cons hA
  obtain ⟨v1, vs1, d1, ds1, p1, q1, rfl, rfl, rfl, h1, r1⟩ := trodAll_cons r0
  obtain ⟨v2, vs2, d2, ds2, p2, q2, rfl, rfl, rfl, h2, r2⟩ := trodAll_cons r1
  obtain ⟨v3, vs3, d3, ds3, p3, q3, rfl, rfl, rfl, h3, r3⟩ := trodAll_cons r2
  obtain ⟨rfl, rfl, rfl⟩ := trodAll_nil r3
  obtain rfl : args = #[v0, v1, v2, v3] := by cases args; simp_all
  obtain ⟨rfl, rfl⟩ := trodVars_none hV
  clear hA0
  have a0 := hval 0 22 v0 (by simp) (by simp)
  have a1 := hval 1 3 v1 (by simp) (by simp)
  have a2 := hval 2 3 v2 (by simp) (by simp)
  have a3 := hval 3 9 v3 (by simp) (by simp)
  have b0 := @arg_cell H enc Tryz.prog W 22 base v0 d0 p0 (List Shot) (fun l : List Shot => [.sl 2 (l.map cShot)]) (fun l : List Shot => .sl 2 (l.map cShot)) okShots (no_agg_slice Tryz.underlying22) (fun _ => rfl) rdShots a0 h0
  have b1 := @arg_cell H enc Tryz.prog W 3 base v1 d1 p1 Int cInt I okI (no_agg_int Tryz.underlying3) (fun _ => rfl) rdInt a1 h1
  have b2 := @arg_cell H enc Tryz.prog W 3 base v2 d2 p2 Int cInt I okI (no_agg_int Tryz.underlying3) (fun _ => rfl) rdInt a2 h2
  have b3 := @arg_cell H enc Tryz.prog W 9 base v3 d3 p3 Str cStr S okS (no_agg_str Tryz.underlying9) (fun _ => rfl) (reads_str Tryz.underlying9) a3 h3
  obtain ⟨x0, k0, w0⟩ := b0
  obtain ⟨x1, k1, w1⟩ := b1
  obtain ⟨x2, k2, w2⟩ := b2
  obtain ⟨x3, k3, w3⟩ := b3
  have hH := (holds_use Gs (lCitationResolves_h (law x0 x1 x2 x3 w0 w1 w2 w3)) rfl).2 (Zold W) W [v0, v1, v2, v3] (.cons k0 (.cons k1 (.cons k2 (.cons k3 (.nil _ _))))) (fun _ _ h => h) (gw_of hL hsh)
  refine hH.mono fun e W' ⟨x, Z', he, hr, _, _, hb⟩ => ?_
  obtain rfl := repv hr
  exact ⟨_, he, post_true laidOut hW' rfl (by kernel_rfl) (by kernel_rfl) Tryz.underlying4 rfl rfl rfl hb⟩

abbrev wit : Array Value := #[.slice none 0 0, .int .i64 0, .int .i64 0, .string ⟨#[]⟩]
theorem laid_met (os : Os) : laidMet Tryz.prog Rows.citationResolvesRow.laid ((laidWorld os).forCall (fun _ _ => 0) ⟨#[], wit, []⟩).memory :=
  laid_any os wit
theorem reads (os : Os) {H : Type} (enc : TypeId × Value → H) : ∃ places, DataW.whole enc Tryz.prog ((laidWorld os).forCall (fun _ _ => 0) ⟨#[], wit, []⟩).memory Tryz.f4.params.toList Rows.citationResolvesSpec.vars false wit.toList 8 = some ([.nil, .lit (.int .i64 0), .lit (.int .i64 0), .lit (.string [])], [], places) :=
  ⟨[], by kernel_rfl⟩

set_option maxRecDepth 100000 in
theorem lifted (os : Os) (started : os.Started) (H : Type) (enc : TypeId × Value → H) (F : Stop.Interp) :
    ReturnsInHanded {} Tryz.checked os 4 .any ((OpenSpec.ofChange Rows.citationResolvesSpec).preRow enc Tryz.prog Tryz.f4 Rows.citationResolvesRow.domain false Rows.citationResolvesRow.laid) (((OpenSpec.ofChange Rows.citationResolvesSpec).at F).post enc Tryz.prog Tryz.f4 false true false false) := by
  obtain ⟨places, hx⟩ := reads os enc
  refine returnsInHanded_of_row (C := Tryz.checked) (s := OpenSpec.ofChange Rows.citationResolvesSpec) own started (by kernel_rfl) Tryz.func4
    (witness_row_atRef (enc := enc) (C := Tryz.checked) false (laidWorld os) wit rfl (by kernel_rfl) (by kernel_rfl) (by kernel_rfl)
      (OpenSpec.preRow_of_cond 8 hx (by kernel_rfl) (fun k hk => by cases hk) (by kernel_rfl) (laid_met os))) ?_
  intro W base args ds gs before hval hW _ _ _ hL hsh _
  exact contract H enc W base args ds gs before hval hW hL hsh

theorem said : Rows.CitationResolvesSaid :=
  OpenClaim.holds_of_cond 4 Tryz.f4 rfl rfl rfl rfl rfl rfl rfl ⟨rfl, rfl, rfl, rfl, rfl⟩ rfl rfl rfl rfl rfl (by kernel_rfl) Tryz.func4 (by kernel_rfl)
    (of_decide_eq_true (by kernel_rfl)) (by unfold Func.isWrapper; first | (rw [if_pos (by decide +kernel)]; kernel_rfl) | (rw [if_neg (by decide +kernel)]; exact ⟨rfl, rfl⟩))
    (fun os started H enc _ F => by rw [OpenClaim.pre_eq_preRow]; exact lifted os started H enc F)

theorem plain (f : FuncId) (fn : Func) (hf : Tryz.pinned.checked.prog.funcNamed "archivum/archivumlaw50.CitationResolves" = some f) (hfn : Tryz.pinned.checked.prog.funcs[f]? = some fn) :
    true = Tryz.pinned.checked.prog.looks [] ∧ ∀ (j : Nat) t, fn.params[j]? = some t → Tryz.pinned.checked.prog.wantsStandIn t = false := by
  obtain rfl : f = 4 := Option.some.inj ((show Tryz.prog.funcNamed "archivum/archivumlaw50.CitationResolves" = some 4 by kernel_rfl).symm.trans hf) |>.symm
  obtain rfl : fn = Tryz.f4 := (Option.some.inj (Tryz.func4.symm.trans hfn)).symm
  refine ⟨by kernel_rfl, fun j t ht => ?_⟩
  have hall : Tryz.f4.params.toList.all (fun t => !Tryz.prog.wantsStandIn t) = true := by kernel_rfl
  have hm : t ∈ Tryz.f4.params.toList := by simpa using Array.mem_of_getElem? ht
  have := List.all_eq_true.1 hall t hm
  exact (show Tryz.prog.wantsStandIn t = false by simpa using this)

theorem card : Rows.CitationResolvesCardSaid :=
  Claim7.holds_tied_plain_at .later [] _ _ _ _ said (fun _ h => by cases h) (by kernel_rfl) (fun _ h => by cases h) citationResolves_row_tie rfl ⟨rfl, rfl⟩ (by kernel_rfl) rfl plain (by kernel_rfl)
end Go.Proofs.YtmdhahfminiilaaGreatDoor.citationResolves
