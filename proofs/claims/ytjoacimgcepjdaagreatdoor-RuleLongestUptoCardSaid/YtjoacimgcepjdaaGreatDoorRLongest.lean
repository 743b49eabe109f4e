/- The row of archivumlaw09.RuleLongest: for every input it returns true. -/
import Derived.Test.YtjoacimgcepjdaaGreatDoorBulkRow
import Derived.Test.YtjoacimgcepjdaaGreatDoorLApply
import Derived.Test.YtjoacimgcepjdaaGreatDoorLLongest
namespace Go.Proofs.YtjoacimgcepjdaaGreatDoor.ruleLongest
open Go Go.Abs Go.RowKit Go.ChangeShapes Go.WideShapes Go.ChangeAt

set_option maxRecDepth 100000 in
theorem contract (H : Type) (enc : TypeId × Value → H) (W : World) (base : Nat) (args : Array Value) (ds gs : List (DataW H)) (before : List MemPlace)
    (hval : ∀ (j : Nat) t v, Tryz.f6.params[j]? = some t → args[j]? = some v → Value.okWide Tryz.prog W .any base t v)
    (hW : DataW.Whole enc Tryz.prog Tryz.f6.params.toList Rows.ruleLongestSpec.vars false W args.toList ds gs before) (hL : laidMetH Tryz.prog Rows.ruleLongestUptoRow.laid W) (hsh : W.ShapedOpen Tryz.prog) (hk : Rows.uptoSmall H (ds ++ gs) = true) :
    Calls Tryz.prog 6 args W fun e W' => ∃ v, e = .returned v ∧ Rows.ruleLongestSpec.post enc Tryz.prog Tryz.f6 false true false false W args v W' := by
  have hW' := hW
  obtain ⟨p, q, hA0, hV, rfl, hfz, hnd⟩ := hW
  have hA : DataW.TrodAll enc Tryz.prog W 0 (fun _ => true) true Tryz.f6.params.toList args.toList ds p := hA0
  rw [Tryz.params6] at hA hval
  obtain ⟨v0, vs0, d0, ds0, p0, q0, hargs, rfl, rfl, h0, r0⟩ := trodAll_cons hA
  obtain ⟨v1, vs1, d1, ds1, p1, q1, rfl, rfl, rfl, h1, r1⟩ := trodAll_cons r0
  obtain ⟨v2, vs2, d2, ds2, p2, q2, rfl, rfl, rfl, h2, r2⟩ := trodAll_cons r1
  obtain ⟨rfl, rfl, rfl⟩ := trodAll_nil r2
  obtain rfl : args = #[v0, v1, v2] := by cases args; simp_all
  obtain ⟨rfl, rfl⟩ := trodVars_none hV
  clear hA0
  have a0 := hval 0 22 v0 (by simp) (by simp)
  have a1 := hval 1 9 v1 (by simp) (by simp)
  have a2 := hval 2 3 v2 (by simp) (by simp)
  have hb0 : Rows.uptoBulk d0 ≤ 1048576 := Nat.le_trans (bulk_mem (l := [d0, d1, d2] ++ []) (by simp)) (of_decide_eq_true hk)
  have b0 := @barg_cell H enc Tryz.prog W 1048576 22 base v0 d0 p0 (List Rule) (fun l : List Rule => [.sl 8 (l.map cRule)]) (fun l : List Rule => .sl 8 (l.map cRule)) _ (no_agg_slice Tryz.underlying22) (fun _ => rfl) bdRules hb0 a0 h0
  have b1 := @arg_cell H enc Tryz.prog W 9 base v1 d1 p1 Str cStr S okS (no_agg_str Tryz.underlying9) (fun _ => rfl) (reads_str Tryz.underlying9) a1 h1
  have b2 := @arg_cell H enc Tryz.prog W 3 base v2 d2 p2 Int cInt I okI (no_agg_int Tryz.underlying3) (fun _ => rfl) rdInt a2 h2
  obtain ⟨x0, k0, w0⟩ := b0
  obtain ⟨x1, k1, w1⟩ := b1
  obtain ⟨x2, k2, w2⟩ := b2
  have hH := (holds_use Gs (lRuleLongest_h (law x0 x1 x2 w0.1 (fun r hr => ⟨Nat.le_trans (w0.2 r hr).2.1 (by decide), Nat.le_trans (w0.2 r hr).2.2.1 (by decide)⟩))) rfl).2 (Zold W) W [v0, v1, v2] (.cons k0 (.cons k1 (.cons k2 (.nil _ _)))) (fun _ _ h => h) (gw_of hL hsh)
  refine hH.mono fun e W' ⟨x, Z', he, hr, _, _, hb⟩ => ?_
  obtain rfl := repv hr
  exact ⟨_, he, post_true laidOut hW' rfl (by kernel_rfl) (by kernel_rfl) Tryz.underlying4 rfl rfl rfl hb⟩

abbrev wit : Array Value := #[.slice none 0 0, .string ⟨#[]⟩, .int .i64 0]
theorem laid_met (os : Os) : laidMet Tryz.prog Rows.ruleLongestUptoRow.laid ((laidWorld os).forCall (fun _ _ => 0) ⟨#[], wit, []⟩).memory :=
  laid_any os wit
theorem reads (os : Os) {H : Type} (enc : TypeId × Value → H) : ∃ places, DataW.whole enc Tryz.prog ((laidWorld os).forCall (fun _ _ => 0) ⟨#[], wit, []⟩).memory Tryz.f6.params.toList Rows.ruleLongestSpec.vars false wit.toList 8 = some ([.nil, .lit (.string []), .lit (.int .i64 0)], [], places) :=
  ⟨[], by kernel_rfl⟩

set_option maxRecDepth 100000 in
theorem lifted (os : Os) (started : os.Started) (H : Type) (enc : TypeId × Value → H) (F : Stop.Interp) :
    ReturnsInHanded {} Tryz.checked os 6 .any ((Rows.OpenSpec.upto Rows.ruleLongestSpec).preRow enc Tryz.prog Tryz.f6 Rows.ruleLongestUptoRow.domain false Rows.ruleLongestUptoRow.laid) (((Rows.OpenSpec.upto Rows.ruleLongestSpec).at F).post enc Tryz.prog Tryz.f6 false true false false) := by
  obtain ⟨places, hx⟩ := reads os enc
  refine returnsInHanded_of_row (C := Tryz.checked) (s := Rows.OpenSpec.upto Rows.ruleLongestSpec) own started (by kernel_rfl) Tryz.func6
    (witness_row_atRef (enc := enc) (C := Tryz.checked) false (laidWorld os) wit rfl (by kernel_rfl) (by kernel_rfl) (by kernel_rfl)
      (OpenSpec.preRow_of_cond 8 hx (by kernel_rfl) (fun k hk => by cases hk; kernel_rfl) (by kernel_rfl) (laid_met os))) ?_
  intro W base args ds gs before hval hW _ hcond _ hL hsh _
  exact contract H enc W base args ds gs before hval hW hL hsh (hcond _ rfl)

theorem said : Rows.RuleLongestUptoSaid :=
  OpenClaim.holds_of_cond 6 Tryz.f6 rfl rfl rfl rfl rfl rfl rfl ⟨rfl, rfl, rfl, rfl, rfl⟩ rfl rfl rfl rfl rfl (by kernel_rfl) Tryz.func6 (by kernel_rfl)
    (of_decide_eq_true (by kernel_rfl)) (by unfold Func.isWrapper; first | (rw [if_pos (by decide +kernel)]; kernel_rfl) | (rw [if_neg (by decide +kernel)]; exact ⟨rfl, rfl⟩))
    (fun os started H enc _ F => by rw [OpenClaim.pre_eq_preRow]; exact lifted os started H enc F)

theorem plain (f : FuncId) (fn : Func) (hf : Tryz.pinned.checked.prog.funcNamed "archivum/archivumlaw09.RuleLongest" = some f) (hfn : Tryz.pinned.checked.prog.funcs[f]? = some fn) :
    true = Tryz.pinned.checked.prog.looks [] ∧ ∀ (j : Nat) t, fn.params[j]? = some t → Tryz.pinned.checked.prog.wantsStandIn t = false := by
  obtain rfl : f = 6 := Option.some.inj ((show Tryz.prog.funcNamed "archivum/archivumlaw09.RuleLongest" = some 6 by kernel_rfl).symm.trans hf) |>.symm
  obtain rfl : fn = Tryz.f6 := (Option.some.inj (Tryz.func6.symm.trans hfn)).symm
  refine ⟨by kernel_rfl, fun j t ht => ?_⟩
  have hall : Tryz.f6.params.toList.all (fun t => !Tryz.prog.wantsStandIn t) = true := by kernel_rfl
  have hm : t ∈ Tryz.f6.params.toList := by simpa using Array.mem_of_getElem? ht
  have := List.all_eq_true.1 hall t hm
  exact (show Tryz.prog.wantsStandIn t = false by simpa using this)

theorem card : Rows.RuleLongestUptoCardSaid :=
  Claim7.holds_tied_plain_at .later [] _ _ _ _ said (fun _ h => by cases h) (by kernel_rfl) (fun _ h => by cases h) ruleLongestUpto_row_tie rfl ⟨rfl, rfl⟩ (by kernel_rfl) rfl plain (by kernel_rfl)
end Go.Proofs.YtjoacimgcepjdaaGreatDoor.ruleLongest
