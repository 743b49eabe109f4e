/- The row of archivumtop.TopMarksUnique: for every input it returns true. -/
import Derived.Test.YtibiibjbmhckgaaGreatDoorQF
import Derived.Test.YtibiibjbmhckgaaGreatDoorQ7
set_option linter.unusedVariables false
set_option linter.unusedSimpArgs false
namespace Go.Proofs.YtibiibjbmhckgaaGreatDoor.topMarksUnique
open Go Go.F7 Go.RowKit Go.ChangeShapes Go.WideShapes Go.ChangeAt Proofs.Tryz
set_option maxRecDepth 100000 in
theorem contract(H:Type)(enc:TypeId×Value->H)(W:World)(base:Nat)(args:S9)(ds gs:List (DataW H))(before:List MemPlace)
 (hval:∀(j:Nat) t v,Tryz.f4.params[j]?=some t->args[j]?=some v->Value.okWide prog W .any base t v)
 (hW:DataW.Whole enc prog Tryz.f4.params.toList Rows.topMarksUniqueSpec.vars false W args.toList ds gs before) (hL:laidMetH prog Rows.topMarksUniqueRow.laid W) (hsh:W.ShapedOpen prog):
 Calls prog 4 args W λe W'=>∃v,e=.returned v/\Rows.topMarksUniqueSpec.post enc prog Tryz.f4 false true false false W args v W':=by
 have hW':=hW;obtain⟨p,q,hA0,hV,rfl,hfz,hnd⟩:=hW;have hA:DataW.TrodAll enc prog W 0 (λ_=>true) true Tryz.f4.params.toList args.toList ds p:=hA0;rw[Tryz.params4]at hA hval;obtain⟨v0,vs0,d0,ds0,p0,q0,hargs,rfl,rfl,h0,r0⟩:=trodAll_cons hA;obtain⟨rfl,rfl,rfl⟩:=trodAll_nil r0;obtain rfl:args=#[v0]:=by cases args;simp_all
 obtain⟨rfl,rfl⟩:=trodVars_none hV;clear hA0;have a0:=hval 0 22 v0 (by simp) (by simp);have b0:=@cr1 H enc prog W 22 base v0 d0 p0 F5 (λl:F5=>[.sl 12 (l.map G7)]) (λl:F5=>.sl 12 (l.map G7)) aV8 (c42 underlying22) (λ_=>rfl) dd7 a0 h0;obtain⟨x0,k0,w0⟩:=b0;have hH:=(cN6 Gs (cU3 (topMarksUnique.law x0 w0)) rfl).2 (RS W) W [v0] (.cons k0 (.nil _ _)) (λ_ _ h=>h) (cI3 hL hsh);refine hH.mono λe W' ⟨x,Z',he,hr,_,_,hb⟩=>?_;obtain rfl:=vS hr;exact⟨_,he,db3 laidOut hW' rfl (by kernel_rfl) (by kernel_rfl) underlying4 rfl rfl rfl hb⟩
abbrev wit:S9:=#[.slice none 0 0]
theorem laid_met(os:Os):laidMet prog Rows.topMarksUniqueRow.laid ((laidWorld os).forCall (λ_ _=>0) ⟨#[],wit,[]⟩).memory:=
 cU5 os wit
theorem reads(os:Os){H:Type}(enc:TypeId×Value->H):∃places,DataW.whole enc prog ((laidWorld os).forCall (λ_ _=>0) ⟨#[],wit,[]⟩).memory Tryz.f4.params.toList Rows.topMarksUniqueSpec.vars false wit.toList 8=some ([.nil],[],places):=
 ⟨[],by kernel_rfl⟩
set_option maxRecDepth 100000 in
theorem lifted(os:Os)(started:os.Started)(H:Type)(enc:TypeId×Value->H)(F:Stop.Interp):
 ReturnsInHanded {} Tryz.checked os 4 .any ((OpenSpec.ofChange Rows.topMarksUniqueSpec).preRow enc prog Tryz.f4 Rows.topMarksUniqueRow.domain false Rows.topMarksUniqueRow.laid) (((OpenSpec.ofChange Rows.topMarksUniqueSpec).at F).post enc prog Tryz.f4 false true false false):=by
 obtain⟨places,hx⟩:=reads os enc;refine returnsInHanded_of_row (C:=Tryz.checked) (s:=OpenSpec.ofChange Rows.topMarksUniqueSpec) own started (by kernel_rfl) func4
  (witness_row_atRef (enc:=enc) (C:=Tryz.checked) false (laidWorld os) wit rfl (by kernel_rfl) (by kernel_rfl) (by kernel_rfl)
    (OpenSpec.preRow_of_cond 8 hx (by kernel_rfl) (λk hk=>by cases hk) (by kernel_rfl) (laid_met os))) ?_
 intro W base args ds gs before hval hW _ _ _ hL hsh _;exact contract H enc W base args ds gs before hval hW hL hsh
theorem said:Rows.TopMarksUniqueSaid:=
 OpenClaim.holds_of_cond 4 Tryz.f4 rfl rfl rfl rfl rfl rfl rfl ⟨rfl,rfl,rfl,rfl,rfl⟩ rfl rfl rfl rfl rfl (by kernel_rfl) func4 cG0
  (iR (by kernel_rfl)) (by unfold Func.isWrapper;first|(rw[I9 (by decide+kernel)];kernel_rfl)|(rw[H7 (by decide+kernel)];exact⟨rfl,rfl⟩))
  (λos started H enc _ F=>by rw[OpenClaim.pre_eq_preRow];exact lifted os started H enc F)
theorem plain(f:FuncId)(fn:Func)(hf:Tryz.pinned.checked.prog.funcNamed "archivum/archivumtop.TopMarksUnique" =some f)(hfn:Tryz.pinned.checked.prog.funcs[f]?=some fn):
 false=Tryz.pinned.checked.prog.looks []/\∀(j:Nat) t,fn.params[j]?=some t->Tryz.pinned.checked.prog.wantsStandIn t=false:=by
 obtain rfl:f=4:=jJ ((show prog.funcNamed "archivum/archivumtop.TopMarksUnique" =some 4 by kernel_rfl).symm.trans hf) |>.symm;obtain rfl:fn=Tryz.f4:=(jJ (func4.symm.trans hfn)).symm;refine⟨by kernel_rfl,λj t ht=>?_⟩;have hall:Tryz.f4.params.toList.all (λt=> !prog.wantsStandIn t)=true:=by kernel_rfl
 have hm:t∈Tryz.f4.params.toList:=by simpa using Array.mem_of_getElem? ht
 have:=oW.1 hall t hm;exact(show prog.wantsStandIn t=false by simpa using this)
theorem card:Rows.TopMarksUniqueCardSaid:=
 Claim7.holds_tied_plain_at .later [] _ _ _ _ said (λ_ h=>by cases h) (by kernel_rfl) (λ_ h=>by cases h) topMarksUnique_row_tie rfl ⟨rfl,rfl⟩ (by kernel_rfl) rfl plain (cH9 rfl)
end Go.Proofs.YtibiibjbmhckgaaGreatDoor.topMarksUnique
