/- The row of archivumtop.TopUndone: for every input it returns true. -/
import Derived.Test.YtibiibjbmhckgaaGreatDoorPF
import Derived.Test.YtibiibjbmhckgaaGreatDoorPG
import Derived.Test.YtibiibjbmhckgaaGreatDoorP7
set_option linter.unusedVariables false
set_option linter.unusedSimpArgs false
namespace Go.Proofs.YtibiibjbmhckgaaGreatDoor.topUndone
open Go Go.F6 Go.RowKit Go.ChangeShapes Go.WideShapes Go.ChangeAt Proofs.Tryz
set_option maxRecDepth 100000 in
theorem contract(H:Type)(enc:TypeId×Value->H)(W:World)(base:Nat)(args:Array Value)(ds gs:List (DataW H))(before:List MemPlace)
 (hval:∀(j:Nat) t v,Tryz.f3.params[j]?=some t->args[j]?=some v->Value.okWide prog W .any base t v)
 (hW:DataW.Whole enc prog Tryz.f3.params.toList Rows.topUndoneSpec.vars false W args.toList ds gs before) (hL:laidMetH prog Rows.topUndoneRow.laid W) (hsh:W.ShapedOpen prog):
 Calls prog 3 args W λe W'=>∃v,e=.returned v/\Rows.topUndoneSpec.post enc prog Tryz.f3 false true false false W args v W':=by
 have hW':=hW;obtain⟨p,q,hA0,hV,rfl,hfz,hnd⟩:=hW;have hA:DataW.TrodAll enc prog W 0 (λ_=>true) true Tryz.f3.params.toList args.toList ds p:=hA0;rw[Tryz.params3]at hA hval;obtain⟨v0,vs0,d0,ds0,p0,q0,hargs,rfl,rfl,h0,r0⟩:=trodAll_cons hA;obtain⟨v1,vs1,d1,ds1,p1,q1,rfl,rfl,rfl,h1,r1⟩:=trodAll_cons r0;obtain⟨rfl,rfl,rfl⟩:=trodAll_nil r1;obtain rfl:args=#[v0,v1]:=by cases args;simp_all
 obtain⟨rfl,rfl⟩:=trodVars_none hV;clear hA0;have a0:=hval 0 22 v0 (by simp) (by simp);have a1:=hval 1 5 v1 (by simp) (by simp);have b0:=@bf6 H enc prog W 22 base v0 d0 p0 (List Opn) (λl:List Opn=>[.sl 12 (l.map F7)]) (λl:List Opn=>.sl 12 (l.map F7)) aP2 (cV3 underlying22) (λ_=>rfl) c67 a0 h0;have b1:=@bf6 H enc prog W 5 base v1 d1 p1 Int (λn=>[.v (.int .u8 n)]) (λn=>.v (.int .u8 n)) am9 (cV2 underlying5) (λ_=>rfl) c69 a1 h1;obtain⟨x0,k0,w0⟩:=b0;obtain⟨x1,k1,w1⟩:=b1;have hH:=(cH8 Gs (cO1 (topUndone.law x0 x1 w0 w1)) rfl).2 (NW W) W [v0,v1] (.cons k0 (.cons k1 (.nil _ _))) (λ_ _ h=>h) (cB7 hL hsh);refine hH.mono λe W' ⟨x,Z',he,hr,_,_,hb⟩=>?_;obtain rfl:=sN hr;exact⟨_,he,c35 laidOut hW' rfl (by kernel_rfl) (by kernel_rfl) underlying4 rfl rfl rfl hb⟩
abbrev wit:Array Value:=#[.slice none 0 0,.int .u8 0]
theorem laid_met(os:Os):laidMet prog Rows.topUndoneRow.laid ((laidWorld os).forCall (λ_ _=>0) ⟨#[],wit,[]⟩).memory:=
 cO2 os wit
theorem reads(os:Os){H:Type}(enc:TypeId×Value->H):∃places,DataW.whole enc prog ((laidWorld os).forCall (λ_ _=>0) ⟨#[],wit,[]⟩).memory Tryz.f3.params.toList Rows.topUndoneSpec.vars false wit.toList 8=some ([.nil,.lit (.int .u8 0)],[],places):=
 ⟨[],by kernel_rfl⟩
set_option maxRecDepth 100000 in
theorem lifted(os:Os)(started:os.Started)(H:Type)(enc:TypeId×Value->H)(F:Stop.Interp):
 ReturnsInHanded {} Tryz.checked os 3 .any ((OpenSpec.ofChange Rows.topUndoneSpec).preRow enc prog Tryz.f3 Rows.topUndoneRow.domain false Rows.topUndoneRow.laid) (((OpenSpec.ofChange Rows.topUndoneSpec).at F).post enc prog Tryz.f3 false true false false):=by
 obtain⟨places,hx⟩:=reads os enc;refine returnsInHanded_of_row (C:=Tryz.checked) (s:=OpenSpec.ofChange Rows.topUndoneSpec) own started (by kernel_rfl) func3
  (witness_row_atRef (enc:=enc) (C:=Tryz.checked) false (laidWorld os) wit rfl (by kernel_rfl) (by kernel_rfl) (by kernel_rfl)
    (OpenSpec.preRow_of_cond 8 hx (by kernel_rfl) (λk hk=>by cases hk) (by kernel_rfl) (laid_met os))) ?_
 intro W base args ds gs before hval hW _ _ _ hL hsh _;exact contract H enc W base args ds gs before hval hW hL hsh
theorem said:Rows.TopUndoneSaid:=
 OpenClaim.holds_of_cond 3 Tryz.f3 rfl rfl rfl rfl rfl rfl rfl ⟨rfl,rfl,rfl,rfl,rfl⟩ rfl rfl rfl rfl rfl (by kernel_rfl) func3 cy9
  (gB (by kernel_rfl)) (by unfold Func.isWrapper;first|(rw[I4 (by decide+kernel)];kernel_rfl)|(rw[F9 (by decide+kernel)];exact⟨rfl,rfl⟩))
  (λos started H enc _ F=>by rw[OpenClaim.pre_eq_preRow];exact lifted os started H enc F)
theorem plain(f:FuncId)(fn:Func)(hf:Tryz.pinned.checked.prog.funcNamed "archivum/archivumtop.TopUndone" =some f)(hfn:Tryz.pinned.checked.prog.funcs[f]?=some fn):
 false=Tryz.pinned.checked.prog.looks []/\∀(j:Nat) t,fn.params[j]?=some t->Tryz.pinned.checked.prog.wantsStandIn t=false:=by
 obtain rfl:f=3:=iE ((show prog.funcNamed "archivum/archivumtop.TopUndone" =some 3 by kernel_rfl).symm.trans hf) |>.symm;obtain rfl:fn=Tryz.f3:=(iE (func3.symm.trans hfn)).symm;refine⟨by kernel_rfl,λj t ht=>?_⟩;have hall:Tryz.f3.params.toList.all (λt=> !prog.wantsStandIn t)=true:=by kernel_rfl
 have hm:t∈Tryz.f3.params.toList:=by simpa using Array.mem_of_getElem? ht
 have:=nZ.1 hall t hm;exact(show prog.wantsStandIn t=false by simpa using this)
theorem card:Rows.TopUndoneCardSaid:=
 Claim7.holds_tied_plain_at .later [] _ _ _ _ said (λ_ h=>by cases h) (by kernel_rfl) (λ_ h=>by cases h) topUndone_row_tie rfl ⟨rfl,rfl⟩ (by kernel_rfl) rfl plain (dK1 rfl)
end Go.Proofs.YtibiibjbmhckgaaGreatDoor.topUndone
