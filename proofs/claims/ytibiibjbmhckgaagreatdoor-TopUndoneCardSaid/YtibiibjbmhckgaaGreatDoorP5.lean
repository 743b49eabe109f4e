import Derived.Test.YtibiibjbmhckgaaGreatDoorP4
import Derived.Shelf.Spec.SlicesInsertGrow
import Derived.Deep.RegionHeld3
import Derived.Deep.DrawnRows
import Derived.RangeFuncNested
import Derived.RangeFuncBound
set_option linter.unusedVariables false
set_option linter.unusedSimpArgs false
namespace Go.Ev
section
open Go Go.F6 Go.RowKit
section
variable{P:Program}{S:Nat->Prop}{w0:World}{ρ:Ren}{e:Env}{s:St}{a:Act}{w:World}{B m:Nat}
theorem cQ9(R:Loop):Obj.loop R≠jZ:=λh=>nomatch h
theorem Rl.turn(hR:Rl S w0 ρ s w){b q q':Nat}{ps:List Nat}{aA body:Code}{j j':Option Code}{L:Loc}(hb:s.h.get (pa b)=some (.l q e ps aA body j))(hL:ρ b=some L)(hr:s.ro<=b):
 ∃R,w.heap[L.blk]?=some (.loop ((kE q j).put R))/\R.params.toList=ps/\R.assign=aA/\R.body=body/\aB ρ e R.tmps/\Rl S w0 ρ ⟨s.h.set (pa b) (some (.l q' e ps aA body j')),s.nx,s.ro⟩ (w.putObj L.blk (.loop ((kE q' j').put R))):=by
 obtain⟨L',R,h1,h2,h3,h4,h5,h6,h7⟩:=hR.obj _ _ hb;rw[hL]at h1;injection h1 with h1
 subst h1;refine⟨R,h2,h3,h4,h5,h6,hR.putObj (O':=.loop ((kE q' j').put R)) hb hL h2 (cQ9 _) hr ⟨L,R,hL,FT h2,h3,h4,h5,h6,h7⟩ λcs=>by simp⟩
theorem c45(R:Loop)(q:jU):(q.put R).params=R.params/\(q.put R).tmps=R.tmps/\(q.put R).assign=R.assign/\(q.put R).body=R.body/\(q.put R).fn=R.fn:=by cases q<;>exact⟨rfl,rfl,rfl,rfl,rfl⟩
theorem bP7{n:Nat}:∀{ps:List Nat}{args:List AV}{vs:List Value}{e e0:Env}{tm:Array Value},bP6 ps args e=some e0->J8 ρ args vs->aB ρ e tm->tm.size=n->allB (λp=>Nat.blt p n) ps=true->
 ps.length=vs.length/\aB ρ e0 ((ps.zip vs).foldl (λ(t:Array Value) (p:Nat×Value)=>t.setIfInBounds p.1 p.2) tm)/\((ps.zip vs).foldl (λ(t:Array Value) (p:Nat×Value)=>t.setIfInBounds p.1 p.2) tm).size=n
 |[],[],vs,e,e0,tm,h,hv,he,hn,_=>by
  match vs,hv with
  |[],_=>cases h;exact⟨rfl,he,hn⟩
  |_::_,hv=>have:=hv.1;simp at this
 |[],_::_,_,_,_,_,h,_,_,_,_=>by cases h
 |_::_,[],_,_,_,_,h,_,_,_,_=>by cases h
 |p::ps,v::args,vs,e,e0,tm,h,hv,he,hn,hp=>by
  match vs,hv with
  |[],hv=>have:=hv.1;simp at this
  |x::vs,hv=>
   have hx:RV ρ v x:=hv.2 0 v x rfl rfl;have hs:J8 ρ args vs:=⟨by have:=hv.1;simpa using this,λj c y h1 h2=>hv.2 (j+1) c y (by simpa using h1) (by simpa using h2)⟩;have hp0:=yB hp p (by simp);have hps:allB (λp=>Nat.blt p n) ps=true:=by
    have h0:allB (λp=>Nat.blt p n) (p::ps)=bq (Nat.blt p n) (allB (λp=>Nat.blt p n) ps) false:=rfl;rw[h0,hp0]at hp;exact hp
   have he':aB ρ (wG p v e) (tm.setIfInBounds p x):=aB.put (a:={ tmps:=tm,defers:=[] }) (d:=some p) he (by simpa[inRange,hn]using hp0) hx;obtain⟨h1,h2,h3⟩:=bP7 (e:=wG p v e) (e0:=e0) (tm:=tm.setIfInBounds p x) h hs he' (by simpa using hn) hps;exact⟨by simp[h1],h2,h3⟩
theorem c73{r:RC}{k:Ex->Env->St->RO}(h:RC.rec (motive:=λ_=>RO) .no k (λ_=>.no) r≠.no):∃x e s,r=.one x e s/\k x e s≠.no:=by
 cases r with
 |no=>grind
 |one x e s=>grind
 |many l=>grind
theorem cE4{x x':Ex}{e':Env}{s':St}(h:gZ (.one x e s) x' e' s'):x'=x/\e'=e/\s'=s:=by
 rcases h with h|⟨l,h,_⟩
 .grind
 .cases h
def wO:Ex->Option Code
 |.n=>none
 |.r=>some .ret
 |.x id=>some (.exit id)
theorem da8(hR:Rl S w0 ρ s w){b:Nat}{L:Loc}(hL:ρ b=some L){x:Ex}(h:roundEnd b x e s≠.no):
 ∃bl s' w',roundEnd b x e s=.one (.q bl) s'/\(Instr.endRound L.blk (wO x)).run P w=.ok (.bool bl) w'/\Rl S w0 ρ s' w'/\s'.ro=s.ro/\s'.nx=s.nx:=by
 unfold roundEnd at h⊢;split at h
 rotate_left
 .grind
 rename_i e1 ps aA body j hb;have fin:∀(q:Nat)(jo:Option Code)(bl:Bool),setH s b (some (.l q e1 ps aA body jo)) (λs=>RO.one (.q bl) s)≠.no->bl=(wO x).isNone->(∀R:Loop,(kE q jo).put R={ (kE 1 j).put R with state:=if(wO x).isNone then .ready else .done,pending:=wO x })->
  ∃bl' s' w',setH s b (some (.l q e1 ps aA body jo)) (λs=>RO.one (.q bl) s)=.one (.q bl') s'/\(Instr.endRound L.blk (wO x)).run P w=.ok (.bool bl') w'/\Rl S w0 ρ s' w'/\s'.ro=s.ro/\s'.nx=s.nx:=by
  intro q jo bl h1 h2 h3;obtain⟨h4,h5⟩:=qZ h1;obtain⟨R,t1,_,_,_,_,t6⟩:=hR.turn (q':=q) (j':=jo) hb hL h4;refine⟨bl,_,_,h5,?_,t6,rfl,rfl⟩;rw[h3 R,h2];exact run_endRound (P:=P) (wO x) t1
 cases x with
 |n=>exact fin 0 none true h rfl λR=>rfl
 |r=>exact fin 2 (some .ret) false h rfl λR=>rfl
 |x id=>exact fin 2 (some (.exit id)) false h rfl λR=>rfl
theorem db0(hP:oG P){up:Runner}(hup:tK P up){b:Nat}{args:List AV}{vs:List Value}(hv:J8 ρ args vs)(hR:Rl S w ρ s w){L:Loc}(hL:ρ b=some L)(h:ZN up b args s≠.no):
 ∃R:Loop,w.heap[L.blk]?=some (.loop R)/\vs.length=R.params.size/\RoundIn (dG none) 0 P L.blk R.fn ((R.params.zip vs.toArray).foldl (λtmps (t,a)=>tmps.setIfInBounds t a) R.tmps) R.assign R.body w λen w'=>
  ∃v s' ρ' x,en=.returned x/\Has (ZN up b args s) v s'/\Ext ρ ρ'/\Rl S w ρ' s' w'/\s'.ro=s.ro/\s.nx<=s'.nx/\RV ρ' v x:=by
 unfold ZN at h⊢;split at h
 rotate_left
 .grind
 rename_i e1 ps aA body j hb;obtain⟨e0,h1,h2⟩:=I8 h;rw[h2]at h⊢;clear h2;obtain⟨x1,e2,s1,h3,h4⟩:=c73 h;rw[h3]at h⊢;obtain⟨L',R,g1,g2,g3,g4,g5,g6,g7⟩:=hR.obj _ _ hb;rw[hL]at g1;injection g1 with g1
 subst g1;simp only[X3]at g7;obtain⟨⟨⟨⟨k1,k2⟩,k3⟩,k4⟩,k5⟩:=g7;obtain⟨p1,p2,p3,p4,p5⟩:=c45 R (kE 0 j);obtain⟨q1,q2,q3⟩:=bP7 (ρ:=ρ) h1 hv g6 rfl k1;refine⟨_,g2,by rw[p1,<-q1,<-g3];simp,?_⟩;rw[p1,p2,p3,p4,p5,g4,g5];have hfold:((R.params.zip vs.toArray).foldl (λtmps (t,a)=>tmps.setIfInBounds t a) R.tmps)=(ps.zip vs).foldl (λ(tmps:Array Value) (p:Nat×Value)=>tmps.setIfInBounds p.1 p.2) R.tmps:=by
  rw[<-xG,Array.toList_zip,g3]
 rw[hfold];refine roundIn_of_wpIn trivial ?_;have hpre:Pre S w.heap.size R.tmps.size ρ e0 s { tmps:=(ps.zip vs).foldl (λ(tmps:Array Value) (p:Nat×Value)=>tmps.setIfInBounds p.1 p.2) R.tmps,defers:=[] } w:=
  ⟨Ext.refl _,hR,rfl,J6 _,q2,q3,trivial,J6 _⟩
 refine hup aA R.tmps.size k2 (some L.blk) (.inr k4) S w.heap.size ρ e0 s _ w _ hpre (by rw[h3];exact λe=>by cases e) λx e' s' ρ' a' w' hh hp=>?_;rw[h3]at hh;obtain⟨rfl,rfl,rfl⟩:=cE4 hh;replace h:ZO up b body x e' s'≠.no:=h;have e3:(RC.rec (motive:=λ_=>RO) .no (ZO up b body) (λ_=>.no) (RC.one x e' s'):RO)=ZO up b body x e' s':=rfl;rw[e3];unfold ZO at h⊢;split at h
 rotate_left
 .grind
 rename_i e4 ps4 bg0 bd4 j4 hb4;obtain⟨h5,h6⟩:=qZ h;rw[h6]at h⊢;clear h6;obtain⟨h7,h8⟩:=bK6 h;have hL4:=hp.ext b L hL;obtain⟨R4,t1,t2,t3,t4,t5,t6⟩:=hp.rl.turn (q':=1) (j':=none) hb4 hL4 h5;show Exit.then _ _ (yO .n) a' w'
 refine⟨_,run_beginRound (P:=P) t1 rfl,?_⟩;have hk4:Kept (λk=>k≠L.blk) w' (w'.putObj L.blk (.loop ((kE 1 none).put R4))):=⟨rfl,rfl,rfl,by simp,λk hk=>gK hk,λk hk=>(gK (λe=>by rw[e,t1]at hk;exact nomatch hk)).trans hk⟩;have cI1:Pre S w.heap.size R.tmps.size ρ' e' ⟨s'.h.set (pa b) (some (.l 1 e4 ps4 bg0 bd4 none)),s'.nx,s'.ro⟩ a' (w'.putObj L.blk (.loop ((kE 1 none).put R4))):=
  ⟨Ext.refl _,t6.YV,rfl,J6 _,hp.env,hp.sz,hp.bG.kept hk4,by have:=hp.bw;simpa using this⟩
 refine hup body R.tmps.size k3 (some L.blk) (.inr k5) S w.heap.size ρ' e' _ a' _ _ cI1 h7 λx2 e5 s5 ρ5 a5 w5 hh5 XG=>?_;obtain⟨h9,h10⟩:=h8 x2 e5 s5 hh5;have hk5:Rl S w ρ5 s5 w5:=XG.rl.onto t6.kept hR.slt t6.gs;obtain⟨bl,s6,w6,m1,m2,m3,m4,m5⟩:=da8 (P:=P) (w0:=w) hk5 (XG.ext b L hL4) h9;have hgoal:∃v w',(Instr.endRound L.blk (wO x2)).run P w5=.ok v w'/\∃v' s'' UQ x,Ending.returned v=.returned x/\Has (RC.rec (motive:=λ_=>RO) .no (roundEnd b) (λl=>tN (iO (λw=>roundEnd b w.1 w.2.1 w.2.2) l)) (up body e' ⟨s'.h.set (pa b) (some (.l 1 e4 ps4 bg0 bd4 none)),s'.nx,s'.ro⟩)) v' s''/\
  Ext ρ UQ/\Rl S w UQ s'' w'/\s''.ro=s.ro/\s.nx<=s''.nx/\RV UQ v' x:=
  ⟨_,w6,m2,.q bl,s6,ρ5,_,rfl,h10 _ _ (.inl m1),hp.ext.trans XG.ext,m3,(m4.trans XG.ro).trans hp.ro,X4 hp.nx (X4 XG.nx (Nat.le_of_eq m5.symm)),.q bl⟩
 cases x2<;>exact hgoal
theorem dd3(hP:oG P){up:Runner}(hup:tK P up)(o:Oper)(fo:Operand)(args:Array Operand)(tys:Array Nat)(ho:o.op=.call ⟨.value fo,args,tys⟩):aU P o (EM up ⟨.value fo,args,tys⟩):=by
 intro S w0 ρ e s a w next Q h he hR hn
 obtain⟨us,h1,h2⟩:=I8 h;replace h2:EM up ⟨.value fo,args,tys⟩ e s=oR (look fo e) λfv=>ag6 up fv us s:=h2;rw[h2]at h hn;clear h2;obtain⟨fv,h3,h4⟩:=I8 h;rw[h4]at h hn;clear h4;have hv:=al5 h1 he;have hf:=aI h3 he;have uN:args.map a.eval=(args.toList.map a.eval).toArray:=by grind
 obtain⟨dst,op,type,pos,after,guard⟩:=o;simp only at ho;subst ho;rcases dx2 (show a98 fv _ _≠.no from h)with⟨f,fs,cs,rfl⟩|⟨b,rfl⟩
 .have e0:ag6 up (.f f fs cs) us s=aA2 up f (dW fs (dW us cs)) s:=rfl;rw[e0,oI,oI]at h hn;unfold aA2 at h hn;cases hev:aD8 f with
  |some g=>
   rw[hev]at h hn;obtain⟨v,k1,k2⟩:=I8 (show oR (g (fs++(us++cs))) (λa=>RO.one a s)≠.no from h);replace hn:∀v s' ρ' x w',Has (oR (g (fs++(us++cs))) λa=>RO.one a s) v s'->Ext ρ ρ'->Rl S w0 ρ' s' w'->s'.ro=s.ro->s.nx<=s'.nx->RV ρ' v x->next (Act.put a dst x) w':=hn
   generalize hax:a.eval fo=y at hf;cases hf with
   |f _ _ _ vs us' g1 g2 g3 g4=>
    have hall:J8 ρ (fs++(us++cs)) (vs++(args.toList.map a.eval++us')):=J8.append ⟨g1,g3⟩ (hv.append ⟨g2,g4⟩);obtain⟨x,k3,k4⟩:=hP.bn2 f g hev ρ _ v _ w k1 hall (hR.gs w hR.kept);have hE:vs.toArray++args.map a.eval++us'.toArray=(vs++(args.toList.map a.eval++us')).toArray:=by grind
    refine aO (x:=x) (w':=w) ?_ (hn v s ρ x w (.inl k2) (Ext.refl _) hR rfl (J6 _) k4);simp only[execOp,resolve,Deferred.ofValue,hax,invoke,I7,Q5,N9,hE];exact k3
  |none=>
  rw[hev]at h hn;replace h:yG up f (fs++(us++cs)) s≠.no:=h;replace hn:∀v s' ρ' x w',Has (yG up f (fs++(us++cs)) s) v s'->Ext ρ ρ'->Rl S w0 ρ' s' w'->s'.ro=s.ro->s.nx<=s'.nx->RV ρ' v x->next (Act.put a dst x) w':=hn
  obtain⟨⟨fn,hfn,hnm,hbd⟩,hcall⟩:=aA3 hP hup f _ s h;generalize hax:a.eval fo=y at hf;cases hf with
  |f _ _ _ vs us' g1 g2 g3 g4=>
   have hall:J8 ρ (fs++(us++cs)) (vs++(args.toList.map a.eval++us')):=J8.append ⟨g1,g3⟩ (hv.append ⟨g2,g4⟩);have hc:=hcall S ρ _ w hall hR.YV;refine MW (λ_ h=>nomatch h) ?_;have hnm':¬(fn.name= "runtime.NumGoroutine"):=by grind
   have uO:¬(fn.body=none):=λe=>by grind
   have hE:vs.toArray++args.map a.eval++us'.toArray=(vs++(args.toList.map a.eval++us')).toArray:=by grind
   have hrun:(execOp a.eval ⟨dst,.call ⟨.value fo,args,tys⟩,type,pos,after,guard⟩).run P w=.ok (.enter f (vs++(args.toList.map a.eval++us')).toArray) w:=by
    simp only[execOp,resolve,Deferred.ofValue,hax,invoke,callFunc,I7,Q5,N9,hE];simp[Go.program,Sem.run,hfn,hnm',uO]
   unfold Oper.wp;rw[hrun];simp only[Oper.upon];refine hc.mono ?_;rintro en w' ⟨v,s',ρ',x,rfl,q1,q2,q3,q4,q5,q6⟩;exact hn v s' ρ' x w' q1 q2 (q3.onto hR.kept hR.slt hR.gs) q4 q5 q6
 .have e0:ag6 up (.y b) us s=ZN up b us s:=rfl;rw[e0]at h hn;generalize hax:a.eval fo=y at hf;cases hf with
  |y _ L hL=>
   obtain⟨R,g1,g2,g3⟩:=db0 hP hup hv hR.YV hL h;have hy:=run_yield (P:=P) (args:=(args.toList.map a.eval).toArray) g1 (by simpa using g2);have hrun:(execOp a.eval ⟨dst,.call ⟨.value fo,args,tys⟩,type,pos,after,guard⟩).run P w=.ok (.round L.blk R.fn ((R.params.zip (args.toList.map a.eval).toArray).foldl (λtmps (t,a)=>tmps.setIfInBounds t a) R.tmps) R.assign R.body) w:=by
    simp only[execOp,resolve,Deferred.ofValue,hax,invoke,I7,Q5,N9,Array.empty_append,uN];exact hy
   intro τ;refine⟨λ_ _=>trivial,?_⟩;rw[Oper.semAt_eq _ _ (⟨dst,.call ⟨.value fo,args,tys⟩,type,pos,after,guard⟩:Oper) (λ_ h=>nomatch h),hrun];refine⟨λh=>absurd h (by simp[Fence.wide]),?_⟩;refine RoundIn.mono (F:=dG τ) (n:=0) g3 ?_;rintro en w' ⟨v,s',ρ',x,rfl,q1,q2,q3,q4,q5,q6⟩;exact hn v s' ρ' x w' q1 q2 (q3.onto hR.kept hR.slt hR.gs) q4 q5 q6
theorem cZ8{o:Oper}:aU P o (λ_ _=>.no):=λS w0 ρ e s a w next Q h=>absurd rfl h
theorem bG0(hP:oG P){up:Runner}(hup:tK P up)(o:Oper):aU P o (gQ o.op up):=by
 have hT:=hP.ty;have hS:=hP.sk;obtain⟨dst,op,type,pos,after,guard⟩:=o;cases op with
 |move x=>exact bP0 _ x (.inl rfl)
 |assign x=>exact bP0 _ x (.inr rfl)
 |pick c x y=>exact de9 _ c x y rfl
 |alloc t=>exact dc6 hT _ t rfl
 |box t x=>exact dc8 _ t x rfl
 |build t ps=>exact dc9 hT _ t ps rfl
 |buildSlice t n ps=>exact dd0 hT _ t n ps rfl
 |insert t m k v=>exact bO9 hT hS _ t m k v (.inr rfl)
 |load t x=>exact de2 hT _ t x rfl
 |store t x y=>exact df3 hT _ t x y rfl
 |nilCheck x=>exact de8 _ x rfl
 |binOp op t x y u=>exact dc7 hT _ op t x y u rfl
 |unOp op t x=>exact df4 _ op t x rfl
 |convert sr d x=>exact dd4 hT hP.VG _ sr d x rfl
 |makeFunc f a b=>exact de4 _ f a b rfl
 |makeMap t r=>exact de5 _ t r rfl
 |slice t x lo hi mx=>exact df1 hT _ t x lo hi mx rfl
 |fieldAddr t x k=>exact dd9 hT _ t x k rfl
 |field t x k=>exact dd8 hT _ t x k rfl
 |indexAddr t x i=>exact de1 hT _ t x i rfl
 |index t x i=>exact de0 hT _ t x i rfl
 |lookup t m k ok=>exact de3 hT hS _ t m k ok rfl
 |mapUpdate t m k v=>exact bO9 hT hS _ t m k v (.inl rfl)
 |mapEntry t m k=>exact de6 hT hS _ t m k rfl
 |entryStore t m st v=>exact dd6 _ t m st v rfl
 |range t x=>exact df0 hT _ t x rfl
 |next x q=>exact de7 _ x q rfl
 |entry x=>exact dd5 _ x rfl
 |extract x k=>exact dd7 _ x k rfl
 |call c=>
  obtain⟨callee,args,tys⟩:=c;cases callee with
  |builtin b=>exact dd2 hT up _ b args tys rfl
  |value f=>exact dd3 hP hup _ f args tys rfl
  |invoke r m=>exact λS w0 ρ e s a w next Q h=>absurd (by
    show oR (qN args.toList e) (λ_=>RO.no)=.no
    cases qN args.toList e<;>rfl) h
 |_=>exact cZ8
end
def E8(R:Hp->Hp->Prop)(f:St->RO):Prop:=∀s s2:St,R s.h s2.h->(∃v,f s=.one v s/\f s2=.one v s2)\/(f s=.no/\f s2=.no)
section
variable{R:Hp->Hp->Prop}
theorem E8.one(v:AV):E8 R (λs=>.one v s):=λs s2 _=>.inl ⟨v,rfl,rfl⟩
theorem E8.no:E8 R (λ_=>.no):=λs s2 _=>.inr ⟨rfl,rfl⟩
theorem E8.oR{α:Type}(a:Option α){k:α->St->RO}(h:∀x,E8 R (k x)):E8 R (λs=>Ev.oR a λx=>k x s):=by
 cases a with
 |none=>exact E8.no
 |some x=>exact h x
theorem E8.bR(c:Bool){k:St->RO}(h:E8 R k):E8 R (λs=>Ev.bR c (k s)):=by
 cases c with
 |false=>exact E8.no
 |true=>exact h
theorem E8.bq(c:Bool){k k':St->RO}(h:E8 R k)(h':E8 R k'):E8 R (λs=>Ev.bq c (k s) (k' s)):=by
 cases c with
 |false=>exact h'
 |true=>exact h
theorem E8.BG(a:AV){k:IntKind->Nat->St->RO}(h:∀x y,E8 R (k x y)):E8 R (λs=>Ev.BG a λx y=>k x y s):=by cases a<;>first|exact h _ _|exact E8.no
theorem E8.ac6(a:AV){k k':St->RO}(h:E8 R k)(h':E8 R k'):E8 R (λs=>Ev.ac6 a (k s) (k' s)):=by cases a<;>first|exact E8.bq _ h h'|exact E8.no
theorem E8.mQ(a:AV){k:Nat->Nat->St->RO}(h:∀x y,E8 R (k x y)):E8 R (λs=>Ev.mQ a λx y=>k x y s):=by cases a<;>first|exact h _ _|exact E8.no
theorem E8.UK(a:AV){k:Nat->Nat->Nat->Option Nat->St->RO}(h:∀x y z u,E8 R (k x y z u)):E8 R (λs=>Ev.UK a λx y z u=>k x y z u s):=by cases a<;>first|exact h _ _ _ _|exact E8.no
theorem E8.BF(a:AV){k:List AV->St->RO}(h:∀x,E8 R (k x)):E8 R (λs=>Ev.BF a λx=>k x s):=by cases a<;>first|exact h _|exact E8.no
theorem E8.gI(b:Nat){k:Nat->List AV->St->RO}(h:∀x y,E8 Eq (k x y)):E8 Eq (λs=>Ev.gI s b λx y=>k x y s):=by
 intro s s2 he;show(∃v,Ev.oR (s.h.get (pa b)) _=_/\Ev.oR (s2.h.get (pa b)) _=_)\/(Ev.oR (s.h.get (pa b)) _=_/\Ev.oR (s2.h.get (pa b)) _=_);rw[he];cases s2.h.get (pa b)with
 |none=>exact .inr ⟨rfl,rfl⟩
 |some o=>
  cases o with
  |c el cs=>exact h el cs s s2 he
  |_=>exact .inr ⟨rfl,rfl⟩
theorem aQ7(b o:Nat):E8 R (ZG b o):=λs s2 _=>.inl ⟨_,ZH _ _ _,ZH _ _ _⟩
theorem bH9(k:IntKind)(n:Nat):E8 R (ZE k n):=λs s2 _=>.inl ⟨_,ZF _ _ _,ZF _ _ _⟩
theorem aQ8(b o l:Nat)(c:Option Nat):E8 R (ZI b o l c):=λs s2 _=>.inl ⟨_,ap3 _ _ _ _ _,ap3 _ _ _ _ _⟩
end
theorem bH8{op:Op}(h:gG op=0)(up:Runner)(e:Env):E8 (λ_ _=>True) (gQ op up e):=by
 cases op with
 |move x=>exact E8.oR _ λa=>E8.one a
 |assign x=>exact E8.oR _ λa=>E8.one a
 |pick c x y=>exact E8.oR _ λa=>E8.ac6 a (E8.oR _ λa=>E8.one a) (E8.oR _ λa=>E8.one a)
 |build t ps=>exact E8.oR _ λa=>E8.oR _ λz=>E8.oR _ λz=>E8.one _
 |nilCheck x=>exact E8.oR _ λa=>E8.bR _ (E8.one a)
 |binOp op t x y u=>exact E8.oR _ λa=>E8.oR _ λb=>E8.oR _ λr=>E8.one r
 |unOp op t x=>exact E8.oR _ λa=>E8.oR _ λr=>E8.one r
 |makeFunc f fs cs=>
  cases f with
  |func f=>exact E8.oR _ λa=>E8.oR _ λr=>E8.one _
  |_=>exact E8.no
 |fieldAddr t x k=>exact E8.oR _ λa=>E8.oR _ λw=>E8.bR _ (E8.mQ _ λb o=>aQ7 _ _)
 |field t x k=>exact E8.oR _ λa=>E8.oR _ λw=>E8.BF _ λcs=>E8.oR _ λr=>E8.one r
 |indexAddr t x i=>exact E8.oR _ λa=>E8.oR _ λi=>E8.oR _ λw=>E8.oR _ λz=>E8.BG _ λ_ n=>E8.bq _ (E8.UK _ λb o l _=>E8.bR _ (aQ7 _ _)) (E8.oR _ λl=>E8.mQ _ λb o=>E8.bR _ (aQ7 _ _))
 |index t x i=>
  refine E8.oR _ λa=>E8.oR _ λi=>E8.BG _ λ_ n=>E8.bq _ ?_ (E8.oR _ λl=>E8.oR _ λw=>E8.oR _ λz=>E8.BF _ λcs=>E8.bR _ (E8.oR _ λr=>E8.one r));cases a with
  |str l=>exact E8.oR _ λc=>E8.one _
  |_=>exact E8.no
 |extract x k=>
  refine E8.oR _ λa=>?_;cases a with
  |t cs=>exact E8.oR _ λa=>E8.one a
  |_=>exact E8.no
 |call c=>
  exfalso;obtain⟨callee,_,_⟩:=c;cases callee with
  |builtin b=>cases b<;>simp[gG]at h
  |_=>simp[gG]at h
 |_=>simp[gG]at h
theorem c26{op:Op}(h:gG op=1)(up:Runner)(e:Env):E8 Eq (gQ op up e):=by
 cases op with
 |load t x=>exact E8.oR _ λa=>E8.mQ _ λb o=>E8.gI b λ_ cs=>E8.oR _ λv=>E8.one v
 |slice t x lo hi mx=>
  refine E8.bR _ (E8.oR _ λa=>E8.oR _ λlo=>E8.oR _ λhi=>E8.oR _ λmx=>?_);unfold ar6;split
  .exact E8.oR _ λw=>E8.oR _ λr=>E8.one _
  .refine E8.oR _ λz=>E8.oR _ λw=>?_;unfold rowIs;split
   .exact aQ8 _ _ _ _
   .exact E8.gI _ λdK _=>E8.bR _ (aQ8 _ _ _ _)
  .exact E8.oR _ λ_=>E8.oR _ λ_=>E8.one _
  .exact E8.oR _ λz=>E8.oR _ λw=>aQ8 _ _ _ _
  .exact E8.no
 |convert sr d x=>
  refine E8.oR _ λa=>?_;unfold ah6;split
  .unfold ah5;refine E8.oR _ λi=>E8.oR _ λj=>?_;split
   .exact E8.oR _ λz=>E8.bR _ (E8.gI _ λ_ cs=>E8.bR _ (E8.one _))
   .exact E8.oR _ λz=>E8.bR _ (E8.gI _ λel cs=>E8.bR _ (E8.bR _ (E8.bR _ (E8.bR _ (E8.one _)))))
   .exact E8.no
  .exact E8.oR _ λ_=>E8.oR _ λr=>E8.one r
 |lookup t m k ok=>
  refine E8.oR _ λm=>E8.oR _ λk=>E8.bR _ (E8.oR _ λvt=>?_);intro s s2 he;have e1:mapOf s.1 m=mapOf s2.1 m:=by grind
  simp only[e1]
  have:=E8.oR (R:=Eq) (mapOf s2.1 m) (k:=λes s=>oR (WI k es) λr=>match r with
   |some w=>.one (bq ok (.t [w.2,.q true]) w.2) s
   |none=>oR (ND H8 vt) λz=>oR (partT vt z 0) λv=>.one (bq ok (.t [v,.q false]) v) s) (λes=>E8.oR _ λr=>by
    cases r with
    |some w=>exact E8.one _
    |none=>exact E8.oR _ λz=>E8.oR _ λv=>E8.one _)
  exact this s s2 he
 |call c=>
  obtain⟨callee,args,tys⟩:=c;cases callee with
  |builtin b=>
   cases b with
   |len=>
    refine E8.oR _ λvs=>?_;show E8 Eq λs=>jX .len tys.toList vs s;intro s s2 he;unfold jX;split
    .split
     .rename_i t _;refine E8.bR (R:=Eq) (KL t _) (k:=λs=>QE _ s) ?_ s s2 he;intro s s2 he;unfold QE;split
      .exact bH9 _ _ s s2 he
      .grind
      .grind
      .grind
      .dsimp only;rw[show s.1=s2.1 from he];split
       .exact bH9 _ _ s s2 he
       .grind
      .grind
     .grind
    all_goals first|(rename_i hh;cases hh;done)|exact .inr ⟨rfl,rfl⟩
   |_=>simp[gG]at h
  |_=>simp[gG]at h
 |_=>simp[gG]at h
theorem E8.weak{f:St->RO}(h:E8 (λ_ _=>True) f):E8 Eq f:=λs s2 _=>h s s2 trivial
theorem aM0{l:List Operand}{e e':Env}(h:∀x∈l,look x e=look x e'):qN l e=qN l e':=by
 induction l with
 |nil=>rfl
 |cons x l ih=>
  show oB (look x e) (λa=>oB (qN l e) λr=>some (a::r))=oB (look x e') (λa=>oB (qN l e') λr=>some (a::r))
  grind
theorem bI1(at':Nat->Option (Nat×Nat)){ps:List (Nat×Operand)}{e e':Env}(h:∀x∈ps.map (·.2),look x e=look x e'):∀z,zU at' ps e z=zU at' ps e' z:=by
 induction ps with
 |nil=>exact λ_=>rfl
 |cons p ps ih=>
  intro z;have e0:∀e,zU at' (p::ps) e z=oB (at' p.1) λw=>oB (look p.2 e) λa=>bg (Nat.beq (bI (cellsOf a)) w.2) (bg (Nat.ble 1 w.2) (oB (uY w.1 (cellsOf a) z) λz=>zU at' ps e z)):=λ_=>rfl;rw[e0,e0,h p.2 (by simp)];congr 1;funext w;congr 1;funext a;congr 2;congr 1;funext z'
  grind
theorem aP6{o:Option Operand}{e e':Env}(h:∀x∈o.toArray,look x e=look x e'):zS o e=zS o e':=by
 cases o with
 |none=>rfl
 |some x=>show oB (look x e) _=oB (look x e') _;rw[h x (by simp)]
theorem cZ7{op:Op}{up:Runner}{e e':Env}(h:∀x∈op.operands,look x e=look x e')(s:St):gQ op up e s=gQ op up e' s:=by
 cases op with
 |move x=>show zQ x e s=zQ x e' s;unfold zQ;rw[h x (by simp[Op.operands])]
 |assign x=>show zQ x e s=zQ x e' s;unfold zQ;rw[h x (by simp[Op.operands])]
 |pick c x y=>show RS c x y e s=RS c x y e' s;unfold RS;rw[h c (by simp[Op.operands]),h x (by simp[Op.operands]),h y (by simp[Op.operands])]
 |alloc t=>rfl
 |box t x=>show QS t x e s=QS t x e' s;unfold QS;rw[h x (by simp[Op.operands])]
 |build t ps=>show QT t ps e s=QT t ps e' s;unfold QT;simp only[λz w=>bI1 w (ps:=ps.toList) (e:=e) (e':=e') (λx hx=>h x (by simpa[Op.operands]using hx)) z]
 |buildSlice t n ps=>show EL t n ps e s=EL t n ps e' s;unfold EL;simp only[λz w=>bI1 w (ps:=ps.toList) (e:=e) (e':=e') (λx hx=>h x (by simpa[Op.operands]using hx)) z]
 |insert t m k v=>show wS t m k v e s=wS t m k v e' s;unfold wS;rw[h m (by simp[Op.operands]),h k (by simp[Op.operands]),h v (by simp[Op.operands])]
 |load t x=>show RG t x e s=RG t x e' s;unfold RG;rw[h x (by simp[Op.operands])]
 |store t x y=>show RY t x y e s=RY t x y e' s;unfold RY;rw[h x (by simp[Op.operands]),h y (by simp[Op.operands])]
 |nilCheck x=>show RQ x e s=RQ x e' s;unfold RQ;rw[h x (by simp[Op.operands])]
 |binOp op t x y u=>show QO op t x y u e s=QO op t x y u e' s;unfold QO;rw[h x (by simp[Op.operands]),h y (by simp[Op.operands])]
 |unOp op t x=>show RZ op t x e s=RZ op t x e' s;unfold RZ;rw[h x (by simp[Op.operands])]
 |convert sr d x=>show QU sr d x e s=QU sr d x e' s;unfold QU;rw[h x (by simp[Op.operands])]
 |makeFunc f fs cs=>
  show RI f fs cs e s=RI f fs cs e' s;unfold RI;rw[aM0 (l:=fs.toList) (e':=e') λx hx=>h x (by simp[Op.operands];exact .inl (by simpa using hx)),aM0 (l:=cs.toList) (e':=e') λx hx=>h x (by simp[Op.operands];exact .inr (by simpa using hx))]
 |makeMap t r=>rfl
 |slice t x lo hi mx=>
  show RX t x lo hi mx e s=RX t x lo hi mx e' s;unfold RX;rw[h x (by simp[Op.operands]),aP6 (o:=lo) (e':=e') λx hx=>h x (by simp[Op.operands]at hx⊢;simp[hx]),aP6 (o:=hi) (e':=e') λx hx=>h x (by simp[Op.operands]at hx⊢;simp[hx]),aP6 (o:=mx) (e':=e') λx hx=>h x (by simp[Op.operands]at hx⊢;simp[hx])]
 |fieldAddr t x k=>show QZ t x k e s=QZ t x k e' s;unfold QZ;rw[h x (by simp[Op.operands])]
 |field t x k=>show QY t x k e s=QY t x k e' s;unfold QY;rw[h x (by simp[Op.operands])]
 |indexAddr t x i=>show RF t x i e s=RF t x i e' s;unfold RF;rw[h x (by simp[Op.operands]),h i (by simp[Op.operands])]
 |index t x i=>show RD t x i e s=RD t x i e' s;unfold RD;rw[h x (by simp[Op.operands]),h i (by simp[Op.operands])]
 |lookup t m k ok=>show RH t m k ok e s=RH t m k ok e' s;unfold RH;rw[h m (by simp[Op.operands]),h k (by simp[Op.operands])]
 |mapUpdate t m k v=>show wS t m k v e s=wS t m k v e' s;unfold wS;rw[h m (by simp[Op.operands]),h k (by simp[Op.operands]),h v (by simp[Op.operands])]
 |mapEntry t m k=>show RJ t m k e s=RJ t m k e' s;unfold RJ;rw[h m (by simp[Op.operands]),h k (by simp[Op.operands])]
 |entryStore t m st v=>show QW t m st v e s=QW t m st v e' s;unfold QW;rw[h m (by simp[Op.operands]),h st (by simp[Op.operands]),h v (by simp[Op.operands])]
 |range t x=>show RU t x e s=RU t x e' s;unfold RU;rw[h x (by simp[Op.operands])]
 |next x q=>show RN x q e s=RN x q e' s;unfold RN;rw[h x (by simp[Op.operands])]
 |entry x=>show QV x e s=QV x e' s;unfold QV;rw[h x (by simp[Op.operands])]
 |extract x k=>show QX x k e s=QX x k e' s;unfold QX;rw[h x (by simp[Op.operands])]
 |call c=>
  obtain⟨callee,args,tys⟩:=c;show EM up ⟨callee,args,tys⟩ e s=EM up ⟨callee,args,tys⟩ e' s;unfold EM;rw[aM0 (l:=args.toList) (e':=e') λx hx=>h x (by simp[Op.operands,Call.operands];exact .inr (by simpa using hx))];cases callee with
  |value f=>simp only[bi3];rw[h f (by simp[Op.operands,Call.operands])]
  |_=>rfl
 |_=>rfl
theorem cU7{P:Program}(hP:oG P){up:Runner}{o:Oper}(h:gG o.op=3):BU P o (gQ o.op up):=by
 obtain⟨dst,op,type,pos,after,guard⟩:=o;cases op with
 |alloc t=>exact bA8 hP.ty _ t rfl
 |box t x=>exact bA9 _ t x rfl
 |buildSlice t n ps=>exact bB0 hP.ty _ t n ps rfl
 |makeMap t r=>exact bB3 _ t r rfl
 |call c=>
  exfalso;obtain⟨callee,_,_⟩:=c;cases callee with
  |builtin b=>cases b<;>simp[gG]at h
  |_=>simp[gG]at h
 |_=>simp[gG]at h
structure lY(S:Nat->Prop)(w0:World)(ρ:Ren)(T:Nat->AO->Prop)(nx ro:Nat)(w:World):Prop where
 kept:Kept S w0 w
 slt:∀k,S k->k<w0.heap.size
 gs:∀w',Kept S w0 w'->GE w'
 fresh:∀b,nx<=b->ρ b=none
 mP:ro<=nx
 obj:∀b o,T b o->U6 ρ w b o
 own:∀b o L,T b o->ρ b=some L->ro<=b->¬S L.blk
 jW:∀b cs L,T b (.c kQ cs)->ρ b=some L->L.sh=0
 inj:∀b b' o o' L L',T b o->T b' o'->ρ b=some L->ρ b'=some L'->L.blk=L'.blk->b=b'
def told(s:St):Nat->AO->Prop:=λb o=>s.h.get (pa b)=some o
section
variable{P:Program}{S:Nat->Prop}{w0:World}{ρ:Ren}{e:Env}{s:St}{a:Act}{w:World}{B m:Nat}{T T':Nat->AO->Prop}{nx ro:Nat}
theorem lY.dt6(h:lY S w0 ρ T s.nx s.ro w)(hs:∀b o,told s b o->T b o):Rl S w0 ρ s w:=
 ⟨h.kept,h.slt,h.gs,h.fresh,h.mP,λb o hb=>h.obj b o (hs b o hb),λb o L hb=>h.own b o L (hs b o hb),λb cs L hb=>h.jW b cs L (hs b _ hb),λb b' o o' L L' hb hb'=>h.inj b b' o o' L L' (hs b o hb) (hs b' o' hb')⟩
theorem lY.sub(h:lY S w0 ρ T nx ro w)(hs:∀b o,T' b o->T b o):lY S w0 ρ T' nx ro w:=
 ⟨h.kept,h.slt,h.gs,h.fresh,h.mP,λb o hb=>h.obj b o (hs b o hb),λb o L hb=>h.own b o L (hs b o hb),λb cs L hb=>h.jW b cs L (hs b _ hb),λb b' o o' L L' hb hb'=>h.inj b b' o o' L L' (hs b o hb) (hs b' o' hb')⟩
theorem lY.loc(h:lY S w0 ρ T nx ro w){b:Nat}{o:AO}(hb:T b o):∃L,ρ b=some L/\L.blk<w.heap.size/\b<nx:=by
 obtain⟨L,h1,h2⟩:=(h.obj b o hb).loc;refine⟨L,h1,h2,?_⟩;rcases eG b nx with h3|h3
 .exact h3
 .rw[h.fresh b h3]at h1;cases h1
theorem bK2{o:Oper}{f:aZ}(hop:aU P o f)(hf:E8 Eq (f e))(h:lY S w0 ρ T nx ro w)(he:aB ρ e a.tmps){X X':St}(hX:∀b o,told X b o->T b o)(hXn:X.nx=nx){v:AV}(hv:f e X=.one v X'){next:Act->World->Prop}{Q:Exit->Act->World->Prop}
 (hn:∀ρ' x w',Ext ρ ρ'->lY S w0 ρ' T nx ro w'->RV ρ' v x->Kept S w w'->next (a.put o.dst x) w'):Oper.bT P o a w next Q:=by
 let S':Nat->Prop:=λk=>S k\/∃b o L,T b o/\ρ b=some L/\L.blk=k
 let X2:St:=⟨X.h,nx,nx⟩
 have hX2:f e X2=.one v X2:=by
  rcases hf X X2 rfl with⟨v',h1,h2⟩|⟨h1,_⟩
  .grind
  .grind
 have hR:Rl S' w ρ X2 w:=
  { kept:=Kept.refl _ _
    slt:=λk hk=>by
     rcases hk with hk|⟨b,o,L,g1,g2,g3⟩
     .exact Z5 (h.slt k hk) h.kept.size
     .obtain⟨M,g4,g5,_⟩:=h.loc g1
      grind
    gs:=λw' hk=>h.gs w' (h.kept.trans (hk.mono λk hk=>.inl hk))
    fresh:=h.fresh
    mP:=J6 _
    obj:=λb o hb=>h.obj b o (hX b o hb)
    own:=λb o L hb hL hr=>by
     obtain⟨_,_,_,g⟩:=h.loc (hX b o hb)
     grind
    jW:=λb cs L hb=>h.jW b cs L (hX b _ hb)
    inj:=λb b' o o' L L' hb hb'=>h.inj b b' o o' L L' (hX b o hb) (hX b' o' hb') }
 refine hop S' w ρ e X2 a w next Q (by rw[hX2];exact λe=>by cases e) he hR λv' s' ρ' x w' hh hx hR' _ _ gV=>?_
 have hvs:v'=v/\s'=X2:=by
  rw[hX2]at hh;rcases hh with hh|⟨l,hh,_⟩
  .grind
  .cases hh
 obtain⟨rfl,rfl⟩:=hvs;have sG:Kept S w w':=⟨hR'.kept.os,hR'.kept.tape,hR'.kept.output,hR'.kept.size,λk hk=>hR'.kept.block k (.inl hk),hR'.kept.bG⟩;have hat:∀b o L,T b o->ρ' b=some L->ρ b=some L:=λb o L hb hL=>by
  obtain⟨M,g1,_⟩:=h.loc hb;have:=hx b M g1
  grind
 refine hn ρ' x w' hx ⟨h.kept.trans sG,h.slt,h.gs,hR'.fresh,h.mP,λb o hb=>((h.obj b o hb).world λL hL=>hR'.kept.block _ (.inr ⟨b,o,L,hb,hL,rfl⟩)).ext hx,λb o L hb hL=>h.own b o L hb (hat b o L hb hL),λb cs L hb hL=>h.jW b cs L hb (hat b _ L hb hL),
  λb b' o o' L L' hb hb' hL hL'=>h.inj b b' o o' L L' hb hb' (hat b o L hb hL) (hat b' o' L' hb' hL')⟩ gV sG
theorem ct3{o:Oper}{f:aZ}(hop:aU P o f)(h:lY S w0 ρ T nx ro w)(he:aB ρ e a.tmps){X sj:St}{D:Nat->Prop}(hX:∀b o,told X b o->T b o/\¬D b)(hXn:X.nx=nx)(yX:X.ro=ro){v:AV}(hv:f e X=.one v sj)
 (hT':∀b o,T' b o->told sj b o\/(T b o/\D b)) (hD:∀b,D b->ro=0) {next:Act->World->Prop} {Q:Exit->Act->World->Prop}
 (hn:∀ρ' x w',Ext ρ ρ'->lY S w0 ρ' T' sj.nx ro w'->RV ρ' v x->Kept S w w'->nx<=sj.nx->sj.ro=ro->(∀b o,told sj b o->D b->(∃o',T b o')->False)->next (a.put o.dst x) w'):Oper.bT P o a w next Q:=by
 subst hXn;subst yX
 let S':Nat->Prop:=λk=>S k\/∃b o L,T b o/\D b/\ρ b=some L/\L.blk=k
 have hR:Rl S' w ρ X w:=
  { kept:=Kept.refl _ _
    slt:=λk hk=>by
     rcases hk with hk|⟨b,o,L,g1,_,g2,g3⟩
     .exact Z5 (h.slt k hk) h.kept.size
     .obtain⟨M,g4,g5,_⟩:=h.loc g1
      grind
    gs:=λw' hk=>h.gs w' (h.kept.trans (hk.mono λk hk=>.inl hk))
    fresh:=h.fresh
    mP:=h.mP
    obj:=λb o hb=>h.obj b o (hX b o hb).1
    own:=λb o L hb hL hr hS=>by
     rcases hS with hS|⟨b2,o2,L2,g1,g2,g3,g4⟩
     .exact h.own b o L (hX b o hb).1 hL hr hS
     .have:=h.inj b b2 o o2 L L2 (hX b o hb).1 g1 hL g3 g4.symm;subst this;exact(hX b o hb).2 g2
    jW:=λb cs L hb=>h.jW b cs L (hX b _ hb).1
    inj:=λb b' o o' L L' hb hb'=>h.inj b b' o o' L L' (hX b o hb).1 (hX b' o' hb').1 }
 refine hop S' w ρ e X a w next Q (by rw[hv];exact λe=>by cases e) he hR λv' s' ρ' x w' hh hx hR' hro hnx gV=>?_
 have hvs:v'=v/\s'=sj:=by
  rw[hv]at hh;rcases hh with hh|⟨l,hh,_⟩
  .grind
  .cases hh
 obtain⟨rfl,rfl⟩:=hvs;have sG:Kept S w w':=⟨hR'.kept.os,hR'.kept.tape,hR'.kept.output,hR'.kept.size,λk hk=>hR'.kept.block k (.inl hk),hR'.kept.bG⟩;have hat:∀b o L,T b o->ρ' b=some L->ρ b=some L:=λb o L hb hL=>by
  obtain⟨M,g1,_⟩:=h.loc hb;have:=hx b M g1
  grind
 have mix:∀b b' o o' L L',told s' b o->T b' o'->D b'->ρ' b=some L->ρ' b'=some L'->L.blk=L'.blk->False:=λb b' o o' L L' hb hb' hd hL hL' he=>by
  have h0:=hD b' hd;refine hR'.own b o L hb hL (by rw[hro,h0];exact Y3 _) (.inr ⟨b',o',L',hb',hd,hat b' o' L' hb' hL',he.symm⟩)
 refine hn ρ' x w' hx ⟨h.kept.trans sG,h.slt,h.gs,hR'.fresh,X4 h.mP hnx,λb o hb=>?_,λb o L hb hL hr=>?_,λb cs L hb hL=>?_,λb b' o o' L L' hb hb' hL hL' he=>?_⟩ gV sG hnx hro λb o hb hd ⟨o',ho'⟩=>by
  obtain⟨L,g1,_⟩:=h.loc ho';exact mix b b o o' L L hb ho' hd (hx b L g1) (hx b L g1) rfl
 .rcases hT' b o hb with g|⟨g,gd⟩
  .exact hR'.obj b o g
  .exact((h.obj b o g).world λL hL=>hR'.kept.block _ (.inr ⟨b,o,L,g,gd,hL,rfl⟩)).ext hx
 .rcases hT' b o hb with g|⟨g,gd⟩
  .exact λhS=>hR'.own b o L g hL (by rw[hro];exact hr) (.inl hS)
  .exact h.own b o L g (hat b o L g hL) hr
 .rcases hT' b _ hb with g|⟨g,gd⟩
  .exact hR'.jW b cs L g hL
  .exact h.jW b cs L g (hat b _ L g hL)
 .rcases hT' b o hb with g|⟨g,gd⟩<;>rcases hT' b' o' hb' with k|⟨k,kd⟩
  .exact hR'.inj b b' o o' L L' g k hL hL' he
  .grind
  .grind
  .exact h.inj b b' o o' L L' g k (hat b o L g hL) (hat b' o' L' k hL') he
theorem cU8{o:Oper}{f:aZ}(hop:BU P o f)(h:lY S w0 ρ T nx ro w)(he:aB ρ e a.tmps){b:Nat}(hb:ρ b=none)(hbn:b<nx){v:AV}{s':St}{ob:AO}(hv:f e ⟨full AO 18,b,0⟩=.one v s')(hob:s'.h.get (pa b)=some ob){next:Act->World->Prop}{Q:Exit->Act->World->Prop}
 (hn:∀L x w',lY S w0 (aJ ρ b L) (λc o=>T c o\/(c=b/\o=ob)) nx ro w'->RV (aJ ρ b L) v x->Kept S w w'->next (a.put o.dst x) w'):Oper.bT P o a w next Q:=by
 obtain⟨ob',mk,h1,h2⟩:=hop ρ e ⟨full AO 18,b,0⟩ a (by rw[hv];exact λe=>by cases e) he;obtain⟨O,x,L,q1,q2,q3,q4⟩:=h2 w;rw[h1,zK]at hv;injection hv with e1 e2
 have e3:ob'=ob:=by
  rw[<-e2]at hob;replace hob:((full AO 18).set (pa b) (some ob')).get (pa b)=some ob:=hob;rcases kT hob with⟨_,g⟩|⟨g,_⟩
  .injection g
  .grind
 rw[e3]at q4;obtain⟨q5,q6⟩:=q4 b hb;simp only at e1;rw[e1]at q6;have hx0:=YT hb L;have sG:Kept S w (w.alloc O):=(Kept.refl S w).alloc (λk hk=>Z5 (h.slt k hk) h.kept.size) O;have hold:∀c o,T c o->c≠b:=λc o hc e=>by
  obtain⟨M,g1,_⟩:=h.loc hc
  grind
 have hat:∀c M,c≠b->aJ ρ b L c=some M->ρ c=some M:=λc M hc hM=>by unfold aJ at hM;rwa [F9 hc]at hM
 have hsame:∀M,aJ ρ b L b=some M->M=L:=λM hM=>by rw[jF]at hM;exact(iE hM).symm
 refine aO q1 (hn L x _ ⟨h.kept.trans sG,h.slt,h.gs,λc hc=>?_,h.mP,λc o hc=>?_,λc o M hc hM hr=>?_,λc cs M hc hM=>?_,λc c' o1 o2 M M' hc hc' hM hM' he=>?_⟩ q6 sG)
 .unfold aJ;rw[F9 (by omega)];exact h.fresh c hc
 .rcases hc with hc|⟨rfl,rfl⟩
  .obtain⟨M,g1,g2,_⟩:=h.loc hc;exact((h.obj c o hc).world λM' hM'=>uP w _ (by rw[g1]at hM';injection hM' with hM';subst hM';exact g2)).ext hx0
  .exact q5
 .rcases hc with hc|⟨rfl,rfl⟩
  .exact h.own c o M hc (hat c M (hold c o hc) hM) hr
  .rw[hsame M hM,q2];intro hk;have:=h.slt _ hk;have:=h.kept.size;omega
 .rcases hc with hc|⟨rfl,_⟩
  .exact h.jW c cs M hc (hat c M (hold c _ hc) hM)
  .grind
 .have far:∀c o M,T c o->ρ c=some M->M.blk≠L.blk:=λc o M hc hM=>by
   obtain⟨M',g1,g2,_⟩:=h.loc hc
   grind
  rcases hc with hc|⟨rfl,_⟩<;>rcases hc' with hc'|⟨rfl,_⟩
  .exact h.inj c c' o1 o2 M M' hc hc' (hat c M (hold c _ hc) hM) (hat c' M' (hold c' _ hc') hM') he
  .grind
  .grind
  .rfl
theorem lJ{a b:Bool}(h:bq a b false=true):a=true/\b=true:=by
 cases a with
 |false=>cases h
 |true=>exact⟨rfl,h⟩
theorem bo1{a b:AV}(h:WM a b=true):a=b:=by
 unfold WM at h;split at h
 .obtain⟨h1,h2⟩:=lJ h;rw[F8 h1,F8 h2]
 .obtain⟨h1,h⟩:=lJ h;obtain⟨h2,h⟩:=lJ h;obtain⟨h3,h⟩:=lJ h;rw[F8 h1,F8 h2,F8 h3];split at h
  .rfl
  .rw[F8 h]
  .cases h
 .rw[F8 h]
 .rw[F8 h]
 .exact ay7 h
theorem WO:∀{l m:List AV},JG l m=true->l=m
 |[],[],_=>rfl
 |[],_::_,h=>by cases h
 |_::_,[],h=>by cases h
 |x::l,y::m,h=>by
  have h0:JG (x::l) (y::m)=bq (WM x y) (JG l m) false:=rfl;rw[h0]at h;obtain⟨h1,h2⟩:=lJ h;rw[bo1 h1,WO h2]
theorem ck4{a b:AV}(h:ay8 a b=true):a=b:=by
 unfold ay8 at h;split at h
 .rw[WO h]
 .rw[WO h]
 .obtain⟨h1,h⟩:=lJ h;obtain⟨h2,h3⟩:=lJ h;rw[F8 h1,WO h2,WO h3]
 .exact bo1 h
theorem ck8(ops:List Oper):(Region.before ops.toArray).size=ops.length:=by
 unfold Region.before;rw[<-xG];have:∀(l:List Oper)(acc:Array Nat),(l.foldl (λacc o=>acc.push (o.after.foldl (λs e=>if Region.binds .any e then s ||| 2^e.on ||| acc.getD e.on 0 else s) 0)) acc).size=acc.size+l.length:=by
  intro l;induction l with
  |nil=>grind
  |cons o l ih=>grind
 grind
end
def Y1(ops:List Oper)(i:Nat):Nat:=(Region.before ops.toArray).getD i 0
inductive DK where
 |skip
 |pure
 |rd
 |st (s:St)
 |al (ob:AO)
structure dU where
 v:AV
 k:DK
def bK(es:List dU)(c:Nat):Option DK:=(es[c]?).map (·.k)
def jP(es:List dU)(c:Nat):Prop:=∃s,bK es c=some (.st s)
noncomputable def dR (ops:List Oper) (es:List dU) (S:Nat->Bool) (e0:Env):Nat->Env
 |0=>e0
 |m+1=>match ops[m]?,es[m]? with
  |some o,some x=>bif S m then kH o.dst x.v (dR ops es S e0 m)else dR ops es S e0 m
  |_,_=>dR ops es S e0 m
noncomputable def aV (ops:List Oper) (es:List dU) (e0:Env) (i:Nat):Env:=dR ops es (λ_=>true) e0 i
def aN(ops:List Oper)(es:List dU)(h0:DH):Option Nat->DH
 |none=>h0
 |some j=>match bK es j with
  |some (.st s)=>⟨j,Y1 ops j,s⟩
  |_=>h0
def Vq(es:List dU)(S:Nat->Bool):Option Nat->Prop
 |none=>∀c,jP es c->S c=false
 |some j=>jP es j/\S j=true/\∀c,jP es c->S c=true->c<=j
def bef:Option Nat->Nat->Prop
 |none,_=>True
 |some j,h=>j<h
section
variable(ops:List Oper)(up:Runner)(es:List dU)(e0:Env)(b0:Nat)(h0:DH)
def GH(al:List DA):Prop:=∀d∈al,bK es d.i=some (.al d.o)/\d.b=b0+d.i
def SR(i:Nat)(o:Oper)(v:AV)(q:Option Nat):Prop:=∃al:List DA,GH es b0 al/\∃X',gQ o.op up (aV ops es e0 i) (iK (Y1 ops i) (aN ops es h0 q).mask al (aN ops es h0 q).s)=.one v X'
def NM(i:Nat)(o:Oper):Prop:=o.guard=none\/∃g,o.guard=some g/\rF ops (aV ops es e0 i) g=some true
def cO3(i:Nat)(q:Option Nat):Prop:=Vq es (λc=>decide (c<i)) q
def BL(i:Nat)(o:Oper)(x:dU):Prop:=match x.k with
 |.skip=>(∃g,o.guard=some g/\rF ops (aV ops es e0 i) g=some false)/\x.v=un
 |.pure=>NM ops es e0 i o/\gG o.op=0/\∃X X',gQ o.op up (aV ops es e0 i) X=.one x.v X'
 |.rd=>NM ops es e0 i o/\gG o.op=1/\∀q,(∀j,q=some j->jP es j)->(∀j,q=some j->j<i)->(∀h,jP es h->h<i->bef q h->(Y1 ops i).testBit h=false)->SR ops up es e0 b0 h0 i o x.v q
 |.st s=>NM ops es e0 i o/\(∀c,jP es c->c<i->(Y1 ops i).testBit c=true)/\(h0.s.ro=0\/∀c ob,bK es c=some (.al ob)->c<i->(Y1 ops i).testBit c=true)/\∃q,cO3 es i q/\(Y1 ops i) ||| (aN ops es h0 q).mask=Y1 ops i/\
   ∃al,GH es b0 al/\gQ o.op up (aV ops es e0 i) (iK (Y1 ops i) (aN ops es h0 q).mask al (aN ops es h0 q).s)=.one x.v s
 |.al ob=>NM ops es e0 i o/\gG o.op=3/\(h0.s.ro=0\/∀c,jP es c->c<i->(Y1 ops i).testBit c=true)/\∃X',gQ o.op up (aV ops es e0 i) ⟨full AO 18,b0+i,0⟩=.one x.v X'/\X'.h.get (pa (b0+i))=some ob
def UW(c j:Nat):Prop:=∀o x,ops[c]?=some o->es[c]?=some x->x.k=.rd->(Y1 ops j).testBit c=false->SR ops up es e0 b0 h0 c o x.v (some j)
structure Acc(d:DS):Prop where
 al:GH es b0 d.al
 hs:∀x∈d.hs,bK es x.i=some (.st x.s)/\x.mask=Y1 ops x.i
 PY:∀c,jP es c->∃x∈d.hs,x.i=c
 be7:∀c ob,bK es c=some (.al ob)->∃x∈d.al,x.i=c
 fA:d.hs.Pairwise (λx y=>y.i<x.i)
 rs:∀c o x,ops[c]?=some o->es[c]?=some x->x.k=.rd->∃r∈d.rs,r.i=c/\r.mask=Y1 ops c/\r.op=qC o.op/\r.e=aV ops es e0 c/\r.v=x.v
end
section
variable{ops:List Oper}{up:Runner}{es pre:List dU}{e0:Env}{b0:Nat}{h0:DH}
theorem zF{c:Nat}(h:c<pre.length):bK (pre++es) c=bK pre c:=by unfold bK;rw[bV h]
theorem lQ{c:Nat}{k:DK}(h:bK es c=some k):c<es.length:=by
 unfold bK at h;cases hc:es[c]? with
 |none=>grind
 |some x=>grind
theorem cM3{c:Nat}{x:dU}(h:es[c]?=some x):bK es c=some x.k:=by unfold bK;rw[h];rfl
theorem al0{c:Nat}(h:c<pre.length):jP (pre++es) c↔jP pre c:=by unfold jP;rw[zF h]
theorem b78(S:Nat->Bool):∀(m:Nat),m<=pre.length->dR ops (pre++es) S e0 m=dR ops pre S e0 m
 |0,_=>rfl
 |m+1,h=>by
  simp only[dR,bV (show m<pre.length by omega),b78 S m (by omega)]
theorem WS{i:Nat}(h:i<=pre.length):aV ops (pre++es) e0 i=aV ops pre e0 i:=b78 _ _ h
theorem dw9{q:Option Nat}(h:∀j,q=some j->j<pre.length):aN ops (pre++es) h0 q=aN ops pre h0 q:=by
 cases q with
 |none=>rfl
 |some j=>simp only[aN,zF (h j rfl)]
theorem cz5{i:Nat}{o:Oper}{x:dU}(ho:ops[i]?=some o)(hx:es[i]?=some x):aV ops es e0 (i+1)=kH o.dst x.v (aV ops es e0 i):=by
 unfold aV;simp only[dR,ho,hx,H7]
theorem ay1{al:List DA}(h:GH pre b0 al):GH (pre++es) b0 al:=λd hd=>⟨by rw[zF (lQ (h d hd).1)];exact(h d hd).1,(h d hd).2⟩
theorem aw0{j:Nat}{s:St}(h:bK es j=some (.st s)):aN ops es h0 (some j)=⟨j,Y1 ops j,s⟩:=by simp only[aN,h]
theorem Acc.last{d:DS}(h:Acc ops pre e0 b0 d):∃q,Vq pre (λc=>decide (c<pre.length)) q/\(∀j,q=some j->j<pre.length)/\aN ops pre h0 q=lastH h0 d:=by
 cases hd:d.hs with
 |nil=>
  refine⟨none,λc hc=>?_,λj hj=>(by cases hj),by simp only[lastH,hd,aN];rfl⟩;obtain⟨x,hx,_⟩:=h.PY c hc
  grind
 |cons x tl=>
  have hx:=h.hs x (by rw[hd];simp);refine⟨some x.i,⟨⟨_,hx.1⟩,by simpa using lQ hx.1,λc hc _=>?_⟩,λj hj=>(by injection hj with hj;subst hj;exact lQ hx.1),?_⟩
  .obtain⟨y,hy,rfl⟩:=h.PY c hc;rw[hd]at hy;rcases jT.1 hy with rfl|hy
   .grind
   .have:=h.fA;rw[hd]at this;exact Nat.le_of_lt ((List.pairwise_cons.1 this).1 y hy)
  .rw[aw0 hx.1];simp only[lastH,hd];obtain⟨i,mk,s⟩:=x;simp only at hx⊢;rw[hx.2];rfl
theorem bP1{op:OO}{e:Env}{s:St}{v:AV}(h:LU op up e s v=true):∃X',op.run up e s=.one v X':=by
 unfold LU at h;cases hr:op.run up e s with
 |no=>rw[hr]at h;cases h
 |many l=>rw[hr]at h;cases h
 |one v' X'=>
  rw[hr]at h;have:v=v':=ck4 h
  grind
theorem aS5{r:DR}{al:List DA}:∀{hs:List DH},SL r up al h0 hs=true->∀(a:List DH)(h:DH)(tl:List DH),hs=a++h::tl->r.mask.testBit h.i=false->LU r.op up r.e (iK r.mask (wJ h0 tl).mask al (wJ h0 tl).s) r.v=true
 |[],_,a,h,tl,e,_=>by cases a<;>cases e
 |x::hs,hr,a,h,tl,e,hb=>by
  have h1:SL r up al h0 (x::hs)=bq (Nat.testBit r.mask x.i) (SL r up al h0 hs) (bq (LU r.op up r.e (iK r.mask (wJ h0 hs).mask al (wJ h0 hs).s) r.v) (SL r up al h0 hs) false):=rfl;rw[h1,V8]at hr;cases a with
  |nil=>
   simp only[rO,List.cons.injEq]at e;obtain⟨rfl,rfl⟩:=e;rw[F9 (by rw[hb];simp)]at hr;exact(lJ hr).1
  |cons y a=>
   simp only[List.cons_append,List.cons.injEq]at e;obtain⟨rfl,e⟩:=e;split at hr
   .exact aS5 hr a h tl e hb
   .exact aS5 (lJ hr).2 a h tl e hb
theorem CG(mask seen:Nat):∀(al:List DA)(s:St),(iK mask seen al s).nx=s.nx/\(iK mask seen al s).ro=s.ro/\∀b o,told (iK mask seen al s) b o->told s b o\/∃d∈al,mask.testBit d.i=true/\seen.testBit d.i=false/\b=d.b/\o=d.o
 |[],s=>⟨rfl,rfl,λb o h=>.inl h⟩
 |d::al,s=>by
  have h0:iK mask seen (d::al) s=bq (Nat.testBit mask d.i) (bq (Nat.testBit seen d.i) (iK mask seen al s) (iK mask seen al ⟨s.h.set (pa d.b) (some d.o),s.nx,s.ro⟩)) (iK mask seen al s):=rfl;rw[h0,V8];have skip:(iK mask seen al s).nx=s.nx/\(iK mask seen al s).ro=s.ro/\∀b o,told (iK mask seen al s) b o->told s b o\/∃x∈d::al,mask.testBit x.i=true/\seen.testBit x.i=false/\b=x.b/\o=x.o:=by
   obtain⟨h1,h2,h3⟩:=CG mask seen al s
   grind
  split
  .rename_i hm;rw[V8];split
   .exact skip
   .rename_i hs;obtain⟨h1,h2,h3⟩:=CG mask seen al ⟨s.h.set (pa d.b) (some d.o),s.nx,s.ro⟩;refine⟨h1,h2,λb o h=>?_⟩;rcases h3 b o h with g|⟨x,hx,g⟩
    .rcases kT g with⟨rfl,e⟩|⟨_,g⟩
     .grind
     .exact .inl g
    .grind
  .exact skip
theorem bv9{x:dU}{c:Nat}{k:DK}(h:bK (pre++[x]) c=some k):bK pre c=some k\/(c=pre.length/\x.k=k):=by
 rcases eG c pre.length with hlt|hge
 .rw[zF hlt]at h;exact .inl h
 .unfold bK at h
  grind
theorem bv8{x:dU}:bK (pre++[x]) pre.length=some x.k:=by unfold bK;simp
theorem Acc.snoc{d d':DS}{o:Oper}{x:dU}(h:Acc ops pre e0 b0 d)(ho:ops[pre.length]?=some o)
 (hal:d'.al=d.al/\(∀ob,x.k≠.al ob)\/∃ob,x.k=.al ob/\d'.al=⟨pre.length,b0+pre.length,ob⟩::d.al)
 (hhs:d'.hs=d.hs/\(∀s,x.k≠.st s)\/∃s,x.k=.st s/\d'.hs=⟨pre.length,Y1 ops pre.length,s⟩::d.hs)
 (hrs:d'.rs=d.rs/\x.k≠.rd\/d'.rs=⟨pre.length,Y1 ops pre.length,qC o.op,aV ops pre e0 pre.length,x.v⟩::d.rs):Acc ops (pre++[x]) e0 b0 d':=by
 constructor
 .intro y hy;rcases hal with⟨e,_⟩|⟨ob,hk,e⟩
  .rw[e]at hy;exact ay1 h.al y hy
  .rw[e]at hy;rcases jT.1 hy with rfl|hy
   .exact⟨by rw[bv8,hk],rfl⟩
   .exact ay1 h.al y hy
 .intro y hy;rcases hhs with⟨e,_⟩|⟨s,hk,e⟩
  .rw[e]at hy;exact⟨by rw[zF (lQ (h.hs y hy).1)];exact(h.hs y hy).1,(h.hs y hy).2⟩
  .rw[e]at hy;rcases jT.1 hy with rfl|hy
   .exact⟨by rw[bv8,hk],rfl⟩
   .exact⟨by rw[zF (lQ (h.hs y hy).1)];exact(h.hs y hy).1,(h.hs y hy).2⟩
 .rintro c ⟨s,hc⟩;rcases bv9 hc with hk|⟨rfl,hk⟩
  .obtain⟨y,hy,hi⟩:=h.PY c ⟨s,hk⟩
   grind
  .rcases hhs with⟨_,hn⟩|⟨s',_,e⟩
   .grind
   .exact⟨_,by rw[e];exact List.mem_cons_self ..,rfl⟩
 .intro c ob hc;rcases bv9 hc with hk|⟨rfl,hk⟩
  .obtain⟨y,hy,hi⟩:=h.be7 c ob hk
   grind
  .rcases hal with⟨_,hn⟩|⟨ob',_,e⟩
   .grind
   .exact⟨_,by rw[e];exact List.mem_cons_self ..,rfl⟩
 .rcases hhs with⟨e,_⟩|⟨s,_,e⟩
  .rw[e];exact h.fA
  .rw[e];exact List.pairwise_cons.2 ⟨λy hy=>lQ (h.hs y hy).1,h.fA⟩
 .intro c o' y ho' hy hk;rcases eG c pre.length with hlt|hge
  .rw[bV hlt]at hy;obtain⟨r,hr,g1,g2,g3,g4,g5⟩:=h.rs c o' y ho' hy hk;refine⟨r,?_,g1,g2,g3,by rw[WS (Nat.le_of_lt hlt)];exact g4,g5⟩
   grind
  .have hc:=(O4.1 hy).1;have hce:c=pre.length:=by grind
   subst hce;rw[ho]at ho';injection ho' with ho'
   subst ho';have hyx:y=x:=by grind
   subst hyx;rcases hrs with⟨_,hn⟩|e
   .grind
   .exact⟨_,by rw[e];exact List.mem_cons_self ..,rfl,rfl,rfl,by rw[WS (J6 _)],rfl⟩
theorem ce4{q:Option Nat}{n:Nat}(hn:n=pre.length):Vq (pre++es) (λc=>decide (c<n)) q↔Vq pre (λc=>decide (c<n)) q:=by
 subst hn
 have hs:∀c,jP (pre++es) c/\c<pre.length↔jP pre c:=λc=>⟨λ⟨h1,h2⟩=>(al0 h2).1 h1,λh=>by
  obtain⟨s,hs⟩:=h
  exact⟨(al0 (lQ hs)).2 ⟨s,hs⟩,lQ hs⟩⟩
 cases q with
 |none=>
  constructor
  .intro h c hc;exact h c ((hs c).2 hc).1
  .intro h c hc;by_cases hlt:c<pre.length
   .exact h c ((hs c).1 ⟨hc,hlt⟩)
   .grind
 |some j=>
  constructor
  .rintro⟨h1,h2,h3⟩;exact⟨(hs j).1 ⟨h1,by simpa using h2⟩,h2,λc hc hl=>h3 c ((hs c).2 hc).1 hl⟩
  .rintro⟨h1,h2,h3⟩;exact⟨((hs j).2 h1).1,h2,λc hc hl=>h3 c ((hs c).1 ⟨hc,by simpa using hl⟩) hl⟩
theorem bN1{n:Nat}{b:Bool}(h:bq (Nat.beq n 0) true b=true):n=0\/b=true:=by
 cases hb:Nat.beq n 0 with
 |true=>exact .inl (F8 hb)
 |false=>rw[hb]at h;exact .inr h
theorem bk8(all:List Oper):∀(l:List Oper)(pre:List dU)(done:List Oper)(ms:List Nat)(d:DS),all=done++l->done.length=pre.length->ms=(Region.before all.toArray).toList.drop pre.length->Acc all pre e0 b0 d->
 fU all b0 h0 l pre.length ms d up (aV all pre e0 pre.length)≠.no->
 ∃es,es.length=l.length/\(∀j o x,l[j]?=some o->es[j]?=some x->BL all up (pre++es) e0 b0 h0 (pre.length+j) o x)/\(∀c j,jP (pre++es) j->pre.length<=j->c<j->UW all up (pre++es) e0 b0 h0 c j)/\
  ∃dF,Acc all (pre++es) e0 b0 dF/\fU all b0 h0 l pre.length ms d up (aV all pre e0 pre.length)=ah8 h0 dF (aV all (pre++es) e0 (pre.length+l.length))
 |[],pre,done,ms,d,_,_,_,hacc,h=>by
  refine⟨[],rfl,λj o x h=>by simp at h,λc j ⟨s,hs⟩ hle=>?_,d,by simpa using hacc,by simp[fU]⟩;have:=lQ hs
  grind
 |o::l,pre,done,ms,d,hall,hdl,hms,hacc,h=>by
  have ho:all[pre.length]?=some o:=by grind
  have dL9:pre.length<all.length:=(O4.1 ho).1;have hbs:(Region.before all.toArray).size=all.length:=by simp[ck8]
  have hmask:ms.headD 0=Y1 all pre.length:=by
   rw[hms];unfold Y1;rw[List.headD_eq_head?_getD,List.head?_drop,jS,aT]
  have htail:ms.tail=(Region.before all.toArray).toList.drop (pre.length+1):=by rw[hms,List.tail_drop]
  have hall':all=(done++[o])++l:=by grind
  have e1:fU all b0 h0 (o::l) pre.length ms d up (aV all pre e0 pre.length)=uF all b0 h0 o (λi=>fU all b0 h0 l i) pre.length ms d up (aV all pre e0 pre.length):=rfl;rw[e1]at h⊢;have cont:∀(x:dU)(d':DS),Acc all (pre++[x]) e0 b0 d'->(∀es',BL all up (pre++x::es') e0 b0 h0 pre.length o x)->(∀s,x.k=.st s->∀es' c,c<pre.length->UW all up (pre++x::es') e0 b0 h0 c pre.length)->
   uF all b0 h0 o (λi=>fU all b0 h0 l i) pre.length ms d up (aV all pre e0 pre.length)=fU all b0 h0 l (Nat.succ pre.length) ms.tail d' up (kH o.dst x.v (aV all pre e0 pre.length))->
   ∃es,es.length=(o::l).length/\(∀j o' x,(o::l)[j]?=some o'->es[j]?=some x->BL all up (pre++es) e0 b0 h0 (pre.length+j) o' x)/\(∀c j,jP (pre++es) j->pre.length<=j->c<j->UW all up (pre++es) e0 b0 h0 c j)/\
    ∃dF,Acc all (pre++es) e0 b0 dF/\uF all b0 h0 o (λi=>fU all b0 h0 l i) pre.length ms d up (aV all pre e0 pre.length)=ah8 h0 dF (aV all (pre++es) e0 (pre.length+(o::l).length)):=by
   intro x d' hacc' hc hlat heq;have hlen:(pre++[x]).length=pre.length+1:=by simp
   have hfr:aV all (pre++[x]) e0 (pre++[x]).length=kH o.dst x.v (aV all pre e0 pre.length):=by
    rw[hlen,cz5 ho (x:=x) (by simp),WS (J6 _)]
   have heq':fU all b0 h0 l (pre++[x]).length ms.tail d' up (aV all (pre++[x]) e0 (pre++[x]).length)=fU all b0 h0 l (Nat.succ pre.length) ms.tail d' up (kH o.dst x.v (aV all pre e0 pre.length)):=by grind
   obtain⟨es,h1,h2,h3,dF,h4,h5⟩:=bk8 all l (pre++[x]) (done++[o]) ms.tail d' hall' (by simp[hdl]) (by rw[hlen];exact htail) hacc' (by rw[heq',<-heq];exact h);have hpp:pre++[x]++es=pre++x::es:=by simp
   rw[hpp]at h2 h3 h4 h5;refine⟨x::es,by simp[h1],λj o' y hj hy=>?_,λc j hst hle hlt=>?_,dF,h4,?_⟩
   .cases j with
    |zero=>grind
    |succ j=>grind
   .by_cases hj:j=pre.length
    .subst hj;obtain⟨s,hs⟩:=hst;have:bK (pre++x::es) pre.length=some x.k:=by unfold bK;simp
     grind
    .grind
   .grind
  have hfr:∀(x:dU)(es':List dU),aV all (pre++x::es') e0 pre.length=aV all pre e0 pre.length:=λx es'=>WS (J6 _);have hvq:∀(x:dU)(es':List dU)(q:Option Nat),(∀j,q=some j->j<pre.length)->aN all (pre++x::es') h0 q=aN all pre h0 q:=λx es' q hq=>dw9 hq;obtain⟨q0,hq1,hq2,hq3⟩:=hacc.last (h0:=h0);obtain⟨E,hE⟩:∃E,E=aV all pre e0 pre.length:=⟨_,rfl⟩;rw[<-hE]at h cont⊢;simp only[<-hE]at hfr;have exec:(∀(x:dU) es',NM all (pre++x::es') e0 pre.length o)->uF all b0 h0 o (λi=>fU all b0 h0 l i) pre.length ms d up E=uG b0 h0 pre.length (Y1 all pre.length) o (fU all b0 h0 l (Nat.succ pre.length)) ms.tail d up E->
   ∃es,es.length=(o::l).length/\(∀j o' x,(o::l)[j]?=some o'->es[j]?=some x->BL all up (pre++es) e0 b0 h0 (pre.length+j) o' x)/\(∀c j,jP (pre++es) j->pre.length<=j->c<j->UW all up (pre++es) e0 b0 h0 c j)/\
    ∃dF,Acc all (pre++es) e0 b0 dF/\uF all b0 h0 o (λi=>fU all b0 h0 l i) pre.length ms d up E=ah8 h0 dF (aV all (pre++es) e0 (pre.length+(o::l).length)):=by
   intro hgo hR;rw[hR]at h cont⊢;have al':∀(x:dU) es',GH (pre++x::es') b0 d.al:=λx es'=>ay1 hacc.al;by_cases c0:gG o.op=0
   .have e2:uG b0 h0 pre.length (Y1 all pre.length) o (fU all b0 h0 l (Nat.succ pre.length)) ms.tail d up E=dr0 h0 pre.length (Y1 all pre.length) o (fU all b0 h0 l (Nat.succ pre.length)) ms.tail d up E:=by
     unfold uG;rw[c0];rfl
    rw[e2]at h cont⊢;unfold dr0 at h cont⊢;cases hr:gQ o.op up E (lastH h0 d).s with
    |no=>rw[hr]at h;exact absurd rfl h
    |many _=>rw[hr]at h;exact absurd rfl h
    |one v X'=>
     rw[hr]at h cont;exact cont ⟨v,.pure⟩ d (hacc.snoc ho (.inl ⟨rfl,λ_ e=>by cases e⟩) (.inl ⟨rfl,λ_ e=>by cases e⟩) (.inl ⟨rfl,λe=>by cases e⟩)) (λes'=>⟨hgo _ es',c0,_,X',by rw[hfr];exact hr⟩) (λs e=>by cases e) rfl
   by_cases c1:gG o.op=1
   .have e2:uG b0 h0 pre.length (Y1 all pre.length) o (fU all b0 h0 l (Nat.succ pre.length)) ms.tail d up E=dr1 h0 pre.length (Y1 all pre.length) o (fU all b0 h0 l (Nat.succ pre.length)) ms.tail d up E:=by
     unfold uG;rw[c1];rfl
    rw[e2]at h cont⊢;unfold dr1 at h cont⊢;cases hr:gQ o.op up E (iK (Y1 all pre.length) (lastH h0 d).mask d.al (lastH h0 d).s)with
    |no=>rw[hr]at h;exact absurd rfl h
    |many _=>rw[hr]at h;exact absurd rfl h
    |one v X'=>
     rw[hr]at h cont;simp only[V8]at h cont⊢;by_cases hk:SL ⟨pre.length,Y1 all pre.length,qC o.op,E,v⟩ up d.al h0 d.hs=true
     rotate_left
     .grind
     rw[I4 hk]at h cont⊢;refine cont ⟨v,.rd⟩ ⟨_::d.rs,d.al,d.hs⟩ (hacc.snoc ho (.inl ⟨rfl,λ_ e=>by cases e⟩) (.inl ⟨rfl,λ_ e=>by cases e⟩) (.inr (by rw[hE]))) (λes'=>⟨hgo _ es',c1,λq g1 g2 g3=>?_⟩) (λs e=>by cases e) rfl;have hb:∀x∈d.hs,bef q x.i->(Y1 all pre.length).testBit x.i=false:=λx hx hbf=>by
      have h1:=hacc.hs x hx;have hlt:=lQ h1.1;exact g3 x.i ⟨x.s,by rw[zF hlt];exact h1.1⟩ hlt hbf
     have direct:aN all pre h0 q=lastH h0 d->SR all up (pre++⟨v,.rd⟩::es') e0 b0 h0 pre.length o v q:=λe3=>by
      refine⟨d.al,al' _ _,X',?_⟩
      grind
     have other:∀(a:List DH)(y:DH)(tl:List DH),d.hs=a++y::tl->bef q y.i->aN all pre h0 q=wJ h0 tl->SR all up (pre++⟨v,.rd⟩::es') e0 b0 h0 pre.length o v q:=λa y tl e3 hbf e4=>by
      obtain⟨X2,hX2⟩:=bP1 (aS5 hk a y tl e3 (hb y (by rw[e3];simp) hbf));refine⟨d.al,al' _ _,X2,?_⟩;rw[hvq _ _ _ g2,e4,hfr];exact hX2
     cases q with
     |none=>
      rcases List.eq_nil_or_concat d.hs with hn|⟨a,y,hn⟩
      .exact direct (by simp only[aN,lastH,hn,wJ])
      .exact other a y [] (by simpa using hn) trivial rfl
     |some j=>
      obtain⟨sj,hsj⟩:=g1 j rfl;have hj:=g2 j rfl;rw[zF hj]at hsj;obtain⟨x,hx,hxi⟩:=hacc.PY j ⟨sj,hsj⟩;have hxe:aN all pre h0 (some j)=x:=by
       have h1:=hacc.hs x hx;rw[<-hxi,aw0 h1.1];obtain⟨xi,xm,xs⟩:=x
       grind
      obtain⟨a,tl,hsp⟩:=List.append_of_mem hx;rcases List.eq_nil_or_concat a with rfl|⟨a',y,rfl⟩
      .exact direct (by rw[hxe];simp only[lastH,hsp,wJ,rO])
      .refine other a' y (x::tl) (by simpa using hsp) ?_ (by rw[hxe];rfl);have hs:=hacc.fA;rw[hsp]at hs;have:=List.pairwise_append.1 hs;have:=this.2.2 y (by simp) x (by simp);show j<y.i
       grind
   by_cases c2:gG o.op=2
   .have e2:uG b0 h0 pre.length (Y1 all pre.length) o (fU all b0 h0 l (Nat.succ pre.length)) ms.tail d up E=dr2 h0 pre.length (Y1 all pre.length) o (fU all b0 h0 l (Nat.succ pre.length)) ms.tail d up E:=by
     unfold uG;rw[c2];rfl
    rw[e2]at h cont⊢;unfold dr2 at h cont⊢;rw[V8]at h cont⊢;by_cases hk:bq (allB (λh=>Nat.testBit (Y1 all pre.length) h.i) d.hs) (bq (Nat.beq (Nat.lor (Y1 all pre.length) (lastH h0 d).mask) (Y1 all pre.length)) (bq (Nat.beq h0.s.ro 0) true (allB (λa=>Nat.testBit (Y1 all pre.length) a.i) d.al)) false) false=true
    rotate_left
    .grind
    rw[I4 hk]at h cont⊢;obtain⟨hk1,hk2⟩:=lJ hk;obtain⟨hk2,hk5⟩:=lJ hk2;cases hr:gQ o.op up E (iK (Y1 all pre.length) (lastH h0 d).mask d.al (lastH h0 d).s)with
    |no=>rw[hr]at h;exact absurd rfl h
    |many _=>rw[hr]at h;exact absurd rfl h
    |one v X'=>
     rw[hr]at h cont;simp only[V8]at h cont⊢;by_cases hk3:allB (λr=>if Nat.testBit (Y1 all pre.length) r.i=true then true else LU r.op up r.e (iK r.mask (Y1 all pre.length) d.al X') r.v) d.rs=true
     rotate_left
     .grind
     rw[I4 hk3]at h cont⊢;have hst:∀es',bK (pre++⟨v,.st X'⟩::es') pre.length=some (.st X'):=λes'=>by unfold bK;simp
     refine cont ⟨v,.st X'⟩ ⟨d.rs,d.al,⟨pre.length,Y1 all pre.length,X'⟩::d.hs⟩ (hacc.snoc ho (.inl ⟨rfl,λ_ e=>by cases e⟩) (.inr ⟨X',rfl,rfl⟩) (.inl ⟨rfl,λe=>by cases e⟩)) (λes'=>⟨hgo _ es',λc hc hlt=>?_,(bN1 hk5).imp id λhb c ob hc hlt=>?_,q0,?_,?_,d.al,al' _ _,?_⟩) (λs e es' c hlt o' y hoc mG hk4 hb4=>?_) rfl
     .obtain⟨x,hx,hxi⟩:=hacc.PY c ((al0 hlt).1 hc);rw[<-hxi];exact yB hk1 x hx
     .obtain⟨x,hx,hxi⟩:=hacc.be7 c ob (by rw[zF hlt]at hc;exact hc);rw[<-hxi];exact yB hb x hx
     .exact(ce4 rfl).2 hq1
     .rw[hvq _ _ _ hq2,hq3];exact F8 hk2
     .grind
     .injection e with e
      rw[bV hlt]at mG;obtain⟨r,hr1,r1,r2,r3,r4,r5⟩:=hacc.rs c o' y hoc mG hk4;have hsr:=yB hk3 r hr1;simp only[r1,hb4]at hsr;obtain⟨X2,hX2⟩:=bP1 (by simpa using hsr);refine⟨d.al,al' _ _,X2,?_⟩;rw[aw0 (hst es'),WS (Nat.le_of_lt hlt),<-r4,<-r5,<-r2];rw[r3]at hX2;exact hX2
   .have c3:gG o.op=3:=by
     have:gG o.op<=3:=by
      cases o.op with
      |call c=>
       obtain⟨callee,_,_⟩:=c;cases callee with
       |builtin b=>cases b<;>simp[gG]
       |_=>simp[gG]
      |_=>simp[gG]
     omega
    have e2:uG b0 h0 pre.length (Y1 all pre.length) o (fU all b0 h0 l (Nat.succ pre.length)) ms.tail d up E=dr3 b0 h0 pre.length (Y1 all pre.length) o (fU all b0 h0 l (Nat.succ pre.length)) ms.tail d up E:=by
     unfold uG;rw[c3];rfl
    rw[e2]at h cont⊢;unfold dr3 at h cont⊢;rw[V8]at h cont⊢;by_cases hk:bq (Nat.beq h0.s.ro 0) true (allB (λh=>Nat.testBit (Y1 all pre.length) h.i) d.hs)=true
    rotate_left
    .grind
    rw[I4 hk]at h cont⊢;cases hr:gQ o.op up E ⟨full AO 18,Nat.add b0 pre.length,0⟩with
    |no=>rw[hr]at h;exact absurd rfl h
    |many _=>rw[hr]at h;exact absurd rfl h
    |one v X'=>
     rw[hr]at h cont;cases hg:X'.h.get (pa (Nat.add b0 pre.length))with
     |none=>simp only[hg]at h;exact absurd rfl h
     |some ob=>
      simp only[hg]at h cont⊢
      exact cont ⟨v,.al ob⟩ ⟨d.rs,⟨pre.length,b0+pre.length,ob⟩::d.al,d.hs⟩ (hacc.snoc ho (.inr ⟨ob,rfl,rfl⟩) (.inl ⟨rfl,λ_ e=>by cases e⟩) (.inl ⟨rfl,λe=>by cases e⟩)) (λes'=>⟨hgo _ es',c3,(bN1 hk).imp id λhb c hc hlt=>(by
       obtain⟨y,hy,hyi⟩:=hacc.PY c ((al0 hlt).1 hc);rw[<-hyi]
       exact yB hb y hy),X',by rw[hfr];exact hr,hg⟩) (λs e=>by cases e) rfl
  cases hgd:o.guard with
  |none=>
   refine exec (λx es'=>.inl hgd) ?_;simp only[uF,hgd,hmask]
  |some g=>
   cases hw:rF all E g with
   |none=>exact absurd (by simp only[uF,hgd,hw]) h
   |some b=>
    cases b with
    |true=>
     refine exec (λx es'=>.inr ⟨g,hgd,by rw[hfr];exact hw⟩) ?_;simp only[uF,hgd,hw,hmask]
    |false=>
     have hR:uF all b0 h0 o (λi=>fU all b0 h0 l i) pre.length ms d up E=fU all b0 h0 l (Nat.succ pre.length) ms.tail d up (kH o.dst un E):=by simp only[uF,hgd,hw]
     exact cont ⟨un,.skip⟩ d (hacc.snoc ho (.inl ⟨rfl,λ_ e=>by cases e⟩) (.inl ⟨rfl,λ_ e=>by cases e⟩) (.inl ⟨rfl,λe=>by cases e⟩)) (λes'=>⟨⟨g,hgd,by rw[hfr];exact hw⟩,rfl⟩) (λs e=>by cases e) hR
end
theorem aR6:∀(n k:Nat)(x:AV)(e:Tn n),k+1<2^n->dY n k (jQ n k x e)=some x
 |0,k,x,e,h=>by simp at h
 |n+1,k,x,e,h=>by
  have hs:∀(e:Tn (n+1)),dY (n+1) k e=if k=0 then Nd.v (β:=Tn n) e else if k % 2=1 then dY n (k/2) (Nd.a (β:=Tn n) e)else dY n (k/2-1) (Nd.b (β:=Tn n) e):=λ_=>rfl
  have hp:jQ (n+1) k x e=(if k=0 then sV (β:=Tn n) x e else if k % 2=1 then sA (β:=Tn n) (jQ n (k/2) x) e else sB (β:=Tn n) (jQ n (k/2-1) x) e:Nd (Tn n)):=rfl;rw[Nat.pow_succ]at h;rw[hs,hp];by_cases hk:k=0
  .rw[I4 hk,I4 hk];obtain⟨v,a,b⟩:=e;rfl
  .rw[F9 hk,F9 hk];by_cases h1:k % 2=1
   .rw[I4 h1,I4 h1];have:Nd.a (sA (β:=Tn n) (jQ n (k/2) x) e)=jQ n (k/2) x (Nd.a (β:=Tn n) e):=by obtain⟨v,a,b⟩:=e;rfl
    exact(congrArg (dY n (k/2)) this).trans (aR6 n (k/2) x _ (by omega))
   .rw[F9 h1,F9 h1];have:Nd.b (sB (β:=Tn n) (jQ n (k/2-1) x) e)=jQ n (k/2-1) x (Nd.b (β:=Tn n) e):=by obtain⟨v,a,b⟩:=e;rfl
    exact(congrArg (dY n (k/2-1)) this).trans (aR6 n (k/2-1) x _ (by omega))
theorem aR5:∀(n k j:Nat)(x:AV)(e:Tn n),j≠k->dY n j (jQ n k x e)=dY n j e
 |0,k,j,x,e,h=>rfl
 |n+1,k,j,x,e,h=>by
  have hs:∀(e:Tn (n+1)),dY (n+1) j e=if j=0 then Nd.v (β:=Tn n) e else if j % 2=1 then dY n (j/2) (Nd.a (β:=Tn n) e)else dY n (j/2-1) (Nd.b (β:=Tn n) e):=λ_=>rfl
  have hp:jQ (n+1) k x e=(if k=0 then sV (β:=Tn n) x e else if k % 2=1 then sA (β:=Tn n) (jQ n (k/2) x) e else sB (β:=Tn n) (jQ n (k/2-1) x) e:Nd (Tn n)):=rfl;rw[hs,hs,hp];obtain⟨v,a,b⟩:=e;by_cases hj:j=0
  .rw[I4 hj,I4 hj];by_cases hk:k=0
   .grind
   .rw[F9 hk];by_cases h1:k % 2=1
    .rw[I4 h1];rfl
    .rw[F9 h1];rfl
  .rw[F9 hj,F9 hj];by_cases hk:k=0
   .rw[I4 hk];rfl
   .rw[F9 hk];by_cases hj1:j % 2=1
    .rw[I4 hj1,I4 hj1];by_cases h1:k % 2=1
     .rw[I4 h1];exact aR5 n (k/2) (j/2) x a (by omega)
     .rw[F9 h1];rfl
    .rw[F9 hj1,F9 hj1];by_cases h1:k % 2=1
     .rw[I4 h1];rfl
     .rw[F9 h1];exact aR5 n (k/2-1) (j/2-1) x b (by omega)
theorem JC(d:Option Nat)(v:AV)(e:Env)(t:Nat):dL t (kH d v e)=if d=some t/\t<160 then some v else dL t e:=by
 cases d with
 |none=>rw[F9 (by simp)];rfl
 |some d=>
  rw[dg0];unfold dL wG;rcases eG t 160 with ht|ht
  .rw[PL ht];rcases eG d 160 with hd|hd
   .rw[PL hd];by_cases e1:d=t
    .subst e1;rw[I4 ⟨rfl,hd⟩];exact aR6 8 d v e (by omega)
    .rw[F9 (by simp[e1])];exact aR5 8 d t v e (λe=>e1 e.symm)
   .rw[WQ hd,F9 (λh=>by have:=h.1;injection this;omega)]
  .rw[WQ ht,F9 (by omega)]
theorem c44{d:Option Nat}{v:AV}{e e':Env}{t:Nat}(h:dL t e=dL t e'):dL t (kH d v e)=dL t (kH d v e'):=by rw[JC,JC,h]
section
variable{ops:List Oper}{up:Runner}{es:List dU}{e0:Env}{b0:Nat}{h0:DH}
theorem b77{O:Array Oper}{mask:Nat}{ok:Oper}:∀{l:List Oper}{i:Nat},MO O mask ok l i=true->∀j oj,l[j]?=some oj->mask.testBit (i+j)=true\/oj.apart O ok=true
 |[],_,_,j,oj,h=>by simp at h
 |x::l,i,h,j,oj,hj=>by
  have h1:MO O mask ok (x::l) i=bq (Nat.testBit mask i) (MO O mask ok l (Nat.succ i)) (bq (x.apart O ok) (MO O mask ok l (Nat.succ i)) false):=rfl;rw[h1,V8]at h;cases j with
  |zero=>
   simp at hj;subst hj;split at h
   .grind
   .exact .inr (lJ h).1
  |succ j=>
   have h2:MO O mask ok l (Nat.succ i)=true:=by
    split at h
    .exact h
    .exact(lJ h).2
   have:=b77 h2 j oj (by simpa using hj)
   grind
theorem b76{O:Array Oper}:∀{ms:List Nat}{done l:List Oper},av6 O ms done l=true->∀k ok,l[k]?=some ok->∀j oj,j<done.length+k->(done++l)[j]?=some oj->(ms.getD k 0).testBit j=true\/oj.apart O ok=true
 |[],done,l,h,k,ok,hk=>by
  cases l with
  |nil=>simp at hk
  |cons=>cases h
 |m::ms,done,[],h,k,ok,hk=>by simp at hk
 |m::ms,done,o::l,h,k,ok,hk=>by
  have h1:av6 O (m::ms) done (o::l)=bq (MO O m o done 0) (av6 O ms (dW done [o]) l) false:=rfl;rw[h1,oI]at h;obtain⟨h2,h3⟩:=lJ h;intro j oj hj hoj;cases k with
  |zero=>
   simp at hk;subst hk;rw[bV (by omega)]at hoj;have:=b77 h2 j oj hoj
   grind
  |succ k=>
   have:=b76 h3 k ok (by simpa using hk) j oj (by simp;omega) (by simpa using hoj)
   grind
theorem ay3(h:CU ops.toArray=true){i k:Nat}{oi ok:Oper}(hik:i<k)(hi:ops[i]?=some oi)(hk:ops[k]?=some ok):(Y1 ops k).testBit i=true\/oi.apart ops.toArray ok=true:=by
 obtain⟨h1,_⟩:=lJ h;have:=b76 h1 k ok (by simpa using hk) i oi (by simpa using hik) (by simpa using hi);rw[NQ,jS,<-aT]at this;exact this
theorem ct6(h:CU ops.toArray=true):yL 0 ops=true:=by
 obtain⟨_,h2⟩:=lJ h
 grind
theorem a03{S S':Nat->Bool}{t:Nat}:∀(m:Nat),(∀k o,k<m->ops[k]?=some o->o.dst=some t->S k=S' k)->dL t (dR ops es S e0 m)=dL t (dR ops es S' e0 m)
 |0,_=>rfl
 |m+1,h=>by
  have ih:=a03 m (λk o hk ho hd=>h k o (by omega) ho hd);simp only[dR];cases ho:ops[m]? with
  |none=>exact ih
  |some o=>
   cases hx:es[m]? with
   |none=>exact ih
   |some x=>
    simp only;by_cases hd:o.dst=some t
    .rw[h m o (by omega) ho hd];cases S' m with
     |true=>exact c44 ih
     |false=>exact ih
    .have h1:∀e,dL t (kH o.dst x.v e)=dL t e:=λe=>by rw[JC,F9 (λh=>hd h.1)]
     grind
theorem dw4(i:Nat):∀(m:Nat),i<=m->dR ops es (λk=>decide (k<i)) e0 m=aV ops es e0 i:=by
 intro m hm;induction m with
 |zero=>
  have:i=0:=by omega
  subst this;rfl
 |succ m ih=>
  by_cases h:i=m+1
  .subst h;have:∀q,q<=m+1->dR ops es (λk=>decide (k<m+1)) e0 q=dR ops es (λ_=>true) e0 q:=by
    intro q;induction q with
    |zero=>intro _;rfl
    |succ q ihq=>
     intro hq;simp only[dR,ihq (by omega)]
     grind
   exact this _ (J6 _)
  .rw[<-ih (by omega)];simp only[dR]
   grind
theorem ch7(hd:CU ops.toArray=true){S:Nat->Bool}(hS:xJ ops S){i:Nat}{o:Oper}(hoi:ops[i]?=some o)(hi:S i=false)(aI1:∀ed∈o.after,Region.binds .any ed=true->S ed.on=true):
 (∀t,t∈o.looksAt ops.toArray->dL t (aV ops es e0 i)=dL t (dR ops es S e0 ops.length))/\(∀k,(Y1 ops i).testBit k=true->k≠i->S k=true)/\(∀k,(Y1 ops k).testBit i=true->S k=false)/\
 (∀k ok,i<k->ops[k]?=some ok->S k=true->ok.dst=none\/ok.dst≠o.dst):=by
 have hlt:i<ops.length:=(O4.1 hoi).1;have hS':xJ ops (λk=>S k || decide (k=i)):=by
  intro k o' ed ho' hk hed hb;simp only[Bool.or_eq_true,yJ]at hk⊢;rcases hk with hk|rfl
  .exact .inl (hS k o' ed ho' hk hed hb)
  .grind
 have before:∀k,(Y1 ops i).testBit k=true->k≠i->S k=true:=by
  intro k hb hk;have:=af0 hS' hb (by simp)
  grind
 have behind:∀k,(Y1 ops k).testBit i=true->S k=false:=by
  intro k hb;cases hk:S k with
  |false=>rfl
  |true=>have:=af0 hS hb hk;rw[hi]at this;cases this
 refine⟨λt ht=>?_,before,behind,?_⟩
 .rw[<-dw4 (es:=es) (e0:=e0) i ops.length (by omega)];refine a03 _ λk ok hk hok hdk=>?_;rcases xY k i with hlt'|heq|hgt
  .simp only[hlt',nG];rcases ay3 hd hlt' hok hoi with h|h
   .grind
   .exact absurd ht ((Oper.apart_spec h).1 t hdk)
  .grind
  .have:decide (k<i)=false:=by simp;omega
   rw[this];rcases ay3 hd hgt hoi hok with h|h
   .grind
   .exact absurd ht ((Oper.apart_spec h).2.2 t hdk)
 .intro k ok hgt hok hk;rcases ay3 hd hgt hoi hok with h|h
  .grind
  .cases hdk:ok.dst with
   |none=>grind
   |some d=>exact .inr λe=>(Oper.apart_spec h).2.1 d e.symm hdk
theorem dw3{S:Nat->Bool}{i:Nat}{o:Oper}{x:dU}(hoi:ops[i]?=some o)(hxi:es[i]?=some x)(hi:S i=false)
 (h3:∀k ok,i<k->ops[k]?=some ok->S k=true->ok.dst=none\/ok.dst≠o.dst) (t:Nat):∀m,i<m->
 dL t (dR ops es (λk=>S k || decide (k=i)) e0 m)=dL t (kH o.dst x.v (dR ops es S e0 m)):=by
 have low:∀m,m<=i->dR ops es (λk=>S k || decide (k=i)) e0 m=dR ops es S e0 m:=by
  intro m;induction m with
  |zero=>intro _;rfl
  |succ m ih=>
   intro hm;simp only[dR,ih (by omega)]
   grind
 intro m;induction m with
 |zero=>grind
 |succ m ih=>
  intro hm;by_cases JX:m=i
  .subst JX;simp only[dR,hoi,hxi,low m (J6 _),hi,Bool.false_or,nG,H7,G6]
  .have ih:=ih (by omega);have hdd:decide (m=i)=false:=by simp;omega
   simp only[dR,hdd,Bool.or_false];cases hom:ops[m]? with
   |none=>exact ih
   |some om=>
    cases hem:es[m]? with
    |none=>exact ih
    |some em=>
     simp only;cases hsm:S m with
     |false=>exact ih
     |true=>
      simp only[H7];rw[JC,ih,JC,JC,JC]
      grind
theorem cQ4{e e':Env}{o:Oper}(h:∀t,t∈o.looksAt ops.toArray->dL t e=dL t e'):∀x∈o.op.operands,look x e=look x e':=λx hx=>by
 cases x with
 |tmp t=>exact h t (bz5 hx rfl)
 |_=>rfl
theorem b90{e e':Env}{o:Oper}{g:Nat×Bool}(hg:o.guard=some g)(h:∀t,t∈o.looksAt ops.toArray->dL t e=dL t e'):rF ops e g=rF ops e' g:=by
 unfold rF;rw[yR];cases hj:ops[g.1]? with
 |none=>rfl
 |some oj=>
  show oB oj.dst _=oB oj.dst _;cases hd:oj.dst with
  |none=>rfl
  |some d=>
   show oB (dL d e) _=oB (dL d e') _;rw[h d (bz4 (j:=g.1) (want:=g.2) hg (by rw[hj];exact hd))]
def TS(ops:List Oper)(es:List dU)(b0:Nat)(h0:DH)(S:Nat->Bool)(q:Option Nat):Nat->AO->Prop:=λb o=>told (aN ops es h0 q).s b o\/∃i,bK es i=some (.al o)/\S i=true/\(aN ops es h0 q).mask.testBit i=false/\b=b0+i
structure NI(ops:List Oper)(es:List dU)(e0:Env)(b0:Nat)(h0:DH)(S0:Nat->Prop)(w0:World)(m B:Nat)(ρ0:Ren)(ro:Nat)(S:Nat->Bool)(q:Option Nat)(ρ:Ren)(a:Act)(w:World):Prop where
 vq:Vq es S q
 rl:lY S0 w0 ρ (TS ops es b0 h0 S q) (aN ops es h0 q).s.nx ro w
 env:aB ρ (dR ops es S e0 ops.length) a.tmps
 sz:a.tmps.size=m
 bG:kL B w a.defers
 low:∀b,b<b0->ρ b=ρ0 b
 free:∀i ob,bK es i=some (.al ob)->S i=false->ρ (b0+i)=none
 top:∃L,ρ (b0+ops.length)=some L
 nx:b0+ops.length<(aN ops es h0 q).s.nx
 nt:∀i ob o,bK es i=some (.al ob)->(aN ops es h0 q).mask.testBit i=false->¬told (aN ops es h0 q).s (b0+i) o
 vJ:(aN ops es h0 q).s.ro=ro
structure ax4(P:Program)(ops:List Oper)(up:Runner)(es:List dU)(e0:Env)(b0:Nat)(h0:DH)(m ro:Nat):Prop where
 len:es.length=ops.length
 cnd:∀i o x,ops[i]?=some o->es[i]?=some x->BL ops up es e0 b0 h0 i o x
 lat:∀c j,jP es j->c<j->UW ops up es e0 b0 h0 c j
 dr:CU ops.toArray=true
 op:∀o,aU P o (gQ o.op up)
 new:∀o:Oper,gG o.op=3->BU P o (gQ o.op up)
 ro:ro=h0.s.ro
 ops:EN m ops=true
theorem Vq.unique{S S':Nat->Bool}{q q':Option Nat}(h:Vq es S q)(h':Vq es S' q')(hs:∀c,jP es c->S c=S' c):q=q':=by
 cases q with
 |none=>
  cases q' with
  |none=>rfl
  |some j=>
   obtain⟨g1,g2,_⟩:=h';have:=h j g1
   grind
 |some i=>
  obtain⟨k1,k2,k3⟩:=h;cases q' with
  |none=>
   have:=h' i k1
   grind
  |some j=>
   obtain⟨g1,g2,g3⟩:=h'
   grind
theorem aD3{c:Nat}{k:DK}(hlen:es.length=ops.length)(h:bK es c=some k):∃o x,ops[c]?=some o/\es[c]?=some x/\x.k=k:=by
 have hlt:=lQ h;refine⟨ops[c]'(by omega),es[c],I9 _,I9 hlt,?_⟩;unfold bK at h
 grind
theorem cs4{P:Program}{S0:Nat->Prop}{w0:World}{m B:Nat}{ρ0:Ren}{ro:Nat}(C:ax4 P ops up es e0 b0 h0 m ro){S:Nat->Bool}(hcl:xJ ops S){i:Nat}{o:Oper}(hoi:ops[i]?=some o)(hi:S i=false)
 (aI1:∀ed∈o.after,Region.binds .any ed=true->S ed.on=true) {q:Option Nat} {ρ:Ren} {a:Act} {w:World} (hI:NI ops es e0 b0 h0 S0 w0 m B ρ0 ro S q ρ a w) {τ:Option Nat} {K:Act->World->Prop} {Q:Exit->Act->World->Prop}
 (hK:∀q' ρ' a' w',NI ops es e0 b0 h0 S0 w0 m B ρ0 ro (λk=>S k || decide (k=i)) q' ρ' a' w'->K a' w'):Go.wpOpIn (dG τ) 0 P ops.toArray Q i K a w:=by
 have hlt:i<ops.length:=(O4.1 hoi).1;have hxi:es[i]?=some (es[i]'(by rw[C.len];exact hlt)):=I9 _;generalize es[i]'(by rw[C.len];exact hlt)=x at hxi;have hc:=C.cnd i o x hoi hxi;have hki:=cM3 hxi;obtain⟨a1,a2,a3,a4⟩:=ch7 (es:=es) (e0:=e0) C.dr hcl hoi hi aI1;have hd:inRange m o.dst=true:=yB C.ops o (iC hoi);unfold Go.wpOpIn;have hoi':ops.toArray[i]?=some o:=by grind
 simp only[hoi'];have hadd:=λt=>dw3 (es:=es) (e0:=e0) hoi hxi hi a4 t ops.length hlt;have aD1:∀{ρ':Ren}{y:Value},vU ρ ρ'->RV ρ' x.v y->aB ρ' (dR ops es (λk=>S k || decide (k=i)) e0 ops.length) (a.put o.dst y).tmps:=λ{ρ' y} hx hy t v ht=>by
  rw[hadd]at ht;exact aB.put (hI.env.ext hx) (by rw[hI.sz];exact hd) hy t v ht
 have hloc:∀X,gQ o.op up (aV ops es e0 i) X=gQ o.op up (dR ops es S e0 ops.length) X:=λX=>cZ7 (cQ4 a1) X;have hnotin:∀k,S k=true->k≠i:=λk hk e=>by grind
 have vqS:(∀s,x.k≠.st s)->Vq es (λk=>S k || decide (k=i)) q:=λhns=>by
  have hne:∀c,jP es c->c≠i:=λc ⟨s,hs⟩ e=>by grind
  have hv:=hI.vq;cases q with
  |none=>exact λc hc=>by simp[hv c hc,hne c hc]
  |some j=>
   obtain⟨g1,g2,g3⟩:=hv;exact⟨g1,by simp[g2],λc hc hk=>g3 c hc (by simpa[hne c hc]using hk)⟩
 have tsS:(∀ob,x.k≠.al ob)->∀b o',TS ops es b0 h0 (λk=>S k || decide (k=i)) q b o'->TS ops es b0 h0 S q b o':=λhna b o' h=>by
  rcases h with h|⟨i',h1,h2,h3⟩
  .exact .inl h
  .refine .inr ⟨i',h1,?_,h3⟩
   grind
 have al6:∀{ρ':Ren},Ext ρ ρ'->∀b,b<b0+ops.length->ρ' b=ρ b:=λ{ρ'} hx b hb=>by
  obtain⟨L,hL⟩:=hI.top;exact hx.low b _ L hb hL
 have fin:(∀s,x.k≠.st s)->(∀ob,x.k≠.al ob)->∀ρ' y w',Ext ρ ρ'->lY S0 w0 ρ' (TS ops es b0 h0 S q) (aN ops es h0 q).s.nx ro w'->RV ρ' x.v y->Kept S0 w w'->K (a.put o.dst y) w':=λn1 n2 ρ' y w' hx hR hy hk=>
  hK q ρ' _ w' { vq:=vqS n1,rl:=hR.sub (tsS n2),env:=aD1 hx hy,sz:=(SE _ _ _).trans hI.sz,bG:=by rw[put_defers];exact hI.bG.kept hk
                 low:=λb hb=>(al6 hx b (by omega)).trans (hI.low b hb)
                 free:=λi' ob h1 h2=>(al6 hx _ (by have:=lQ h1;rw[C.len]at this;omega)).trans (hI.free i' ob h1 (by simp at h2;exact h2.1))
                 top:=by obtain⟨L,hL⟩:=hI.top;exact⟨L,hx _ _ hL⟩
                 nx:=hI.nx,nt:=hI.nt,vJ:=hI.vJ }
 have go:NM ops es e0 i o->Region.wanted o (yielded ops.toArray a.tmps)=true:=λh=>by
  rcases h with h|⟨g,hg,hw⟩
  .simp[Region.wanted,h]
  .exact a95 hg (by rw[<-b90 hg a1];exact hw) hI.env
 have b51:∀(al:List DA),GH es b0 al->(∀ob,x.k≠.al ob)->∀b o',told (iK (Y1 ops i) (aN ops es h0 q).mask al (aN ops es h0 q).s) b o'->TS ops es b0 h0 S q b o':=λal hal hna b o' h=>by
  rcases(CG _ _ al _).2.2 b o' h with h|⟨d,hd1,hd2,hd3,rfl,rfl⟩
  .exact .inl h
  .obtain⟨g1,g2⟩:=hal d hd1;refine .inr ⟨d.i,g1,a2 d.i hd2 (λe=>?_),hd3,g2⟩
   grind
 obtain⟨v,k⟩:=x;cases k with
 |skip=>
  obtain⟨⟨g,hg,hw⟩,hv⟩:=hc;simp only at hv;have hwf:=a95 hg (by rw[<-b90 hg a1];exact hw) hI.env;rw[F9 (by rw[hwf];simp)];exact⟨λ_ _=>trivial,fin (λs e=>by cases e) (λs e=>by cases e) ρ undef w (Ext.refl _) hI.rl (by rw[hv];exact unR) (Kept.refl _ _)⟩
 |pure=>
  obtain⟨hgo,hcl0,X,X',hX⟩:=hc;rw[I4 (go hgo)];have hX0:gQ o.op up (aV ops es e0 i) ⟨full AO 18,(aN ops es h0 q).s.nx,ro⟩=.one v ⟨full AO 18,(aN ops es h0 q).s.nx,ro⟩:=by
   rcases bH8 hcl0 up (aV ops es e0 i) X ⟨full AO 18,(aN ops es h0 q).s.nx,ro⟩ trivial with⟨v',h1,h2⟩|⟨h1,_⟩
   .grind
   .grind
  rw[hloc]at hX0;exact bK2 (X:=⟨full AO 18,(aN ops es h0 q).s.nx,ro⟩) (C.op o) (bH8 hcl0 up _).weak hI.rl hI.env (λb o' h=>by have h:(full AO 18).get (pa b)=some o':=h;rw[aj0]at h;cases h) rfl hX0
   (λρ' y w' hx hR hy hk=>fin (λs e=>by cases e) (λs e=>by cases e) ρ' y w' hx hR hy hk) τ
 |rd=>
  obtain⟨hgo,cE7,hsr⟩:=hc;rw[I4 (go hgo)];have hq:SR ops up es e0 b0 h0 i o v q:=by
   have hv:=hI.vq;have comp:∀h,jP es h->h<i->bef q h->(Y1 ops i).testBit h=false:=λh hs hl hb=>by
    cases hbit:(Y1 ops i).testBit h with
    |false=>rfl
    |true=>
     have hSh:=a2 h hbit (by omega);cases q with
     |none=>rw[hv h hs]at hSh;cases hSh
     |some j=>
      have:=hv.2.2 h hs hSh;have hb:j<h:=hb;omega
   by_cases hj:∀j,q=some j->j<i
   .refine hsr q (λj e=>?_) hj comp;subst e;exact hv.1
   .have:∃j,q=some j/\¬j<i:=by
     cases q with
     |none=>exact absurd (λj e=>by cases e) hj
     |some j=>exact⟨j,rfl,λh=>hj λj' e=>by injection e with e;subst e;exact h⟩
    obtain⟨j,rfl,hji⟩:=this;have hne:=hnotin j hv.2.1;refine C.lat i j hv.1 (by omega) o _ hoi hxi rfl ?_;cases hbit:(Y1 ops j).testBit i with
    |false=>rfl
    |true=>have:=a3 j hbit;rw[hv.2.1]at this;cases this
  obtain⟨al,hal,X',hX⟩:=hq;rw[hloc]at hX;exact bK2 (C.op o) (c26 cE7 up _) hI.rl hI.env (b51 al hal (λob e=>by cases e)) (CG _ _ al _).1 hX
   (λρ' y w' hx hR hy hk=>fin (λs e=>by cases e) (λs e=>by cases e) ρ' y w' hx hR hy hk) τ
 |st sj=>
  obtain⟨hgo,hbef,cI7,q0,hq0,hor,al,hal,hX⟩:=hc;rw[I4 (go hgo)];have hqq:q=q0:=hI.vq.unique hq0 λc hs=>by
   rcases xY c i with h1|h1|h1
   .grind
   .grind
   .have:S c=false:=by
     obtain⟨s',hs'⟩:=hs;obtain⟨oc,xc,g1,g2,g3⟩:=aD3 C.len hs';have hcc:=C.cnd c oc xc g1 g2;unfold BL at hcc;rw[g3]at hcc;exact a3 c (hcc.2.1 i ⟨sj,hki⟩ h1)
    grind
  subst hqq;rw[hloc]at hX;have hsub:∀k,(aN ops es h0 q).mask.testBit k=true->(Y1 ops i).testBit k=true:=λk hk=>by grind
  have PZ:aN ops es h0 (some i)=⟨i,Y1 ops i,sj⟩:=aw0 hki
  let D:Nat->Prop:=λb=>∃i' ob,bK es i'=some (.al ob)/\S i'=true/\(Y1 ops i).testBit i'=false/\b=b0+i'
  refine ct3 (T':=TS ops es b0 h0 (λk=>S k || decide (k=i)) (some i)) (D:=D) (C.op o) hI.rl hI.env (λb o' h=>⟨b51 al hal (λob e=>by cases e) b o' h,?_⟩) (CG _ _ al _).1 ((CG _ _ al _).2.1.trans hI.vJ) hX (λb o' h=>?_) (λb ⟨i',ob,h1,hS',hm',_⟩=>?_) (λρ' y w' hx hR hy hk hn hr hsep=>?_) τ
  .rintro⟨i',ob,g1,g2,g3,rfl⟩;rcases(CG _ _ al _).2.2 _ o' h with h|⟨d,hd1,hd2,hd3,hd4,_⟩
   .refine hI.nt i' ob o' g1 ?_ h;cases hb:(aN ops es h0 q).mask.testBit i' with
    |false=>rfl
    |true=>grind
   .rw[(hal d hd1).2]at hd4
    grind
  .rcases h with h|⟨i',h1,h2,h3,h4⟩
   .grind
   .rw[PZ]at h3;simp only at h3;have hne:i'≠i:=λe=>by grind
    have PU:S i'=true:=by grind
    refine .inr ⟨.inr ⟨i',h1,PU,?_,h4⟩,i',o',h1,PU,h3,h4⟩;cases hb:(aN ops es h0 q).mask.testBit i' with
    |false=>rfl
    |true=>grind
  .rw[C.ro];rcases cI7 with h|h
   .exact h
   .rcases xY i' i with h2|h2|h2
    .grind
    .grind
    .obtain⟨oc,xc,g1,g2,g3⟩:=aD3 C.len h1;have hcc:=C.cnd i' oc xc g1 g2;unfold BL at hcc;rw[g3]at hcc;rcases hcc.2.2.1 with h3|h3
     .exact h3
     .have:=a3 i' (h3 i ⟨sj,hki⟩ h2)
      grind
  .refine hK (some i) ρ' _ w' { vq:=⟨⟨sj,hki⟩,by simp,λc hs hc=>?_⟩,rl:=by rw[PZ];exact hR,env:=aD1 hx hy,sz:=(SE _ _ _).trans hI.sz,bG:=by rw[put_defers];exact hI.bG.kept hk
                                low:=λb hb=>(al6 hx b (by omega)).trans (hI.low b hb)
                                free:=λi' ob h1 h2=>(al6 hx _ (by have:=lQ h1;rw[C.len]at this;omega)).trans (hI.free i' ob h1 (by simp at h2;exact h2.1))
                                top:=by obtain⟨L,hL⟩:=hI.top;exact⟨L,hx _ _ hL⟩
                                nx:=by rw[PZ];exact Z5 hI.nx hn
                                nt:=λi' ob o' h1 h2 h3=>?_
                                vJ:=by rw[PZ];exact hr }
   .simp only[Bool.or_eq_true,yJ]at hc;rcases hc with hc|hc
    .rcases eG i c with h1|h1
     .obtain⟨s',hs'⟩:=hs;obtain⟨oc,xc,g1,g2,g3⟩:=aD3 C.len hs';have hcc:=C.cnd c oc xc g1 g2;unfold BL at hcc;rw[g3]at hcc;have:=a3 c (hcc.2.1 i ⟨sj,hki⟩ h1)
      grind
     .exact h1
    .omega
   .rw[PZ]at h2 h3;simp only at h2 h3;by_cases PU:S i'=true
    .refine hsep _ o' h3 ⟨i',ob,h1,PU,h2,rfl⟩ ⟨ob,.inr ⟨i',h1,PU,?_,rfl⟩⟩;cases hb:(aN ops es h0 q).mask.testBit i' with
     |false=>rfl
     |true=>grind
    .have hf:=hI.free i' ob h1 (by simpa using PU);have hlt':b0+i'<b0+ops.length:=by have:=lQ h1;rw[C.len]at this;omega
     obtain⟨M,g1,_⟩:=hR.loc (T:=TS ops es b0 h0 (λk=>S k || decide (k=i)) (some i)) (b:=b0+i') (o:=o') (by left;rw[PZ];exact h3)
     grind
 |al ob=>
  obtain⟨hgo,cE8,_,X',hX,hob⟩:=hc;rw[I4 (go hgo)];rw[hloc]at hX;have hfree:=hI.free i ob hki hi;refine cU8 (C.new o cE8) hI.rl hI.env hfree (by have:=hI.nx;omega) hX hob (λL y w' hR hy hk=>?_) τ;have hne:∀c,c≠b0+i->aJ ρ (b0+i) L c=ρ c:=λc hc=>F9 hc
  exact hK q _ _ w' { vq:=vqS (λs e=>by cases e)
                      rl:=hR.sub λb o' h=>by
                       rcases h with h|⟨i',h1,h2,h3,h4⟩
                       .exact .inl (.inl h)
                       .by_cases e:i'=i
                        .grind
                        .exact .inl (.inr ⟨i',h1,by simpa[e]using h2,h3,h4⟩)
                      env:=aD1 (YT hfree L) hy,sz:=(SE _ _ _).trans hI.sz,bG:=by rw[put_defers];exact hI.bG.kept hk
                      low:=λb hb=>(hne b (by omega)).trans (hI.low b hb)
                      free:=λi' ob' h1 h2=>by
                       simp at h2;exact(hne _ (by omega)).trans (hI.free i' ob' h1 h2.1)
                      top:=by obtain⟨M,hM⟩:=hI.top;exact⟨M,(hne _ (by omega)).trans hM⟩
                      nx:=hI.nx,nt:=hI.nt,vJ:=hI.vJ }
theorem cs3{P:Program}{S0:Nat->Prop}{w0:World}{m B:Nat}{ρ0:Ren}{ro:Nat}(C:ax4 P ops up es e0 b0 h0 m ro){τ:Option Nat}{Q:Exit->Act->World->Prop}
 (hQ:∀q ρ' a' w',NI ops es e0 b0 h0 S0 w0 m B ρ0 ro (λ_=>true) q ρ' a' w'->Q .normal a' w'):
 ∀(fuel:Nat)(listed:Array Bool)(q:Option Nat)(ρ:Ren)(a:Act)(w:World),listed.size=ops.length->xJ ops (λk=>listed.getD k false)->(listed.toList.filter (!·)).length<=fuel->
  NI ops es e0 b0 h0 S0 w0 m B ρ0 ro (λk=>listed.getD k false) q ρ a w->wpAnyIn (dG τ) 0 P .any ops.toArray Q fuel listed a w:=by
 have cF3:=ct6 C.dr;have edge:∀(l:List Oper)(i0:Nat),yL i0 l=true->∀j o,l[j]?=some o->∀e∈o.after,Region.binds .any e=true->e.on<i0+j:=by
  intro l;induction l with
  |nil=>grind
  |cons x l ih=>
   intro i0 h j o hj e he hb;simp only[yL]at h;cases hx:(x.after.all λe=> !Region.binds .any e || Nat.blt e.on i0)with
   |false=>grind
   |true=>
    rw[hx]at h;simp only[H7]at h;cases j with
    |zero=>
     simp at hj;subst hj;rw[Array.all_eq_true']at hx;have:=hx e he;simp only[hb,fC,Bool.false_or]at this;have h2:e.on<i0:=dJ this;omega
    |succ j=>grind
 have done:∀(listed:Array Bool),listed.size=ops.length->Region.ready .any ops.toArray listed=[]->∀k,k<ops.length->listed.getD k false=true:=by
  intro listed hsz hr k;induction k using Nat.strongRecOn with
  |_ k ih=>
   intro hk;cases hl:listed.getD k false with
   |true=>rfl
   |false=>
    exfalso;have ho:ops[k]?=some (ops[k]'hk):=I9 hk;have:k∈Region.ready .any ops.toArray listed:=by
     rw[mem_ready]
     grind
    grind
 have stop:∀(listed:Array Bool)(q:Option Nat)(ρ:Ren)(a:Act)(w:World),listed.size=ops.length->Region.ready .any ops.toArray listed=[]->NI ops es e0 b0 h0 S0 w0 m B ρ0 ro (λk=>listed.getD k false) q ρ a w->Q .normal a w:=by
  intro listed q ρ a w hsz hr hI;have hall:=done listed hsz hr;have hst:∀c k,bK es c=some k->listed.getD c false=true:=λc k h=>hall c (by have:=lQ h;rw[C.len]at this;exact this);have hts:∀b o,TS ops es b0 h0 (λ_=>true) q b o->TS ops es b0 h0 (λk=>listed.getD k false) q b o:=λb o h=>h.imp id λ⟨i,h1,_,h3⟩=>⟨i,h1,hst i _ h1,h3⟩;refine hQ q ρ a w { vq:= ?_,rl:=hI.rl.sub hts,env:=λt v ht=>?_,sz:=hI.sz,bG:=hI.bG,low:=hI.low,free:=λi ob _ h2=>(by cases h2),top:=hI.top,nx:=hI.nx,nt:=hI.nt,vJ:=hI.vJ }
  .have hv:=hI.vq;cases q with
   |none=>exact λc ⟨s,hs⟩=>by have h1:listed.getD c false=false:=hv c ⟨s,hs⟩;rw[hst c _ hs]at h1;cases h1
   |some j=>exact⟨hv.1,rfl,λc ⟨s,hs⟩ _=>hv.2.2 c ⟨s,hs⟩ (hst c _ hs)⟩
  .exact hI.env t v (by rw[a03 (S':=λ_=>true) ops.length λk o hk _ _=>hall k hk];exact ht)
 intro fuel;induction fuel with
 |zero=>
  intro listed q ρ a w hsz hcl hf hI;have hr:Region.ready .any ops.toArray listed=[]:=by
   rw[List.eq_nil_iff_forall_not_mem];intro k hk;rw[mem_ready]at hk;obtain⟨h1,o,ho,_⟩:=hk;have hltk:k<ops.length:=by grind
   have hlt:k<listed.size:=by grind
   have hmem:(false:Bool)∈listed.toList.filter (!·):=by
    rw[List.mem_filter];refine⟨?_,rfl⟩;rw[aT,mW hlt]at h1
    grind
   grind
  exact⟨hr,stop listed q ρ a w hsz hr hI⟩
 |succ fuel ih=>
  intro listed q ρ a w hsz hcl hf hI;refine⟨λhr=>stop listed q ρ a w hsz hr hI,λi hi=>?_⟩;rw[mem_ready]at hi;obtain⟨h1,o,ho,hall⟩:=hi;have hoi:ops[i]?=some o:=by grind
  have hlt:i<ops.length:=(O4.1 hoi).1;have hi0:listed.getD i false=false:=by grind
  refine cs4 C hcl hoi hi0 hall hI λq' ρ' a' w' hI'=>?_;have hfun:(λk=>(listed.setIfInBounds i true).getD k false)=(λk=>listed.getD k false || decide (k=i)):=by
   funext k;by_cases hk:k=i
   .subst hk;simp[aT,hsz,hlt]
   .rw[aT,bc4 (by omega),<-aT];simp[hk]
  refine ih (listed.setIfInBounds i true) q' ρ' a' w' (by simpa using hsz) ?_ ?_ ?_
  .rw[hfun];intro k o' ed ho' hk hed hb;simp only[Bool.or_eq_true,yJ]at hk⊢;rcases hk with hk|rfl
   .exact .inl (hcl k o' ed ho' hk hed hb)
   .grind
  .have hset:∀(l:List Bool)(j:Nat),l[j]?=some false->((l.set j true).filter (!·)).length+1=(l.filter (!·)).length:=by
    intro l;induction l with
    |nil=>grind
    |cons b l ihl=>
     intro j h;cases j with
     |zero=>grind
     |succ j=>grind
   have:=hset listed.toList i (by
    rw[jS,mW (by omega)];rw[aT,mW (by omega)]at hi0
    simpa using hi0)
   grind
  .grind
theorem Rl.drew'{S:Nat->Prop}{w0:World}{ρ:Ren}{s:St}{w:World}(hR:Rl S w0 ρ s w):Rl S w0 ρ s { w with drawn:=w.drawn+1 }:=hR.drew
theorem ct7{P:Program}(hP:oG P){up:Runner}(hup:tK P up){m id:Nat}{O:Array Oper}(ho:EN m O.toList=true)(hd:CU O=true):ad8 P ((aB1 O).run up) (.region id O true) m:=by
 intro τ _ S B ρ e s a w Q hp h hQ;obtain⟨hh,nx,ro⟩:=s;have e0:(aB1 O).run up e ⟨hh,nx,ro⟩=fN (Nat.add nx (Nat.succ (bI O.toList))) λnx'=>fU O.toList nx ⟨0,0,⟨hh,nx',ro⟩⟩ O.toList 0 (Region.before O).toList ⟨[],[],[]⟩ up e:=rfl;rw[e0,iL]at h hQ;obtain⟨nx',cH0⟩:∃nx',nx'=nx+(O.toList.length+1):=⟨_,rfl⟩;have cH1:Nat.add nx (Nat.succ (bI O.toList))=nx':=by rw[cH0,jC];rfl
 rw[cH1]at h hQ;obtain⟨h0,hh0⟩:∃h0:DH,h0=⟨0,0,⟨hh,nx',ro⟩⟩:=⟨_,rfl⟩;rw[<-hh0]at h hQ;have cE3:Acc O.toList [] e nx ⟨[],[],[]⟩:=⟨λd hd=>by simp at hd,λx hx=>by simp at hx,λc ⟨s,hs⟩=>by simp[bK]at hs,λc ob hc=>by simp[bK]at hc,List.Pairwise.nil,λc o x _ hx=>by simp at hx⟩;have hfr0:aV O.toList [] e 0=e:=rfl;obtain⟨es,h1,h2,h3,dF,h4,h5⟩:=bk8 (up:=up) (e0:=e) (b0:=nx) (h0:=h0) O.toList O.toList [] [] (Region.before O).toList ⟨[],[],[]⟩ rfl rfl (by simp) cE3 (by rw[show([]:List dU).length=0 from rfl,hfr0];exact h);simp only[rO,List.length_nil,V7]at h2 h3 h4 h5;rw[hfr0]at h5;rw[h5]at hQ;have hdr:CU O.toList.toArray=true:=by simpa using hd
 have C:ax4 P O.toList up es e nx h0 m ro:=
  { len:=h1,cnd:=λi o x ho hx=>h2 i o x ho hx,lat:=λc j hs hl=>h3 c j hs (Y3 _) hl,dr:=hdr,op:=λo=>bG0 hP hup o,new:=λo h=>cU7 hP h,ops:=ho
    ro:=by rw[hh0] }
 have hR:=hp.rl.drew';have br3:∀b,nx<=b->ρ b=none:=hp.rl.fresh;have hx0:vU ρ (aJ ρ (nx+O.toList.length) ⟨0,0,0,0⟩):=YT (br3 _ (by omega)) _;have hne:∀b,b≠nx+O.toList.length->aJ ρ (nx+O.toList.length) ⟨0,0,0,0⟩ b=ρ b:=λb hb=>F9 hb;have hv0:aN O.toList es h0 none=h0:=rfl;have cD9:∀b o,hh.get (pa b)=some o->b<nx:=λb o hb=>hR.lt (s:=⟨hh,nx,ro⟩) hb;have hat:∀b o L,hh.get (pa b)=some o->aJ ρ (nx+O.toList.length) ⟨0,0,0,0⟩ b=some L->ρ b=some L:=λb o L hb hL=>by grind
 have hI0:NI O.toList es e nx h0 S w m B ρ ro (λ_=>false) none (aJ ρ (nx+O.toList.length) ⟨0,0,0,0⟩) a { w with drawn:=w.drawn+1 }:=
  { vq:=λ_ _=>rfl
    rl:=by
     have hsub:∀b o,TS O.toList es nx h0 (λ_=>false) none b o->hh.get (pa b)=some o:=λb o h=>by
      rcases h with h|⟨_,_,h,_⟩
      .rw[hv0,hh0]at h;exact h
      .cases h
     rw[hv0,hh0]
     exact⟨hR.kept,hR.slt,hR.gs,λb hb=>by rw[hne b (by simp only at hb;omega)];exact br3 b (by simp only at hb;omega),by have:=hR.mP;simp only at this⊢;omega,λb o hb=>(hR.obj b o (hsub b o (hh0▸hb))).ext hx0,
      λb o L hb hL hr=>hR.own b o L (hsub b o (hh0▸hb)) (hat b o L (hsub b o (hh0▸hb)) hL) hr,λb cs L hb hL=>hR.jW b cs L (hsub b _ (hh0▸hb)) (hat b _ L (hsub b _ (hh0▸hb)) hL),
      λb b' o o' L L' hb hb' hL hL'=>hR.inj b b' o o' L L' (hsub b o (hh0▸hb)) (hsub b' o' (hh0▸hb')) (hat b o L (hsub b o (hh0▸hb)) hL) (hat b' o' L' (hsub b' o' (hh0▸hb')) hL')⟩
    env:=λt v ht=>by
     have hz:∀mm,dR O.toList es (λ_=>false) e mm=e:=λmm=>by
      induction mm with
      |zero=>rfl
      |succ mm ih=>simp only[dR,ih,G6];split<;>rfl
     rw[hz]at ht;exact(hp.env.ext hx0) t v ht
    sz:=hp.sz
    bG:=hp.bG.kept ((Kept.refl (λ_=>False) w).drew)
    low:=λb hb=>hne b (by omega)
    free:=λi ob h1' _=>by
     have:=lQ h1'
     grind
    top:=⟨_,jF _ _⟩
    nx:=by grind
    nt:=λi ob o h1' _ h3'=>by
     rw[hv0,hh0]at h3';have:=cD9 _ _ h3';omega
    vJ:=by rw[hv0,hh0] }
 obtain⟨qF,hq1,hq2,hq3⟩:=h4.last (h0:=h0);refine wpIn_region_any hP.mixed ?_;have hlist:∀k,(Array.replicate O.size false).getD k false=false:=λk=>by
  rw[aT,Array.getElem?_replicate]
  grind
 have cF9:(λk=>(Array.replicate O.size false).getD k false)=λ_=>false:=funext hlist;have:=cs3 (ops:=O.toList) C (τ:=τ) (Q:=Q) (λq ρ' a' w' hI=>?_) O.size (Array.replicate O.size false) none _ a { w with drawn:=w.drawn+1 } (by simp)
  (λk o e' _ hk=>by simp only[hlist]at hk;cases hk) (X4 (List.length_filter_le _ _) (by simp)) (by rw[cF9];exact hI0)
 .simpa using this
 .have hqe:q=qF:=hI.vq.unique hq1 λc ⟨s,hs⟩=>by have:=lQ hs;simp[this]
  subst hqe;have hadd:=CG;have hend:∀(al:List DA)(s:St),(∀d∈al,bK es d.i=some (.al d.o)/\d.b=nx+d.i)->((List.rec (motive:=λ_=>St->St) (λs=>s) (λa _ ih s=>bq (Nat.testBit (lastH h0 dF).mask a.i) (ih s) (ih ⟨s.h.set (pa a.b) (some a.o),s.nx,s.ro⟩)) al:St->St) s).nx=s.nx/\
   ((List.rec (motive:=λ_=>St->St) (λs=>s) (λa _ ih s=>bq (Nat.testBit (lastH h0 dF).mask a.i) (ih s) (ih ⟨s.h.set (pa a.b) (some a.o),s.nx,s.ro⟩)) al:St->St) s).ro=s.ro/\
   ∀b o,told ((List.rec (motive:=λ_=>St->St) (λs=>s) (λa _ ih s=>bq (Nat.testBit (lastH h0 dF).mask a.i) (ih s) (ih ⟨s.h.set (pa a.b) (some a.o),s.nx,s.ro⟩)) al:St->St) s) b o->told s b o\/∃i,bK es i=some (.al o)/\(lastH h0 dF).mask.testBit i=false/\b=nx+i:=by
   intro al;induction al with
   |nil=>grind
   |cons d al ih=>
    intro s hal;have ih:=λs=>ih s λd hd=>hal d (NR _ hd);simp only;rw[V8];split
    .exact ih s
    .rename_i hb;obtain⟨k1,k2,k3⟩:=ih ⟨s.h.set (pa d.b) (some d.o),s.nx,s.ro⟩;refine⟨k1,k2,λb o h=>?_⟩;rcases k3 b o h with g|g
     .rcases kT g with⟨rfl,e1⟩|⟨_,g⟩
      .grind
      .exact .inl g
     .exact .inr g
  obtain⟨k1,k2,k3⟩:=hend dF.al (lastH h0 dF).s h4.al;have XH:aN O.toList es h0 q=lastH h0 dF:=hq3;have hnx2:=hI.nx;rw[XH]at hnx2;have hR':Rl S w ρ' ((List.rec (motive:=λ_=>St->St) (λs=>s) (λa _ ih s=>bq (Nat.testBit (lastH h0 dF).mask a.i) (ih s) (ih ⟨s.h.set (pa a.b) (some a.o),s.nx,s.ro⟩)) dF.al:St->St) (lastH h0 dF).s) w':=by
   have hrl:=hI.rl;have cJ0:=hI.vJ;rw[XH]at hrl cJ0;refine lY.dt6 (T:=TS O.toList es nx h0 (λ_=>true) q) ?_ λb o hb=>?_
   .grind
   .rcases k3 b o hb with g|⟨i,g1,g2,g3⟩
    .left;rw[XH];exact g
    .exact .inr ⟨i,g1,rfl,by rw[XH];exact g2,g3⟩
  refine hQ .n _ _ ρ' a' w' (.inl rfl) { ext:=⟨λb L hb=>?_,λb c L hb hc=>?_⟩,rl:=hR',ro:=k2.trans (by have:=hI.vJ;rw[XH]at this;exact this),nx:=by rw[k1];show nx<=_;omega,env:= ?_,sz:=hI.sz,bG:=hI.bG,bw:=X4 hp.bw hR'.kept.size }
  .have hlt:b<nx:=by
    grind
   rw[hI.low b hlt];exact hb
  .have hlt:c<nx:=by
    grind
   exact hI.low b (by omega)
  .exact hI.env
end
section
variable{P:Program}{S:Nat->Prop}{w0:World}{ρ:Ren}{e:Env}{s:St}{a:Act}{w:World}{B m:Nat}
theorem c74{r:RO}{k:St->RC}(h:RO.rec (motive:=λ_=>RC) .no (λ_ s=>k s) (λl=>pW (iO (λw=>k w.2) l)) r≠.no):
 r≠.no/\∀v s',Has r v s'->k s'≠.no/\∀x e' s2,gZ (k s') x e' s2->gZ (RO.rec (motive:=λ_=>RC) .no (λ_ s=>k s) (λl=>pW (iO (λw=>k w.2) l)) r) x e' s2:=by
 cases r with
 |no=>grind
 |one v0 s0=>
  refine⟨λh=>(by cases h),λv s' hv=>?_⟩;rcases hv with hv|⟨l,hv,_⟩
  .grind
  .cases hv
 |many l=>
  refine⟨λh=>(by cases h),λv s' hv=>?_⟩;rcases hv with hv|⟨l',hv,hm⟩
  .cases hv
  .injection hv with hv;subst hv
   exact(ae2 (l:=iO (λw=>k w.2) l) h).2 (k s') (by rw[wQ];exact iV.2 ⟨_,hm,rfl⟩)
theorem c63(hP:oG P){up:Runner}(hup:tK P up){g:Operand}{ps:Array Tmp}{aA body:Code}{Q:Exit->Act->World->Prop}(hc:codeOk m (.rangeFunc g ps aA body)=true)(hp:Pre S B m ρ e s a w)(h:ag5 g ps aA body up e s≠.no)
 (hQ:∀x e' s' ρ' a' w',gZ (ag5 g ps aA body up e s) x e' s'->jL S B m ρ s w e' s' ρ' a' w'->Q (yO x) a' w'):(Code.rangeFunc g ps aA body).wpIn (dG none) 0 P Q a w:=by
 have hR:=hp.rl;have V6:(allB (λp=>Nat.blt p m) ps.toList&&codeOk m aA&&codeOk m body&&cO aA&&cO body)=true:=by
  have h0:codeOk m (.rangeFunc g ps aA body)=bq (allB (λp=>Nat.blt p m) ps.toList) (bq (cO aA) (bq (cO body) (bq (codeOk m aA) (codeOk m body) false) false) false) false:=rfl;rw[h0]at hc;simp only[V8]at hc
  grind
 unfold ag5 at h hQ;cases hg:look g e with
 |none=>rw[hg]at h;exact absurd rfl h
 |some fv=>
  rw[hg]at h hQ;simp only[zK]at h hQ;obtain⟨s1,hs1⟩:∃s1:St,s1=⟨s.h.set (pa s.nx) (some (.l 0 e ps.toList aA body none)),s.nx+1,s.ro⟩:=⟨_,rfl⟩;rw[<-hs1]at h hQ;replace h:ao8 up fv e (.y s.nx) s1≠.no:=h;replace hQ:∀x e' s' ρ' a' w',gZ (ao8 up fv e (.y s.nx) s1) x e' s'->jL S B m ρ s w e' s' ρ' a' w'->Q (yO x) a' w':=hQ;have hf:=aI hg hp.env;unfold ao8 at h hQ;split at h
  rotate_left
  .grind
  rename_i b f fs cs hb;injection hb with hb
  subst hb;simp only at hQ;obtain⟨h1,h2⟩:=c74 h;generalize hax:a.eval g=y at hf;cases hf with
  |f _ _ _ vs us g1 g2 g3 g4=>
   refine wpIn_rangeFunc ?_;intro fn _;obtain⟨R,JV⟩:∃R:Loop,R={ state:=.ready,pending:=none,fn:=fn,tmps:=a.tmps,params:=ps,assign:=aA,body:=body,defers:=w.heap.size }:=⟨_,rfl⟩;obtain⟨w1,hw1⟩:∃w1,w1=(w.alloc (.deferred (some []))).alloc (.loop R):=⟨_,rfl⟩;have hsz1:w1.heap.size=w.heap.size+2:=by rw[hw1];simp
   have hD1:w1.heap[w.heap.size]?=some jZ:=by
    rw[hw1];exact(Below.heap_alloc _ _ _ (by simp)).trans (World.alloc_heap_new w _)
   have aG2:(kE 0 none).put R=R:=by rw[JV];rfl
   have hk0:Kept S w (w.alloc (.deferred (some []))):=kept_alloc hR _;have hloc:∀b o L,s.h.get (pa b)=some o->ρ b=some L->L.blk<w.heap.size:=λb o L hb hL=>by
    obtain⟨M,h1,h2⟩:=(hR.obj b o hb).loc
    grind
   have hR0:Rl S w ρ s (w.alloc (.deferred (some []))):=hR.world hk0 λb o L hb hL=>uP w _ (hloc b o L hb hL);have hext:Ext ρ (aJ ρ s.nx ⟨(w.alloc (.deferred (some []))).heap.size,0,0,0⟩):=ER hR.fresh _;obtain⟨hx1,hR1⟩:=hR0.newObj (.loop R) (.l 0 e ps.toList aA body none) ⟨_,R,jF _ _,by rw[aG2];exact aW _ _,by rw[JV],by rw[JV],by rw[JV],by rw[JV];exact hp.env.ext hext,by rw[JV];show(allB (λp=>Nat.blt p a.tmps.size) ps.toList&&codeOk a.tmps.size aA&&codeOk a.tmps.size body&&cO aA&&cO body)=true;rw[hp.sz];exact V6⟩ (λcs e=>by cases e);rw[<-hw1,<-hs1]at hR1;have hLb:(w.alloc (.deferred (some []))).heap.size=w.heap.size+1:=by simp
   rw[hLb]at hR1 hx1;obtain⟨ρ1,hρ1⟩:∃ρ1,ρ1=aJ ρ s.nx ⟨w.heap.size+1,0,0,0⟩:=⟨_,rfl⟩;rw[<-hρ1]at hR1 hx1;have hL1:ρ1 s.nx=some ⟨w.heap.size+1,0,0,0⟩:=by rw[hρ1];exact jF _ _
   have e0:dW fs (dW [AV.y s.nx] cs)=fs++([AV.y s.nx]++cs):=by rw[oI,oI]
   obtain⟨⟨WR,hfn,hnm,hbd⟩,hcall⟩:=aA3 hP hup f _ s1 h1;rw[e0]at hcall;have hall:J8 ρ1 (fs++([AV.y s.nx]++cs)) (vs++([Value.func (.yield (w.heap.size+1)) #[] #[]]++us)):=
    (J8.ext hx1 ⟨g1,g3⟩).append ((J8.cons (.y _ _ hL1) (J8.nil _)).append (J8.ext hx1 ⟨g2,g4⟩))
   have hc:=hcall S ρ1 _ w1 hall hR1.YV;have hnm':¬(WR.name= "runtime.NumGoroutine"):=by grind
   have uO:¬(WR.body=none):=λe=>by grind
   have hE:vs.toArray++#[Value.func (.yield (w.heap.size+1)) #[] #[]]++us.toArray=(vs++([Value.func (.yield (w.heap.size+1)) #[] #[]]++us)).toArray:=by grind
   refine⟨w.heap.size+1,[{ target:=.collected w.heap.size,args:=#[] }],w1,{ target:=.fn (.func f) us.toArray,args:=vs.toArray++#[.func (.yield (w.heap.size+1)) #[] #[]] },w1,f,
    (vs++([Value.func (.yield (w.heap.size+1)) #[] #[]]++us)).toArray,w1,?_,?_,λ_ _=>trivial,?_,λh=>(nomatch h),?_⟩
   .rw[hw1,JV];exact run_enterLoop_outer _ _ _ _ _
   .simp only[resolve,hax];simp[go_sem]
   .simp only[invoke,callFunc,hE];simp[Go.program,Sem.run,hfn,hnm',uO,go_sem]
   refine OH.2 (hc.mono ?_);rintro en w3 ⟨v,s3,ρ3,x,rfl,q1,q2,q3,q4,q5,q6⟩;rw[<-e0]at q1;obtain⟨k1,k2⟩:=h2 v s3 q1;have hL3:=q2 _ _ hL1;have cI6:s3.ro<=s.nx:=by rw[q4,hs1];exact hR.mP
   have uM:Rl S w ρ3 s3 w3:=q3.onto hR1.kept hR.slt hR1.gs;have fin:∀(q:Nat)(jo:Option Code)(e3:Env)(LD:List Nat)(HY IB:Code)(x3:Ex),s3.h.get (pa s.nx)=some (.l q e3 LD HY IB jo)->(∀R3:Loop,((kE q jo).put R3).state≠.busy/\((kE q jo).put R3).pending=wO x3)->JE s.nx e s3=.one x3 e (VR s3 s.nx)->
    ∃jump w₄,(Instr.endLoop (w.heap.size+1)).run P w3=.ok jump w₄/\(match jump with
     |none=>Q .normal { a with defers:=[{ target:=.collected w.heap.size,args:=#[] }]++a.defers } w₄
     |some c=>c.wpIn (dG none) 0 P Q { a with defers:=[{ target:=.collected w.heap.size,args:=#[] }]++a.defers } w₄):=by
    intro q jo e3 LD HY IB x3 hb3 hst her;obtain⟨L3,R3,m1,m2,m3⟩:=uM.obj _ _ hb3;rw[hL3]at m1;injection m1 with m1
    subst m1;have hend:(Instr.endLoop (w.heap.size+1)).run P w3=.ok (wO x3) (w3.putObj (w.heap.size+1) (.loop { (kE q jo).put R3 with state:=.exhausted })):=by
     rw[<-(hst R3).2];exact run_endLoop (P:=P) m2 (hst R3).1
    refine⟨wO x3,_,hend,?_⟩;replace hL3:ρ3 s.nx=some ⟨w.heap.size+1,0,0,0⟩:=hL3;have hnS:=uM.own _ _ _ hb3 hL3 cI6;have hoth:∀k,k≠w.heap.size+1->(w3.putObj (w.heap.size+1) (.loop { (kE q jo).put R3 with state:=.exhausted })).heap[k]?=w3.heap[k]?:=λk hk=>gK hk;have hk4:Kept S w3 (w3.putObj (w.heap.size+1) (.loop { (kE q jo).put R3 with state:=.exhausted })):=
     ⟨rfl,rfl,rfl,by simp,λk hk=>hoth k (λe=>hnS (e▸hk)),λk hk=>(hoth k (λe=>by rw[e,m2]at hk;exact nomatch hk)).trans hk⟩
    have hR4:=(uM.drop s.nx).world hk4 λb o L hb hL=>hoth _ λe=>by
     rcases kT hb with⟨_,e'⟩|⟨hne,hb'⟩
     .cases e'
     .exact hne (uM.inj b s.nx o _ L _ hb' hb3 hL hL3 e)
    have cI2:jL S B m ρ s w e (VR s3 s.nx) ρ3 { a with defers:=[{ target:=.collected w.heap.size,args:=#[] }]++a.defers } (w3.putObj (w.heap.size+1) (.loop { (kE q jo).put R3 with state:=.exhausted })):=
     { ext:=hx1.trans q2
       rl:=hR4
       ro:=by show s3.ro=s.ro;rw[q4,hs1]
       nx:=by show s.nx<=s3.nx;rw[hs1]at q5;exact X4 (Nat.le_succ _) q5
       env:=hp.env.ext (hx1.trans q2)
       sz:=hp.sz
       bG:=⟨⟨w.heap.size,rfl,(hk4.bG _ (q3.kept.bG _ hD1)),hp.bw,hp.bG.lt⟩,(hp.bG.kept uM.kept).kept hk4⟩
       bw:=by have h1:=hp.bw;have h2:=uM.kept.size;simp;omega }
    have hq:=hQ x3 e _ ρ3 _ _ (k2 x3 e _ (.inl her)) cI2;cases x3 with
    |n=>exact hq
    |r=>exact wpIn_ret hq
    |x id=>exact wpIn_exit hq
   have k1':=k1;unfold JE at k1;split at k1
   .rename_i e3 LD HY IB j3 hb3;exact fin 0 j3 e3 LD HY IB .n hb3 (λR3=>⟨by simp[kE,jU.put],rfl⟩) (by simp only[JE,hb3])
   .rename_i e3 LD HY IB j3 hb3;split at k1
    .exact fin 2 (some .ret) e3 LD HY IB .r hb3 (λR3=>⟨by simp[kE,jU.put],rfl⟩) (by simp only[JE,hb3])
    .rename_i id;exact fin 2 (some (.exit id)) e3 LD HY IB (.x id) hb3 (λR3=>⟨by simp[kE,jU.put],rfl⟩) (by simp only[JE,hb3])
    .grind
   .grind
theorem az5{a b:Bool}(h:bq a b false=true):a=true/\b=true:=lJ h
theorem bC7{τ:Option Nat}{x y:Code}(h:τ=none\/(cO x&&cO y)=true):(τ=none\/cO x=true)/\(τ=none\/cO y=true):=⟨YN h,QM h⟩
theorem cR1{up:Runner}{ia:OL}{body:Code}(ih:ad8 P (ia.run up) body m){τ:Option Nat}(hτ:τ=none\/cO body=true){Q:Exit->Act->World->Prop}(k:Nat)(hp:Pre S B m ρ e s a w)(h:KO k ia up e s≠.no)
 (hQ:∀x e' s' ρ' a' w',gZ (KO k ia up e s) x e' s'->jL S B m ρ s w e' s' ρ' a' w'->Q (yO x) a' w'):(Code.loop body).wpIn (dG τ) 0 P Q a w:=by
 refine b93 (λk a' w'=>∃e' s' ρ',KO k ia up e' s'≠.no/\(∀x e2 s2,gZ (KO k ia up e' s') x e2 s2->x≠.n->∀ρ2 a2 w2,jL S B m ρ s w e2 s2 ρ2 a2 w2->Q (yO x) a2 w2)/\jL S B m ρ s w e' s' ρ' a' w') k ⟨e,s,ρ,h,λx e2 s2 hh _ ρ2 a2 w2 hq=>hQ x e2 s2 ρ2 a2 w2 hh hq,hp⟩ ?_;rintro k a1 w1 ⟨e1,s1,ρ1,h1,h2,hp1⟩;cases k with
 |zero=>exact absurd rfl h1
 |succ k=>
  have e0:KO (k+1) ia up e1 s1=bC (ia.run up e1 s1) λx e s=>Ex.rec (motive:=λ_=>RC) (KO k ia up e s) (λi=>.one (.x i) e s) (.one .r e s) x:=rfl;rw[e0]at h1 h2;obtain⟨h3,h4⟩:=ay9 h1;refine ih τ hτ S B ρ1 e1 s1 a1 w1 _ hp1.pre h3 λx e2 s2 ρ2 a2 w2 hh hq=>?_;obtain⟨h5,h6⟩:=h4 x e2 s2 hh;have hq':=hp1.trans hq;cases x with
  |n=>exact⟨k,X8 k,e2,s2,ρ2,h5,λx e3 s3 hh3 hne ρ3 a3 w3 hq3=>h2 x e3 s3 (h6 x e3 s3 hh3) hne ρ3 a3 w3 hq3,hq'⟩
  |r=>exact h2 .r e2 s2 (h6 .r e2 s2 (.inl rfl)) (λe=>by cases e) ρ2 a2 w2 hq'
  |x id=>exact h2 (.x id) e2 s2 (h6 (.x id) e2 s2 (.inl rfl)) (λe=>by cases e) ρ2 a2 w2 hq'
set_option maxRecDepth 100000 in
theorem cq2(hP:oG P){up:Runner}(hup:tK P up)(c:Code):∀m,codeOk m c=true->ad8 P ((comp c).run up) c m:=by
 induction c with
 |skip=>exact λm _ τ _ S B ρ e s a w Q hp _ hQ=>wpIn_skip (hQ .n e s ρ a w (.inl rfl) hp)
 |region id ops draw=>
  intro m hc;have h0:codeOk m (.region id ops draw)=bq (EN m ops.toList) (bq draw (CU ops) true) false:=rfl;rw[h0]at hc;obtain⟨h1,h2⟩:=az5 hc;cases draw with
  |true=>exact ct7 hP hup h1 h2
  |false=>
   intro τ _ S B ρ e s a w Q hp h hQ;refine wpIn_region_list ?_;have:=aP5 (P:=P) (m:=m) (up:=up) (λo=>bG0 hP hup o) (τ:=τ) (all:=ops.toList) (Q:=Q) ops.toList ρ e s a w h1 hp h hQ;simpa using this
 |seq x y zC ihy=>
  intro m hc;have h0:codeOk m (.seq x y)=bq (codeOk m x) (codeOk m y) false:=rfl;rw[h0]at hc;obtain⟨h1,h2⟩:=az5 hc;intro τ hτ S B ρ e s a w Q hp h hQ;obtain⟨n1,n2⟩:=bC7 (x:=x) (y:=y) hτ;have e0:(comp (.seq x y)).run up e s=bC ((comp x).run up e s) (sqK (comp y) up):=rfl;rw[e0]at h hQ;obtain⟨h3,h4⟩:=ay9 h;refine wpIn_seq (zC m h1 τ n1 S B ρ e s a w _ hp h3 λx1 e1 s1 ρ1 a1 w1 hh hq=>?_);obtain⟨h5,h6⟩:=h4 x1 e1 s1 hh;cases x1 with
  |n=>exact ihy m h2 τ n2 S B ρ1 e1 s1 a1 w1 Q hq.pre h5 λx2 e2 s2 ρ2 a2 w2 hh2 hq2=>hQ x2 e2 s2 ρ2 a2 w2 (h6 _ _ _ hh2) (hq.trans hq2)
  |r=>exact hQ .r e1 s1 ρ1 a1 w1 (h6 _ _ _ (.inl rfl)) hq
  |x id=>exact hQ (.x id) e1 s1 ρ1 a1 w1 (h6 _ _ _ (.inl rfl)) hq
 |cond c x y zC ihy=>
  intro m hc;have h0:codeOk m (.cond c x y)=bq (codeOk m x) (codeOk m y) false:=rfl;rw[h0]at hc;obtain⟨h1,h2⟩:=az5 hc;intro τ hτ S B ρ e s a w Q hp h hQ;obtain⟨n1,n2⟩:=bC7 (x:=x) (y:=y) hτ;have e0:(comp (.cond c x y)).run up e s=Option.rec (motive:=λ_=>RC) .no (λa=>ac7 a (comp x) (comp y) up e s) (look c e):=rfl;rw[e0]at h hQ;cases hl:look c e with
  |none=>rw[hl]at h;exact absurd rfl h
  |some v=>
   rw[hl]at h hQ;replace h:ac7 v (comp x) (comp y) up e s≠.no:=h;replace hQ:∀x' e' s' ρ' a' w',gZ (ac7 v (comp x) (comp y) up e s) x' e' s'->jL S B m ρ s w e' s' ρ' a' w'->Q (yO x') a' w':=hQ;have hv:=aI hl hp.env;unfold ac7 at h hQ;split at h
   .rename_i b;simp only at hQ;have hb:a.eval c=.bool b:=by generalize a.eval c=z at hv;cases hv;rfl
    cases b with
    |true=>exact wpIn_cond_true hb (zC m h1 τ n1 S B ρ e s a w Q hp h hQ)
    |false=>exact wpIn_cond_false hb (ihy m h2 τ n2 S B ρ e s a w Q hp h hQ)
   .grind
 |block id body ih=>
  intro m hc;intro τ hτ S B ρ e s a w Q hp h hQ;have e0:(comp (.block id body)).run up e s=bC ((comp body).run up e s) (blK id):=rfl;rw[e0]at h hQ;obtain⟨h3,h4⟩:=ay9 h;refine wpIn_block (ih m hc τ hτ S B ρ e s a w _ hp h3 λx1 e1 s1 ρ1 a1 w1 hh hq=>?_);obtain⟨h5,h6⟩:=h4 x1 e1 s1 hh;cases x1 with
  |n=>exact hQ .n e1 s1 ρ1 a1 w1 (h6 _ _ _ (.inl rfl)) hq
  |r=>exact hQ .r e1 s1 ρ1 a1 w1 (h6 _ _ _ (.inl rfl)) hq
  |x j=>
   have e1':blK id (.x j) e1 s1=bq (Nat.beq j id) (.one .n e1 s1) (.one (.x j) e1 s1):=rfl;simp only[yO,Exit.inBlock];by_cases hj:j=id
   .rw[I4 hj];refine hQ .n e1 s1 ρ1 a1 w1 (h6 _ _ _ (.inl ?_)) hq;rw[e1',hj,Nat.beq_refl];rfl
   .rw[F9 hj];refine hQ (.x j) e1 s1 ρ1 a1 w1 (h6 _ _ _ (.inl ?_)) hq;have:Nat.beq j id=false:=by rw[rV];simpa using hj
    rw[e1',this];rfl
 |loop body ih=>
  intro m hc;intro τ hτ S B ρ e s a w Q hp h hQ;have e0:(comp (.loop body)).run=aA0 (comp body):=rfl;rw[e0]at h hQ;unfold aA0 at h hQ;generalize 4096=k at h hQ;exact cR1 (ih m hc) hτ k hp h hQ
 |exit id=>exact λm _ τ _ S B ρ e s a w Q hp _ hQ=>wpIn_exit (hQ (.x id) e s ρ a w (.inl rfl) hp)
 |ret=>exact λm _ τ _ S B ρ e s a w Q hp _ hQ=>wpIn_ret (hQ .r e s ρ a w (.inl rfl) hp)
 |rangeFunc g ps x y=>
  intro m hc τ hτ S B ρ e s a w Q hp h hQ;obtain rfl:τ=none:=hτ.resolve_right (λh=>nomatch h);exact c63 hP hup hc hp h hQ
 |_=>exact λm _ τ _ S B ρ e s a w Q hp h _=>absurd rfl h
theorem bn0(hP:oG P):∀n,tK P (evN n)
 |0=>λc m _ τ _ S B ρ e s a w Q hp h _=>absurd rfl h
 |n+1=>λc m hc=>cq2 hP (bn0 hP n) c m hc
theorem ar9{b:Nat}{o:AO}(h:st0.h.get (pa b)=some o):False:=by
 have e0:st0.h=full AO 18:=rfl;rw[e0,aj0]at h;cases h
theorem Rl.start(w:World)(hg:∀w',Kept (λk=>k<w.heap.size) w w'->GE w'):Rl (λk=>k<w.heap.size) w (λ_=>none) st0 w:=
 { kept:=Kept.refl _ _
   slt:=λ_ h=>h
   gs:=hg
   fresh:=λ_ _=>rfl
   mP:=J6 _
   obj:=λb o h=>(ar9 h).elim
   own:=λb o L h=>(ar9 h).elim
   jW:=λb cs L h=>(ar9 h).elim
   inj:=λb b' o o' L L' h=>(ar9 h).elim }
theorem cx9(hP:oG P){n:Nat}{f:FuncId}(h:evT n f=true){G:World->Prop}(hG:∀w,G w->GE w):Holds P G f [] (.v (.bool true)):=by
 have h0:evT n f=RO.rec (motive:=λ_=>Bool) false (λv _=>isTrue v) (λ_=>false) (yG (evN n) f [] st0):=rfl;rw[h0]at h;cases hr:yG (evN n) f [] st0 with
 |no=>rw[hr]at h;cases h
 |many l=>rw[hr]at h;cases h
 |one v s=>
  rw[hr]at h;replace h:isTrue v=true:=h;obtain⟨hb,hc⟩:=aA3 hP (bn0 hP n) f [] st0 (by rw[hr];exact λe=>by cases e);rw[hr]at hc;refine⟨hb,λZ w vs hv hz hg=>?_⟩;have:vs=[]:=lX hv.1.symm;subst this;refine(hc (λk=>k<w.heap.size) (λ_=>none) [] w (J8.nil _) (Rl.start w λw' hk=>hG w' (hg w' hk.below))).mono ?_;rintro en w' ⟨v',s',ρ',x,rfl,hh,_,hR,_,_,hx⟩;have hv':v'=v:=by
   rcases hh with hh|⟨l,hh,_⟩
   .grind
   .cases hh
  subst hv';have hx':x=.bool true:=by
   unfold isTrue at h;split at h
   .cases hx;rw[h]
   .cases h
  refine⟨x,Z,rfl,?_,λ_ _ h=>h,λb o h=>⟨.inl h,Z5 (hz b o h) hR.kept.size⟩,hR.kept.below⟩;rw[hx'];exact .mk (.v _)
end
end
section
open Go Go.F6
set_option maxRecDepth 1000000 in
theorem ck7:evT 60 5=true:=by decide+kernel
end
section
open Go Go.F6 Go.RowKit Go.Proofs Go.Proofs.YtibiibjbmhckgaaGreatDoor Proofs.Tryz
def xE{α:Type}(p:Nat->α->Prop):Bt α->Prop
 |.lf=>True
 |.nd k v a b=>p k v/\xE p a/\xE p b
theorem xE.get{α:Type}{p:Nat->α->Prop}{f:Nat}{x:α}:∀{b:Bt α},xE p b->b.get f=some x->p f x
 |.lf,_,h=>nomatch h
 |.nd k v a b,⟨h1,h2,h3⟩,h=>by
  change bq (Nat.beq f k) (some v) (bq (Nat.blt f k) (a.get f) (b.get f))=some x at h;cases e:Nat.beq f k with
  |true=>rw[e]at h;cases h;rw[F8 e];exact h1
  |false=>
   rw[e]at h;cases e2:Nat.blt f k with
   |true=>rw[e2]at h;exact h2.get h
   |false=>rw[e2]at h;exact h3.get h
def allT{α:Type}(p:α->Bool):Bt α->Bool
 |.lf=>true
 |.nd _ v a b=>p v&&allT p a&&allT p b
theorem ay2{α:Type}{p:α->Bool}{f:Nat}{x:α}:∀{b:Bt α},allT p b=true->b.get f=some x->p x=true
 |.lf,_,h=>nomatch h
 |.nd k v a b,h0,h=>by
  simp only[allT,X3]at h0;change bq (Nat.beq f k) (some v) (bq (Nat.blt f k) (a.get f) (b.get f))=some x at h;cases e:Nat.beq f k with
  |true=>rw[e]at h;cases h;exact h0.1.1
  |false=>
   rw[e]at h;cases e2:Nat.blt f k with
   |true=>rw[e2]at h;exact ay2 h0.1.2 h
   |false=>rw[e2]at h;exact ay2 h0.2 h
theorem ch8:allT (λF=> !(F.name== "runtime.NumGoroutine")&&aE8 F) fnB=true:=by decide+kernel
def TY{α:Type}:Bt α->List (Nat×α)
 |.lf=>[]
 |.nd k v a b=>(k,v)::(TY a++TY b)
theorem ae1{α:Type}{p:Nat->α->Prop}:∀{b:Bt α},(∀x∈TY b,p x.1 x.2)->xE p b
 |.lf,_=>trivial
 |.nd k v a b,h=>⟨h (k,v) (by simp[TY]),ae1 λx hx=>h x (by simp[TY,hx]),ae1 λx hx=>h x (by simp[TY,hx])⟩
theorem ci2:xE (N8 prog) tyB:=ae1 λx hx=>L8 _ _ ((List.map_inj_left (f:=λx=>tab.get x.1) (g:=λx=>some x.2)).1 (by kernel_rfl) x hx)
theorem ci1:xE (λf F=>prog.funcs[f]?=some F) fnB:=ae1 λx hx=>(List.map_inj_left (f:=λx:Nat×Func=>prog.funcs[x.1]?) (g:=λx=>some x.2)).1 (by kernel_rfl) x hx
theorem aK2:∀(p s:List UInt8),QA (p.map UInt8.toNat) (s.map UInt8.toNat)=p.isPrefixOf s
 |[],s=>by cases s<;>rfl
 |_::_,[]=>rfl
 |x::p,y::s=>by
  change bq (Nat.beq x.toNat y.toNat) (QA (p.map UInt8.toNat) (s.map UInt8.toNat)) false=(x==y&&p.isPrefixOf s);rw[aK2 p s];by_cases e:x=y
  .subst e;rw[Nat.beq_refl];simp[bq]
  .have:Nat.beq x.toNat y.toNat=false:=by
    cases h:Nat.beq x.toNat y.toNat with
    |false=>rfl
    |true=>exact absurd (UInt8.toNat_inj.1 (F8 h)) e
   rw[this];simp[bq,e]
theorem bu7(p:List UInt8):∀(s:List UInt8)(i:Nat),idxOf (p.map UInt8.toNat) (s.map UInt8.toNat) i=if Lib.index s p= -1 then none else some (i+(Lib.index s p).toNat)
 |[],i=>by
  change bq (QA (p.map UInt8.toNat) (List.map UInt8.toNat [])) (some i) none=_;rw[aK2];cases p<;>rfl
 |b::l,i=>by
  change bq (QA (p.map UInt8.toNat) (List.map UInt8.toNat (b::l))) (some i) (idxOf (p.map UInt8.toNat) (l.map UInt8.toNat) (i+1))=_;rw[aK2,bu7 p l];have:=Lib.index_ge l p;rw[show Lib.index (b::l) p=if p.isPrefixOf (b::l)then 0 else if Lib.index l p== -1 then -1 else Lib.index l p+1 from rfl];cases p.isPrefixOf (b::l)with
  |true=>rfl
  |false=>
   by_cases h:Lib.index l p= -1
   .simp[bq,h]
   .have h2:¬Lib.index l p+1= -1:=by omega
    have h3:i+1+(Lib.index l p).toNat=i+(Lib.index l p+1).toNat:=by omega
    simp[bq,h,h2,h3]
theorem bj9(c:Nat)(hc:c<256):∀s:List UInt8,countB c (s.map UInt8.toNat)=Lib.countByte s c.toUInt8
 |[]=>rfl
 |x::s=>by
  change bq (Nat.beq x.toNat c) (Nat.succ (countB c (s.map UInt8.toNat))) (countB c (s.map UInt8.toNat))=_;rw[bj9 c hc s];unfold Lib.countByte;rw[List.count_cons];by_cases e:x.toNat=c
  .have e2:x=c.toUInt8:=by subst e;simp
   subst e2;simp[bq,e,Nat.beq_refl]
  .have e2:¬x=c.toUInt8:=λh=>e (by rw[h];simp;omega);have e3:Nat.beq x.toNat c=false:=by
    cases h:Nat.beq x.toNat c with
    |false=>rfl
    |true=>exact absurd (F8 h) e
   rw[e3];simp[bq,e2]
theorem bL1(s:List UInt8):∀n,aS7 (s.map UInt8.toNat) n=(Lib.repeatL s n).map UInt8.toNat
 |0=>rfl
 |n+1=>by
  change dW (s.map UInt8.toNat) (aS7 (s.map UInt8.toNat) n)=_;rw[bL1 s n];simp[Lib.repeatL,oI]
theorem aq1{ρ:Ren}{s:List Nat}{x:Value}(h:RV ρ (.str s) x):∃b,x=.string b/\s=b.data.toList.map UInt8.toNat:=by
 cases h with|str b=>exact⟨b,rfl,rfl⟩
theorem bO4{ρ:Ren}{k:IntKind}{n:Nat}{x:Value}(h:RV ρ (.n k n) x):x=.int k (.ofNat n):=by
 cases h;rfl
theorem aT7{ρ:Ren}{a b:AV}{vs:List Value}(h:J8 ρ [a,b] vs):∃x y,vs=[x,y]/\RV ρ a x/\RV ρ b y:=by
 obtain⟨h1,h2⟩:=h
 match vs,h1 with
 |[x,y],_=>exact⟨x,y,rfl,h2 0 _ _ rfl rfl,h2 1 _ _ rfl rfl⟩
theorem dc0{ρ:Ren}{a:AV}{vs:List Value}(h:J8 ρ [a] vs):∃x,vs=[x]/\RV ρ a x:=by
 obtain⟨h1,h2⟩:=h
 match vs,h1 with
 |[x],_=>exact⟨x,rfl,h2 0 _ _ rfl rfl⟩
theorem af8{α:Type}{c:Bool}{a:Option α}{v:α}(h:bq c a none=some v):c=true/\a=some v:=by
 cases c
 .exact nomatch h
 .exact⟨rfl,h⟩
theorem cy2{ρ:Ren}{args:List AV}{v:AV}{vs:List Value}{w:World}(h:aC0 args=some v)(hr:J8 ρ args vs)(hG:GE w):
 Calls prog 229 vs.toArray w λen w'=>∃x,en=.returned x/\RV ρ v x/\Below w.heap.size w w':=by
 unfold aC0 at h;split at h
 .obtain⟨x,y,rfl,hx,hy⟩:=aT7 hr;obtain⟨a,rfl,rfl⟩:=aq1 hx;obtain⟨b,rfl,rfl⟩:=aq1 hy;obtain⟨h1,h2⟩:=af8 h;obtain⟨m,hm⟩:=hG;have hs:a.size<4294967281:=by
   have:=H6 h1;rw[jC]at this;simp only[U7,iT]at this;have e:a.size=a.data.size:=rfl;omega
  refine(Tryz.strings_Index a b m w hs hm).mono λe w' ⟨he,hw⟩=>⟨_,he,?_,by rw[hw];exact Below.refl _ _⟩;rw[bu7]at h2;have hg:=Lib.index_ge a.data.toList b.data.toList;split at h2
  .rename_i hi;cases h2;rw[hi];exact .neg .i64 0
  .rename_i hi;simp only[bu6,iL,V7]at h2;cases h2;have:=RV.n (ρ:=ρ) .i64 (Lib.index a.data.toList b.data.toList).toNat
   rwa [show Int.ofNat (Lib.index a.data.toList b.data.toList).toNat=Lib.index a.data.toList b.data.toList from by simp only[Int.ofNat_eq_natCast];omega]at this
 .exact nomatch h
theorem cy3{ρ:Ren}{args:List AV}{v:AV}{vs:List Value}{w:World}(h:aC3 args=some v)(hr:J8 ρ args vs):
 Calls prog 18 vs.toArray w λen w'=>∃x,en=.returned x/\RV ρ v x/\Below w.heap.size w w':=by
 unfold aC3 at h;split at h
 .rename_i n;obtain⟨x,y,rfl,hx,hy⟩:=aT7 hr;obtain⟨a,rfl,rfl⟩:=aq1 hx;cases bO4 hy;obtain⟨h1,h2⟩:=af8 h;obtain⟨h3,h4⟩:=af8 h2;have hn:=H6 h1;have hs:a.size<=1000000:=by
   have:=H6 h3;rw[jC]at this;simp only[U7,iT]at this;have e:a.size=a.data.size:=rfl;omega
  have hm:a.size*n<=1000000*4096:=Nat.mul_le_mul hs hn;refine(Tryz.strings_Repeat a n w (by omega) (by omega)).mono λe w' ⟨he,hw⟩=>⟨_,he,?_,hw⟩;rw[cy7,bL1]at h4;cases h4;exact RV.str ⟨(Lib.repeatL a.data.toList n).toArray⟩
 .exact nomatch h
theorem cy4{ρ:Ren}{args:List AV}{v:AV}{vs:List Value}{w:World}(h:aC4 args=some v)(hr:J8 ρ args vs):
 ∃x,(callFunc 163 vs.toArray).run prog w=.ok (.value x) w/\RV ρ v x:=by
 unfold aC4 at h;split at h
 .obtain⟨x,rfl,hx⟩:=dc0 hr;cases h;exact⟨x,by rw[run_callFunc_extern func163 (by kernel_rfl) (by kernel_rfl) (by kernel_rfl) (e:=Extern.AbiNoEscape.same) (by kernel_rfl)];rfl,hx⟩
 .exact nomatch h
theorem cy1{ρ:Ren}{args:List AV}{v:AV}{vs:List Value}{w:World}(h:aB9 args=some v)(hr:J8 ρ args vs):
 ∃x,(callFunc 387 vs.toArray).run prog w=.ok (.value x) w/\RV ρ v x:=by
 unfold aB9 at h;split at h
 .rename_i n;obtain⟨x,y,rfl,hx,hy⟩:=aT7 hr;obtain⟨a,rfl,rfl⟩:=aq1 hx;cases bO4 hy;obtain⟨h1,h2⟩:=af8 h;have hn:=H6 h1;refine⟨_,by rw[run_callFunc_extern func387 (by kernel_rfl) (by kernel_rfl) (by kernel_rfl) (e:=Extern.BytealgCount.count) (by kernel_rfl),Lib.run_countString];rfl,?_⟩;rw[bj9 _ (by omega),iL]at h2;cases h2;exact RV.n .i64 _
 .exact nomatch h
theorem db1{P:Program}{fits:TypeId->Bool}{d e c:Nat}(hc:1<=c)(h:rowAt P fits d e 1 0 1=true):rowAt P fits d e c 0 1=true:=by
 cases d with
 |zero=>exact h
 |succ d=>
  unfold rowAt at h⊢;simp only[Nat.zero_div,Nat.zero_mod,V7,Nat.zero_lt_one,nG,rH]at h⊢;have hc':0<c:=hc;simpa only[hc,hc',nG,rH,J6]using h
theorem cQ0{P:Program}{d e u c:Nat}(hc:1<=c)(h0:d≠0)(h:rowAt P (sameLayout P P.depth · u) P.depth e 1 0 1=true):liesAt P d e c 0 u 1=true:=by
 cases d with
 |zero=>exact absurd rfl h0
 |succ d=>unfold liesAt;rw[db1 hc h];rfl
theorem cl9:rowAt prog (sameLayout prog prog.depth · af4) prog.depth kQ 1 0 1=true:=by kernel_rfl
theorem cl7:prog.cellsOf kQ=2:=by kernel_rfl
theorem cl8:Nat.beq prog.depth 0=false:=by kernel_rfl
theorem YS:oG prog where
 ty t i h:=ci2.get h
 sk t h:=by
  rw[F8 h];kernel_rfl
 VG n hn:=cQ0 (by rw[cl7];omega) (λh=>by have:=cl8;rw[h]at this;exact nomatch this) cl9
 mixed:=mixed
 fn f F h:=by
  have:=ay2 ch8 h;simp only[X3,Bool.not_eq_true']at this;exact⟨ci1.get h,this.1,this.2⟩
 ext f g h:=by
  change aD7.get f=some g at h;have h0:xE (λf g=>pO prog f/\∀(ρ:Ren)(args:List AV)(v:AV)(vs:List Value)(w:World),g args=some v->J8 ρ args vs->GE w->Calls prog f vs.toArray w λen w'=>∃x,en=.returned x/\RV ρ v x/\Below w.heap.size w w') aD7:=
   ⟨⟨⟨_,func229,by kernel_rfl,by kernel_rfl⟩,λρ args v vs w h hr hG=>cy2 h hr hG⟩,⟨⟨⟨_,func18,by kernel_rfl,by kernel_rfl⟩,λρ args v vs w h hr hG=>cy3 h hr⟩,trivial,trivial⟩,trivial⟩
  exact h0.get h
 bn2 f g h:=by
  change aD9.get f=some g at h;have h0:xE (λf g=>∀(ρ:Ren)(args:List AV)(v:AV)(vs:List Value)(w:World),g args=some v->J8 ρ args vs->GE w->∃x,(callFunc f vs.toArray).run prog w=.ok (.value x) w/\RV ρ v x) aD9:=
   ⟨λρ args v vs w h hr hG=>cy4 h hr,trivial,⟨λρ args v vs w h hr hG=>cy1 h hr,trivial,trivial⟩⟩
  exact h0.get h
theorem ck6{G:World->Prop}(hG:∀w,G w->GE w):Holds prog G 5 [] (.v (.bool true)):=cx9 YS ck7 hG
end
end Go.Ev
namespace Go
abbrev kN:=@List.length_drop
abbrev pU:=@List.size_toArray
abbrev xU:=@List.take_append_of_le_length
abbrev xW:=@List.take_of_length_le
abbrev BN:=@List.drop_eq_nil_of_le
abbrev BQ:=@List.mem_of_mem_drop
abbrev BR:=@List.mem_of_mem_take
abbrev NS:=@List.take_take
abbrev ad6:=@IntKind.wrap_i64
abbrev ax2:=@Array.toList_append
abbrev bc9:=@Lib.wpList_append_run
abbrev GR:=@List.flatMap_cons
abbrev CJ:=@beq_eq_false_iff_ne
abbrev xP:=@List.drop_eq_getElem_cons
end Go
namespace Go.Proofs.YtibiibjbmhckgaaGreatDoor
section
open Go Go.F6 Go.RowKit Go.Ev Proofs.Tryz
structure Fr(S:Nat->Prop)(w w':World):Prop where
 os:w'.os=w.os
 tape:w'.tape=w.tape
 output:w'.output=w.output
 size:w.heap.size<=w'.heap.size
 block:∀k,k<w.heap.size->¬S k->w'.heap[k]?=w.heap[k]?
theorem run_copy_row{P:Program}{W:World}{t tx ty el z:Nat}(hu:P.underlying t=some (.slice el))(hz:∀w,(Go.sizeOf el).run P w=.ok z w){b o dLen dCap e:Nat}{arr:Array Value}(hh:W.heap[b]?=some (.cells arr e (0,0)))
 {x:Value} {sl:Nat} (hl:(Builtin.lenOf x).run P W=.ok sl W) {vs:List Value} (hsrc:(Builtin.firstCells z (Nat.min sl dLen) x).run P W=.ok vs.toArray W) (hfit:o+vs.length<=arr.size) (h1:∀u∈vs,u.oneCell'=true):
 (Builtin.copy_ #[t,tx] ty #[.slice (some ⟨b,o,none⟩) dLen dCap,x]).run P W=.ok (goInt (Nat.min sl dLen)) (W.setRow b (arr.toList.take o++vs++arr.toList.drop (o+vs.length)).toArray):=by
 have hst:=run_storeCells_at P b o e vs 0 arr W hh (by simpa using hfit) h1;simp only[oD]at hst;simp[Builtin.copy_,L6 hu,hl,hz,hsrc,hst]
inductive O9(w:World)(el z:Nat):Value->Nat->List Value->Option Nat->Prop
 |e (a:Option Addr):O9 w el z (.slice a 0 0) 0 [] none
 |b (b c n:Nat) (arr:Array Value) (hh:w.heap[b]?=some (.cells arr el (0,0))) (hs:arr.size=c*z) (hn:n<=c) (hm:c<=maxLen) (h1:∀u∈arr.toList.take (n*z),u.oneCell'=true):O9 w el z (.slice (some ⟨b,0,none⟩) n c) n (arr.toList.take (n*z)) (some b)
theorem wU{w:World}{el z b c n:Nat}{arr:Array Value}{C:List Value}(hh:w.heap[b]?=some (.cells arr el (0,0)))(hs:arr.size=c*z)(hn:n<=c)(hm:c<=maxLen)(h1:∀u∈C,u.oneCell'=true)(hC:arr.toList.take (n*z)=C):O9 w el z (.slice (some ⟨b,0,none⟩) n c) n C (some b):=by subst hC;exact .b b c n arr hh hs hn hm h1
theorem cd2{t:Nat}{i:TI}(hT:N8 prog t i)(hs:1<=i.size)(n:Nat):∀u∈(Builtin.zeroCells (O7 i).cells n).toList,u.oneCell'=true:=λu hu=>by
 have hzs:(O7 i).cells.size=i.size:=by rw[kK hT];simp[hT.len]
 simp only[Builtin.zeroCells,Array.toList_map,iV]at hu;obtain⟨q,hq,rfl⟩:=hu;have hq2:q % (O7 i).cells.size<(O7 i).cells.size:=Nat.mod_lt _ (by omega);rw[getElem!_pos (O7 i).cells _ hq2];have ho:=hT.one;rw[nZ]at ho;have hmem:∀u∈(O7 i).cells.toList,u.oneCell'=true:=by
  rw[kK hT];intro u hu;exact ho u (by simpa using hu)
 exact hmem _ (by simp)
theorem bb9{t:Nat}{i:TI}(hT:N8 prog t i)(n:Nat):(Builtin.zeroCells (O7 i).cells n).toList.length=n*i.size:=by
 have hzs:(O7 i).cells.size=i.size:=by rw[kK hT];simp[hT.len]
 simp[size_zeroCells,hzs]
theorem Fr.setRow{S:Nat->Prop}{w w':World}(h:Fr S w w'){b:Nat}{r:Array Value}(hb:S b\/w.heap.size<=b):Fr S w (w'.setRow b r):=
 ⟨h.os,h.tape,h.output,by simpa[World.setRow]using h.size,λk hk hn=>(sS w' b k r (λe=>hb.elim (λhs=>hn (e▸hs)) (λhl=>by omega))).trans (h.block k hk hn)⟩
theorem Fr.refl(S:Nat->Prop)(w:World):Fr S w w:=⟨rfl,rfl,rfl,J6 _,λ_ _ _=>rfl⟩
theorem Fr.drew{S:Nat->Prop}{w w':World}(h:Fr S w w'):Fr S w w'.drew:=⟨h.os,h.tape,h.output,h.size,h.block⟩
theorem Fr.alloc{S:Nat->Prop}{w w':World}(h:Fr S w w')(o:Obj):Fr S w (w'.alloc o):=
 ⟨h.os,h.tape,h.output,by simp only[World.alloc,Array.size_push];exact Nat.le_succ_of_le h.size,λk hk hn=>(Below.heap_alloc _ _ _ (Z5 hk h.size)).trans (h.block k hk hn)⟩
theorem dg1{α:Type}(A V:List α)(a d z:Nat)(hV:V.length=z)(hA:a+d+z<=A.length):
 (A.take (a+z)++(A.drop a).take d++A.drop (a+z+((A.drop a).take d).length)).take a++V++(A.take (a+z)++(A.drop a).take d++A.drop (a+z+((A.drop a).take d).length)).drop (a+V.length)=A.take a++V++(A.drop a).take d++A.drop (a+z+d):=by
 have hd:((A.drop a).take d).length=d:=by rw[U9,kN];omega
 rw[hd,hV];generalize (A.drop a).take d=vs at hd⊢;have h1:(A.take (a+z)++vs++A.drop (a+z+d)).take a=A.take a:=by
  rw[kM,xU (by rw[U9];omega),NS,rP (by omega)]
 have h2:(A.take (a+z)++vs++A.drop (a+z+d)).drop (a+z)=vs++A.drop (a+z+d):=by
  rw[kM,List.drop_append_of_le_length (by rw[U9];omega),BN (by rw[U9];omega)];rfl
 rw[h1,h2,<-kM]
theorem cB4{α:Type}(X V vs:List α)(a d z:Nat)(hV:V.length=z)(hvs:vs.length=d)(hX:a+z+d<=X.length):
 (X.take a++V++X.drop (a+V.length)).take (a+z)++vs++(X.take a++V++X.drop (a+V.length)).drop (a+z+vs.length)=X.take a++V++vs++X.drop (a+z+d):=by
 rw[hV,hvs];have h1:(X.take a++V++X.drop (a+z)).take (a+z)=X.take a++V:=by
  rw[xU (by simp[U9];omega),xW (by simp[U9];omega)]
 have h2:(X.take a++V++X.drop (a+z)).drop (a+z+d)=X.drop (a+z+d):=by
  rw[List.drop_append,BN (by simp[U9];omega),List.drop_drop,rO];congr 1;simp[U9];omega
 rw[h1,h2]
theorem WL{P:Program}{W:World}{b e:Nat}{arr:Array Value}(hh:W.heap[b]?=some (.cells arr e (0,0)))(z n o l c:Nat)(hfit:o+n*z<=arr.size):
 (Builtin.firstCells z n (.slice (some ⟨b,o,none⟩) l c)).run P W=.ok ((arr.toList.drop o).take (n*z)).toArray W:=by
 refine run_firstCells_some W z n ⟨b,o,none⟩ l c _ (by rw[U9,kN,iT];omega) λj v hj=>?_;rw[jK]at hj;split at hj
 .rw[gY,jY W b (o+j) arr e (0,0) hh];rw[xQ]at hj;simpa using hj
 .exact nomatch hj
structure IK(F T E Z O:Nat)(ti:TI):Prop where
 hu:prog.underlying T=some (.slice E)
 hty:H8 E=some ti
 hz:∀w,(Go.sizeOf E).run prog w=.ok Z w
 sz:ti.size=Z
 pos:1<=Z
 by_:ti.bytes<=4096
 ov:∀(args:Array Value)(w:World),(callFunc O args).run prog w=((Extern.SlicesOverlaps.overlaps #[T,T] #[4] args).run prog w).andThen λv w'=>.ok (.value v) w'
 one:(F=239/\T=75/\E=134/\Z=4/\O=313)\/(F=77/\T=34/\E=52/\Z=6/\O=133)\/(F=135/\T=26/\E=3/\Z=1/\O=227)
section
variable{F T E Z O:Nat}{ti:TI}
set_option maxRecDepth 100000 in
set_option maxHeartbeats 12000000 in
theorem aJ4(K:IK F T E Z O ti)(w:World)(n c:Nat)(base:Option Addr)(vb vc:Nat)(hn:n<=c)
 (v':Value) (w':World) (hr:(Builtin.append_ #[T,T] T #[.slice base n c,.slice (some ⟨vb,0,none⟩) 1 vc]).run prog w=.ok v' w'):
 Calls prog F #[.slice base n c,.int .i64 n,.slice (some ⟨vb,0,none⟩) 1 vc] w λe w2=>e=.returned v'/\w2=w':=by
 have u:=K.hu;have z:=K.hz;rcases K.one with⟨rfl,rfl,rfl,rfl,rfl⟩|⟨rfl,rfl,rfl,rfl,rfl⟩|⟨rfl,rfl,rfl,rfl,rfl⟩
 all_goals
  clear K;have u:=L6 u
  first|go_enter func239,ntmps239|go_enter func77,ntmps77|go_enter func135,ntmps135
  cases base with
  |none=>
   go_wp2_with (at_builtin;refine bc9 _ rfl _ _ _ _ rfl _ _ rfl rfl _ _ hr ?_)
   go_ret
   exact⟨rfl,rfl⟩
  |some a=>
   obtain⟨ab,ao,asp⟩:=a
   go_wp2_with (at_builtin;refine bc9 _ rfl _ _ _ _ rfl _ _ rfl rfl _ _ hr ?_)
   all_goals (go_ret;exact⟨rfl,rfl⟩)
set_option maxRecDepth 100000 in
set_option maxHeartbeats 12000000 in
theorem cL4(K:IK F T E Z O ti)(w:World)(b n c i vb vc:Nat)(hi:i<n)(hroom:n+1<=c)(hn:n<=4000)(arr1 VE:Array Value)
 (hov:∀o lb cb,(callFunc O #[.slice (some ⟨vb,0,none⟩) 1 vc,.slice (some ⟨b,o,none⟩) lb cb]).run prog w=.ok (.value (.bool false)) w)
 (h1:∀W:World,W.heap=w.heap->∀ty dc sc,(Builtin.copy_ #[T,T] ty #[.slice (some ⟨b,(i+1)*Z,none⟩) (n-i) dc,.slice (some ⟨b,i*Z,none⟩) (n+1-i) sc]).run prog W=.ok (goInt ((n-i:Nat):Int)) (W.setRow b arr1))
 (h2:∀W:World,W.heap=(w.setRow b arr1).heap->∀ty dc,(Builtin.copy_ #[T,T] ty #[.slice (some ⟨b,i*Z,none⟩) (n+1-i) dc,.slice (some ⟨vb,0,none⟩) 1 vc]).run prog W=.ok (goInt 1) (W.setRow b VE)):
 Calls prog F #[.slice (some ⟨b,0,none⟩) n c,.int .i64 i,.slice (some ⟨vb,0,none⟩) 1 vc] w λe w2=>e=.returned (.slice (some ⟨b,0,none⟩) (n+1) c)/\w2=(w.drew.setRow b arr1).setRow b VE:=by
 have u:=K.hu;have z:=K.hz;rcases K.one with⟨rfl,rfl,rfl,rfl,rfl⟩|⟨rfl,rfl,rfl,rfl,rfl⟩|⟨rfl,rfl,rfl,rfl,rfl⟩
 all_goals
  clear K;have u:=L6 u
  try simp only[vY]at h1 h2
  have hz2:¬((i:Int)=(n:Int)):=by omega
  have hw1:IntKind.i64.wrap ((i:Int)+1)=(i:Int)+1:=by rw[ad6];omega
  have hw2:IntKind.i64.wrap ((n:Int)+1)=(n:Int)+1:=by rw[ad6];omega
  have hb0:¬((c:Int)<(n:Int)+1):=by omega
  have hb1:(0:Int)<=(i:Int)+1:=by omega
  have hb1':(0:Int)<=(n:Int)+1:=by omega
  have hin:i<=n:=by omega
  have htn:((i:Int)+1).toNat=i+1:=by omega
  have cJ2:((n:Int)+1).toNat=n+1:=by omega
  have hb2:¬(c=i+1):=by omega
  have hb3:(i:Int)<=(n:Int)+1:=by omega
  have hb4:¬(c=i):=by omega
  have mixed:=mixed;have h2':=h2 (w.drew.setRow b arr1) rfl 3 (c-i)
  first|go_enter func239,ntmps239|go_enter func77,ntmps77|go_enter func135,ntmps135
  go_wp2_with (simp only[hov])
  go_region_law_o (refine step_copy_runI rfl _ _ _ _ rfl _ _ (by simp[Act.eval,Act.put]) (by simp[Act.eval,Act.put]) (h1 w.drew rfl 3 (c-(i+1)) (c-i)) ?_)
  go_wp2_with (simp only[h2'])
  go_ret
  exact⟨rfl,rfl⟩
set_option maxRecDepth 100000 in
set_option maxHeartbeats 12000000 in
theorem cL1(K:IK F T E Z O ti)(w W1:World)(b n i vb vc nb G:Nat)(hi:i<n)(hn:n<=4000)(hG:n+1<=G)(arr1 VE:Array Value)
 (hr:(Builtin.append_ #[T,3] T #[.slice (some ⟨b,0,none⟩) i n,.int .i64 ((n:Int)+1-(i:Int))]).run prog w=.ok (.slice (some ⟨nb,0,none⟩) (n+1) G) W1)
 (h1:∀ty dc,(Builtin.copy_ #[T,T] ty #[.slice (some ⟨nb,i*Z,none⟩) (n+1-i) dc,.slice (some ⟨vb,0,none⟩) 1 vc]).run prog W1=.ok (goInt 1) (W1.setRow nb arr1))
 (h2:∀ty dc sc,(Builtin.copy_ #[T,T] ty #[.slice (some ⟨nb,(i+1)*Z,none⟩) (n-i) dc,.slice (some ⟨b,i*Z,none⟩) (n-i) sc]).run prog (W1.setRow nb arr1).drew=.ok (goInt ((n-i:Nat):Int)) ((W1.setRow nb arr1).drew.setRow nb VE)):
 Calls prog F #[.slice (some ⟨b,0,none⟩) n n,.int .i64 i,.slice (some ⟨vb,0,none⟩) 1 vc] w λe w2=>e=.returned (.slice (some ⟨nb,0,none⟩) (n+1) G)/\w2=(W1.setRow nb arr1).drew.setRow nb VE:=by
 have u:=K.hu;have z:=K.hz;rcases K.one with⟨rfl,rfl,rfl,rfl,rfl⟩|⟨rfl,rfl,rfl,rfl,rfl⟩|⟨rfl,rfl,rfl,rfl,rfl⟩
 all_goals
  clear K;have u:=L6 u
  try simp only[vY]at h1 h2
  have u3:=L6 underlying3;have hz2:¬((i:Int)=(n:Int)):=by omega
  have hw1:IntKind.i64.wrap ((i:Int)+1)=(i:Int)+1:=by rw[ad6];omega
  have hw2:IntKind.i64.wrap ((n:Int)+1)=(n:Int)+1:=by rw[ad6];omega
  have hw3:IntKind.i64.wrap ((n:Int)+1-(i:Int))=(n:Int)+1-(i:Int):=by rw[ad6];omega
  have hb0:(n:Int)<(n:Int)+1:=by omega
  have hb1:(0:Int)<=(i:Int)+1:=by omega
  have hb1':(0:Int)<=(n:Int)+1:=by omega
  have hin:i<=n:=by omega
  have htn:((i:Int)+1).toNat=i+1:=by omega
  have cJ2:((n:Int)+1).toNat=n+1:=by omega
  have hb2:¬(G=i+1):=by omega
  have hb3:(i:Int)<=(n:Int)+1:=by omega
  have dK6:(i:Int)+1<=(n:Int)+1:=by omega
  have hb4:¬(n=i):=by omega
  have hb5:¬(G=i):=by omega
  have hni:n+1-(i+1)=n-i:=by omega
  have mixed:=mixed;have h1':=h1 3 (G-i)
  first|go_enter func239,ntmps239|go_enter func77,ntmps77|go_enter func135,ntmps135
  go_wp2_with (first|(at_builtin;refine bc9 _ rfl _ _ _ _ rfl _ _ rfl rfl _ _ hr ?_)|(at_builtin;refine wpList_copy_runI _ rfl _ _ _ _ rfl _ _ rfl rfl (h1 _ _) ?_)|simp only[h1'])
  go_region_law_o (refine step_copy_runI rfl _ _ _ _ rfl _ _ (by simp[Act.eval,Act.put]) (by simp[Act.eval,Act.put]) (h2 3 (G-(i+1)) (n-i)) ?_)
  go_wp2
  go_ret
  exact⟨rfl,rfl⟩
set_option maxRecDepth 100000 in
set_option maxHeartbeats 4000000 in
theorem aJ5(K:IK F T E Z O ti){w:World}{v:Value}{n:Nat}{C:List Value}{ob:Option Nat}(h:O9 w E Z v n C ob){i:Nat}(hi:i<=n)(hn:n<=4000){vb vc:Nat}{V:Array Value}(hV:w.heap[vb]?=some (.cells V E (0,0)))(JW:Z<=V.size)
 (hV1:∀u∈V.toList.take Z,u.oneCell'=true) (hne:ob≠some vb):Calls prog F #[v,.int .i64 i,.slice (some ⟨vb,0,none⟩) 1 vc] w λe w'=>
   ∃v' ob',e=.returned v'/\O9 w' E Z v' (n+1) (C.take (i*Z)++V.toList.take Z++C.drop (i*Z)) ob'/\(ob'=ob\/∃b',ob'=some b'/\w.heap.size<=b')/\Fr (λk=>ob=some k) w w':=by
 have hu:=K.hu;have hty:=K.hty;have hz:=K.hz;have hp:=K.pos;have tk:=YS.ty _ _ hty;have S:∀a,(a+1)*Z=a*Z+Z:=λa=>Nat.succ_mul a Z;have M:∀{a b},a<=b->a*Z<=b*Z:=λh=>iJ Z h;have D:∀a b,(b-a)*Z=b*Z-a*Z:=λa b=>Nat.sub_mul b a Z;obtain⟨Vl,hVe⟩:∃Vl,Vl=V.toList.take Z:=⟨_,rfl⟩;rw[<-hVe]at hV1⊢;have kD:Vl.length=Z:=by rw[hVe,U9,iT];omega
 have hvb:vb<w.heap.size:=(V4.1 hV).1;have hsrc:∀W:World,W.heap[vb]?=some (.cells V E (0,0))->Src prog ti.size T (.slice (some ⟨vb,0,none⟩) 1 vc) 1 Vl W:=λW hW=>
  Src.ofSlice W hu ⟨vb,0,none⟩ 1 vc Vl (by rw[kD,K.sz,rU]) (λj u hj=>by rw[gY,V7,jY W vb j V E (0,0) hW];rw[hVe,jK]at hj;split at hj;(simpa using hj);exact nomatch hj) hV1
 have hA:=ay4 YS.ty hu hty K.by_ (hsrc w hV);have hsV:∀W:World,W.heap[vb]?=some (.cells V E (0,0))->∀m,1<=m->(Builtin.firstCells Z (Nat.min 1 m) (.slice (some ⟨vb,0,none⟩) 1 vc)).run prog W=.ok Vl.toArray W:=λW hW m hm=>by
  have q:=(hsrc W hW).cells;rw[K.sz]at q;rw[show Nat.min 1 m=1 from rP hm];exact q
 have hz1:=cd2 tk (by rw[K.sz];exact hp);have hzl:∀n,(Builtin.zeroCells (O7 ti).cells n).toList.length=n*Z:=λn=>by rw[bb9 tk,K.sz]
 have fresh:∀(L:List Value)(m n':Nat)(base:Option Addr)(c:Nat),L.length=n'*Z->n'+1<=m->m<=maxLen->(∀u∈L,u.oneCell'=true)->
  O9 (w.drew.alloc (.cells ((L++Vl).toArray++Builtin.zeroCells (O7 ti).cells (m-(n'+1))) E)) E Z (.slice (some ⟨w.heap.size,0,none⟩) (n'+1) m) (n'+1) (L++Vl) (some w.heap.size):=λL m n' base c hL hm hmx hL1=>
  have a1:=S n';have a2:=M hm;have a3:=D (n'+1) m
  wU (aW w.drew _) (by simp only[Array.size_append,pU,bQ,hL,kD];rw[<-iT,hzl];omega) hm hmx
   (λu hu=>by
     simp only[iU]at hu;rcases hu with hu|hu
     .exact hL1 u hu
     .exact hV1 u hu)
   (by simp only[ax2];rw[xU (by simp only[bQ,hL,kD];omega),xW (by simp only[bQ,hL,kD];omega)])
 cases h with
 |e a=>
  obtain rfl:i=0:=by omega
  obtain⟨m,hm,hmx,hr⟩:=hA.grow T a 0 0 [] (by rw[K.sz];rcases K.one with⟨rfl,rfl,rfl,rfl,rfl⟩|⟨rfl,rfl,rfl,rfl,rfl⟩|⟨rfl,rfl,rfl,rfl,rfl⟩<;>cases a<;>rfl) (by omega) (by omega)
  refine(aJ4 K w 0 0 a vb vc (J6 _) _ _ hr).mono λe w' ⟨he,hw⟩=>⟨_,some w.heap.size,he,?_,.inr ⟨_,rfl,J6 _⟩,?_⟩
  .rw[hw];simpa using fresh [] m 0 a 0 (by simp) hm hmx (λu hu=>by simp at hu)
  .rw[hw];exact((Fr.refl _ w).drew).alloc _
 |b b c n arr hh hs hnc hcm h1=>
  have hbw:b<w.heap.size:=(V4.1 hh).1;have bt8:vb≠b:=λe=>hne (by rw[e]);have hAl:arr.toList.length=c*Z:=by rw[iT,hs]
  have b1:=S i;have b2:=S n;have b3:=M hi;have b4:=M hnc;by_cases hin:i=n
  .subst hin;have hC:(arr.toList.take (i*Z)).take (i*Z)++Vl++(arr.toList.take (i*Z)).drop (i*Z)=arr.toList.take (i*Z)++Vl:=by
    rw[NS,Nat.min_self,BN (by rw[U9];omega),List.append_nil]
   rw[hC];have hrow:=WL (P:=prog) (W:=w.drew) hh Z i 0 i c (by rw[hs];omega);by_cases hroom:i+1<=c
   .have b5:=M hroom;have hr:=hA.room T b 0 i c E arr hh hroom (by rw[kD,hs,K.sz];omega);refine(aJ4 K w i c _ vb vc hnc _ _ hr).mono λe w' ⟨he,hw⟩=>⟨_,some b,he,?_,.inl rfl,?_⟩
    .rw[hw];refine wU (rC w b arr _ E (0,0) hh) (by simp only[pU,bQ,U9,kN,kD,hAl,K.sz];omega) hroom hcm (λu hu=>?_) ?_
     .simp only[iU]at hu;rcases hu with hu|hu
      .exact h1 u hu
      .exact hV1 u hu
     .simp only[V7,K.sz];rw[xU (by simp only[bQ,U9,kD,hAl];omega),xW (by simp only[bQ,U9,kD,hAl];omega)]
    .rw[hw];exact(Fr.refl _ w).setRow (.inl rfl)
   .obtain⟨m,hm,hmx,hr⟩:=hA.grow T (some ⟨b,0,none⟩) i c (arr.toList.take (i*Z)) (by rw[K.sz];simpa using hrow) (by omega) (by omega);refine(aJ4 K w i c _ vb vc hnc _ _ hr).mono λe w' ⟨he,hw⟩=>⟨_,some w.heap.size,he,?_,.inr ⟨_,rfl,J6 _⟩,?_⟩
    .rw[hw];exact fresh _ m i none 0 (by rw[U9,hAl];omega) hm hmx h1
    .rw[hw];exact((Fr.refl _ w).drew).alloc _
  .have hlt:i<n:=by omega
   have b6:=D i n;have b7:=D i (n+1);have b8:=M (show i+1<=n from hlt);have hmn:Nat.min (n+1-i) (n-i)=n-i:=Nat.min_eq_right (by omega);have br8:Nat.min (n-i) (n-i)=n-i:=Nat.min_self _;have hm1:Nat.min 1 (n+1-i)=1:=rP (by omega);have hdl:((arr.toList.drop (i*Z)).take ((n-i)*Z)).length=(n-i)*Z:=by rw[U9,kN,hAl];omega
   have cD1:(arr.toList.take (n*Z)).drop (i*Z)=(arr.toList.drop (i*Z)).take ((n-i)*Z):=by rw[List.drop_take];congr 1;omega
   have ht1:∀u∈arr.toList.take (i*Z),u.oneCell'=true:=λu hu=>h1 u (by rw[show arr.toList.take (i*Z)=(arr.toList.take (n*Z)).take (i*Z)from by rw[NS,rP (by omega)]]at hu;exact BR hu);have ak6:∀u∈(arr.toList.drop (i*Z)).take ((n-i)*Z),u.oneCell'=true:=λu hu=>h1 u (by rw[<-cD1]at hu;exact BQ hu);have hCt:(arr.toList.take (n*Z)).take (i*Z)=arr.toList.take (i*Z):=by rw[NS,rP (by omega)]
   have hCd:(arr.toList.take (n*Z)).drop (i*Z)=(arr.toList.drop (i*Z)).take ((n-i)*Z):=by rw[List.drop_take];congr 1;omega
   rw[hCt,hCd];have hi1:(i+1)*Z=i*Z+Z:=by omega
   by_cases hroom:n+1<=c
   .have b5:=M hroom;have hkey:=dg1 arr.toList Vl (i*Z) ((n-i)*Z) Z kD (by rw[hAl];omega);obtain⟨R1,hR1⟩:∃R1:Array Value,R1=(arr.toList.take ((i+1)*Z)++(arr.toList.drop (i*Z)).take ((n-i)*Z)++arr.toList.drop ((i+1)*Z+((arr.toList.drop (i*Z)).take ((n-i)*Z)).length)).toArray:=⟨_,rfl⟩;have aG1:R1.toList.length=c*Z:=by
     rw[hR1];simp only[bQ,U9,kN,hAl];omega
    rw[<-hi1,show arr.toList.take ((i+1)*Z)++(arr.toList.drop (i*Z)).take ((n-i)*Z)++arr.toList.drop ((i+1)*Z+((arr.toList.drop (i*Z)).take ((n-i)*Z)).length)=R1.toList from by rw[hR1]]at hkey;have key2:(arr.toList.take (i*Z)++Vl++(arr.toList.drop (i*Z)).take ((n-i)*Z)++arr.toList.drop ((i+1)*Z+(n-i)*Z)).length=c*Z:=by
     simp only[bQ,U9,kN,hAl,kD];omega
    refine(cL4 K w b n c i vb vc hlt hroom hn R1
     (arr.toList.take (i*Z)++Vl++(arr.toList.drop (i*Z)).take ((n-i)*Z)++arr.toList.drop ((i+1)*Z+(n-i)*Z)).toArray
     (λo lb cb=>?_) (λW hW ty dc sc=>?_) (λW hW ty dc=>?_)).mono λe w' ⟨he,hw⟩=>⟨_,some b,he,?_,.inl rfl,?_⟩
    .rw[K.ov,
      Lib.run_overlaps_apart w T 4 E hu Z hz ⟨vb,0,none⟩ ⟨b,o,none⟩ 1 vc lb cb bt8 E E V.size (c*Z) (by simp[World.shape?,hV]) (by simp[World.shape?,hh,hs]) (by omega) (by simp[World.frozen?,hV]) (by simp[World.frozen?,hV])]
     rfl
    .have hc:=run_copy_row (P:=prog) (W:=W) (t:=T) (tx:=T) (ty:=ty) (dCap:=dc) (o:=(i+1)*Z) (dLen:=n-i) (x:=.slice (some ⟨b,i*Z,none⟩) (n+1-i) sc) hu hz (by rw[hW];exact hh) (sl:=n+1-i) rfl
      (vs:=(arr.toList.drop (i*Z)).take ((n-i)*Z)) (by rw[hmn];exact WL (by rw[hW];exact hh) _ _ _ _ _ (by rw[hs];omega)) (by rw[hdl,hs];omega) ak6
     rw[hmn,<-hR1]at hc;exact hc
    .have hb2:W.heap[b]?=some (.cells R1 E (0,0)):=by rw[hW];exact rC w b arr R1 E (0,0) hh
     have hv2:W.heap[vb]?=some (.cells V E (0,0)):=by rw[hW];exact(sS w b vb _ bt8).trans hV
     have hc:=run_copy_row (P:=prog) (W:=W) (t:=T) (tx:=T) (ty:=ty) (dCap:=dc) (o:=i*Z) (dLen:=n+1-i) (x:=.slice (some ⟨vb,0,none⟩) 1 vc) hu hz hb2 (sl:=1) rfl
      (vs:=Vl) (hsV W hv2 _ (by omega)) (by rw[kD,<-iT,aG1];omega) hV1
     rw[hm1,hkey]at hc;exact hc
    .rw[hw];refine wU (rC (w.drew.setRow b R1) b R1 _ E (0,0) (rC w.drew b arr R1 E (0,0) hh)) (by rw[pU];exact key2) hroom hcm (λu hu=>?_) ?_
     .simp only[iU]at hu;rcases hu with(hu|hu)|hu
      .exact ht1 u hu
      .exact hV1 u hu
      .exact ak6 u hu
     .rw[xU (by simp only[bQ,U9,kN,kD,hAl];omega),xW (by simp only[bQ,U9,kN,kD,hAl];omega)]
    .rw[hw];exact((((Fr.refl (λk=>some b=some k) w).drew).setRow (.inl rfl)).setRow (.inl rfl))
   .obtain rfl:n=c:=by omega
    have hAz:=be9 (w:=w) YS.ty hu hty K.by_ (by rw[K.sz];exact hp) (k:=.i64) underlying3 (n:=n+1-i) (by omega);have hrow:=WL (P:=prog) (W:=w.drew) hh Z i 0 i n (by rw[hs];omega);obtain⟨m,hm,hmx,hr⟩:=hAz.grow T (some ⟨b,0,none⟩) i n (arr.toList.take (i*Z)) (by rw[K.sz];simpa using hrow) (by omega) (by omega);have hin1:i+(n+1-i)=n+1:=by omega
    rw[hin1]at hm hr;have b9:=M hm;have c1:=D (n+1) m;rw[show Int.ofNat (n+1-i)=(n:Int)+1-(i:Int)from by simp only[Int.ofNat_eq_natCast];omega]at hr;obtain⟨X,hX⟩:∃X:Array Value,X=(arr.toList.take (i*Z)++(Builtin.zeroCells (O7 ti).cells (n+1-i)).toList).toArray++Builtin.zeroCells (O7 ti).cells (m-(n+1)):=⟨_,rfl⟩;rw[<-hX]at hr;have sD:X.toList.length=m*Z:=by
     rw[hX];simp only[ax2,bQ,U9,hAl,hzl];omega
    have hXt:X.toList.take (i*Z)=arr.toList.take (i*Z):=by
     rw[hX];simp only[ax2];rw[kM,xU (by rw[U9,hAl];omega),NS,Nat.min_self]
    have hkey:=cB4 X.toList Vl ((arr.toList.drop (i*Z)).take ((n-i)*Z)) (i*Z) ((n-i)*Z) Z kD hdl (by rw[sD];omega);obtain⟨R1,hR1⟩:∃R1:Array Value,R1=(X.toList.take (i*Z)++Vl++X.toList.drop (i*Z+Vl.length)).toArray:=⟨_,rfl⟩;have aG1:R1.toList.length=m*Z:=by
     rw[hR1];simp only[bQ,U9,kN,sD,kD];omega
    rw[<-hi1,show X.toList.take (i*Z)++Vl++X.toList.drop (i*Z+Vl.length)=R1.toList from by rw[hR1]]at hkey;have hn1:(w.drew.alloc (.cells X E)).heap[w.heap.size]?=some (.cells X E (0,0)):=aW w.drew _;have hv1:(w.drew.alloc (.cells X E)).heap[vb]?=some (.cells V E (0,0)):=(Below.heap_alloc w.drew _ _ hvb).trans hV;have hb1:(w.drew.alloc (.cells X E)).heap[b]?=some (.cells arr E (0,0)):=(Below.heap_alloc w.drew _ _ hbw).trans hh
    refine(cL1 K w (w.drew.alloc (.cells X E)) b n i vb vc w.heap.size m hlt hn hm R1
     (X.toList.take (i*Z)++Vl++(arr.toList.drop (i*Z)).take ((n-i)*Z)++X.toList.drop ((i+1)*Z+(n-i)*Z)).toArray hr (λty dc=>?_) (λty dc sc=>?_)).mono λe w' ⟨he,hw⟩=>⟨_,some w.heap.size,he,?_,.inr ⟨_,rfl,J6 _⟩,?_⟩
    .have hc:=run_copy_row (P:=prog) (t:=T) (tx:=T) (ty:=ty) (dCap:=dc) (o:=i*Z) (dLen:=n+1-i) (x:=.slice (some ⟨vb,0,none⟩) 1 vc) hu hz hn1 (sl:=1) rfl
      (vs:=Vl) (hsV _ hv1 _ (by omega)) (by rw[kD,<-iT,sD];omega) hV1
     rw[hm1,<-hR1]at hc;exact hc
    .have hc:=run_copy_row (P:=prog) (t:=T) (tx:=T) (ty:=ty) (dCap:=dc) (o:=(i+1)*Z) (dLen:=n-i) (x:=.slice (some ⟨b,i*Z,none⟩) (n-i) sc)
      (W:=((w.drew.alloc (.cells X E)).setRow w.heap.size R1).drew) hu hz (rC (w.drew.alloc (.cells X E)) w.heap.size X R1 E (0,0) hn1) (sl:=n-i) rfl
      (vs:=(arr.toList.drop (i*Z)).take ((n-i)*Z)) (by rw[br8];exact WL (P:=prog) (W:=((w.drew.alloc (.cells X E)).setRow w.heap.size R1).drew) ((sS (w.drew.alloc (.cells X E)) w.heap.size b R1 (by omega)).trans hb1) Z (n-i) (i*Z) (n-i) sc (by rw[hs];omega))
      (by rw[hdl,<-iT,aG1];omega) ak6
     rw[br8,hkey]at hc;exact hc
    .rw[hw];refine wU (rC ((w.drew.alloc (.cells X E)).setRow w.heap.size R1).drew w.heap.size R1 _ E (0,0) (rC (w.drew.alloc (.cells X E)) w.heap.size X R1 E (0,0) hn1)) (by simp only[pU,bQ,U9,kN,sD,kD,hAl];omega) hm hmx (λu hu=>?_) ?_
     .simp only[iU]at hu;rcases hu with(hu|hu)|hu
      .exact ht1 u hu
      .exact hV1 u hu
      .exact ak6 u hu
     .rw[xU (by simp only[bQ,U9,kN,kD,hAl,sD];omega),xW (by simp only[bQ,U9,kN,kD,hAl,sD];omega),hXt]
    .rw[hw];exact((((Fr.refl _ w).drew.alloc _).setRow (.inr (J6 _))).drew.setRow (.inr (J6 _)))
end
theorem ikC:IK 239 75 134 4 313 FH:=⟨underlying75,rfl,sizeOf134,rfl,by decide,by decide,run_callFunc_extern func313 (by kernel_rfl) (by kernel_rfl) (by kernel_rfl) (by kernel_rfl),.inl ⟨rfl,rfl,rfl,rfl,rfl⟩⟩
theorem ikB:IK 77 34 52 6 133 vN:=⟨underlying34,rfl,sizeOf52,rfl,by decide,by decide,run_callFunc_extern func133 (by kernel_rfl) (by kernel_rfl) (by kernel_rfl) (by kernel_rfl),.inr (.inl ⟨rfl,rfl,rfl,rfl,rfl⟩)⟩
theorem ikI:IK 135 26 3 1 227 nT:=⟨underlying26,rfl,sizeOf3,rfl,by decide,by decide,run_callFunc_extern func227 (by kernel_rfl) (by kernel_rfl) (by kernel_rfl) (by kernel_rfl),.inr (.inr ⟨rfl,rfl,rfl,rfl,rfl⟩)⟩
def NP(f e z:Nat):Prop:=∀{w:World}{v:Value}{n:Nat}{C:List Value}{ob:Option Nat},O9 w e z v n C ob->∀{i:Nat},i<=n->n<=4000->∀{vb vc:Nat}{V:Array Value},w.heap[vb]?=some (.cells V e (0,0))->z<=V.size->
 (∀u∈V.toList.take z,u.oneCell'=true)->ob≠some vb->Calls prog f #[v,.int .i64 i,.slice (some ⟨vb,0,none⟩) 1 vc] w λe' w'=>
   ∃v' ob',e'=.returned v'/\O9 w' e z v' (n+1) (C.take (i*z)++V.toList.take z++C.drop (i*z)) ob'/\(ob'=ob\/∃b',ob'=some b'/\w.heap.size<=b')/\Fr (λk=>ob=some k) w w'
theorem cK8:NP 239 134 4:=λh _ hi hn _ _ _ hV JW hV1 hne=>aJ5 ikC h hi hn hV JW hV1 hne
theorem cK7:NP 77 52 6:=λh _ hi hn _ _ _ hV JW hV1 hne=>aJ5 ikB h hi hn hV JW hV1 hne
theorem cK9:NP 135 3 1:=λh _ hi hn _ _ _ hV JW hV1 hne=>aJ5 ikI h hi hn hV JW hV1 hne
theorem bG7{w:World}{e z n:Nat}{v:Value}{xs:List Value}(h:w.ownsRow 0 e z v n xs)(h1:∀u∈xs,u.oneCell'=true):∃ob,O9 w e z v n xs ob/\ob=v.ownBlock:=by
 obtain⟨hl,⟨rfl,rfl⟩|⟨g,cap,cur,rfl,_,hh,hn,hm,hs,rfl⟩⟩:=h
 .obtain rfl:xs=[]:=lX (by omega);exact⟨none,.e none,rfl⟩
 .exact⟨some g,.b g cap n cur hh hs hn hm h1,rfl⟩
theorem O9.row{w:World}{e z n:Nat}{v:Value}{C:List Value}{ob:Option Nat}(h:O9 w e z v n C ob)(hn:n≠0):∃b c arr,ob=some b/\v=.slice (some ⟨b,0,none⟩) n c/\w.heap[b]?=some (.cells arr e (0,0))/\w.ownsRow 0 e z v n C:=by
 cases h with
 |e a=>exact absurd rfl hn
 |b b c n arr hh hs hnc hm h1=>exact⟨b,c,arr,rfl,rfl,hh,by rw[U9,iT,hs];exact rP (iJ _ hnc),.inr ⟨b,c,arr,rfl,Y3 _,hh,hnc,hm,hs,rfl⟩⟩
theorem O9.heap{w:World}{e z n:Nat}{v:Value}{C:List Value}{ob:Option Nat}(h:O9 w e z v n C ob){k:Nat}(hk:ob=some k):∃arr,w.heap[k]?=some (.cells arr e (0,0)):=by
 cases h with
 |e a=>cases hk
 |b b c n arr hh=>injection hk with hk;subst hk;exact⟨arr,hh⟩
theorem bL3{Z:Zone}{w:World}{ob:I5}{Eo:Nat->Value}{c:CV}{x:Value}(h:N7 Z w ob Eo (.c c) x):Rep Z w c x:=by cases h with|c _ _ h=>exact h
theorem cw1{G:World->Prop}{f e z:Nat}(hb:pO prog f)(hins:NP f e z)(l:List (List CV))(d:List CV)(i:Nat)(hi:i<=l.length)(hn:l.length<=4000):
 fD prog G f [.rs 0 0,.c (I i),.rs 1 0] [(0,.arr e z l none),(0,.arr e z [d] none)] (.rs 0 1) [(1,.arr e z (l.take i++[d]++l.drop i) none),(0,.arr e z [d] none)]:=by
 refine⟨hb,λZ w Eo vs hg hzl hl hargs hgs=>?_⟩
 match vs,hl with
 |[v,iv,u],_=>
  have hx:=hargs 0 (.rs 0 0) v rfl rfl;have hiv:=bL3 (hargs 1 (.c (I i)) iv rfl rfl);have hu:=hargs 2 (.rs 1 0) u rfl rfl;have hE0:Eo 0=v:=by cases hx with|rs _ _ _ _ _ h=>exact h _ _ _ _ rfl
  have hE1:Eo 1=u:=by cases hu with|rs _ _ _ _ _ h=>exact h _ _ _ _ rfl
  obtain rfl:iv=.int .i64 i:=by cases hiv;rfl
  obtain⟨xs,hz0,hown,hfoc,oN,hcells,hnz⟩:=hg.ok 0;obtain⟨ys,_,hown1,cF7,aH2,bq8,cH2⟩:=hg.ok 1;rw[hE0]at hown hnz;rw[hE1]at hown1 cH2;have hx1:∀u∈xs,u.oneCell'=true:=λu hu=>by
   obtain⟨k,hk,rfl⟩:=dV hu;have hkl:k<l.length*z:=by rw[<-hown.1];exact hk
   have hq:k/z<l.length:=Nat.div_lt_of_lt_mul (by rw[Nat.mul_comm];exact hkl);have hd:Y8 l none (k/z)=some l[k/z]:=I9 hq;have hdl:=oN (k/z) _ hq hd;have hr:k % z<l[k/z].length:=by rw[hdl];exact Nat.mod_lt _ hz0
   obtain⟨ha,u,hu,hrep⟩:=hcells (k/z) _ hq hd (k % z) _ (I9 hr);rw[Nat.mul_comm,Nat.div_add_mod,I9 hk]at hu;injection hu with hu
   rw[hu];exact hrep.an1 ha
  have hy1:∀u∈ys,u.oneCell'=true:=λu hu=>by
   obtain⟨k,hk,rfl⟩:=dV hu;have hkl:k<z:=by have:=hown1.1;simp at this;omega
   have hdl:=aH2 0 d (by simp) rfl;obtain⟨ha,u,hu,hrep⟩:=bq8 0 d (by simp) rfl k _ (I9 (show k<d.length by omega));rw[Nat.zero_mul,V7,I9 hk]at hu;injection hu with hu
   rw[hu];exact hrep.an1 ha
  obtain⟨ob,hob,aH8⟩:=bG7 hown hx1;obtain⟨hyl,⟨_,h0⟩|⟨vb,vc,V,hue,_,hV,_,_,JW,hys⟩⟩:=hown1
  .simp at h0
  .subst hue;simp only[pR,List.length_nil,V7,rU]at hys hyl;have hVz:z<=V.size:=by rw[<-iT];have:=congrArg List.length hys;rw[U9]at this;omega
   have hap:∀b,ob=some b->b≠vb:=λb hb hbe=>by
    refine hg.apart 0 1 b (by decide) ?_ ?_
    .show(D9.arr e z l none).blk (Eo 0) b;rw[hE0];rw[aH8]at hb;cases v with
     |slice a n c=>cases a with
      |none=>simp[Value.ownBlock]at hb
      |some a=>simpa[Value.ownBlock,D9.blk]using hb
     |_=>simp[Value.ownBlock]at hb
    .show(D9.arr e z [d] none).blk (Eo 1) b;rw[hE1];simp[D9.blk,hbe]
   refine(hins hob hi hn hV hVz (by rw[hys];exact hy1) (λh=>hap vb h rfl)).mono ?_;rintro e' w' ⟨v',ob',rfl,hO,aH5,hfr⟩;obtain⟨b',c',arr',rfl,rfl,hh',hrow⟩:=hO.row (by omega);have bs3:∀k,ob=some k->(D9.arr e z l none).blk (Eo 0) k:=λk hk=>by
    rw[hE0];rw[aH8]at hk;cases v with
    |slice a n c=>cases a with
     |none=>simp[Value.ownBlock]at hk
     |some a=>simpa[Value.ownBlock,D9.blk]using hk
    |_=>simp[Value.ownBlock]at hk
   have ak3:∀k o,ob=some k->¬Z k o:=λk o hk=>hnz k o (aH8▸hk);have hkeep:Keeps Z w Z w':=λb o hz=>⟨hz,iH (hfr.block b (hzl b o hz) (λh=>ak3 b o h hz))⟩;have hnew:∀b,b=b'->ob=some b\/w.heap.size<=b:=λb hb=>by
    subst hb;rcases aH5 with h|⟨q,h,hq⟩
    .exact .inl h.symm
    .injection h with h;subst h;exact .inr hq
   have dM2:vb<w.heap.size:=(V4.1 hV).1;have hok:dH (G9 [(0,D9.arr e z l none),(0,D9.arr e z [d] none)]) Eo (G9 [(1,D9.arr e z (l.take i++[d]++l.drop i) none),(0,D9.arr e z [d] none)]) (λj=>if j=0 then .slice (some ⟨b',0,none⟩) (l.length+1) c' else Eo j):=by
    have h2:∀t,G9 [(1,D9.arr e z (l.take i++[d]++l.drop i) none),(0,D9.arr e z [d] none)] (t+2)=(0,.none):=λt=>by simp[G9]
    have h2':∀t,G9 [(0,D9.arr e z l none),(0,D9.arr e z [d] none)] (t+2)=(0,.none):=λt=>by simp[G9]
    refine⟨λt=>?_,λt g hg hl=>?_,λt g el s hg ho=>?_,λt g el s ds D8 hg ho=>?_,λt g es hg ho=>?_⟩
    .match t with
     |0=>exact Y3 _
     |1=>exact J6 _
     |t+2=>rw[h2,h2'];exact J6 _
    .match t with
     |0=>obtain⟨cs,h|h|h⟩:=hl<;>cases h
     |1=>obtain⟨cs,h|h|h⟩:=hl<;>cases h
     |t+2=>obtain⟨cs,h|h|h⟩:=hl<;>(rw[h2]at h;cases h)
    .match t with
     |0=>cases ho
     |1=>cases ho
     |t+2=>rw[h2]at ho;cases ho
    .match t with
     |0=>cases ho;exact absurd hg (Nat.not_succ_le_zero 0)
     |1=>exact⟨⟨ds,D8,ho⟩,rfl⟩
     |t+2=>rw[h2]at ho;cases ho
    .match t with
     |0=>cases ho
     |1=>cases ho
     |t+2=>rw[h2]at ho;cases ho
   have hl':(l.take i++[d]++l.drop i).length=l.length+1:=by simp;omega
   have hxl:xs.length=l.length*z:=hown.1;have aI7:(V.toList.take z).length=z:=by rw[hys];exact hyl
   have hiz:i*z<=xs.length:=by rw[hxl];exact iJ _ hi
   refine⟨_,Z,_,rfl,
    { res:=.rs 0 1 _ ⟨_,_,_,rfl⟩ (J6 _) λ_ _ _ _ _=>rfl
      grp:=⟨λj=>?_,λj j' b hj h1 h2=>?_⟩
      keeps:=hkeep
      U4:=λb o hz=>Z5 (hzl b o hz) hfr.size
      fB:=λb o hz=>.inl hz
      kept:=⟨hfr.os,hfr.tape,hfr.output,hfr.size,λk hk=>hfr.block k hk.1 (λh=>hk.2 ⟨0,bs3 k h⟩),λk hk=>?_⟩
      own:=λb ⟨j,hj⟩=>?_
      ok:=hok }⟩
   .match j with
    |0=>
     refine⟨_,hz0,by show w'.ownsRow 0 e z _ (l.take i++[d]++l.drop i).length _;rw[hl'];exact hrow,⟨λ_ _ h=>(nomatch h),λk q hq _=>?_⟩,λk q hk hq=>?_,λk q hk hq j c hc=>?_,λb o hb hz=>?_⟩
     .have hm:=iC hq;simp only[iU,xR]at hm;rcases hm with(hm|rfl)|hm
      .obtain⟨p,hp,rfl⟩:=dV (BR hm);exact hfoc.2 p _ (I9 hp) (λ_ _ h=>nomatch h)
      .exact cF7.2 0 q rfl (λ_ _ h=>nomatch h)
      .obtain⟨p,hp,rfl⟩:=dV (BQ hm);exact hfoc.2 p _ (I9 hp) (λ_ _ h=>nomatch h)
     .replace hq:(l.take i++[d]++l.drop i)[k]?=some q:=hq;have hm:=iC hq;simp only[iU,xR]at hm;rcases hm with(hm|rfl)|hm
      .obtain⟨p,hp,rfl⟩:=dV (BR hm);exact oN p _ hp (I9 hp)
      .exact aH2 0 q (by simp) rfl
      .obtain⟨p,hp,rfl⟩:=dV (BQ hm);exact oN p _ hp (I9 hp)
     .replace hq:(l.take i++[d]++l.drop i)[k]?=some q:=hq;have hxk:∀(p j:Nat)(c:CV),l[p]?=some q->q[j]?=some c->c.atom=true/\∃u,xs[p*z+j]?=some u/\X5 Z w' (G9 [(1,D9.arr e z (l.take i++[d]++l.drop i) none),(0,D9.arr e z [d] none)]) (λj=>if j=0 then .slice (some ⟨b',0,none⟩) (l.length+1) c' else Eo j) c u:=λp j c hp hc=>by
       obtain⟨ha,u,hu,hr⟩:=hcells p q (O4.1 hp).1 hp j c hc;exact⟨ha,u,hu,hr.keep hkeep hok⟩
      have hql:q.length=z:=by
       have hm:=iC hq;simp only[iU,xR]at hm;rcases hm with(hm|rfl)|hm
       .obtain⟨p,hp,rfl⟩:=dV (BR hm);exact oN p _ hp (I9 hp)
       .exact aH2 0 q (by simp) rfl
       .obtain⟨p,hp,rfl⟩:=dV (BQ hm);exact oN p _ hp (I9 hp)
      have hjz:j<z:=by rw[<-hql];exact(O4.1 hc).1
      have htk:(xs.take (i*z)).length=i*z:=by rw[U9];omega
      rcases xY k i with hlt|rfl|hgt
      .rw[kM,bV (by rw[U9];omega),jK,I4 hlt]at hq;have hm:k*z+z<=i*z:=by rw[<-Nat.succ_mul];exact iJ z hlt
       rw[kM,bV (by rw[htk];omega),jK,I4 (by omega)];exact hxk k j c hq hc
      .rw[kM,bJ (by rw[U9];omega),U9,rP hi,Nat.sub_self]at hq;simp at hq;subst hq;rw[kM,bJ (by rw[htk];omega),htk,Nat.add_sub_cancel_left,bV (by rw[aI7];omega),hys];obtain⟨ha,u,hu,hr⟩:=bq8 0 d (by simp) rfl j c hc;rw[Nat.zero_mul,V7]at hu;exact⟨ha,u,hu,hr.keep hkeep hok⟩
      .rw[bJ (by simp;omega),xQ]at hq;have hq2:l[k-1]?=some q:=by rw[<-hq];congr 1;simp;omega
       have hm:i*z+z<=k*z:=by rw[<-Nat.succ_mul];exact iJ z hgt
       have hk1:(k-1)*z=k*z-z:=by rw[Nat.sub_mul,rU]
       rw[bJ (by rw[bQ,htk,aI7];omega),xQ,bQ,htk,aI7,
        show i*z+(k*z+j-(i*z+z))=(k-1)*z+j from by rw[hk1];omega]
       exact hxk (k-1) j c hq2 hc
     .simp only[if_true,Value.ownBlock,Z9]at hb;rcases hnew b hb.symm with h|h
      .exact ak3 b o h hz
      .have:=hzl b o hz;omega
    |1=>exact(hg.ok 1).keep hkeep hok λb hb=>⟨hfr.block b ((hg.ok 1).lt hb) (λh=>by
      have:b=vb:=by
       have hb':(D9.arr e z [d] none).blk (Eo 1) b:=hb;rw[hE1]at hb';simpa[D9.blk]using hb'.symm
      exact hap b h this),λ_ h=>h⟩
    |j+2=>rw[show G9 [(1,D9.arr e z (l.take i++[d]++l.drop i) none),(0,D9.arr e z [d] none)] (j+2)=(0,.none)from by simp[G9]];trivial
   .have g0:∀b,(G9 [(1,D9.arr e z (l.take i++[d]++l.drop i) none),(0,D9.arr e z [d] none)] 0).2.blk (Value.slice (some ⟨b',0,none⟩) (l.length+1) c') b->b=b':=λb h=>Eq.symm h;have g1:∀b,(G9 [(1,D9.arr e z (l.take i++[d]++l.drop i) none),(0,D9.arr e z [d] none)] 1).2.blk (Eo 1) b->b=vb:=λb h=>by rw[hE1]at h;exact Eq.symm h
    have key:b=b'->b=vb->False:=λe1 e2=>by
     rcases hnew b e1 with h|h
     .exact hap b h e2
     .omega
    match j,j',h1,h2 with
    |0,0,_,_=>exact hj rfl
    |0,1,h1,h2=>exact key (g0 b h1) (g1 b h2)
    |1,0,h1,h2=>exact key (g0 b h2) (g1 b h1)
    |1,1,_,_=>exact hj rfl
    |j+2,_,h1,_=>simp[G9,D9.blk]at h1
    |_,j+2,_,h2=>simp[G9,D9.blk]at h2
   .by_cases h:ob=some k
    .obtain⟨arr,ha⟩:=hob.heap h;rw[ha]at hk;cases hk
    .exact(hfr.block k (V4.1 hk).1 h).trans hk
   .match j,hj with
    |0,hj=>exact(hnew b (Eq.symm hj)).elim (λh=>.inr ⟨0,bs3 b h⟩) .inl
    |1,hj=>exact .inr ⟨1,hj⟩
    |j+2,hj=>simp[G9,D9.blk]at hj
theorem LV(w:World)(b o:Nat)(v:Value){arr:Array Value}{el:Nat}{fr:Nat×Nat}(h:w.heap[b]?=some (.cells arr el fr)):(w.setCell ⟨b,o,none⟩ v).heap[b]?=some (.cells (arr.setIfInBounds o v) el fr):=by
 have hlt:b<w.heap.size:=(V4.1 h).1;have hv:w.heap[b]=.cells arr el fr:=(V4.1 h).2;unfold World.setCell
 grind
theorem kG(w:World)(b o k:Nat)(v:Value)(h:k≠b):(w.setCell ⟨b,o,none⟩ v).heap[k]?=w.heap[k]?:=by
 simp[World.setCell,xH,Ne.symm h]
theorem aa2(w:World)(a:Addr)(v:Value):(w.setCell a v).heap.size=w.heap.size:=by simp[World.setCell]
theorem O9.keep{w w':World}{el z n:Nat}{v:Value}{C:List Value}{ob:Option Nat}(h:O9 w el z v n C ob)(hk:∀k,ob=some k->w'.heap[k]?=w.heap[k]?):O9 w' el z v n C ob:=by
 cases h with
 |e a=>exact .e a
 |b b c n arr hh hs hn hm h1=>exact .b b c n arr ((hk b rfl).trans hh) hs hn hm h1
theorem O9.lt{w:World}{el z n:Nat}{v:Value}{C:List Value}{ob:Option Nat}(h:O9 w el z v n C ob){k:Nat}(hk:ob=some k):k<w.heap.size:=by
 obtain⟨arr,ha⟩:=h.heap hk
 grind
theorem O9.len{w:World}{el z n:Nat}{v:Value}{C:List Value}{ob:Option Nat}(h:O9 w el z v n C ob):C.length=n*z:=by
 cases h with
 |e a=>simp
 |b b c n arr hh hs hn hm h1=>rw[U9,iT,hs];exact rP (iJ _ hn)
theorem O9.one{w:World}{el z n:Nat}{v:Value}{C:List Value}{ob:Option Nat}(h:O9 w el z v n C ob):∀u∈C,u.oneCell'=true:=by
 cases h with
 |e a=>grind
 |b b c n arr hh hs hn hm h1=>exact h1
theorem O9.cell{w:World}{el z n:Nat}{v:Value}{C:List Value}{b:Nat}(h:O9 w el z v n C (some b)){j:Nat}{u:Value}(hj:C[j]?=some u):w.cell? ⟨b,j,none⟩=some u:=by
 cases h with
 |b b c n arr hh hs hn hm h1=>
  rw[jY w b j arr el (0,0) hh]
  grind
theorem O9.form{w:World}{el z n:Nat}{v:Value}{C:List Value}{ob:Option Nat}(h:O9 w el z v n C ob)(hn:0<n):∃b c,ob=some b/\v=.slice (some ⟨b,0,none⟩) n c/\n<=c:=by
 cases h with
 |e a=>grind
 |b b c n arr hh hs hnc hm h1=>grind
theorem O9.sl{w:World}{el z n:Nat}{v:Value}{C:List Value}{ob:Option Nat}(h:O9 w el z v n C ob):∃a c,v=.slice a n c/\n<=c:=by
 cases h with
 |e a=>grind
 |b b c n arr hh hs hnc hm h1=>grind
theorem O9.TA{w:World}{el z n:Nat}{v:Value}{C:List Value}{b:Nat}(h:O9 w el z v n C (some b)){j:Nat}{u:Value}(hu:u.oneCell'=true)(hj:j<C.length):O9 (w.setCell ⟨b,j,none⟩ u) el z v n (C.set j u) (some b):=by
 cases h with
 |b b c n arr hh hs hn hm h1=>
  rw[U9]at hj;refine wU (LV w b j u hh) (by simpa using hs) hn hm (λx hx=>?_) ?_
  .grind
  .rw[Array.toList_setIfInBounds,List.take_set]
theorem Fr.TA{S:Nat->Prop}{w w':World}(h:Fr S w w'){b o:Nat}{v:Value}(hb:S b\/w.heap.size<=b):Fr S w (w'.setCell ⟨b,o,none⟩ v):=
 ⟨h.os,h.tape,h.output,by rw[aa2];exact h.size,λk hk hn=>(kG w' b o k v (λe=>hb.elim (λhs=>hn (e▸hs)) (λhl=>by omega))).trans (h.block k hk hn)⟩
theorem Fr.trans{S:Nat->Prop}{a b c:World}(h:Fr S a b)(k:Fr S b c):Fr S a c:=
 ⟨k.os.trans h.os,k.tape.trans h.tape,k.output.trans h.output,X4 h.size k.size,λi hi hn=>(k.block i (Z5 hi h.size) hn).trans (h.block i hi hn)⟩
theorem Fr.of_below{S:Nat->Prop}{w w':World}(h:Below w.heap.size w w'):Fr S w w':=⟨h.os,h.tape,h.output,h.size,λk hk _=>h.block k hk⟩
theorem Fr.mono{S S':Nat->Prop}{w w':World}(h:Fr S w w')(hs:∀k,S k->S' k):Fr S' w w':=⟨h.os,h.tape,h.output,h.size,λk hk hn=>h.block k hk (λhS=>hn (hs k hS))⟩
theorem Fr.base{S:Nat->Prop}{w0 w w':World}(h0:Below w0.heap.size w0 w)(h:Fr S w w')(hS:∀k,S k->w0.heap.size<=k):Below w0.heap.size w0 w':=
 ⟨h.os.trans h0.os,h.tape.trans h0.tape,h.output.trans h0.output,X4 h0.size h.size,λk hk=>(h.block k (Z5 hk h0.size) (λhs=>by have:=hS k hs;omega)).trans (h0.block k hk)⟩
def bcs(b:Branch)(k:Value):List Value:=[.int .i64 b.Unit.ID,.int .i64 b.Unit.Parent,.int .i64 b.Unit.Level,.string ⟨⟨b.Unit.Title⟩⟩,.string ⟨⟨b.Unit.Mark⟩⟩,k]
def Y7(l:List Int):List Value:=l.map (Value.int .i64)
structure Row where
 b:Branch
 k:Value
 o:Option Nat
def Row.cs(r:Row):List Value:=bcs r.b r.k
structure Lay where
 x:Nat
 rv:Value
 ro:Option Nat
 roots:List Int
 bv:Value
 bo:Option Nat
 rows:List Row
def rcs(l:List Row):List Value:=l.flatMap Row.cs
def Lay.tree(L:Lay):Tree:=⟨L.roots,L.rows.map Row.b⟩
inductive Pl where
 |x
 |r
 |b
 |k (i:Nat)
def Lay.at(L:Lay):Pl->Option Nat
 |.x=>some L.x
 |.r=>L.ro
 |.b=>L.bo
 |.k i=>(L.rows[i]?).bind Row.o
theorem SK(l:List Row):(rcs l).length=l.length*6:=by
 induction l with
 |nil=>rfl
 |cons r l ih=>simp only[rcs,GR,bQ,pR]at ih⊢;rw[ih];simp[Row.cs,bcs];omega
theorem bK1(l:List Row)(i:Nat):rcs (l.take i)=(rcs l).take (i*6):=by
 induction l generalizing i with
 |nil=>simp[rcs]
 |cons r l ih=>cases i with
  |zero=>simp[rcs]
  |succ i=>
   have hr:r.cs.length=6:=rfl;simp only[rcs,List.take_succ_cons,GR]at ih⊢;rw[ih,List.take_append,xW (l:=r.cs) (by rw[hr];omega),hr,show(i+1)*6-6=i*6 from by omega]
theorem bK0(l:List Row)(i:Nat):rcs (l.drop i)=(rcs l).drop (i*6):=by
 induction l generalizing i with
 |nil=>simp[rcs]
 |cons r l ih=>cases i with
  |zero=>simp[rcs]
  |succ i=>
   have hr:r.cs.length=6:=rfl;simp only[rcs,List.drop_succ_cons,GR]at ih⊢;rw[ih,List.drop_append,BN (show r.cs.length<=(i+1)*6 from by rw[hr];omega),hr,rO,show(i+1)*6-6=i*6 from by omega]
theorem aS3(l l':List Row):rcs (l++l')=rcs l++rcs l':=by simp[rcs]
theorem ao9{l:List Row}{i:Nat}{r:Row}(h:l[i]?=some r){j:Nat}(hj:j<6):(rcs l)[i*6+j]?=r.cs[j]?:=by
 induction l generalizing i with
 |nil=>simp at h
 |cons q l ih=>
  have hq:q.cs.length=6:=rfl;simp only[rcs,GR]at ih⊢;cases i with
  |zero=>grind
  |succ i=>grind
theorem aS4{l:List Row}{i:Nat}{r r':Row}(h:l[i]?=some r){j:Nat}{u:Value}(hj:j<6)(hr:r'.cs=r.cs.set j u):rcs (l.set i r')=(rcs l).set (i*6+j) u:=by
 induction l generalizing i with
 |nil=>simp at h
 |cons q l ih=>
  have hq:q.cs.length=6:=rfl;simp only[rcs,GR]at ih⊢;cases i with
  |zero=>grind
  |succ i=>grind
structure Ed(w0 w:World)(L:Lay):Prop where
 base:Below w0.heap.size w0 w
 hx:w.heap[L.x]?=some (.cells #[L.rv,L.bv] 98 (0,0))
 hr:O9 w 3 1 L.rv L.roots.length (Y7 L.roots) L.ro
 hb:O9 w 52 6 L.bv L.rows.length (rcs L.rows) L.bo
 hk:∀(i:Nat)(r:Row),L.rows[i]?=some r->O9 w 3 1 r.k r.b.Kids.length (Y7 r.b.Kids) r.o
 nd:∀p q b,L.at p=some b->L.at q=some b->p=q
 lo:∀p b,L.at p=some b->w0.heap.size<=b
theorem Ed.bD{w0 w:World}{L:Lay}(h:Ed w0 w L){p:Pl}{b:Nat}(hb:L.at p=some b):b<w.heap.size:=by
 cases p with
 |x=>cases hb;exact(V4.1 h.hx).1
 |r=>exact h.hr.lt hb
 |b=>exact h.hb.lt hb
 |k i=>
  cases hr:L.rows[i]? with
  |none=>simp[Lay.at,hr]at hb
  |some r=>simp only[Lay.at,hr,G5]at hb;exact(h.hk i r hr).lt hb
theorem Ed.keep{w0 w w':World}{L:Lay}(h:Ed w0 w L)(hb:Below w0.heap.size w0 w')(hk:∀p b,L.at p=some b->w'.heap[b]?=w.heap[b]?):Ed w0 w' L where
 base:=hb
 hx:=(hk .x _ rfl).trans h.hx
 hr:=h.hr.keep λk hk'=>hk .r k hk'
 hb:=h.hb.keep λk hk'=>hk .b k hk'
 hk:=λi r hr=>(h.hk i r hr).keep λk hk'=>hk (.k i) k (by simp[Lay.at,hr,hk'])
 nd:=h.nd
 lo:=h.lo
theorem Ed.below{w0 w w':World}{L:Lay}(h:Ed w0 w L)(hb:Below w.heap.size w w'):Ed w0 w' L:=
 h.keep (h.base.trans (hb.mono h.base.size)) λ_ b hp=>hb.block b (h.bD hp)
theorem Ed.c0{w0 w:World}{L:Lay}(h:Ed w0 w L):w.cell? ⟨L.x,0,none⟩=some L.rv:=by rw[jY w L.x 0 _ _ _ h.hx];rfl
theorem Ed.c1{w0 w:World}{L:Lay}(h:Ed w0 w L):w.cell? ⟨L.x,1,none⟩=some L.bv:=by rw[jY w L.x 1 _ _ _ h.hx];rfl
theorem Ed.pX{w0 w:World}{L:Lay}(h:Ed w0 w L){i:Nat}{r:Row}(hr:L.rows[i]?=some r):∃b c,L.bo=some b/\L.bv=.slice (some ⟨b,0,none⟩) L.rows.length c/\L.rows.length<=c:=
 h.hb.form (Nat.lt_of_le_of_lt (Y3 _) (O4.1 hr).1)
theorem Ed.cell{w0 w:World}{L:Lay}(h:Ed w0 w L){i:Nat}{r:Row}(hr:L.rows[i]?=some r){b:Nat}(hb:L.bo=some b){j:Nat}{u:Value}(hj:j<6)(hu:r.cs[j]?=some u):w.cell? ⟨b,i*6+j,none⟩=some u:=by
 have hB:=h.hb;rw[hb]at hB;exact hB.cell ((ao9 hr hj).trans hu)
theorem Below.uX{w0 w1:World}{b o:Nat}{v:Value}(h:Below w0.heap.size w0 w1)(hb:w0.heap.size<=b):Below w0.heap.size w0 (w1.setCell ⟨b,o,none⟩ v):=
 ⟨h.os,h.tape,h.output,by rw[aa2];exact h.size,λk hk=>(kG w1 b o k v (by omega)).trans (h.block k hk)⟩
theorem bu4(l:List Int):∀u∈Y7 l,u.oneCell'=true:=λu hu=>by
 simp only[Y7,iV]at hu;obtain⟨n,_,rfl⟩:=hu;rfl
theorem Ed.aU4{w0 w:World}{L:Lay}(h:Ed w0 w L){i:Nat}{r:Row}(hr:L.rows[i]?=some r){b:Nat}(hb:L.bo=some b){j:Nat}{u:Value}(hu:u.oneCell'=true){b':Branch}(hj:j<5)(hc:bcs b' r.k=(bcs r.b r.k).set j u)(hkd:b'.Kids=r.b.Kids):
 Ed w0 (w.setCell ⟨b,i*6+j,none⟩ u) { L with rows:=L.rows.set i ⟨b',r.k,r.o⟩ }:=by
 have hlt:i<L.rows.length:=(O4.1 hr).1;have hat:∀p,Lay.at { L with rows:=L.rows.set i ⟨b',r.k,r.o⟩ } p=L.at p:=λp=>by
  cases p with
  |k m=>
   simp only[Lay.at,vV]
   grind
  |_=>rfl
 have ho:∀p c,L.at p=some c->p≠.b->(w.setCell ⟨b,i*6+j,none⟩ u).heap[c]?=w.heap[c]?:=λp c hp hpb=>
  kG w b _ c u (λe=>hpb (h.nd p .b c hp (by rw[e];exact hb)))
 have hB:=h.hb;rw[hb]at hB;refine⟨Below.uX h.base (h.lo .b b hb),(ho .x _ rfl (by simp)).trans h.hx,h.hr.keep λk hk=>ho .r k hk (by simp),?_,λm q hq=>?_,λp q c hp hq=>h.nd p q c (hat p▸hp) (hat q▸hq),λp c hp=>h.lo p c (hat p▸hp)⟩
 .have:=hB.TA (j:=i*6+j) (u:=u) hu (by rw[SK];omega);rw[<-aS4 (r':=⟨b',r.k,r.o⟩) hr (by omega) hc]at this
  grind
 .replace hq:(L.rows.set i ⟨b',r.k,r.o⟩)[m]?=some q:=hq;rw[vV]at hq;by_cases hm:i=m
  .subst hm;rw[I4 rfl,I4 hlt]at hq;injection hq with hq;subst hq
   show O9 _ 3 1 r.k b'.Kids.length (Y7 b'.Kids) r.o;rw[hkd];exact(h.hk i r hr).keep λk hk=>ho (.k i) k (by simp[Lay.at,hr,hk]) (by simp)
  .rw[F9 hm]at hq;exact(h.hk m q hq).keep λk hk=>ho (.k m) k (by simp[Lay.at,hq,hk]) (by simp)
theorem Ed.df8{w0 w w1:World}{L:Lay}(h:Ed w0 w L){i:Nat}{r:Row}(hr:L.rows[i]?=some r){b:Nat}(hb:L.bo=some b){l':List Int}{v':Value}{o':Option Nat}(hO:O9 w1 3 1 v' l'.length (Y7 l') o')(ho':∀c,o'=some c->r.o=some c\/w.heap.size<=c)(hf:Fr (λk=>r.o=some k) w w1):
 Ed w0 (w1.setCell ⟨b,i*6+5,none⟩ v') { L with rows:=L.rows.set i ⟨{ r.b with Kids:=l' },v',o'⟩ }:=by
 have hlt:i<L.rows.length:=(O4.1 hr).1;have hki:∀c,r.o=some c->L.at (.k i)=some c:=λc hc=>by simp[Lay.at,hr,hc]
 have hat:∀p,p≠.k i->Lay.at { L with rows:=L.rows.set i ⟨{ r.b with Kids:=l' },v',o'⟩ } p=L.at p:=λp hp=>by
  cases p with
  |k m=>
   simp only[Lay.at,vV]
   grind
  |_=>rfl
 have hat':Lay.at { L with rows:=L.rows.set i ⟨{ r.b with Kids:=l' },v',o'⟩ } (.k i)=o':=by
  simp[Lay.at,hlt]
 have hv1:v'.oneCell'=true:=by obtain⟨a,c,rfl,_⟩:=hO.sl;rfl
 have hne:∀p c,L.at p=some c->p≠.k i->r.o≠some c:=λp c hp hpk hc=>hpk (h.nd p (.k i) c hp (hki c hc));have ho1:∀p c,L.at p=some c->p≠.k i->w1.heap[c]?=w.heap[c]?:=λp c hp hpk=>hf.block c (h.bD hp) (hne p c hp hpk);have ho:∀p c,L.at p=some c->p≠.k i->p≠.b->(w1.setCell ⟨b,i*6+5,none⟩ v').heap[c]?=w.heap[c]?:=λp c hp hpk hpb=>
  (kG w1 b _ c v' (λe=>hpb (h.nd p .b c hp (by rw[e];exact hb)))).trans (ho1 p c hp hpk)
 have hob:∀c,o'=some c->c≠b:=λc hc e=>by
  rcases ho' c hc with hq|hq
  .exact absurd (h.nd (.k i) .b c (hki c hq) (by rw[e];exact hb)) (by simp)
  .have:=h.bD (p:=.b) hb;omega
 have hB:O9 w1 52 6 L.bv L.rows.length (rcs L.rows) (some b):=hb▸h.hb.keep λk hk=>ho1 .b k hk (by simp);have hnew:∀p c,Lay.at { L with rows:=L.rows.set i ⟨{ r.b with Kids:=l' },v',o'⟩ } p=some c->(p≠.k i/\L.at p=some c)\/(p=.k i/\o'=some c):=λp c hp=>by grind
 have key:∀p c,p≠.k i->L.at p=some c->o'=some c->False:=λp c hpk hp hc=>by
  rcases ho' c hc with hq|hq
  .grind
  .have:=h.bD hp;omega
 refine⟨Below.uX (hf.base h.base λk hk=>h.lo (.k i) k (hki k hk)) (h.lo .b b hb),(ho .x _ rfl (by simp) (by simp)).trans h.hx,h.hr.keep λk hk=>ho .r k hk (by simp) (by simp),?_,λm q hq=>?_,λp q c hp hq=>?_,λp c hp=>?_⟩
 .have:=hB.TA (j:=i*6+5) (u:=v') hv1 (by rw[SK];omega);rw[<-aS4 (r':=⟨{ r.b with Kids:=l' },v',o'⟩) hr (by omega) rfl]at this
  grind
 .replace hq:(L.rows.set i ⟨{ r.b with Kids:=l' },v',o'⟩)[m]?=some q:=hq;rw[vV]at hq;by_cases hm:i=m
  .subst hm;rw[I4 rfl,I4 hlt]at hq;injection hq with hq;subst hq
   exact hO.keep λk hk=>kG w1 b _ k v' (hob k hk)
  .rw[F9 hm]at hq;exact(h.hk m q hq).keep λk hk=>ho (.k m) k (by simp[Lay.at,hq,hk]) (by simpa using Ne.symm hm) (by simp)
 .rcases hnew p c hp with⟨h1,h2⟩|⟨h1,h2⟩<;>rcases hnew q c hq with⟨h3,h4⟩|⟨h3,h4⟩
  .exact h.nd p q c h2 h4
  .grind
  .grind
  .rw[h1,h3]
 .rcases hnew p c hp with⟨h1,h2⟩|⟨h1,h2⟩
  .exact h.lo p c h2
  .rcases ho' c h2 with hq|hq
   .exact h.lo (.k i) c (hki c hq)
   .exact X4 h.base.size hq
theorem Ed.df9{w0 w w1:World}{L:Lay}(h:Ed w0 w L){l':List Int}{v':Value}{o':Option Nat}(hO:O9 w1 3 1 v' l'.length (Y7 l') o')(ho':∀c,o'=some c->L.ro=some c\/w.heap.size<=c)(hf:Fr (λk=>L.ro=some k) w w1):
 Ed w0 (w1.setCell ⟨L.x,0,none⟩ v') { L with rv:=v',ro:=o',roots:=l' }:=by
 have hne:∀p c,L.at p=some c->p≠.r->L.ro≠some c:=λp c hp hpk hc=>hpk (h.nd p .r c hp hc);have ho1:∀p c,L.at p=some c->p≠.r->w1.heap[c]?=w.heap[c]?:=λp c hp hpk=>hf.block c (h.bD hp) (hne p c hp hpk);have ho:∀p c,L.at p=some c->p≠.r->p≠.x->(w1.setCell ⟨L.x,0,none⟩ v').heap[c]?=w.heap[c]?:=λp c hp hpk hpb=>
  (kG w1 L.x _ c v' (λe=>hpb (h.nd p .x c hp (by rw[e];rfl)))).trans (ho1 p c hp hpk)
 have hob:∀c,o'=some c->c≠L.x:=λc hc e=>by
  rcases ho' c hc with hq|hq
  .exact absurd (h.nd .r .x c hq (by rw[e];rfl)) (by simp)
  .have:=h.bD (p:=.x) rfl;omega
 have hat:∀p,p≠.r->Lay.at { L with rv:=v',ro:=o',roots:=l' } p=L.at p:=λp hp=>by cases p<;>first|rfl|exact absurd rfl hp
 have hnew:∀p c,Lay.at { L with rv:=v',ro:=o',roots:=l' } p=some c->(p≠.r/\L.at p=some c)\/(p=.r/\o'=some c):=λp c hp=>by
  by_cases hpk:p=.r
  .subst hpk;exact .inr ⟨rfl,hp⟩
  .grind
 have key:∀p c,p≠.r->L.at p=some c->o'=some c->False:=λp c hpk hp hc=>by
  rcases ho' c hc with hq|hq
  .grind
  .have:=h.bD hp;omega
 refine⟨Below.uX (hf.base h.base λk hk=>h.lo .r k hk) (h.lo .x _ rfl),?_,hO.keep λk hk=>kG w1 L.x _ k v' (hob k hk),h.hb.keep λk hk=>ho .b k hk (by simp) (by simp),λm q hq=>(h.hk m q hq).keep λk hk=>ho (.k m) k (by simp[Lay.at,(show L.rows[m]?=some q from hq),hk]) (by simp) (by simp),λp q c hp hq=>?_,λp c hp=>?_⟩
 .rw[LV w1 L.x 0 v' ((ho1 .x _ rfl (by simp)).trans h.hx)];rfl
 .rcases hnew p c hp with⟨h1,h2⟩|⟨h1,h2⟩<;>rcases hnew q c hq with⟨h3,h4⟩|⟨h3,h4⟩
  .exact h.nd p q c h2 h4
  .grind
  .grind
  .rw[h1,h3]
 .rcases hnew p c hp with⟨h1,h2⟩|⟨h1,h2⟩
  .exact h.lo p c h2
  .rcases ho' c h2 with hq|hq
   .exact h.lo .r c hq
   .exact X4 h.base.size hq
theorem Ed.setB{w0 w w1:World}{L:Lay}(h:Ed w0 w L){rows':List Row}{v':Value}{o':Option Nat}(hO:O9 w1 52 6 v' rows'.length (rcs rows') o')(ho':∀c,o'=some c->L.bo=some c\/w.heap.size<=c)(hf:Fr (λk=>L.bo=some k) w w1)
 (ix:Nat->Option Nat) (hix:∀i r,rows'[i]?=some r->(∃j,ix i=some j/\L.rows[j]?=some r)\/(ix i=none/\r.k=.slice none 0 0/\r.o=none/\r.b.Kids=[])) (hinj:∀i i' j,ix i=some j->ix i'=some j->i=i'):
 Ed w0 (w1.setCell ⟨L.x,1,none⟩ v') { L with bv:=v',bo:=o',rows:=rows' }:=by
 have hne:∀p c,L.at p=some c->p≠.b->L.bo≠some c:=λp c hp hpk hc=>hpk (h.nd p .b c hp hc);have ho1:∀p c,L.at p=some c->p≠.b->w1.heap[c]?=w.heap[c]?:=λp c hp hpk=>hf.block c (h.bD hp) (hne p c hp hpk);have ho:∀p c,L.at p=some c->p≠.b->p≠.x->(w1.setCell ⟨L.x,1,none⟩ v').heap[c]?=w.heap[c]?:=λp c hp hpk hpb=>
  (kG w1 L.x _ c v' (λe=>hpb (h.nd p .x c hp (by rw[e];rfl)))).trans (ho1 p c hp hpk)
 have hob:∀c,o'=some c->c≠L.x:=λc hc e=>by
  rcases ho' c hc with hq|hq
  .exact absurd (h.nd .b .x c hq (by rw[e];rfl)) (by simp)
  .have:=h.bD (p:=.x) rfl;omega
 have hnew:∀p c,Lay.at { L with bv:=v',bo:=o',rows:=rows' } p=some c->(∃q,q≠.b/\L.at q=some c/\(p=q/\(∀m,p≠.k m)\/∃m j,p=.k m/\q=.k j/\ix m=some j))\/(p=.b/\o'=some c):=λp c hp=>by
  cases p with
  |x=>exact .inl ⟨.x,by simp,hp,.inl ⟨rfl,by simp⟩⟩
  |r=>exact .inl ⟨.r,by simp,hp,.inl ⟨rfl,by simp⟩⟩
  |b=>exact .inr ⟨rfl,hp⟩
  |k m=>
   simp only[Lay.at]at hp;cases hm:rows'[m]? with
   |none=>grind
   |some r=>
    rw[hm,G5]at hp;rcases hix m r hm with⟨j,h1,h2⟩|⟨_,_,h3,_⟩
    .exact .inl ⟨.k j,by simp,by simp[Lay.at,h2,hp],.inr ⟨m,j,rfl,rfl,h1⟩⟩
    .grind
 have key:∀p c,p≠.b->L.at p=some c->o'=some c->False:=λp c hpk hp hc=>by
  rcases ho' c hc with hq|hq
  .grind
  .have:=h.bD hp;omega
 refine⟨Below.uX (hf.base h.base λk hk=>h.lo .b k hk) (h.lo .x _ rfl),?_,h.hr.keep λk hk=>ho .r k hk (by simp) (by simp),hO.keep λk hk=>kG w1 L.x _ k v' (hob k hk),λm q hq=>?_,λp q c hp hq=>?_,λp c hp=>?_⟩
 .rw[LV w1 L.x 1 v' ((ho1 .x _ rfl (by simp)).trans h.hx)];rfl
 .rcases hix m q hq with⟨j,h1,h2⟩|⟨_,h2,h3,h4⟩
  .exact(h.hk j q h2).keep λk hk=>ho (.k j) k (by simp[Lay.at,h2,hk]) (by simp) (by simp)
  .rw[h2,h3,h4];exact .e none
 .rcases hnew p c hp with⟨a,h1,h2,h3⟩|⟨h1,h2⟩<;>rcases hnew q c hq with⟨a',h1',h2',h3'⟩|⟨h1',h2'⟩
  .have e:=h.nd a a' c h2 h2'
   grind
  .grind
  .grind
  .rw[h1,h1']
 .rcases hnew p c hp with⟨a,h1,h2,h3⟩|⟨h1,h2⟩
  .exact h.lo a c h2
  .rcases ho' c h2 with hq|hq
   .exact h.lo .b c hq
   .exact X4 h.base.size hq
abbrev iY(w:World):Zone:=λb _=>b<w.heap.size
theorem aS8{w:World}{v:Value}{l:List Int}{o:Option Nat}(h:O9 w 3 1 v l.length (Y7 l) o):Rep (iY w) w (.sl 1 (l.map F5)) v:=by
 cases l with
 |nil=>
  cases h with
  |e a=>exact .nil _ _ _
  |b b c n arr hh hs hn hm h1=>exact .nil _ _ _
 |cons n l=>
  obtain⟨b,c,rfl,rfl,hc⟩:=h.form (by simp);have hlt:=h.lt rfl;refine cast (by rw[U7]) (Rep.sl (Z:=iY w) (w:=w) 1 ((n::l).map F5) b 0 c (λi _=>.int .i64 ((n::l)[i]?.getD 0)) (by simpa using hc) (λi d hd=>?_) (λi j d e hd he=>?_) (λi j d e hd he=>?_))
  .rw[O6]at hd;cases hi:(n::l)[i]? with
   |none=>grind
   |some m=>rw[hi]at hd;cases hd;rfl
  .rw[O6]at hd;cases hi:(n::l)[i]? with
   |none=>grind
   |some m=>
    rw[hi]at hd;cases hd
    match j,he with
    |0,he=>
     cases he;refine⟨hlt,?_,rfl⟩;refine h.cell ?_;simp only[Y7,O6,V7,vY,oD,hi];rfl
  .rw[O6]at hd;cases hi:(n::l)[i]? with
   |none=>grind
   |some m=>
    rw[hi]at hd;cases hd
    match j,he with
    |0,he=>cases he;exact .v _
theorem Ed.bL2{w0 w:World}{L:Lay}(h:Ed w0 w L):Rep (iY w) w (.sl 6 ((L.rows.map Row.b).map G8)) L.bv:=by
 cases hr:L.rows with
 |nil=>
  have hb:=h.hb;rw[hr]at hb;generalize rcs []=C at hb;generalize L.bo=o at hb;generalize L.bv=v at hb;cases hb with
  |e a=>exact .nil _ _ _
  |b b c n arr hh hs hn hm h1=>exact .nil _ _ _
 |cons r0 rs=>
  obtain⟨b,c,P8,hbv,hc⟩:=h.pX (i:=0) (r:=r0) (by rw[hr];rfl);have hlt:=h.bD (p:=.b) P8;rw[hbv,<-hr];have hg:∀(i j:Nat)(d:List CV)(e:CV),((L.rows.map Row.b).map G8)[i]?=some d->d[j]?=some e->∃r,L.rows[i]?=some r/\d=G8 r.b/\j<6:=λi j d e hd he=>by
   rw[O6,O6]at hd;cases hi:L.rows[i]? with
   |none=>grind
   |some r=>
    rw[hi]at hd;cases hd;exact⟨r,rfl,rfl,(O4.1 he).1⟩
  refine cast (by simp) (Rep.sl (Z:=iY w) (w:=w) 6 ((L.rows.map Row.b).map G8) b 0 c (λi j=>((L.rows[i]?).bind λr=>r.cs[j]?).getD undef) (by simpa using hc) (λi d hd=>?_) (λi j d e hd he=>?_) (λi j d e hd he=>?_))
  .rw[O6,O6]at hd;cases hi:L.rows[i]? with
   |none=>grind
   |some r=>rw[hi]at hd;cases hd;rfl
  .obtain⟨r,hi,rfl,hj⟩:=hg i j d e hd he;obtain⟨u,hu⟩:∃u,r.cs[j]?=some u:=⟨_,I9 (show j<r.cs.length from hj)⟩;refine⟨hlt,?_,?_⟩
   .rw[V7,h.cell hi P8 hj hu];simp[hi,hu]
   .match j,he with
    |0,he=>cases he;rfl
    |1,he=>cases he;rfl
    |2,he=>cases he;rfl
    |3,he=>cases he;rfl
    |4,he=>cases he;rfl
    |5,he=>cases he;rfl
  .obtain⟨r,hi,rfl,hj⟩:=hg i j d e hd he;simp only[hi,G5]
   match j,he with
   |0,he=>cases he;exact .v _
   |1,he=>cases he;exact .v _
   |2,he=>cases he;exact .v _
   |3,he=>cases he;exact .v _
   |4,he=>cases he;exact .v _
   |5,he=>cases he;exact aS8 (h.hk i r hi)
theorem Ed.rep{w0 w:World}{L:Lay}(h:Ed w0 w L):Rep (iY w) w (.agg (dO L.tree)) (.agg #[L.rv,L.bv]):=
 .agg _ [L.rv,L.bv] rfl (λi c x h1 h2=>by
  match i,h1,h2 with
  |0,h1,h2=>cases h1;cases h2;exact aS8 h.hr
  |1,h1,h2=>cases h1;cases h2;exact h.bL2) (λi c h1=>by
  match i,h1 with
  |0,h1=>cases h1;rfl
  |1,h1=>cases h1;rfl)
theorem bs5{f:FuncId}{args:List CV}{r:CV}(h:Holds prog Gw f args r)(hp:r.pure=true){w:World}(hg:Gw w){vs:List Value}(hr:O8 (iY w) w args vs):
 Calls prog f vs.toArray w λe w'=>∃x,e=.returned x/\Below w.heap.size w w'/\∃Z':Zone,Rep Z' w' r x/\∀b o,Z' b o->b<w'.heap.size:=
 (h.2 (iY w) w vs hr (λ_ _ h=>h) (λw' hb=>Gs w w' hg hb)).mono λ_ _ ⟨x,Z',h1,h2,_,h4,h5⟩=>⟨x,h1,h5,Z',h2.pure hp,λb o hz=>(h4 b o hz).2⟩
theorem XC{f:FuncId}{args:List CV}{u:Value}(h:Holds prog Gw f args (.v u)){w:World}(hg:Gw w){vs:List Value}(hr:O8 (iY w) w args vs):
 Calls prog f vs.toArray w λe w'=>e=.returned u/\Below w.heap.size w w':=
 (bs5 h rfl hg hr).mono λ_ _ ⟨x,h1,h2,Z',h3,_⟩=>by cases h3;exact⟨h1,h2⟩
theorem aH9{f:FuncId}{args:List CV}{u v:Value}(h:Holds prog Gw f args (.P7 [.v u,.v v])){w:World}(hg:Gw w){vs:List Value}(hr:O8 (iY w) w args vs):
 Calls prog f vs.toArray w λe w'=>e=.returned (.tuple #[u,v])/\Below w.heap.size w w':=
 (bs5 h rfl hg hr).mono λ_ _ ⟨x,h1,h2,Z',h3,_⟩=>by
   cases h3 with
   |P7 _ vs hl hh=>
    match vs,hl,hh with
    |[a,b],_,hh=>
     have e1:=hh 0 _ a rfl rfl;have e2:=hh 1 _ b rfl rfl;cases e1;cases e2
     grind
end
section
open Go Go.F6 Go.RowKit Proofs.Tryz
abbrev ptr(b o:Nat):Value:=.pointer (some ⟨b,o,none⟩)
def UU(w:World)(bv:Value)(id i:Int)(ok:Bool):Prop:=Calls prog 129 #[bv,.int .i64 id,.func (.func 130) #[] #[]] w λe w'=>e=.returned (.tuple #[.int .i64 i,.bool ok])/\Below w.heap.size w w'
set_option maxRecDepth 100000
set_option maxHeartbeats 2000000
theorem aC6{w0 w:World}{L:Lay}(hE:Ed w0 w L){id i:Int}{ok:Bool}(hc:UU w L.bv id i ok):
 Calls prog 72 #[ptr L.x 0,.int .i64 id] w λe w'=>e=.returned (.tuple #[.int .i64 i,.bool ok])/\Below w.heap.size w w':=by
 have c1:=hE.c1
 go_enter func72,ntmps72
 go_wp2_with (go_at_call 129;refine hc.mono ?_;rintro e w' ⟨rfl,hw⟩)
 go_ret2
 exact⟨rfl,hw⟩
theorem ct9{w0 w:World}{L:Lay}(hE:Ed w0 w L){id i:Int}(hc:UU w L.bv id i false):
 Calls prog 73 #[ptr L.x 0,.int .i64 id] w λe w'=>e=.returned (.pointer none)/\Below w.heap.size w w':=by
 have hf:=aC6 hE hc
 go_enter func73,ntmps73
 go_wp2_with (go_at_call 72;refine hf.mono ?_;rintro e w' ⟨rfl,hw⟩)
 go_ret
 exact⟨rfl,hw⟩
theorem aC5{w0 w:World}{L:Lay}(hE:Ed w0 w L){id:Int}{k:Nat}{r:Row}(hr:L.rows[k]?=some r){b:Nat}(hb:L.bo=some b)(hc:UU w L.bv id k true):
 Calls prog 73 #[ptr L.x 0,.int .i64 id] w λe w'=>e=.returned (ptr b (k*6))/\Below w.heap.size w w':=by
 have hf:=aC6 hE hc;obtain⟨b',c,P8,hbv,hlc⟩:=hE.pX hr;obtain rfl:b'=b:=iE (P8.symm.trans hb);have hlt:k<L.rows.length:=(O4.1 hr).1;have hlt':(k:Int)<(L.rows.length:Int):=by omega
 have hK:=λw' (hw:Below w.heap.size w w')=>(hE.below hw).c1;rw[hbv]at hK
 go_enter func73,ntmps73
 go_wp2_with (go_at_call 72;refine hf.mono ?_;rintro e w' ⟨rfl,hw⟩;have c1:=hK w' hw)
 go_ret
 exact⟨rfl,hw⟩
theorem cu3{w:World}{L:Lay}:
 Calls prog 75 #[ptr L.x 0,.int .i64 0] w λe w'=>e=.returned (ptr L.x 0)/\w'=w:=by
 go_enter func75,ntmps75
 go_wp2
 go_ret
 exact⟨rfl,rfl⟩
theorem cu4{w0 w:World}{L:Lay}(hE:Ed w0 w L){id:Int}(hid:id≠0){k:Nat}{r:Row}(hr:L.rows[k]?=some r){b:Nat}(hb:L.bo=some b)(hc:UU w L.bv id k true):
 Calls prog 75 #[ptr L.x 0,.int .i64 id] w λe w'=>e=.returned (ptr b (k*6+5))/\Below w.heap.size w w':=by
 have hf:=aC5 hE hr hb hc
 go_enter func75,ntmps75
 go_wp2_with (go_at_call 73;refine hf.mono ?_;rintro e w' ⟨rfl,hw⟩)
 go_ret
 exact⟨rfl,hw⟩
theorem cu9{w:World}{L:Lay}{l:Int}:
 Calls prog 74 #[ptr L.x 0,.int .i64 0,.int .i64 l] w λe w'=>e=.returned (.int .i64 (bif l==1 then 0 else 18))/\w'=w:=by
 by_cases hl:l=1
 .subst hl
  go_enter func74,ntmps74
  go_wp2
  go_ret
  exact⟨rfl,rfl⟩
 .have h1:(l==1)=false:=CJ.2 hl
  go_enter func74,ntmps74
  go_wp2
  go_ret
  exact⟨by rw[h1];rfl,rfl⟩
theorem cv0{w0 w:World}{L:Lay}(hE:Ed w0 w L){id l:Int}(hid:id≠0){k:Nat}{r:Row}(hr:L.rows[k]?=some r){b:Nat}(hb:L.bo=some b)(hc:UU w L.bv id k true){q:Bool}
 (hq:∀w1,Below w.heap.size w w1->Calls prog 131 #[.int .i64 r.b.Unit.Level,.int .i64 l] w1 λe w'=>e=.returned (.bool q)/\Below w1.heap.size w1 w'):
 Calls prog 74 #[ptr L.x 0,.int .i64 id,.int .i64 l] w λe w'=>e=.returned (.int .i64 (bif !(l==1)&&q then 0 else 18))/\Below w.heap.size w w':=by
 have hf:=aC5 hE hr hb hc;have hK:=λw' (hw:Below w.heap.size w w')=>(hE.below hw).cell hr hb (j:=2) (by omega) rfl;by_cases hl:l=1
 .subst hl
  go_enter func74,ntmps74
  go_wp2
  go_ret
  exact⟨rfl,Below.refl _ _⟩
 .have h1:(l==1)=false:=CJ.2 hl;have h2:(l !=1)=true:=by simp[hl]
  cases q
  all_goals
   go_enter func74,ntmps74
   go_wp2_with (first|(go_at_call 73;refine hf.mono ?_;rintro e w' ⟨rfl,hw⟩;have c1:=hK w' hw)|(go_at_call 131;refine(hq _ hw).mono ?_;rintro e w'' ⟨rfl,hw2⟩))
   go_ret
   exact⟨by rw[h1];rfl,hw.trans (hw2.mono hw.size)⟩
theorem cv3{w0 w:World}{L:Lay}(hE:Ed w0 w L){s:ByteArray}{but id:Int}{ok:Bool}
 (hc:Calls prog 132 #[.agg #[L.rv,L.bv],.string s] w λe w'=>e=.returned (.tuple #[.int .i64 id,.bool ok])/\Below w.heap.size w w'):
 Calls prog 76 #[ptr L.x 0,.string s,.int .i64 but] w λe w'=>e=.returned (.bool (ok&& !(id==but)))/\Below w.heap.size w w':=by
 have c0:=hE.c0;have c1:=hE.c1;cases ok
 all_goals
  go_enter func76,ntmps76
  go_wp2_with (go_at_call 132;refine hc.mono ?_;rintro e w' ⟨rfl,hw⟩)
  go_ret
  exact⟨rfl,hw⟩
theorem cu6{w0 w:World}{L:Lay}(hE:Ed w0 w L){i e:Int}
 (hc:Calls prog 86 #[.agg #[L.rv,L.bv]] w λe' w'=>e'=.returned (.tuple #[.int .i64 i,.int .i64 e])/\Below w.heap.size w w'):
 Calls prog 79 #[ptr L.x 0] w λe' w'=>e'=.returned (.int .i64 (bif e==15 then 15 else 0))/\Below w.heap.size w w':=by
 have c0:=hE.c0;have c1:=hE.c1;by_cases h:e=15
 .subst h
  go_enter func79,ntmps79
  go_wp2_with (go_at_call 86;refine hc.mono ?_;rintro e w' ⟨rfl,hw⟩)
  go_ret
  exact⟨rfl,hw⟩
 .have h1:(e==15)=false:=CJ.2 h
  go_enter func79,ntmps79
  go_wp2_with (go_at_call 86;refine hc.mono ?_;rintro e w' ⟨rfl,hw⟩)
  go_ret
  exact⟨by rw[h1];rfl,hw⟩
def At(w:World)(f:FuncId)(args:Array Value)(u:Value):Prop:=∀w1,Below w.heap.size w w1->Calls prog f args w1 λe w'=>e=.returned u/\Below w1.heap.size w1 w'
theorem At.below{w w1:World}{f:FuncId}{args:Array Value}{u:Value}(h:At w f args u)(hw:Below w.heap.size w w1):At w1 f args u:=λw2 hw2=>h w2 (hw.trans (hw2.mono hw.size))
theorem At.here{w:World}{f:FuncId}{args:Array Value}{u:Value}(h:At w f args u):Calls prog f args w λe w'=>e=.returned u/\Below w.heap.size w w':=h w (Below.refl _ _)
abbrev UR(w:World)(bv:Value)(id i:Int)(ok:Bool):Prop:=At w 129 #[bv,.int .i64 id,.func (.func 130) #[] #[]] (.tuple #[.int .i64 i,.bool ok])
theorem bl6{w0 w:World}{L:Lay}(hE:Ed w0 w L){id i:Int}{ok:Bool}(hc:UR w L.bv id i ok):At w 72 #[ptr L.x 0,.int .i64 id] (.tuple #[.int .i64 i,.bool ok]):=λw1 h1=>aC6 (hE.below h1) (hc w1 h1)
theorem ah9{w0 w:World}{L:Lay}(hE:Ed w0 w L){id i:Int}(hc:UR w L.bv id i false):At w 73 #[ptr L.x 0,.int .i64 id] (.pointer none):=λw1 h1=>ct9 (hE.below h1) (hc w1 h1)
theorem WB{w0 w:World}{L:Lay}(hE:Ed w0 w L){id:Int}{k:Nat}{r:Row}(hr:L.rows[k]?=some r){b:Nat}(hb:L.bo=some b)(hc:UR w L.bv id k true):At w 73 #[ptr L.x 0,.int .i64 id] (ptr b (k*6)):=λw1 h1=>aC5 (hE.below h1) hr hb (hc w1 h1)
theorem cu2(w:World)(L:Lay):At w 75 #[ptr L.x 0,.int .i64 0] (ptr L.x 0):=λ_ _=>(cu3 (L:=L)).mono λ_ _ ⟨h1,h2⟩=>⟨h1,h2▸Below.refl _ _⟩
theorem cu1{w0 w:World}{L:Lay}(hE:Ed w0 w L){id:Int}(hid:id≠0){k:Nat}{r:Row}(hr:L.rows[k]?=some r){b:Nat}(hb:L.bo=some b)(hc:UR w L.bv id k true):At w 75 #[ptr L.x 0,.int .i64 id] (ptr b (k*6+5)):=λw1 h1=>cu4 (hE.below h1) hid hr hb (hc w1 h1)
theorem cu8(w:World)(L:Lay)(l:Int):At w 74 #[ptr L.x 0,.int .i64 0,.int .i64 l] (.int .i64 (bif l==1 then 0 else 18)):=λ_ _=>(cu9 (L:=L)).mono λ_ _ ⟨h1,h2⟩=>⟨h1,h2▸Below.refl _ _⟩
theorem cv2{w0 w:World}{L:Lay}(hE:Ed w0 w L){s:ByteArray}{but id:Int}{ok:Bool}(hc:At w 132 #[.agg #[L.rv,L.bv],.string s] (.tuple #[.int .i64 id,.bool ok])):At w 76 #[ptr L.x 0,.string s,.int .i64 but] (.bool (ok&& !(id==but))):=λw1 h1=>cv3 (hE.below h1) (hc w1 h1)
theorem cu5{w0 w:World}{L:Lay}(hE:Ed w0 w L){i e:Int}(hc:At w 86 #[.agg #[L.rv,L.bv]] (.tuple #[.int .i64 i,.int .i64 e])):At w 79 #[ptr L.x 0] (.int .i64 (bif e==15 then 15 else 0)):=λw1 h1=>cu6 (hE.below h1) (hc w1 h1)
end
section
open Go Go.F6 Go.RowKit Proofs.Tryz
set_option maxRecDepth 100000
set_option maxHeartbeats 2000000
theorem O5{w:World}{b o:Nat}{arr:Array Value}{el:Nat}{v:Value}(h:w.heap[b]?=some (.cells arr el (0,0)))(hv:arr[o]?=some v):w.cell? ⟨b,o,none⟩=some v/\w.frozen? ⟨b,o,none⟩=false:=
 ⟨(jY w b o arr el (0,0) h).trans hv,by simp[World.frozen?,h]⟩
theorem cu7{w:World}{x pb po:Nat}{hv:Value}{l:List Int}{o:Option Nat}{before id parent j:Int}{a:Nat}(hins:NP 135 3 1)
 (hk:Calls prog 75 #[ptr x 0,.int .i64 parent] w λe w'=>e=.returned (ptr pb po)/\Below w.heap.size w w')
 {arr:Array Value} {el:Nat} (hr:w.heap[pb]?=some (.cells arr el (0,0))) (hc:arr[po]?=some hv) (hO:O9 w 3 1 hv l.length (Y7 l) o) (hpo:o≠some pb) (hl:l.length<=4000)
 (hi:∀w1,Below w.heap.size w w1->Calls prog 31 #[hv,.int .i64 before] w1 λe w'=>e=.returned (.int .i64 j)/\Below w1.heap.size w1 w') (ha:(j=a/\a<=l.length)\/(j= -1/\a=l.length)):
 Calls prog 78 #[ptr x 0,.int .i64 id,.int .i64 parent,.int .i64 before] w λe w'=>e=.returned (.tuple #[])/\∃v' o' w1,O9 w1 3 1 v' (l.length+1) (Y7 (l.take a++[id]++l.drop a)) o'/\
  (∀c,o'=some c->o=some c\/w.heap.size<=c)/\Fr (λk=>o=some k) w w1/\w'=w1.setCell ⟨pb,po,none⟩ v':=by
 obtain⟨ad,cp,rfl,hcp⟩:=hO.sl;have hpb:pb<w.heap.size:=(V4.1 hr).1;have hB:∀w',Below w.heap.size w w'->w'.cell? ⟨pb,po,none⟩=some (.slice ad l.length cp):=λw' hw=>(O5 ((hw.block pb hpb).trans hr) hc).1;have hcs:(Y7 l).take (a*1)++[Value.int .i64 id]++(Y7 l).drop (a*1)=Y7 (l.take a++[id]++l.drop a):=by simp[Y7]
 have hal:a<=l.length:=by rcases ha with h|h<;>omega
 have fin:∀w2,Below w.heap.size w w2->Calls prog 135 #[.slice ad l.length cp,.int .i64 a,.slice (some ⟨w2.heap.size,0,none⟩) 1 1] (w2.alloc (.cells #[.int .i64 id] 3)) λe w'=>∃v' o',e=.returned v'/\O9 w' 3 1 v' (l.length+1) (Y7 (l.take a++[id]++l.drop a)) o'/\
  (∀c,o'=some c->o=some c\/w.heap.size<=c)/\Fr (λk=>o=some k) w w'/\w'.cell? ⟨pb,po,none⟩=some (.slice ad l.length cp)/\w'.frozen? ⟨pb,po,none⟩=false:=λw2 hw2=>by
  have hb3:Below w.heap.size w (w2.alloc (.cells #[.int .i64 id] 3)):=hw2.alloc hw2.size _;have hO3:O9 (w2.alloc (.cells #[.int .i64 id] 3)) 3 1 (.slice ad l.length cp) l.length (Y7 l) o:=hO.keep λk hk=>hb3.block k (hO.lt hk);refine(hins hO3 hal hl (aW w2 _) (by simp) (λu hu=>?_) (λh=>by have:=hO.lt h;have:=hw2.size;omega)).mono ?_
  .simp at hu;subst hu;rfl
  .rintro e w' ⟨v',o',he,h1,h2,h3⟩;have h3':Fr (λk=>o=some k) w w':=(Fr.of_below hb3).trans (h3.mono λk hk=>hk) |>λh=>h;have hrow:=(h3'.block pb hpb hpo).trans hr;refine⟨v',o',he,?_,λc hc=>?_,h3',(O5 hrow hc).1,(O5 hrow hc).2⟩
   .rw[<-hcs];exact h1
   .rcases h2 with rfl|⟨b',hb',hsz⟩
    .exact .inl hc
    .rw[hb']at hc;injection hc with hc;subst hc;exact .inr (X4 hb3.size hsz)
 rcases ha with⟨rfl,ha⟩|⟨rfl,ha⟩
 .have hn:¬((a:Int)<0):=by omega
  go_enter func78,ntmps78
  go_wp2_with (first|(go_at_call 75;refine hk.mono ?_;rintro e w1 ⟨rfl,hw1⟩;have c1:=hB w1 hw1)|(go_at_call 31;refine(hi _ hw1).mono ?_;rintro e w2 ⟨rfl,hw2⟩;have c2:=hB w2 (hw1.trans (hw2.mono hw1.size)))|(go_at_call 135;refine(fin _ (hw1.trans (hw2.mono hw1.size))).mono ?_;rintro e w3 ⟨v',o',rfl,h1,h2,h3,c3,f3⟩;obtain⟨ad',cp',rfl,_⟩:=h1.sl))
  go_end0
  exact⟨rfl,_,o',w3,h1,h2,h3,rfl⟩
 .subst ha
  go_enter func78,ntmps78
  go_wp2_with (first|(go_at_call 75;refine hk.mono ?_;rintro e w1 ⟨rfl,hw1⟩;have c1:=hB w1 hw1)|(go_at_call 31;refine(hi _ hw1).mono ?_;rintro e w2 ⟨rfl,hw2⟩;have c2:=hB w2 (hw1.trans (hw2.mono hw1.size)))|(go_at_call 135;refine(fin _ (hw1.trans (hw2.mono hw1.size))).mono ?_;rintro e w3 ⟨v',o',rfl,h1,h2,h3,c3,f3⟩;obtain⟨ad',cp',rfl,_⟩:=h1.sl))
  go_end0
  exact⟨rfl,_,o',w3,h1,h2,h3,rfl⟩
def zN(o:Opn):Array Value:=#[.int .i64 o.ID,.int .i64 o.Day,.int .i64 o.Kind,.int .i64 o.Unit,.int .i64 o.Parent,.int .i64 o.Before,.int .i64 o.Level,.string ⟨⟨o.Title⟩⟩,.string ⟨⟨o.Mark⟩⟩,.int .i64 o.Origin.aK,.int .i64 o.Origin.U3,.int .i64 o.Origin.Number]
abbrev oval(o:Opn):Value:=.agg (zN o)
structure Bx(w:World)(p:Nat)(o:Opn):Prop where
 k3:w.cell? ⟨p,3,none⟩=some (.int .i64 o.Unit)
 k4:w.cell? ⟨p,4,none⟩=some (.int .i64 o.Parent)
 k5:w.cell? ⟨p,5,none⟩=some (.int .i64 o.Before)
 k6:w.cell? ⟨p,6,none⟩=some (.int .i64 o.Level)
 k7:w.cell? ⟨p,7,none⟩=some (.string ⟨⟨o.Title⟩⟩)
 k8:w.cell? ⟨p,8,none⟩=some (.string ⟨⟨o.Mark⟩⟩)
theorem iZ(w:World)(o:Opn):Bx (w.alloc (.cells (zN o) 33)) w.heap.size o:=by
 have h:(w.alloc (.cells (zN o) 33)).heap[w.heap.size]?=some (.cells (zN o) 33 (0,0)):=aW w _;refine⟨?_,?_,?_,?_,?_,?_⟩<;>(rw[jY _ _ _ _ _ _ h];rfl)
theorem Bx.lt{w:World}{p:Nat}{o:Opn}(h:Bx w p o):p<w.heap.size:=cell_lt (a:=⟨p,3,none⟩) h.k3
theorem Bx.below{w w':World}{p:Nat}{o:Opn}(h:Bx w p o)(hw:Below w.heap.size w w'):Bx w' p o:=
 ⟨(hw.cell (p:=⟨p,3,none⟩) h.lt).trans h.k3,(hw.cell (p:=⟨p,4,none⟩) h.lt).trans h.k4,(hw.cell (p:=⟨p,5,none⟩) h.lt).trans h.k5,(hw.cell (p:=⟨p,6,none⟩) h.lt).trans h.k6,(hw.cell (p:=⟨p,7,none⟩) h.lt).trans h.k7,(hw.cell (p:=⟨p,8,none⟩) h.lt).trans h.k8⟩
theorem al(w:World)(o:Obj):Below w.heap.size w (w.alloc o):=(Below.refl _ _).alloc (J6 _) _
theorem Below.and{a b c:World}(h:Below a.heap.size a b)(k:Below b.heap.size b c):Below a.heap.size a c:=h.trans (k.mono h.size)
theorem cr0{w:World}{x:Nat}{o:Opn}{i:Int}(h72:At w 72 #[ptr x 0,.int .i64 o.Unit] (.tuple #[.int .i64 i,.bool true])):
 Calls prog 32 #[ptr x 0,oval o] w λe w'=>e=.returned (.int .i64 6)/\Below w.heap.size w w':=by
 have k3:=(iZ w o).k3
 go_enter func32,ntmps32
 go_wp2_with (go_at_call 72;refine(h72 _ (al w _)).mono ?_;rintro e w1 ⟨rfl,hw1⟩)
 go_ret
 exact⟨rfl,Below.and (al w _) hw1⟩
theorem cr1{w:World}{x:Nat}{o:Opn}{i:Int}(h72:At w 72 #[ptr x 0,.int .i64 o.Unit] (.tuple #[.int .i64 i,.bool false]))(hp:o.Parent≠0)(U8:At w 73 #[ptr x 0,.int .i64 o.Parent] (.pointer none)):
 Calls prog 32 #[ptr x 0,oval o] w λe w'=>e=.returned (.int .i64 7)/\Below w.heap.size w w':=by
 have bx:=iZ w o;have k3:=bx.k3;have hp':(o.Parent !=0)=true:=by simp[hp]
 go_enter func32,ntmps32
 go_wp2_with (first|(go_at_call 72;refine(h72 _ (al w _)).mono ?_;rintro e w1 ⟨rfl,hw1⟩;have k4:=(bx.below hw1).k4)|(go_at_call 73;refine(U8 _ (Below.and (al w _) hw1)).mono ?_;rintro e w2 ⟨rfl,hw2⟩))
 go_ret
 exact⟨rfl,Below.and (Below.and (al w _) hw1) hw2⟩
theorem dr(w:World):Below w.heap.size w w.drew:=⟨rfl,rfl,rfl,J6 _,λ_ _=>rfl⟩
theorem dn(w:World)(n:Nat):Below w.heap.size w (w.drewN n):=⟨rfl,rfl,rfl,J6 _,λ_ _=>rfl⟩
def E8(w:World)(x:Nat)(p:Int):Prop:=p=0\/(p≠0/\∃b o,At w 73 #[ptr x 0,.int .i64 p] (ptr b o))
theorem cr2{w:World}{x:Nat}{o:Opn}{i e:Int}(h72:At w 72 #[ptr x 0,.int .i64 o.Unit] (.tuple #[.int .i64 i,.bool false]))(hp:E8 w x o.Parent)(Y5:At w 74 #[ptr x 0,.int .i64 o.Parent,.int .i64 o.Level] (.int .i64 e))(he:e≠0):
 Calls prog 32 #[ptr x 0,oval o] w λe' w'=>e'=.returned (.int .i64 e)/\Below w.heap.size w w':=by
 have bx:=iZ w o;have k3:=bx.k3;have he':(e !=0)=true:=by simp[he]
 rcases hp with hp|⟨hp,b,po,U8⟩
 .have hp':(o.Parent !=0)=false:=by simp[hp]
  clear hp
  go_enter func32,ntmps32
  go_wp2_with (first|(go_at_call 72;refine(h72 _ (al w _)).mono ?_;rintro e w1 ⟨rfl,hw1⟩;have k4:=(bx.below hw1).k4;have k6:=(bx.below hw1).k6)|(go_at_call 74;refine(Y5 _ (Below.and (al w _) hw1)).mono ?_;rintro e w2 ⟨rfl,hw2⟩))
  go_ret
  exact⟨rfl,Below.and (Below.and (al w _) hw1) hw2⟩
 .have hp':(o.Parent !=0)=true:=by simp[hp]
  clear hp
  go_enter func32,ntmps32
  go_wp2_with (first|(go_at_call 72;refine(h72 _ (al w _)).mono ?_;rintro e w1 ⟨rfl,hw1⟩;have k4:=(bx.below hw1).k4)|(go_at_call 73;refine(U8 _ (Below.and (al w _) hw1)).mono ?_;rintro e w2 ⟨rfl,hw2⟩;have ED:=(bx.below (Below.and hw1 hw2)).k4;have k6:=(bx.below (Below.and hw1 hw2)).k6)|(go_at_call 74;refine(Y5 _ (Below.and (al w _) (Below.and hw1 hw2))).mono ?_;rintro e w3 ⟨rfl,hw3⟩))
  go_ret
  exact⟨rfl,Below.and (Below.and (al w _) hw1) (Below.and hw2 hw3)⟩
theorem OJ(w:World){a b:Nat}(o:Nat)(v:Value)(h:b≠a)(k:Nat):(w.setCell ⟨a,o,none⟩ v).cell? ⟨b,k,none⟩=w.cell? ⟨b,k,none⟩:=CB (a:=⟨b,k,none⟩) (kG w a o b v h)
def newRow(o:Opn):Row:=⟨⟨⟨o.Unit,o.Parent,o.Level,o.Title,o.Mark⟩,[]⟩,.slice none 0 0,none⟩
def KA(a i:Nat):Option Nat:=if i<a then some i else if i=a then none else some (i-1)
theorem cL3{l:List Row}{a:Nat}{r:Row}(h:a<=l.length):(l.take a++[r]++l.drop a).length=l.length+1:=by simp;omega
theorem cL0{l:List Row}{a:Nat}{r:Row}(h:a<=l.length){i:Nat}{q:Row}(hq:(l.take a++[r]++l.drop a)[i]?=some q):(∃j,KA a i=some j/\l[j]?=some q)\/(KA a i=none/\q=r):=by
 unfold KA;rcases xY i a with hi|rfl|hi
 .rw[kM,bV (by rw[U9];omega),jK,I4 hi]at hq;exact .inl ⟨i,by rw[I4 hi],hq⟩
 .rw[kM,bJ (by rw[U9];omega),U9,rP h,Nat.sub_self]at hq;simp at hq;exact .inr ⟨by simp,hq.symm⟩
 .rw[bJ (by simp;omega),xQ]at hq;refine .inl ⟨i-1,by rw[F9 (by omega),F9 (by omega)],?_⟩;rw[<-hq];congr 1;simp;omega
theorem cL2(a:Nat):∀i i' j,KA a i=some j->KA a i'=some j->i=i':=λi i' j h1 h2=>by
 unfold KA at h1 h2;split at h1<;>split at h2
 .simp at h1 h2;omega
 .split at h2
  .cases h2
  .simp at h1 h2;omega
 .split at h1
  .cases h1
  .simp at h1 h2;omega
 .split at h1
  .cases h1
  .split at h2
   .cases h2
   .simp at h1 h2;omega
end
section
open Go Go.F6 Go.RowKit Go.Sort Proofs.Tryz
set_option maxRecDepth 100000
set_option maxHeartbeats 2000000
theorem cR3{w:World}{g:Nat}{f:Array Value->Array Value}{arr:Array Value}{el:Nat}{fr:Nat×Nat}(h:w.heap[g]?=some (.cells arr el fr)):(mapBlock w g f).heap[g]?=some (.cells (f arr) el fr):=by
 simp[mapBlock,xH,h,onCells]
theorem bz6{w:World}{g k:Nat}{f:Array Value->Array Value}(h:k≠g):(mapBlock w g f).heap[k]?=w.heap[k]?:=by
 simp[mapBlock,xH,Ne.symm h]
theorem bz7{w:World}{g:Nat}{f:Array Value->Array Value}:(mapBlock w g f).heap.size=w.heap.size:=by simp[mapBlock]
theorem c47{enc:Int->Value}{F Z:List Int}{arr:Array Value}(h:F.length+Z.length<=arr.size):(putCells enc 0 (F++Z).toArray arr).toList.take F.length=F.map enc:=by
 apply mY;intro i;rw[jK];by_cases hi:i<F.length
 .rw[I4 hi,jS];simp only[putCells,Array.getElem?_mapIdx,pU,bQ,V7,Y3,true_and,Nat.sub_zero];rw[mW (by omega),GX,I4 (by omega),O6,I9 hi,GX,getElem!_pos (F++Z).toArray i (by simp;omega)];simp[List.getElem_append_left hi]
 .rw[F9 hi,rM (by simp;omega)]
theorem take1{W:World}{bx:Nat}{id x:Int}(h:W.cell? ⟨bx,0,none⟩=some (.int .i64 id)):FnGives prog 137 #[ptr bx 0] #[.int .i64 x] (.bool (x==id)) W:=by
 unfold FnGives
 go_enter func137,ntmps137
 go_wp2
 go_ret
 exact⟨rfl,0,rfl⟩
theorem cs7{w:World}{g cp bx:Nat}{l:List Int}{id:Int}(hO:O9 w 3 1 (.slice (some ⟨g,0,none⟩) l.length cp) l.length (Y7 l) (some g))(hl:l.length<=4000)(hbx:w.heap[bx]?=some (.cells #[.int .i64 id] 3 (0,0)))(hne:bx≠g):
 Calls prog 136 #[.slice (some ⟨g,0,none⟩) l.length cp,.func (.func 137) #[] #[ptr bx 0]] w λe w'=>e=.returned (.slice (some ⟨g,0,none⟩) (l.filter λx=> !(x==id)).length cp)/\
  O9 w' 3 1 (.slice (some ⟨g,0,none⟩) (l.filter λx=> !(x==id)).length cp) (l.filter λx=> !(x==id)).length (Y7 (l.filter λx=> !(x==id))) (some g)/\Fr (λk=>k=g) w w':=by
 have hbl:bx<w.heap.size:=(V4.1 hbx).1;generalize hC:Y7 l=C at hO;generalize hn:l.length=n at hO⊢;cases hO with
 |b _ _ _ arr hh hs hnc hm h1=>
  subst hn;have hat:∀j,j<l.length->arr[j]?=some (.int .i64 l[j]!):=λj hj=>by
   have:=congrArg (λc=>c[j]?) hC;simp only[Y7,jK,vY,I4 hj,jS]at this;rw[<-this,O6,I9 hj,getElem!_pos l j hj];rfl
  have hf:(l.filter λx=> !(x==id)).length<=l.length:=List.length_filter_le _ _;have hPO:∀(q:Nat)(os:Array Obj)(dk:Array Int),(sortWorld (Value.int .i64) w g 0 q dk os).cell? ⟨bx,0,none⟩=some (.int .i64 id):=λq os dk=>by
   refine(O5 (arr:=#[.int .i64 id]) (el:=3) ?_ rfl).1;rw[show(sortWorld (Value.int .i64) w g 0 q dk os).heap=(mapBlock (Go.Sort.ahead w q) g (putCells (Value.int .i64) 0 dk)).heap++os from rfl,NG (by rw[bz7];exact hbl),bz6 hne];exact hbx
  have key:=Tryz.slices_DeleteFunc (Value.int .i64) (λ_=>rfl) (λx=>x==id) 137 #[ptr bx 0] (enters_of func137 (by kernel_rfl) rfl) 0 zeroValue3 g 0 cp l.toArray w
   (λW x hb=>take1 ((O5 ((hb.block bx hbl).trans hbx) rfl).1)) (λq os dk x _=>take1 (hPO q os dk)) (λj hj=>by
     have hj':j<l.length:=by simpa using hj
     rw[V7];have:=O5 hh (hat j hj')
     simpa[getElem!_pos,hj']using this) (by simp;omega) (by simp;omega)
  simp only[pU]at key;refine key.mono ?_
  .rintro e w' ⟨rfl,q,rfl⟩;simp only[];have hh':(putRow (Value.int .i64) (Go.Sort.ahead w q) g 0 ((l.filter λx=> !(x==id))++List.replicate (l.length-(l.filter λx=> !(x==id)).length) 0).toArray).heap[g]?=some (.cells (putCells (Value.int .i64) 0 ((l.filter λx=> !(x==id))++List.replicate (l.length-(l.filter λx=> !(x==id)).length) 0).toArray arr) 3 (0,0)):=cR3 (w:=Go.Sort.ahead w q) hh;have hsz:(l.filter λx=> !(x==id)).length+(List.replicate (l.length-(l.filter λx=> !(x==id)).length) (0:Int)).length<=arr.size:=by rw[List.length_replicate,hs];omega
   refine⟨by simp,wU (arr:=putCells (Value.int .i64) 0 ((l.filter λx=> !(x==id))++List.replicate (l.length-(l.filter λx=> !(x==id)).length) 0).toArray arr) (C:=Y7 _) (by simpa using hh') (by simp[putCells,hs]) (by omega) hm (bu4 _) ?_,⟨rfl,rfl,rfl,Nat.le_of_eq bz7.symm,λk _ hk=>bz6 (w:=Go.Sort.ahead w q) hk⟩⟩;rw[vY];simpa[Y7]using c47 (enc:=Value.int .i64) hsz
theorem cv1{w:World}{x b r pb po g cp:Nat}{l:List Int}{id par:Int}
 (U8:At w 73 #[ptr x 0,.int .i64 id] (ptr b r)) (hb:b<w.heap.size) (hpar:w.cell? ⟨b,r+1,none⟩=some (.int .i64 par)) (fZ:At w 75 #[ptr x 0,.int .i64 par] (ptr pb po))
 {arr:Array Value} {el:Nat} (hr:w.heap[pb]?=some (.cells arr el (0,0))) (hc:arr[po]?=some (.slice (some ⟨g,0,none⟩) l.length cp)) (hO:O9 w 3 1 (.slice (some ⟨g,0,none⟩) l.length cp) l.length (Y7 l) (some g)) (hpo:g≠pb) (hl:l.length<=4000):
 Calls prog 80 #[ptr x 0,.int .i64 id] w λe w'=>e=.returned (.tuple #[])/\∃v' w1,O9 w1 3 1 v' (l.filter λx=> !(x==id)).length (Y7 (l.filter λx=> !(x==id))) (some g)/\Fr (λk=>some g=some k) w w1/\w'=w1.setCell ⟨pb,po,none⟩ v':=by
 have hpb:pb<w.heap.size:=(V4.1 hr).1;have hg:g<w.heap.size:=hO.lt rfl;have hB:∀w',Below w.heap.size w w'->w'.cell? ⟨pb,po,none⟩=some (.slice (some ⟨g,0,none⟩) l.length cp):=λw' hw=>(O5 ((hw.block pb hpb).trans hr) hc).1;have hP:∀w',Below w.heap.size w w'->w'.cell? ⟨b,r+1,none⟩=some (.int .i64 par):=λw' hw=>(hw.cell (p:=⟨b,r+1,none⟩) hb).trans hpar;have hX:∀w',Below (w.alloc (.cells #[.int .i64 id] 3)).heap.size (w.alloc (.cells #[.int .i64 id] 3)) w'->w'.heap[w.heap.size]?=some (.cells #[.int .i64 id] 3 (0,0)):=λw' hw=>
  (hw.block w.heap.size (by simp)).trans (aW w _)
 have hXc:∀w',Below (w.alloc (.cells #[.int .i64 id] 3)).heap.size (w.alloc (.cells #[.int .i64 id] 3)) w'->w'.cell? ⟨w.heap.size,0,none⟩=some (.int .i64 id):=λw' hw=>(O5 (hX w' hw) rfl).1;have x0:=hXc _ (Below.refl _ _);have fin:∀w',Below (w.alloc (.cells #[.int .i64 id] 3)).heap.size (w.alloc (.cells #[.int .i64 id] 3)) w'->Calls prog 136 #[.slice (some ⟨g,0,none⟩) l.length cp,.func (.func 137) #[] #[ptr w.heap.size 0]] w' λe w1=>∃n',e=.returned (.slice (some ⟨g,0,none⟩) n' cp)/\w1.cell? ⟨pb,po,none⟩=some (.slice (some ⟨g,0,none⟩) l.length cp)/\w1.frozen? ⟨pb,po,none⟩=false/\
  O9 w1 3 1 (.slice (some ⟨g,0,none⟩) n' cp) (l.filter λx=> !(x==id)).length (Y7 (l.filter λx=> !(x==id))) (some g)/\Fr (λk=>some g=some k) w w1:=λw' hw=>by
  have hw':=Below.and (al w (.cells #[.int .i64 id] 3)) hw;refine(cs7 (hO.keep λk hk=>hw'.block k (hO.lt hk)) hl (hX w' hw) (by omega)).mono ?_;rintro e w1 ⟨rfl,h1,h2⟩;have hF:Fr (λk=>some g=some k) w w1:=(Fr.of_below hw').trans (h2.mono λk hk=>by rw[hk]) |>λh=>h;have hrow:=(hF.block pb hpb (λh=>hpo (iE h))).trans hr;exact⟨_,rfl,(O5 hrow hc).1,(O5 hrow hc).2,h1,hF⟩
 go_enter func80,ntmps80
 go_wp2_with (first|(go_at_call 73;refine(U8 _ (al w _)).mono ?_;rintro e w1 ⟨rfl,hw1⟩;have c1:=hP w1 (Below.and (al w _) hw1))|(go_at_call 75;refine(fZ _ (Below.and (al w _) hw1)).mono ?_;rintro e w2 ⟨rfl,hw2⟩;have c2:=hB w2 (Below.and (al w _) (Below.and hw1 hw2)))|(go_at_call 136;refine(fin _ (Below.and hw1 hw2)).mono ?_;rintro e w3 ⟨n',rfl,c3,f3,h1,h2⟩))
 go_end0
 exact⟨rfl,_,w3,h1,h2,rfl⟩
end
section
open Go Go.F6 Go.RowKit Go.Ev Proofs.Tryz
set_option maxRecDepth 100000
set_option maxHeartbeats 2000000
theorem bP5{g el:Nat}{fr:Nat×Nat}:∀(vs:List Value)(o:Nat)(w:World)(arr:Array Value),w.heap[g]?=some (.cells arr el fr)->o+vs.length<=arr.size->
 (w.setCells g o vs).heap[g]?=some (.cells (arr.toList.take o++vs++arr.toList.drop (o+vs.length)).toArray el fr)/\Fr (λk=>k=g) w (w.setCells g o vs)
 |[],o,w,arr,h,_=>⟨by simpa[World.setCells]using h,Fr.refl _ _⟩
 |v::r,o,w,arr,h,hl=>by
  simp only[pR]at hl;have h1:=LV w g o v h;obtain⟨h2,h3⟩:=bP5 r (o+1) (w.setCell ⟨g,o,none⟩ v) (arr.setIfInBounds o v) h1 (by simp;omega);refine⟨?_,(Fr.TA (S:=λk=>k=g) (Fr.refl _ w) (.inl rfl)).trans h3⟩;simp only[World.setCells];rw[h2];congr 3;rw[Array.toList_setIfInBounds,List.take_add_one,List.getElem?_set_self (by simp;omega),List.take_set,List.set_eq_of_length_le (by rw[U9];omega),List.drop_set_of_lt (by omega)];simp only[Option.toList,kM,List.singleton_append,pR];rw[show o+1+r.length=o+(r.length+1)from by omega]
theorem dB3:O7 vN=.agg #[.int .i64 0,.int .i64 0,.int .i64 0,.string ⟨#[]⟩,.string ⟨#[]⟩,.slice none 0 0]:=by kernel_rfl
set_option maxHeartbeats 4000000 in
theorem cs9{w:World}{g i m cp:Nat}{C:List Value}(hO:O9 w 52 6 (.slice (some ⟨g,0,none⟩) (i+1+m) cp) (i+1+m) C (some g))(hn:i+1+m<=4000):
 Calls prog 81 #[.slice (some ⟨g,0,none⟩) (i+1+m) cp,.int .i64 i,.int .i64 ((i:Int)+1)] w λe w'=>e=.returned (.slice (some ⟨g,0,none⟩) (i+m) cp)/\
  O9 w' 52 6 (.slice (some ⟨g,0,none⟩) (i+m) cp) (i+m) (C.take (i*6)++C.drop ((i+1)*6)) (some g)/\Fr (λk=>k=g) w w':=by
 generalize hnn:i+1+m=n at hO;cases hO with
 |b _ _ _ arr hh hs hnc hm h1=>
  subst hnn;obtain⟨i0,hi0,hz1,_,_⟩:=vO.eX;have hal:arr.toList.length=cp*6:=by rw[iT,hs]
  obtain⟨news,hnews⟩:∃news,news=(arr.toList.drop ((i+1)*6)).take (m*6):=⟨_,rfl⟩;have s1:news.length=m*6:=by rw[hnews,U9,kN,hal];omega
  obtain⟨A,hA,hsrc⟩:∃A:Addr,(if cp=i+1 then(some ⟨g,0,none⟩:Option Addr)else some ⟨g,(i+1)*6,none⟩)=some A/\∀t u,news[t]?=some u->w.drew.cell? (A.add t)=some u:=by
   by_cases h:cp=i+1
   .refine⟨⟨g,0,none⟩,by simp[h],λt u hu=>?_⟩;have h0:news=[]:=List.length_eq_zero_iff.1 (by rw[s1];omega);rw[h0]at hu;simp at hu
   .refine⟨⟨g,(i+1)*6,none⟩,by simp[h],λt u hu=>?_⟩;rw[hnews,jK]at hu;split at hu
    .rw[xQ,jS]at hu;rw[gY];exact(O5 (w:=w) hh hu).1
    .exact nomatch hu
  have s2:∀u∈news,u.oneCell'=true:=λu hu=>h1 u (by
   rw[hnews]at hu;obtain⟨t,ht,rfl⟩:=dV hu;rw[List.getElem_take,List.getElem_drop];have:t<m*6:=by rw[<-hnews,s1]at ht;exact ht
   have e:arr.toList[(i+1)*6+t]'(by rw[hal];omega)=(arr.toList.take ((i+1+m)*6))[(i+1)*6+t]'(by rw[U9,hal];omega):=by rw[List.getElem_take]
   rw[e];exact fK _)
  have s3:∀t,t<news.length->(w.drew.cell? ⟨g,0+i*6+t,none⟩).isSome=true/\w.drew.frozen? ⟨g,0+i*6+t,none⟩=false:=λt ht=>by
   have hb:0+i*6+t<arr.size:=by rw[hs];omega
   have:=O5 (w:=w) hh (mW hb);exact⟨by show(w.cell? _).isSome=true;rw[this.1];rfl,this.2⟩
  obtain⟨hW1,hF1⟩:=bP5 (el:=52) (fr:=(0,0)) news (0+i*6) w.drew arr hh (by rw[s1,hs];omega);obtain⟨W1,hW⟩:∃W1,W1=w.drew.setCells g (0+i*6) news:=⟨_,rfl⟩;rw[<-hW]at hW1 hF1;obtain⟨arr1,aj6⟩:∃arr1,arr1=(arr.toList.take (0+i*6)++news++arr.toList.drop (0+i*6+news.length)).toArray:=⟨_,rfl⟩;rw[<-aj6]at hW1;have ha1:arr1.size=cp*6:=by rw[aj6];simp only[pU,bQ,U9,kN,hal,s1];omega
  obtain⟨Zs,hZs⟩:∃Zs,Zs=(Builtin.zeroCells (O7 vN).cells 1).toList:=⟨_,rfl⟩;have hZl:Zs.length=6:=by rw[hZs,bb9 vO];rfl
  have hZ1:∀u∈Zs,u.oneCell'=true:=λu hu=>cd2 vO (by decide) 1 u (hZs▸hu);have hst:=run_storeCells_at (P:=prog) g ((i+m)*6) 52 Zs 0 arr1 W1 hW1 (by rw[hZl,ha1];omega) hZ1;obtain⟨W2,hW2⟩:∃W2,W2=W1.setRow g (arr1.toList.take ((i+m)*6+0)++Zs++arr1.toList.drop ((i+m)*6+0+Zs.length)).toArray:=⟨_,rfl⟩;rw[<-hW2]at hst;have hZe:Zs=(Builtin.zeroCells #[.int .i64 0,.int .i64 0,.int .i64 0,.string ⟨#[]⟩,.string ⟨#[]⟩,.slice none 0 0] 1).toList:=by rw[hZs,dB3];rfl
  rw[hZe]at hst;have hcl:∀ty c,(Builtin.clear_ #[34] ty #[.slice (some ⟨g,(i+m)*6,none⟩) (i+1+m-(i+m)) c]).run prog W1=.ok (.tuple #[]) W2:=λty c=>by
   rw[show i+1+m-(i+m)=1 from by omega];have hz:=zeroValue52 W1;simp[Builtin.clear_,L6 underlying34,hz,hst,go_sem]
  have HW:=Lib.hid hW;have HN:=Lib.hid hnews;have HA:=Lib.hid aj6;have H2:=Lib.hid hW2;have HZ:=Lib.hid hZl;have HS:=Lib.hid s1;clear hst hZe hZs hW hnews aj6 hW2 hZl s1;have hn1:¬((i:Int)=(i:Int)+1):=by omega
  have hic:i<=cp:=by omega
  have hjc:i+1<=cp:=by omega
  have hq1:(0:Int)<=(i:Int)+1:=by omega
  have hq2:(i:Int)+1<=(i:Int)+1+(m:Int):=by omega
  have hq3:(i:Int)+(m:Int)<=(i:Int)+1+(m:Int):=by omega
  have hq0:(0:Int)<=(i:Int)+(m:Int):=by omega
  have mixed:=@mixed
  go_enter func81,ntmps81
  go_wp2_with fail
  go_region_law_o (refine step_append_room rfl (.tmp 22) (.tmp 25) 34 rfl 52 i0 6 underlying34 hi0 hz1 g 0 i cp (by simp[Act.eval,Act.put]) A m (cp-(i+1)) news (by simp[Act.eval,Act.put]) HS.out hsrc s2 (by omega) s3 ?_;rw[<-HW.out])
  go_wp2
  go_ret
  have e1:(arr.toList.take ((i+1+m)*6)).take (i*6)++(arr.toList.take ((i+1+m)*6)).drop ((i+1)*6)=arr.toList.take (i*6)++news:=by
   rw[NS,rP (by omega),List.drop_take,HN.out];congr 2;omega
  have hl1:arr1.toList.take ((i+m)*6)=arr.toList.take (i*6)++news:=by
   rw[HA.out,V7];simp only[];rw[xU (by rw[bQ,U9,hal,HS.out];omega),xW (by rw[bQ,U9,hal,HS.out];omega)]
  have hl2:arr1.toList.length=cp*6:=by rw[iT];exact ha1
  refine⟨rfl,wU (arr:=(arr1.toList.take ((i+m)*6+0)++Zs++arr1.toList.drop ((i+m)*6+0+Zs.length)).toArray) ?_ ?_ (by omega) hm (λu hu=>?_) ?_,?_⟩
  .rw[H2.out];exact rC W1 g arr1 _ 52 (0,0) hW1
  .simp only[pU,bQ,U9,kN,hl2,HZ.out];omega
  .rcases iU.1 hu with hu|hu
   .exact h1 u (BR hu)
   .exact h1 u (BQ hu)
  .rw[e1];simp only[oD];rw[kM,xU (by rw[U9,hl2];omega),NS,Nat.min_self,hl1]
  .rw[H2.out];exact(Fr.trans (b:=w.drew) ((Fr.refl _ w).drew) hF1).setRow (.inl rfl)
end
section
open Go Go.F6 Go.RowKit Go.Ev Proofs.Tryz
set_option maxRecDepth 100000
set_option maxHeartbeats 4000000
theorem O9.PO{w:World}{el z n:Nat}{v:Value}{C:List Value}{b:Nat}(h:O9 w el z v n C (some b))(j:Nat):w.frozen? ⟨b,j,none⟩=false:=by
 cases h with
 |b b c n arr hh hs hn hm h1=>simp[World.frozen?,hh]
theorem Ed.PO{w0 w:World}{L:Lay}(h:Ed w0 w L){b:Nat}(hb:L.bo=some b)(j:Nat):w.frozen? ⟨b,j,none⟩=false:=by
 have hB:=h.hb;rw[hb]at hB;exact hB.PO j
theorem c88{w:World}{x:Nat}{o:Opn}(U8:At w 73 #[ptr x 0,.int .i64 o.Unit] (.pointer none)):
 Calls prog 34 #[ptr x 0,oval o] w λe w'=>e=.returned (.int .i64 7)/\Below w.heap.size w w':=by
 have k3:=(iZ w o).k3
 go_enter func34,ntmps34
 go_wp2_with (go_at_call 73;refine(U8 _ (al w _)).mono ?_;rintro e w1 ⟨rfl,hw1⟩)
 go_ret
 exact⟨rfl,Below.and (al w _) hw1⟩
theorem c89{w0 w:World}{L:Lay}{o:Opn}(hE:Ed w0 w L){k:Nat}{r:Row}(hr:L.rows[k]?=some r){b:Nat}(hb:L.bo=some b)(U8:At w 73 #[ptr L.x 0,.int .i64 o.Unit] (ptr b (k*6))):
 Calls prog 34 #[ptr L.x 0,oval o] w λe w'=>e=.returned (.int .i64 0)/\Ed w0 w' { L with rows:=L.rows.set k ⟨{ r.b with Unit:={ r.b.Unit with Title:=o.Title } },r.k,r.o⟩ }:=by
 have bx:=iZ w o;have k3:=bx.k3;have hK:=λw' (hw:Below w.heap.size w w')=>(hE.below hw).cell hr hb (j:=3) (by omega) rfl;have hF:=λw' (hw:Below w.heap.size w w')=>(hE.below hw).PO hb (k*6+3)
 go_enter func34,ntmps34
 go_wp2_with (go_at_call 73;refine(U8 _ (al w _)).mono ?_;rintro e w1 ⟨rfl,hw1⟩;have k7:=(bx.below hw1).k7;have c1:=hK w1 (Below.and (al w _) hw1);have f1:=hF w1 (Below.and (al w _) hw1))
 go_ret
 exact⟨rfl,(hE.below (Below.and (al w _) hw1)).aU4 hr hb rfl (by omega) rfl rfl⟩
theorem cR6{w:World}{x:Nat}{o:Opn}(U8:At w 73 #[ptr x 0,.int .i64 o.Unit] (.pointer none)):
 Calls prog 35 #[ptr x 0,oval o] w λe w'=>e=.returned (.int .i64 7)/\Below w.heap.size w w':=by
 have k3:=(iZ w o).k3
 go_enter func35,ntmps35
 go_wp2_with (go_at_call 73;refine(U8 _ (al w _)).mono ?_;rintro e w1 ⟨rfl,hw1⟩)
 go_ret
 exact⟨rfl,Below.and (al w _) hw1⟩
theorem cS0{w:World}{x b p:Nat}{o:Opn}(U8:At w 73 #[ptr x 0,.int .i64 o.Unit] (ptr b p))(kC:At w 76 #[ptr x 0,.string ⟨⟨o.Mark⟩⟩,.int .i64 o.Unit] (.bool true)):
 Calls prog 35 #[ptr x 0,oval o] w λe w'=>e=.returned (.int .i64 19)/\Below w.heap.size w w':=by
 have bx:=iZ w o;have k3:=bx.k3
 go_enter func35,ntmps35
 go_wp2_with (first|(go_at_call 73;refine(U8 _ (al w _)).mono ?_;rintro e w1 ⟨rfl,hw1⟩;have k8:=(bx.below hw1).k8;have k3':=(bx.below hw1).k3)|(go_at_call 76;refine(kC _ (Below.and (al w _) hw1)).mono ?_;rintro e w2 ⟨rfl,hw2⟩))
 go_ret
 exact⟨rfl,Below.and (Below.and (al w _) hw1) hw2⟩
theorem cR7{w0 w:World}{L:Lay}{o:Opn}(hE:Ed w0 w L){k:Nat}{r:Row}(hr:L.rows[k]?=some r){b:Nat}(hb:L.bo=some b)(U8:At w 73 #[ptr L.x 0,.int .i64 o.Unit] (ptr b (k*6)))(kC:At w 76 #[ptr L.x 0,.string ⟨⟨o.Mark⟩⟩,.int .i64 o.Unit] (.bool false)):
 Calls prog 35 #[ptr L.x 0,oval o] w λe w'=>e=.returned (.int .i64 0)/\Ed w0 w' { L with rows:=L.rows.set k ⟨{ r.b with Unit:={ r.b.Unit with Mark:=o.Mark } },r.k,r.o⟩ }:=by
 have bx:=iZ w o;have k3:=bx.k3;have hK:=λw' (hw:Below w.heap.size w w')=>(hE.below hw).cell hr hb (j:=4) (by omega) rfl;have hF:=λw' (hw:Below w.heap.size w w')=>(hE.below hw).PO hb (k*6+4)
 go_enter func35,ntmps35
 go_wp2_with (first|(go_at_call 73;refine(U8 _ (al w _)).mono ?_;rintro e w1 ⟨rfl,hw1⟩;have k8:=(bx.below hw1).k8;have k3':=(bx.below hw1).k3)|(go_at_call 76;refine(kC _ (Below.and (al w _) hw1)).mono ?_;rintro e w2 ⟨rfl,hw2⟩;have k8':=(bx.below (Below.and hw1 hw2)).k8;have c1:=hK w2 (Below.and (al w _) (Below.and hw1 hw2));have f1:=hF w2 (Below.and (al w _) (Below.and hw1 hw2))))
 go_ret
 exact⟨rfl,(hE.below (Below.and (al w _) (Below.and hw1 hw2))).aU4 hr hb rfl (by omega) rfl rfl⟩
theorem c81{w:World}{x:Nat}{o:Opn}{i:Int}(h72:At w 72 #[ptr x 0,.int .i64 o.Unit] (.tuple #[.int .i64 i,.bool false])):
 Calls prog 36 #[ptr x 0,oval o] w λe w'=>e=.returned (.int .i64 7)/\Below w.heap.size w w':=by
 have k3:=(iZ w o).k3
 go_enter func36,ntmps36
 go_wp2_with (go_at_call 72;refine(h72 _ (al w _)).mono ?_;rintro e w1 ⟨rfl,hw1⟩)
 go_ret
 exact⟨rfl,Below.and (al w _) hw1⟩
theorem c79{w0 w:World}{L:Lay}{o:Opn}(hE:Ed w0 w L){k:Nat}{r:Row}(hr:L.rows[k]?=some r)(hk:r.b.Kids≠[])(h72:At w 72 #[ptr L.x 0,.int .i64 o.Unit] (.tuple #[.int .i64 k,.bool true])):
 Calls prog 36 #[ptr L.x 0,oval o] w λe w'=>e=.returned (.int .i64 11)/\Below w.heap.size w w':=by
 have k3:=(iZ w o).k3;obtain⟨b,cp,P8,hbv,hlc⟩:=hE.pX hr;have hlt:k<L.rows.length:=(O4.1 hr).1;have hlt':(k:Int)<(L.rows.length:Int):=by omega
 have hK:=λw' (hw:Below w.heap.size w w')=>(hE.below hw).c1;rw[hbv]at hK;obtain⟨ad,c2,hkk,_⟩:=(hE.hk k r hr).sl;have hC:=λw' (hw:Below w.heap.size w w')=>(hE.below hw).cell hr P8 (j:=5) (u:=r.k) (by omega) rfl;rw[hkk]at hC;have hpos:(r.b.Kids.length:Int)>0:=by have:=List.length_pos_iff.2 hk;omega
 clear hkk hbv
 go_enter func36,ntmps36
 go_wp2_with (go_at_call 72;refine(h72 _ (al w _)).mono ?_;rintro e w1 ⟨rfl,hw1⟩;have c1:=hK w1 (Below.and (al w _) hw1);have c5:=hC w1 (Below.and (al w _) hw1))
 go_ret
 exact⟨rfl,Below.and (al w _) hw1⟩
def OV(a i:Nat):Option Nat:=if i<a then some i else some (i+1)
theorem cs8{l:List Row}{a m:Nat}(h:l.length=a+1+m):(l.take a++l.drop (a+1)).length=a+m:=by simp;omega
theorem cs5{l:List Row}{a i:Nat}{q:Row}(h:a<l.length)(hq:(l.take a++l.drop (a+1))[i]?=some q):∃j,OV a i=some j/\l[j]?=some q:=by
 unfold OV;by_cases hi:i<a
 .rw[bV (by rw[U9];omega),jK,I4 hi]at hq;exact⟨i,by rw[I4 hi],hq⟩
 .rw[bJ (by rw[U9];omega),xQ,U9,rP (by omega)]at hq;exact⟨i+1,by rw[F9 hi],by rw[<-hq];congr 1;omega⟩
theorem cs6(a:Nat):∀i i' j,OV a i=some j->OV a i'=some j->i=i':=λi i' j h1 h2=>by
 unfold OV at h1 h2;split at h1<;>split at h2<;>(simp at h1 h2;omega)
theorem c82{w0 w:World}{L:Lay}{R:Lay->Prop}{o:Opn}(hE:Ed w0 w L){k:Nat}{r:Row}(hr:L.rows[k]?=some r)(hk:r.b.Kids=[])(h72:At w 72 #[ptr L.x 0,.int .i64 o.Unit] (.tuple #[.int .i64 k,.bool true]))
 (htake:∀W,Below w.heap.size w W->Calls prog 80 #[ptr L.x 0,.int .i64 o.Unit] W λe W'=>e=.returned (.tuple #[])/\∃L2,Ed w0 W' L2/\L2.x=L.x/\R L2) (hR:∀L2,R L2->k<L2.rows.length/\L2.rows.length<=4000):
 Calls prog 36 #[ptr L.x 0,oval o] w λe w'=>e=.returned (.int .i64 0)/\∃L2 L3,R L2/\Ed w0 w' L3/\L3.x=L.x/\L3.roots=L2.roots/\L3.rows=L2.rows.take k++L2.rows.drop (k+1):=by
 have bx:=iZ w o;have k3:=bx.k3;obtain⟨b,cp,P8,hbv,hlc⟩:=hE.pX hr;have hlt:k<L.rows.length:=(O4.1 hr).1;have hlt':(k:Int)<(L.rows.length:Int):=by omega
 have hK:=λw' (hw:Below w.heap.size w w')=>(hE.below hw).c1;rw[hbv]at hK;obtain⟨ad,c2,hkk,_⟩:=(hE.hk k r hr).sl;have hC:=λw' (hw:Below w.heap.size w w')=>(hE.below hw).cell hr P8 (j:=5) (u:=r.k) (by omega) rfl;rw[hkk,hk]at hC;have hdel:∀W L2,Ed w0 W L2->L2.x=L.x->R L2->∃n c b2,W.cell? ⟨L.x,1,none⟩=some (.slice (some ⟨b2,0,none⟩) n c)/\(k:Int)+1<=4000/\Calls prog 81 #[.slice (some ⟨b2,0,none⟩) n c,.int .i64 k,.int .i64 ((k:Int)+1)] W λe W'=>∃n',e=.returned (.slice (some ⟨b2,0,none⟩) n' c)/\
  W'.cell? ⟨L.x,1,none⟩=some (.slice (some ⟨b2,0,none⟩) n c)/\W'.frozen? ⟨L.x,1,none⟩=false/\∃L3,Ed w0 (W'.setCell ⟨L.x,1,none⟩ (.slice (some ⟨b2,0,none⟩) n' c)) L3/\L3.x=L.x/\L3.roots=L2.roots/\L3.rows=L2.rows.take k++L2.rows.drop (k+1):=λW L2 hE2 hx2 hR2=>by
  obtain⟨hk2,hn2⟩:=hR L2 hR2;obtain⟨m,hm⟩:∃m,L2.rows.length=k+1+m:=⟨L2.rows.length-(k+1),by omega⟩;obtain⟨b2,c,hb2,hv2,_⟩:=hE2.pX (I9 hk2);have hB:=hE2.hb;rw[hv2,hb2,hm]at hB;have hc1:=hE2.c1;rw[hv2,hx2,hm]at hc1;refine⟨_,c,b2,hc1,by omega,(cs9 hB (by omega)).mono ?_⟩;rintro e W' ⟨rfl,hO,hf⟩;have hf':Fr (λk=>L2.bo=some k) W W':=hf.mono λq hq=>by rw[hq];exact hb2
  have hkx:W'.heap[L2.x]?=_:=(hf'.block L2.x (hE2.bD (p:=.x) rfl) (λh=>by have:=hE2.nd .b .x L2.x h rfl;cases this)).trans hE2.hx;have hh:=O5 hkx rfl (o:=1);rw[hx2,hv2,hm]at hh;refine⟨_,rfl,hh.1,hh.2,{ L2 with bv:=.slice (some ⟨b2,0,none⟩) (k+m) c,bo:=some b2,rows:=L2.rows.take k++L2.rows.drop (k+1) },?_,hx2,rfl,rfl⟩;rw[<-hx2];refine hE2.setB (by rw[cs8 hm,aS3,bK1,bK0];exact hO) (λq hq=>.inl (by rw[hb2];exact hq)) hf' (OV k) (λi q hq=>.inl ?_) (cs6 k);exact cs5 hk2 hq
 clear hkk hbv
 go_enter func36,ntmps36
 go_wp2_with (first|(go_at_call 72;refine(h72 _ (al w _)).mono ?_;rintro e w1 ⟨rfl,hw1⟩;have c1:=hK w1 (Below.and (al w _) hw1);have c5:=hC w1 (Below.and (al w _) hw1);have k3':=(bx.below hw1).k3)|(go_at_call 80;refine(htake _ (Below.and (al w _) hw1)).mono ?_;rintro e w2 ⟨rfl,L2,hE2,hx2,hR2⟩;obtain⟨n2,c3,b2,c2',hk4,hcall⟩:=hdel w2 L2 hE2 hx2 hR2)|(go_at_call 81;refine hcall.mono ?_;rintro e w3 ⟨n',rfl,c4,f4,L3,PS,hx3,hr3,hw3⟩))
 go_ret
 exact⟨rfl,L2,L3,hR2,PS,hx3,hr3,hw3⟩
end
section
open Go Go.F6 Go.RowKit Go.Ev Proofs.Tryz
set_option maxRecDepth 100000
set_option maxHeartbeats 2000000
def cP1:Go.Shelf.Ren:=⟨λ|41=>88|n=>n,λ|22=>34|23=>52|4=>4|n=>n,λ|n=>n⟩
theorem by4:Go.Proofs.SlLaysE0.n41 prog cP1:={
 mixed:=by kernel_rfl
 f41:=⟨Tryz.f88.name,by decide,func88.trans (congrArg some (by kernel_rfl))⟩
 t4:=underlying4
 a4:=isAgg4
 z4:=sizeOf4
 v4:=zeroValue4
 t22:=underlying34
 a22:=isAgg34
 z22:=sizeOf34
 v22:=zeroValue34 }
theorem cp7(a:Addr)(c:Nat)(w:World):
 Calls prog 88 #[.slice (some a) 0 c] w λe w'=>∃v',e=.returned v'/\w'.ownsRow w.heap.size 52 6 v' 0 []/\Below w.heap.size w w':=by
 have mixed:=@mixed;have t22:=underlying34;obtain⟨i0,hi,hz1,hz2,hz0⟩:=vO.eX;have hzs:(O7 vN).cells.size=6:=by rw[kK vO];rfl
 have q22:∀(w:World)(a:Option Addr)(n c n' c':Nat),(binOp .eql 34 (.slice a n c) (.slice none n' c')).run prog w=.ok (.bool a.isNone) w:=λw a n c n' c'=>Lib.run_eql_slice_nil w _ _ a n c n' c' t22;have u22:∀w,Sem.run prog (underlying 34) w=.ok (TypeDesc.slice 52) w:=L6 t22
 go_enter func88,ntmps88
 go_wp2_with (at_builtin;refine wpList_append_own _ rfl _ _ 34 rfl w.heap.size 52 i0 (O7 vN) 6 i0.bytes t22 hi hz0 hz1 rfl hzs (by decide) _ _ _ rfl (World.ownsRow_made w #[] 0 (J6 _) (Y3 _) rfl) a 0 c [] rfl rfl (by intro j u hj;simp at hj) (by intro u hu;cases hu) (by unfold maxLen;omega) (by omega) (by simp) ?_)
 intro v' w1 hown hgrow hnil
 go_wp2
 go_ret
 refine⟨v',rfl,by simpa using hown,?_⟩;exact((Below.refl _ w).alloc (J6 _) _).grown hgrow (by simp) (by intro k hk;simp[Value.ownBlock]at hk;omega)
theorem an2{w:World}{B e z n:Nat}{v:Value}{xs:List Value}(h:w.ownsRow B e z v n xs)(h1:∀u∈xs,u.oneCell'=true):∃ob,O9 w e z v n xs ob/\∀g,ob=some g->B<=g:=by
 obtain⟨hl,⟨rfl,rfl⟩|⟨g,cap,cur,rfl,hg,hh,hn,hm,hs,rfl⟩⟩:=h
 .obtain rfl:xs=[]:=lX (by omega);exact⟨none,.e none,λ_ h=>nomatch h⟩
 .exact⟨some g,.b g cap n cur hh hs hn hm h1,λ_ h=>by injection h with h;subst h;exact hg⟩
theorem bj0{Z:Zone}{w:World}{l:List Int}{v:Value}(h:Rep Z w (.sl 1 (l.map F5)) v)(hl:l.length<=4000):Calls prog 87 #[v] w λe w'=>∃v' o',e=.returned v'/\O9 w' 3 1 v' l.length (Y7 l) o'/\(∀c,o'=some c->w.heap.size<=c)/\Below w.heap.size w w':=by
 generalize hd:l.map F5=ds at h;cases h with
 |nil _ a cap=>
  obtain rfl:l=[]:=List.map_eq_nil_iff.1 hd;cases a with
  |none=>exact(Tryz.slices_Clone_int_nil 0 cap w).mono λe w' ⟨h1,h2⟩=>⟨_,none,h1,.e none,(λ_ h=>nomatch h),h2.symm▸Below.refl w.heap.size w⟩
  |some a=>
   refine(Tryz.slices_Clone_int_zero a cap w).mono λe w' ⟨v',h1,h2,_,h3⟩=>?_;obtain⟨o',hO,ho⟩:=an2 h2 (λu hu=>nomatch hu);exact⟨v',o',h1,hO,ho,h3⟩
 |sl _ ds b o cap f hcap hsz hc h=>
  subst hd;have hb:140737488355328=140737488355328:=rfl
  have key:=Tryz.slices_Clone_int b o l.length cap l w (J6 _) (by omega) (λj hj=>by
   have h1:(l.map F5)[j]?=some (F5 l[j]):=by rw[O6,I9 hj];rfl
   have h2:=(hc j 0 _ (I l[j]) h1 rfl).2.1;have h3:=h j 0 _ (I l[j]) h1 rfl;rw[vY,oD]at h2;rw[h2]
   rw[sN h3,NQ,I9 hj];rfl)
  rw[xW (J6 _)]at key;rw[U7];refine key.mono λe w' ⟨v',h1,h2,_,h3⟩=>?_;obtain⟨o',hO,ho⟩:=an2 h2 (bu4 l);exact⟨v',o',h1,hO,ho,h3⟩
theorem c99{Z:Zone}{w:World}{sz:Nat}{ds:List (List CV)}{u:Value}(h:Rep Z w (.sl sz ds) u):u.oneCell'=true:=h.atom rfl
theorem cp9{Z:Zone}{w:World}{bs:List Branch}{v:Value}(h:Rep Z w (.sl 6 (bs.map G8)) v)(hl:bs.length<=4000):Calls prog 88 #[v] w λe w'=>∃v' o' rows,e=.returned v'/\rows.map Row.b=bs/\O9 w' 52 6 v' rows.length (rcs rows) o'/\(∀c,o'=some c->w.heap.size<=c)/\
 (∀(i:Nat)(r:Row),rows[i]?=some r->r.o=none/\Rep Z w (.sl 1 (r.b.Kids.map F5)) r.k)/\Below w.heap.size w w':=by
 have cV1:∀cap,Calls prog 88 #[.slice none 0 cap] w λe w'=>e=.returned (.slice none 0 0)/\w'=w:=λcap=>AnyE.slices_Clone_nil by4 0 cap w;obtain⟨i0,hi0,hz1,hz2,hz0⟩:=vO.eX;have hzs:(O7 vN).cells.size=6:=by rw[kK vO];rfl
 have cZ3:∀(b o cap:Nat)(rows:List Row),rows.map Row.b=bs->(∀(i:Nat)(r:Row),rows[i]?=some r->r.o=none/\Rep Z w (.sl 1 (r.b.Kids.map F5)) r.k)->(∀j u,(rcs rows)[j]?=some u->w.cell? ⟨b,o+j,none⟩=some u)->
  Calls prog 88 #[.slice (some ⟨b,o,none⟩) rows.length cap] w λe w'=>∃v' o' rows,e=.returned v'/\rows.map Row.b=bs/\O9 w' 52 6 v' rows.length (rcs rows) o'/\(∀c,o'=some c->w.heap.size<=c)/\
   (∀(i:Nat)(r:Row),rows[i]?=some r->r.o=none/\Rep Z w (.sl 1 (r.b.Kids.map F5)) r.k)/\Below w.heap.size w w':=λb o cap rows hrb hrr hc=>by
  have hlen:rows.length=bs.length:=by rw[<-hrb,U7]
  have h1:∀u∈rcs rows,u.oneCell'=true:=λu hu=>by
   obtain⟨j,hj,rfl⟩:=dV hu;have hj':=hj;rw[SK]at hj';have hq:j/6<rows.length:=by omega
   have hg:=ao9 (I9 hq) (show j % 6<6 by omega);rw[show j/6*6+j % 6=j from by omega,I9 hj]at hg;have hk:=c99 (hrr (j/6) _ (I9 hq)).2
   match j % 6,hg with
   |0,hg=>injection hg with hg;rw[hg];rfl
   |1,hg=>injection hg with hg;rw[hg];rfl
   |2,hg=>injection hg with hg;rw[hg];rfl
   |3,hg=>injection hg with hg;rw[hg];rfl
   |4,hg=>injection hg with hg;rw[hg];rfl
   |5,hg=>injection hg with hg;rw[hg];exact hk
   |n+6,hg=>cases hg
  have key:=AnyE.slices_Clone by4 i0 (O7 vN) 6 i0.bytes hi0 hz0 hz1 rfl hzs (by decide) sizeOf52 b o rows.length cap (rcs rows) w (SK rows) (by rw[hlen];exact X4 hl (by decide)) (by rw[hlen,hz2];exact X4 (iJ _ hl) (by decide)) hc h1;refine key.mono λe w' ⟨v',h1',h2,_,h3⟩=>?_;obtain⟨o',hO,ho⟩:=an2 h2 h1;exact⟨v',o',rows,h1',hrb,hO,ho,hrr,h3⟩
 generalize hd:bs.map G8=ds at h;cases h with
 |nil _ a cap=>
  obtain rfl:bs=[]:=List.map_eq_nil_iff.1 hd;cases a with
  |none=>exact(cV1 cap).mono λe w' ⟨h1,h2⟩=>⟨_,none,[],h1,rfl,.e none,(λ_ h=>nomatch h),(λ_ _ h=>nomatch h),h2.symm▸Below.refl w.heap.size w⟩
  |some a=>
   refine(cp7 a cap w).mono λe w' ⟨v',h1,h2,h3⟩=>?_;obtain⟨o',hO,ho⟩:=an2 h2 (λu hu=>nomatch hu);exact⟨v',o',[],h1,rfl,hO,ho,(λ_ _ h=>nomatch h),h3⟩
 |sl _ ds b o cap f hcap hsz hc h=>
  subst hd;rw[U7];obtain⟨rows,hrows⟩:∃rows,rows=bs.mapIdx λi b=>(⟨b,f i 5,none⟩:Row):=⟨_,rfl⟩;have hget:∀i,rows[i]?=(bs[i]?).map λb=>(⟨b,f i 5,none⟩:Row):=λi=>by rw[hrows,List.getElem?_mapIdx]
  have hlen:rows.length=bs.length:=by rw[hrows,List.length_mapIdx]
  rw[<-hlen];refine cZ3 b o cap rows ?_ (λi r hr=>?_) (λj u hu=>?_)
  .apply mY;intro i;rw[O6,hget];cases bs[i]?<;>rfl
  .rw[hget]at hr;cases hb:bs[i]? with
   |none=>rw[hb]at hr;cases hr
   |some c=>
    rw[hb]at hr;cases hr;exact⟨rfl,h i 5 (G8 c) _ (by rw[O6,hb];rfl) rfl⟩
  .have hj:j<(rcs rows).length:=(O4.1 hu).1;rw[SK]at hj;have hq:j/6<bs.length:=by omega
   have hr:rows[j/6]?=some ⟨bs[j/6],f (j/6) 5,none⟩:=by rw[hget,I9 hq];rfl
   have hg:=ao9 hr (show j % 6<6 by omega);rw[show j/6*6+j % 6=j from by omega,hu]at hg;have hd:(bs.map G8)[j/6]?=some (G8 bs[j/6]):=by rw[O6,I9 hq];rfl
   have hall:∀(q:Nat)(e:CV),(G8 bs[j/6])[q]?=some e->w.cell? ⟨b,o+j/6*6+q,none⟩=some (f (j/6) q)/\Rep Z w e (f (j/6) q):=λq e he=>⟨(hc _ _ _ e hd he).2.1,h _ _ _ e hd he⟩;have hjj:o+j=o+j/6*6+j % 6:=by omega
   rw[hjj]
   match j % 6,hg with
   |0,hg=>injection hg with hg;rw[hg,(hall 0 _ rfl).1,sN (hall 0 _ rfl).2]
   |1,hg=>injection hg with hg;rw[hg,(hall 1 _ rfl).1,sN (hall 1 _ rfl).2]
   |2,hg=>injection hg with hg;rw[hg,(hall 2 _ rfl).1,sN (hall 2 _ rfl).2]
   |3,hg=>injection hg with hg;rw[hg,(hall 3 _ rfl).1,sN (hall 3 _ rfl).2]
   |4,hg=>injection hg with hg;rw[hg,(hall 4 _ rfl).1,sN (hall 4 _ rfl).2]
   |5,hg=>injection hg with hg;rw[hg,(hall 5 _ rfl).1]
   |n+6,hg=>cases hg
end
section
open Go Go.F6 Go.RowKit Go.Ev Proofs.Tryz
set_option maxRecDepth 100000
set_option maxHeartbeats 4000000
attribute [local go_sem ↓] Go.wp_at_zero Go.wp_at_succ
theorem zH{Z:Zone}{w w':World}(hZ:∀b o,Z b o->b<w.heap.size)(hb:Below w.heap.size w w'):Keeps Z w Z w':=λb o hz=>⟨hz,iH (hb.block b (hZ b o hz))⟩
theorem aK9{Z:Zone}{w w':World}(hZ:∀b o,Z b o->b<w.heap.size)(hb:Below w.heap.size w w'):Keeps Z w' Z w:=λb o hz=>⟨hz,iH (hb.block b (hZ b o hz)).symm⟩
structure nY(w0 w:World)(L:Lay)(J:Nat):Prop where
 base:Below w0.heap.size w0 w
 hx:w.heap[L.x]?=some (.cells #[L.rv,L.bv] 36 (0,0))
 hr:O9 w 3 1 L.rv L.roots.length (Y7 L.roots) L.ro
 hb:O9 w 52 6 L.bv L.rows.length (rcs L.rows) L.bo
 hk:∀(i:Nat)(r:Row),L.rows[i]?=some r->i<J->O9 w 3 1 r.k r.b.Kids.length (Y7 r.b.Kids) r.o
 hn:∀(i:Nat)(r:Row),L.rows[i]?=some r->J<=i->r.o=none
 nd:∀p q b,L.at p=some b->L.at q=some b->p=q
 lo:∀p b,L.at p=some b->w0.heap.size<=b
theorem nY.bD{w0 w:World}{L:Lay}{J:Nat}(h:nY w0 w L J){p:Pl}{b:Nat}(hb:L.at p=some b):b<w.heap.size:=by
 cases p with
 |x=>cases hb;exact(V4.1 h.hx).1
 |r=>exact h.hr.lt hb
 |b=>exact h.hb.lt hb
 |k i=>
  cases hr:L.rows[i]? with
  |none=>simp[Lay.at,hr]at hb
  |some r=>
   simp only[Lay.at,hr,G5]at hb;by_cases hi:i<J
   .exact(h.hk i r hr hi).lt hb
   .rw[h.hn i r hr (by omega)]at hb;cases hb
theorem nY.below{w0 w w':World}{L:Lay}{J:Nat}(h:nY w0 w L J)(hb:Below w.heap.size w w'):nY w0 w' L J where
 base:=h.base.trans (hb.mono h.base.size)
 hx:=(hb.block _ (h.bD (p:=.x) rfl)).trans h.hx
 hr:=h.hr.keep λk hk'=>hb.block k (h.bD (p:=.r) hk')
 hb:=h.hb.keep λk hk'=>hb.block k (h.bD (p:=.b) hk')
 hk:=λi r hr hi=>(h.hk i r hr hi).keep λk hk'=>hb.block k (h.bD (p:=.k i) (by simp[Lay.at,hr,hk']))
 hn:=h.hn
 nd:=h.nd
 lo:=h.lo
theorem nY.step{w0 w w1:World}{L:Lay}{J:Nat}(h:nY w0 w L J){r:Row}(hr:L.rows[J]?=some r){b:Nat}(hb:L.bo=some b){v':Value}{o':Option Nat}(hO:O9 w1 3 1 v' r.b.Kids.length (Y7 r.b.Kids) o')(ho':∀c,o'=some c->w.heap.size<=c)(hf:Below w.heap.size w w1):
 nY w0 (w1.setCell ⟨b,J*6+5,none⟩ v') { L with rows:=L.rows.set J ⟨r.b,v',o'⟩ } (J+1):=by
 have hlt:J<L.rows.length:=(O4.1 hr).1;have hat:∀p,p≠.k J->Lay.at { L with rows:=L.rows.set J ⟨r.b,v',o'⟩ } p=L.at p:=λp hp=>by
  cases p with
  |k m=>
   simp only[Lay.at,vV];by_cases hm:J=m
   .exact absurd (by rw[hm]) hp
   .rw[F9 hm]
  |_=>rfl
 have hat':Lay.at { L with rows:=L.rows.set J ⟨r.b,v',o'⟩ } (.k J)=o':=by simp[Lay.at,hlt]
 have hv1:v'.oneCell'=true:=by obtain⟨a,c,rfl,_⟩:=hO.sl;rfl
 have ho1:∀p c,L.at p=some c->w1.heap[c]?=w.heap[c]?:=λp c hp=>hf.block c (h.bD hp);have ho:∀p c,L.at p=some c->p≠.b->(w1.setCell ⟨b,J*6+5,none⟩ v').heap[c]?=w.heap[c]?:=λp c hp hpb=>
  (kG w1 b _ c v' (λe=>hpb (h.nd p .b c hp (by rw[e];exact hb)))).trans (ho1 p c hp)
 have hbl:b<w.heap.size:=h.bD (p:=.b) hb;have hob:∀c,o'=some c->c≠b:=λc hc e=>by have:=ho' c hc;omega
 have hB:O9 w1 52 6 L.bv L.rows.length (rcs L.rows) (some b):=hb▸h.hb.keep λk hk=>ho1 .b k hk;have hnew:∀p c,Lay.at { L with rows:=L.rows.set J ⟨r.b,v',o'⟩ } p=some c->(p≠.k J/\L.at p=some c)\/(p=.k J/\o'=some c):=λp c hp=>by
  by_cases hpk:p=.k J
  .subst hpk;exact .inr ⟨rfl,hat'.symm.trans hp⟩
  .exact .inl ⟨hpk,(hat p hpk).symm.trans hp⟩
 have key:∀p c,L.at p=some c->o'=some c->False:=λp c hp hc=>by have:=ho' c hc;have:=h.bD hp;omega
 refine⟨Below.uX (h.base.trans (hf.mono h.base.size)) (h.lo .b b hb),(ho .x _ rfl (by simp)).trans h.hx,h.hr.keep λk hk=>ho .r k hk (by simp),?_,λm q hq hm=>?_,λm q hq hm=>?_,λp q c hp hq=>?_,λp c hp=>?_⟩
 .have:=hB.TA (j:=J*6+5) (u:=v') hv1 (by rw[SK];omega);rw[<-aS4 (r':=⟨r.b,v',o'⟩) hr (by omega) rfl]at this;show O9 _ 52 6 L.bv (L.rows.set J ⟨r.b,v',o'⟩).length _ L.bo;rw[List.length_set,hb];exact this
 .replace hq:(L.rows.set J ⟨r.b,v',o'⟩)[m]?=some q:=hq;rw[vV]at hq;by_cases hjm:J=m
  .subst hjm;rw[I4 rfl,I4 hlt]at hq;injection hq with hq;subst hq
   exact hO.keep λk hk=>kG w1 b _ k v' (hob k hk)
  .rw[F9 hjm]at hq;exact(h.hk m q hq (by omega)).keep λk hk=>ho (.k m) k (by simp[Lay.at,hq,hk]) (by simp)
 .replace hq:(L.rows.set J ⟨r.b,v',o'⟩)[m]?=some q:=hq;rw[vV,F9 (by omega)]at hq;exact h.hn m q hq (by omega)
 .rcases hnew p c hp with⟨h1,h2⟩|⟨h1,h2⟩<;>rcases hnew q c hq with⟨h3,h4⟩|⟨h3,h4⟩
  .exact h.nd p q c h2 h4
  .exact(key p c h2 h4).elim
  .exact(key q c h4 h2).elim
  .rw[h1,h3]
 .rcases hnew p c hp with⟨h1,h2⟩|⟨h1,h2⟩
  .exact h.lo p c h2
  .exact X4 h.base.size (ho' c h2)
theorem nY.done{w0 w:World}{L:Lay}{J:Nat}(h:nY w0 w L J)(hJ:L.rows.length<=J):Ed w0 (w.alloc (.cells #[L.rv,L.bv] 98)) { L with x:=w.heap.size }:=by
 have hb:=al w (.cells #[L.rv,L.bv] 98);have hlt:∀p c,Lay.at { L with x:=w.heap.size } p=some c->(p≠.x/\L.at p=some c)\/(p=.x/\c=w.heap.size):=λp c hp=>by
  cases p with
  |x=>cases hp;exact .inr ⟨rfl,rfl⟩
  |r=>exact .inl ⟨by simp,hp⟩
  |b=>exact .inl ⟨by simp,hp⟩
  |k m=>exact .inl ⟨by simp,hp⟩
 refine⟨h.base.trans (hb.mono h.base.size),aW w _,h.hr.keep λk hk=>hb.block k (h.bD (p:=.r) hk),h.hb.keep λk hk=>hb.block k (h.bD (p:=.b) hk),λi r hr=>?_,λp q c hp hq=>?_,λp c hp=>?_⟩
 .replace hr:L.rows[i]?=some r:=hr;exact(h.hk i r hr (Z5 (O4.1 hr).1 hJ)).keep λk hk=>hb.block k (h.bD (p:=.k i) (by simp[Lay.at,hr,hk]))
 .rcases hlt p c hp with⟨h1,h2⟩|⟨h1,h2⟩<;>rcases hlt q c hq with⟨h3,h4⟩|⟨h3,h4⟩
  .exact h.nd p q c h2 h4
  .have:=h.bD h2;omega
  .have:=h.bD h4;omega
  .rw[h1,h3]
 .rcases hlt p c hp with⟨h1,h2⟩|⟨h1,h2⟩
  .exact h.lo p c h2
  .have:=h.base.size;omega
theorem c98{Z:Zone}{w:World}{sz:Nat}{ds:List (List CV)}{u:Value}(h:Rep Z w (.sl sz ds) u):∃a n c,u=.slice a n c:=by cases h<;>exact⟨_,_,_,rfl⟩
def bc6(Z:Zone)(w0:World)(t:Tree)(X:Nat)(bv:Value)(j:Nat)(wr:World):Prop:=∃L,nY w0 wr L j/\L.x=X/\L.bv=bv/\L.tree=t/\∀(i:Nat)(r:Row),L.rows[i]?=some r->j<=i->Rep Z w0 (.sl 1 (r.b.Kids.map F5)) r.k
theorem mkJ{w0 W:World}{X:Nat}{rv bv:Value}{ro bo:Option Nat}{roots:List Int}{rows:List Row}(h0:Below w0.heap.size w0 W)(hx:W.heap[X]?=some (.cells #[rv,bv] 36 (0,0)))(hr:O9 W 3 1 rv roots.length (Y7 roots) ro)(hb:O9 W 52 6 bv rows.length (rcs rows) bo)
 (hn:∀(i:Nat)(r:Row),rows[i]?=some r->r.o=none) (a1:ro≠some X) (a2:bo≠some X) (a3:∀c,ro=some c->bo≠some c) (l1:w0.heap.size<=X) (l2:∀c,ro=some c->w0.heap.size<=c) (l3:∀c,bo=some c->w0.heap.size<=c):nY w0 W ⟨X,rv,ro,roots,bv,bo,rows⟩ 0:=by
 have hk0:∀i,Lay.at ⟨X,rv,ro,roots,bv,bo,rows⟩ (.k i)=none:=λi=>by
  simp only[Lay.at];cases h:rows[i]? with
  |none=>rfl
  |some r=>exact hn i r h
 refine⟨h0,hx,hr,hb,λi r _ hi=>absurd hi (Nat.not_lt_zero _),λi r h _=>hn i r h,λp q b hp hq=>?_,λp b hp=>?_⟩
 .cases p with
  |k i=>rw[hk0]at hp;cases hp
  |x=>cases q with
   |k i=>rw[hk0]at hq;cases hq
   |x=>rfl
   |r=>cases hp;exact absurd hq a1
   |b=>cases hp;exact absurd hq a2
  |r=>cases q with
   |k i=>rw[hk0]at hq;cases hq
   |x=>cases hq;exact absurd hp a1
   |r=>rfl
   |b=>exact absurd hq (a3 b hp)
  |b=>cases q with
   |k i=>rw[hk0]at hq;cases hq
   |x=>cases hq;exact absurd hp a2
   |r=>exact absurd hp (a3 b hq)
   |b=>rfl
 .cases p with
  |k i=>rw[hk0]at hp;cases hp
  |x=>cases hp;exact l1
  |r=>exact l2 b hp
  |b=>exact l3 b hp
theorem pI{w:World}{X:Nat}{a c rv bv:Value}(h:w.heap[X]?=some (.cells #[a,c] 36 (0,0))):((w.setCell ⟨X,0,none⟩ rv).setCell ⟨X,1,none⟩ bv).heap[X]?=some (.cells #[rv,bv] 36 (0,0)):=by
 rw[LV _ X 1 bv (LV w X 0 rv h)];rfl
theorem aa1{w:World}{X k:Nat}{rv bv:Value}(h:k≠X):((w.setCell ⟨X,0,none⟩ rv).setCell ⟨X,1,none⟩ bv).heap[k]?=w.heap[k]?:=(kG _ X 1 k bv h).trans (kG w X 0 k rv h)
theorem nY.cell{w0 w:World}{L:Lay}{J:Nat}(h:nY w0 w L J){i:Nat}{r:Row}(hr:L.rows[i]?=some r){b:Nat}(hb:L.bo=some b){j:Nat}{u:Value}(hj:j<6)(hu:r.cs[j]?=some u):w.cell? ⟨b,i*6+j,none⟩=some u:=by
 have hB:=h.hb;rw[hb]at hB;exact hB.cell ((ao9 hr hj).trans hu)
theorem cu0{Z:Zone}{w0:World}{t:Tree}{EU CP:Value}(hZ:∀b o,Z b o->b<w0.heap.size)(hr0:Rep Z w0 (.sl 1 (t.O1.map F5)) EU)(hb0:Rep Z w0 (.sl 6 (t.Branches.map G8)) CP)(h1:t.O1.length<=4000)(h2:t.Branches.length<=4000)(h3:∀b∈t.Branches,b.Kids.length<=4000):
 Calls prog 39 #[.agg #[EU,CP]] w0 λe w'=>∃L,e=.returned (ptr L.x 0)/\Ed w0 w' L/\L.tree=t:=by
 have bq2:∀W,Below w0.heap.size w0 W->_:=λW hW=>bj0 (hr0.keep (zH hZ hW)) h1;have aF8:∀W,Below w0.heap.size w0 W->_:=λW hW=>cp9 (hb0.keep (zH hZ hW)) h2;have ht:=aW w0 (.cells #[EU,CP] 36);have a0:=al w0 (.cells #[EU,CP] 36)
 go_enter func39,ntmps39
 go_wp2_with fail
 rename_i K hK;have rest:∀(X:Nat)(W:World)(ra ba:Option Addr)(rc bc n:Nat),n<=4000->bc6 Z w0 t X (.slice ba n bc) 0 W->n=t.Branches.length->W.cell? ⟨X,0,none⟩=some (.slice ra t.O1.length rc)->K ⟨#[.agg #[EU,CP],ptr w0.heap.size 0,.pointer none,ptr X 0,undef,undef,ptr w0.heap.size 0,EU,.slice ra t.O1.length rc,ptr w0.heap.size 1,CP,.slice ba n bc,.agg #[.slice ra t.O1.length rc,.slice ba n bc],undef,undef,undef,undef,undef,undef,undef,undef,undef,undef,undef,undef,undef,undef,undef,undef,undef,undef,undef,undef],[]⟩ W:=λX W ra ba rc bc n hn hrel hnt gV=>by
  have x1:W.cell? ⟨X,1,none⟩=some (.slice ba n bc):=by
   obtain⟨L,hE,hLx,hLb,_⟩:=hrel;have:=(O5 (o:=1) hE.hx rfl).1;rw[hLx,hLb]at this;exact this
  refine hK _ _ ?_;have HN:=Lib.hid hnt;clear hnt gV
  go_wp2_with fail
  go_loopw [16] (λi wr=>∃j:Nat,i=.int .i64 j/\j<=n/\bc6 Z w0 t X (.slice ba n bc) j wr) (λi _=>n-(intOf i).toNat)
  case atStart=>exact⟨0,rfl,Y3 _,hrel⟩
  case round=>
   obtain⟨j,rfl,hjn,hrj⟩:=hrel;clear hrel;by_cases hlt:j<n
   .obtain⟨L,hE,hLx,hLb,DW,hcl⟩:=hrj;have hlen:L.rows.length=n:=by rw[HN.out,<-DW];simp[Lay.tree]
    have hjl:j<L.rows.length:=by omega
    have hr:=I9 hjl;generalize L.rows[j]=r at hr;have hrep:=hcl j r hr (J6 _);obtain⟨ka,kn,kc,hkk⟩:=c98 hrep;obtain⟨b,c,P8,hbv,_⟩:=hE.hb.form (by omega);rw[hLb,hlen]at hbv;injection hbv with e1 e2 e3
    subst e1;have c0:wr.cell? ⟨b,j*6,none⟩=some (.int .i64 r.b.Unit.ID):=hE.cell hr P8 (j:=0) (by omega) rfl;have c1:=hE.cell hr P8 (j:=1) (by omega) rfl;have c2:=hE.cell hr P8 (j:=2) (by omega) rfl;have c3:=hE.cell hr P8 (j:=3) (by omega) rfl;have c4:=hE.cell hr P8 (j:=4) (by omega) rfl;have c5:=hE.cell hr P8 (j:=5) (u:=r.k) (by omega) rfl;rw[hkk]at c5;have x1':wr.cell? ⟨X,1,none⟩=some (.slice (some ⟨b,0,none⟩) n bc):=by
     have:=(O5 (o:=1) hE.hx rfl).1;rw[hLx,hLb]at this;exact this
    have hmem:r.b∈t.Branches:=by rw[<-DW];exact List.mem_map_of_mem (iC hr)
    have hC:∀W,Below wr.heap.size wr W->_:=λW hW=>bj0 (hrep.keep (zH hZ (hE.base.trans (hW.mono hE.base.size)))) (h3 r.b hmem);rw[hkk]at hC;have yV:X≠b:=λe=>by have:=hE.nd .x .b b (by rw[<-e,<-hLx];rfl) P8;cases this
    have hbX:b≠X:=yV.symm;have hbl:b<wr.heap.size:=hE.bD (p:=.b) P8;have sD:X<wr.heap.size:=hLx▸hE.bD (p:=.x) rfl;have hj0:(0:Int)<=(j:Int):=by omega
    have dL2:(j:Int)<(n:Int):=by omega
    have hfr:∀W,Below wr.heap.size wr W->W.cell? ⟨b,j*6+5,none⟩=some (.slice ka kn kc)/\W.frozen? ⟨b,j*6+5,none⟩=false:=λW hW=>by
     have hB:=(hE.below hW).hb;rw[P8]at hB;exact⟨by have:=(hE.below hW).cell hr P8 (j:=5) (u:=r.k) (by omega) rfl;rwa [hkk]at this,hB.PO _⟩
    have HK:=Lib.hid hkk;have HL:=Lib.hid DW;have HLb:=Lib.hid hLb;have HLx:=Lib.hid hLx;have Hlen:=Lib.hid hlen;clear hkk DW hLb hLx hlen e2 e3 hrep
    go_wp2_with fail
    have hu:=aW wr (.cells #[.int .i64 r.b.Unit.ID,.int .i64 r.b.Unit.Parent,.int .i64 r.b.Unit.Level,.string ⟨⟨r.b.Unit.Title⟩⟩,.string ⟨⟨r.b.Unit.Mark⟩⟩,.slice ka kn kc] 52);have ha:=al wr (.cells #[.int .i64 r.b.Unit.ID,.int .i64 r.b.Unit.Parent,.int .i64 r.b.Unit.Level,.string ⟨⟨r.b.Unit.Title⟩⟩,.string ⟨⟨r.b.Unit.Mark⟩⟩,.slice ka kn kc] 52);generalize wr.alloc (.cells #[.int .i64 r.b.Unit.ID,.int .i64 r.b.Unit.Parent,.int .i64 r.b.Unit.Level,.string ⟨⟨r.b.Unit.Title⟩⟩,.string ⟨⟨r.b.Unit.Mark⟩⟩,.slice ka kn kc] 52)=W1 at hu ha⊢;have hub:wr.heap.size≠b:=by omega
    have hul:wr.heap.size<W1.heap.size:=(V4.1 hu).1;generalize hus:wr.heap.size=u at hu hub hul⊢;have hbu:b≠u:=hub.symm;have k5:=(O5 (o:=5) hu rfl).1;have k1:=(ha.cell (p:=⟨X,1,none⟩) sD).trans x1';have HU:=Lib.hid hus;clear c0 c1 c2 c3 c4 c5 x1' hus
    go_region_held3 (λw'=>w'.cell? ⟨X,1,none⟩=some (.slice (some ⟨b,0,none⟩) n bc)/\w'.cell? ⟨u,5,none⟩=some (.slice ka kn kc)) (go_keep)
     (first|(go_at_call 87;refine(hC _ (Below.and ha (dr _))).mono ?_;rintro e w3 ⟨v',o',rfl,hO,ho',hw3⟩;obtain⟨va,vc,rfl,_⟩:=hO.sl;have q3:Below W1.heap.size W1 w3:=Below.and (dr _) hw3;have k53:=(q3.cell (p:=⟨u,5,none⟩) hul).trans k5;have k13:=(q3.cell (p:=⟨X,1,none⟩) (Z5 sD ha.size)).trans k1;have b5:=(hfr w3 (Below.and ha q3)).1;have f5:=(hfr w3 (Below.and ha q3)).2))
    all_goals
     go_wp2
     go_roundw
     case rel=>
      refine⟨j+1,by go_num,hlt,{ L with rows:=L.rows.set j ⟨r.b,_,o'⟩ },(hE.below ha).step hr P8 hO ho' q3,HLx.out,HLb.out,?_,λi r' hr' hi=>?_⟩
      .rw[<-HL.out];simp only[Lay.tree];congr 1;apply mY;intro i;rw[O6,O6,vV];by_cases hij:j=i
       .subst hij;rw[I4 rfl,I4 hjl,hr];rfl
       .rw[F9 hij]
      .replace hr':(L.rows.set j ⟨r.b,_,o'⟩)[i]?=some r':=hr';rw[vV,F9 (by omega)]at hr';exact hcl i r' hr' (by omega)
     case measure=>simp[intOf];omega
   .obtain⟨L,hE,hLx,hLb,DW,hcl⟩:=hrj;have hlen:L.rows.length=n:=by rw[HN.out,<-DW];simp[Lay.tree]
    obtain⟨va,vc,gV,_⟩:=hE.hr.sl;have y0:=(O5 (o:=0) hE.hx rfl).1;have y1:=(O5 (o:=1) hE.hx rfl).1;rw[hLx,gV]at y0;rw[hLx,hLb]at y1;have hD:=hE.done (by omega);rw[gV,hLb]at hD;have HD:=Lib.hid hD;have HL:=Lib.hid DW;have hlt':¬((j:Int)<(n:Int)):=by omega
    clear hD DW gV hLb hLx hlen x1 hcl
    go_wp2
    go_ret
    exact⟨_,rfl,HD.out,HL.out⟩
 generalize w0.alloc (.cells #[EU,CP] 36)=W0 at ht a0⊢;have T0:=(O5 (o:=0) ht rfl).1;have T1:=(O5 (o:=1) ht rfl).1;have hT:w0.heap.size<W0.heap.size:=(V4.1 ht).1;have n0:=World.new_ne W0 ⟨w0.heap.size,0,none⟩ T0
 go_region_held3 (λw'=>w'.cell? ⟨w0.heap.size,0,none⟩=some EU/\w'.cell? ⟨w0.heap.size,1,none⟩=some CP) (go_keep)
  (first|(go_at_call 87;refine(bq2 _ (Below.and a0 (dr _))).mono ?_;rintro e w2 ⟨rv,ro,rfl,hOr,hro,hw2⟩;obtain⟨ra,rc,rfl,_⟩:=hOr.sl;have q2:Below W0.heap.size W0 w2:=Below.and (dr _) hw2;have b2:=Below.and a0 q2;have NV:=(q2.cell (p:=⟨w0.heap.size,0,none⟩) hT).trans T0;have T12:=(q2.cell (p:=⟨w0.heap.size,1,none⟩) hT).trans T1;have n2:=World.new_ne w2 ⟨w0.heap.size,0,none⟩ NV)|(go_at_call 87;refine(bq2 _ (Below.and a0 (Below.and (dr _) (al _ _)))).mono ?_;rintro e w2 ⟨rv,ro,rfl,hOr,hro,hw2⟩;obtain⟨ra,rc,rfl,_⟩:=hOr.sl;have q2:Below W0.heap.size W0 w2:=Below.and (Below.and (dr _) (al _ _)) hw2;have b2:=Below.and a0 q2;have NV:=(q2.cell (p:=⟨w0.heap.size,0,none⟩) hT).trans T0;have T12:=(q2.cell (p:=⟨w0.heap.size,1,none⟩) hT).trans T1;have n2:=World.new_ne w2 ⟨w0.heap.size,0,none⟩ NV;have x2:w2.heap[W0.heap.size]?=some (.cells #[.slice none 0 0,.slice none 0 0] 36 (0,0)):=(hw2.block W0.heap.size (by simp)).trans (aW W0.drew _))|(go_at_call 88;have x2':=x2;refine(aF8 _ b2).mono ?_;rintro e w3 ⟨bv,bo,rows,rfl,hrows,hOb,P8,hrr,hw3⟩;obtain⟨ba,bc,rfl,_⟩:=hOb.sl;have q3:Below w2.heap.size w2 w3:=hw3;have UZ:=(q3.cell (p:=⟨w0.heap.size,0,none⟩) (Z5 hT q2.size)).trans NV;have T13:=(q3.cell (p:=⟨w0.heap.size,1,none⟩) (Z5 hT q2.size)).trans T12;have n3:=World.new_ne w3 ⟨w0.heap.size,0,none⟩ UZ;have x3:=(q3.block W0.heap.size (V4.1 x2).1).trans x2;have y0:=(O5 (o:=0) x3 rfl).1;have y1:=(O5 (o:=1) x3 rfl).1;have z0:=(O5 (o:=0) x3 rfl).2;have z1:=(O5 (o:=1) x3 rfl).2)|(go_at_call 88;refine(aF8 _ (Below.and b2 (al _ _))).mono ?_;rintro e w3 ⟨bv,bo,rows,rfl,hrows,hOb,P8,hrr,hw3⟩;obtain⟨ba,bc,rfl,_⟩:=hOb.sl;have q3:Below w2.heap.size w2 w3:=Below.and (al _ _) hw3;have UZ:=(q3.cell (p:=⟨w0.heap.size,0,none⟩) (Z5 hT q2.size)).trans NV;have T13:=(q3.cell (p:=⟨w0.heap.size,1,none⟩) (Z5 hT q2.size)).trans T12;have n3:=World.new_ne w3 ⟨w0.heap.size,0,none⟩ UZ;have x3:w3.heap[w2.heap.size]?=some (.cells #[.slice none 0 0,.slice none 0 0] 36 (0,0)):=(hw3.block w2.heap.size (by simp)).trans (aW w2 _);have y0:=(O5 (o:=0) x3 rfl).1;have y1:=(O5 (o:=1) x3 rfl).1;have z0:=(O5 (o:=0) x3 rfl).2;have z1:=(O5 (o:=1) x3 rfl).2)|(go_at_call 88;refine(aF8 _ b2).mono ?_;rintro e w3 ⟨bv,bo,rows,rfl,hrows,hOb,P8,hrr,hw3⟩;obtain⟨ba,bc,rfl,_⟩:=hOb.sl;have q3:Below w2.heap.size w2 w3:=hw3;have UZ:=(q3.cell (p:=⟨w0.heap.size,0,none⟩) (Z5 hT q2.size)).trans NV;have T13:=(q3.cell (p:=⟨w0.heap.size,1,none⟩) (Z5 hT q2.size)).trans T12;have n3:=World.new_ne w3 ⟨w0.heap.size,0,none⟩ UZ))
 .have z0:=b2.size;have z1:=q2.size;have z2:=q3.size;have zr:∀c,ro=some c->w0.heap.size<=c:=λc hc=>by have:=hro c hc;first|omega|(simp at this;omega)
  have zb:∀c,bo=some c->w2.heap.size<=c:=λc hc=>by have:=P8 c hc;first|omega|(simp at this;omega)
  have yY:w0.heap.size<=w3.heap.size:=by omega
  have yX:∀k,ro=some k->k≠w3.heap.size:=λk hk e=>by have h1:=hOr.lt hk;have h2:=hro k hk;first|omega|(simp at h2;omega)
  have yV:∀k,bo=some k->k≠w3.heap.size:=λk hk e=>by have h1:=hOb.lt hk;have h2:=P8 k hk;first|omega|(simp at h2;omega)
  refine rest w3.heap.size (w3.alloc (.cells #[.slice ra t.O1.length rc,.slice ba rows.length bc] 36)) ra ba rc bc rows.length (by rw[<-hrows,U7]at h2;exact h2) ⟨⟨w3.heap.size,.slice ra t.O1.length rc,ro,t.O1,.slice ba rows.length bc,bo,rows⟩,mkJ (Below.and b2 (Below.and q3 (al w3 _))) (aW w3 (.cells #[.slice ra t.O1.length rc,.slice ba rows.length bc] 36)) (hOr.keep λk hk=>(Below.and q3 (al w3 _)).block k (hOr.lt hk)) (hOb.keep λk hk=>(al w3 _).block k (hOb.lt hk)) (λi r h=>(hrr i r h).1) (λh=>yX _ h rfl) (λh=>yV _ h rfl) (λc h h'=>by have:=hOr.lt h;have:=zb c h';omega) yY zr (λc h=>by have:=zb c h;omega),rfl,rfl,by simp only[Lay.tree];rw[hrows],λi r h _=>(hrr i r h).2.keep (aK9 hZ b2)⟩ (by rw[<-hrows,U7]) (O5 (o:=0) (aW w3 (.cells #[.slice ra t.O1.length rc,.slice ba rows.length bc] 36)) rfl).1
 .have z0:=b2.size;have z1:=q2.size;have z2:=q3.size;have zr:∀c,ro=some c->w0.heap.size<=c:=λc hc=>by have:=hro c hc;first|omega|(simp at this;omega)
  have zb:∀c,bo=some c->w2.heap.size<=c:=λc hc=>by have:=P8 c hc;first|omega|(simp at this;omega)
  have yY:w0.heap.size<=w2.heap.size:=by omega
  have yX:∀k,ro=some k->k≠w2.heap.size:=λk hk e=>by have h1:=hOr.lt hk;have h2:=hro k hk;first|omega|(simp at h2;omega)
  have yV:∀k,bo=some k->k≠w2.heap.size:=λk hk e=>by have h1:=hOb.lt hk;have h2:=P8 k hk;first|omega|(simp at h2;omega)
  refine rest w2.heap.size ((w3.setCell ⟨w2.heap.size,0,none⟩ (.slice ra t.O1.length rc)).setCell ⟨w2.heap.size,1,none⟩ (.slice ba rows.length bc)) ra ba rc bc rows.length (by rw[<-hrows,U7]at h2;exact h2) ⟨⟨w2.heap.size,.slice ra t.O1.length rc,ro,t.O1,.slice ba rows.length bc,bo,rows⟩,mkJ (Below.uX (Below.uX (Below.and b2 q3) yY) yY) (pI x3) (hOr.keep λk hk=>(aa1 (yX k hk)).trans (q3.block k (hOr.lt hk))) (hOb.keep λk hk=>aa1 (yV k hk)) (λi r h=>(hrr i r h).1) (λh=>yX _ h rfl) (λh=>yV _ h rfl) (λc h h'=>by have:=hOr.lt h;have:=zb c h';omega) yY zr (λc h=>by have:=zb c h;omega),rfl,rfl,by simp only[Lay.tree];rw[hrows],λi r h _=>(hrr i r h).2.keep (aK9 hZ (Below.and b2 (al w2 _)))⟩ (by rw[<-hrows,U7]) (O5 (o:=0) (pI x3) rfl).1
 .have z0:=b2.size;have z1:=q2.size;have z2:=q3.size;have zr:∀c,ro=some c->w0.heap.size<=c:=λc hc=>by have:=hro c hc;first|omega|(simp at this;omega)
  have zb:∀c,bo=some c->w2.heap.size<=c:=λc hc=>by have:=P8 c hc;first|omega|(simp at this;omega)
  have z3:=(V4.1 x2).1;have yY:w0.heap.size<=W0.heap.size:=by omega
  have yX:∀k,ro=some k->k≠W0.heap.size:=λk hk e=>by have h1:=hOr.lt hk;have h2:=hro k hk;first|omega|(simp at h2;omega)
  have yV:∀k,bo=some k->k≠W0.heap.size:=λk hk e=>by have h1:=hOb.lt hk;have h2:=P8 k hk;first|omega|(simp at h2;omega)
  refine rest W0.heap.size ((w3.setCell ⟨W0.heap.size,0,none⟩ (.slice ra t.O1.length rc)).setCell ⟨W0.heap.size,1,none⟩ (.slice ba rows.length bc)) ra ba rc bc rows.length (by rw[<-hrows,U7]at h2;exact h2) ⟨⟨W0.heap.size,.slice ra t.O1.length rc,ro,t.O1,.slice ba rows.length bc,bo,rows⟩,mkJ (Below.uX (Below.uX (Below.and b2 q3) yY) yY) (pI x3) (hOr.keep λk hk=>(aa1 (yX k hk)).trans (q3.block k (hOr.lt hk))) (hOb.keep λk hk=>aa1 (yV k hk)) (λi r h=>(hrr i r h).1) (λh=>yX _ h rfl) (λh=>yV _ h rfl) (λc h h'=>by have:=hOr.lt h;have:=zb c h';omega) yY zr (λc h=>by have:=zb c h;omega),rfl,rfl,by simp only[Lay.tree];rw[hrows],λi r h _=>(hrr i r h).2.keep (aK9 hZ b2)⟩ (by rw[<-hrows,U7]) (O5 (o:=0) (pI x3) rfl).1
end
section
open Go Go.F6 Go.RowKit Go.Ev Proofs.Tryz
set_option maxRecDepth 100000
set_option maxHeartbeats 4000000
def fH(f:Int->Option (List Int)):List Int->Option (List Int)
 |[]=>some []
 |k::r=>(f k).bind λl=>(fH f r).map (l++·)
def qU(t:Tree):Nat->Int->Option (List Int)
 |0,_=>none
 |n+1,id=>(nU t id).bind λks=>(fH (qU t n) ks).map (id::·)
def Wr(X l:Nat)(ob:Option Nat)(k:Nat):Prop:=k=X\/k=l\/ob=some k
theorem bo6{X l:Nat}{ob ob':Option Nat}{w w1 w2:World}(h:Fr (Wr X l ob) w w1)(h':Fr (Wr X l ob') w1 w2)(ho:∀c,ob'=some c->ob=some c\/w.heap.size<=c):Fr (Wr X l ob) w w2:=
 ⟨h'.os.trans h.os,h'.tape.trans h.tape,h'.output.trans h.output,X4 h.size h'.size,λk hk hn=>(h'.block k (Z5 hk h.size) (λhw=>by
   rcases hw with rfl|rfl|hw
   .exact hn (.inl rfl)
   .exact hn (.inr (.inl rfl))
   .rcases ho k hw with h1|h1
    .exact hn (.inr (.inr h1))
    .omega)).trans (h.block k hk hn)⟩
section
variable{J:List Int->Option Nat->World->Prop}{X l M:Nat}
def ax8(X l:Nat)(ob:Option Nat)(W:World)(v:Value)(ks:List Int):Prop:=∃a cp,v=.slice a ks.length cp/\ks.length<=1000000/\∀j x,ks[j]?=some x->∃b o,a=some ⟨b,o,none⟩/\W.cell? ⟨b,o+j,none⟩=some (.int .i64 x)/\¬Wr X l ob b
def oH(J:List Int->Option Nat->World->Prop)(X l:Nat)(pre new:List Int)(ob:Option Nat)(W:World)(u:Value)(e:Ending)(W':World):Prop:=
 e=.returned u/\∃ob',J (pre++new) ob' W'/\Fr (Wr X l ob) W W'/\∀c,ob'=some c->ob=some c\/W.heap.size<=c
structure vZ(X l:Nat)(t:Tree)(rv bv:Value)(By Bt Bv:Nat)(Z:Zone)(ob:Option Nat)(W:World):Prop where
 y:W.cell? ⟨By,0,none⟩=some (.func (.yield l) #[] #[])
 t0:W.cell? ⟨Bt,0,none⟩=some rv
 t1:W.cell? ⟨Bt,1,none⟩=some bv
 v:W.cell? ⟨Bv,0,none⟩=some (.func (.func 105) #[] #[ptr By 0,ptr Bt 0,ptr Bv 0])
 ny:¬Wr X l ob By
 nt:¬Wr X l ob Bt
 nv:¬Wr X l ob Bv
 rep:Rep Z W (.agg (dO t)) (.agg #[rv,bv])
 z:∀b o,Z b o->b<W.heap.size/\¬Wr X l ob b
theorem vZ.step{t:Tree}{rv bv:Value}{By Bt Bv:Nat}{Z:Zone}{ob ob':Option Nat}{W W':World}(h:vZ X l t rv bv By Bt Bv Z ob W)(hf:Fr (Wr X l ob) W W')(ho:∀c,ob'=some c->ob=some c\/W.heap.size<=c):vZ X l t rv bv By Bt Bv Z ob' W':=by
 have hn:∀k,k<W.heap.size->¬Wr X l ob k->¬Wr X l ob' k:=λk hk hn hw=>by
  rcases hw with rfl|rfl|hw
  .exact hn (.inl rfl)
  .exact hn (.inr (.inl rfl))
  .rcases ho k hw with h1|h1
   .exact hn (.inr (.inr h1))
   .omega
 have hc:∀b o v,W.cell? ⟨b,o,none⟩=some v->¬Wr X l ob b->W'.cell? ⟨b,o,none⟩=some v:=λb o v hv hb=>(CB (a:=⟨b,o,none⟩) (hf.block b (cell_lt hv) hb)).trans hv
 exact⟨hc _ _ _ h.y h.ny,hc _ _ _ h.t0 h.nt,hc _ _ _ h.t1 h.nt,hc _ _ _ h.v h.nv,hn _ (cell_lt (a:=⟨By,0,none⟩) h.y) h.ny,hn _ (cell_lt (a:=⟨Bt,0,none⟩) h.t0) h.nt,hn _ (cell_lt (a:=⟨Bv,0,none⟩) h.v) h.nv,
  h.rep.keep λb o hz=>⟨hz,iH (hf.block b (h.z b o hz).1 (h.z b o hz).2)⟩,λb o hz=>⟨Z5 (h.z b o hz).1 hf.size,hn b (h.z b o hz).1 (h.z b o hz).2⟩⟩
theorem f108{W:World}{Bv Ba By Bt:Nat}{kid ab:Int}{pre new:List Int}{ob:Option Nat}(hv:W.cell? ⟨Bv,0,none⟩=some (.func (.func 105) #[] #[ptr By 0,ptr Bt 0,ptr Bv 0]))(ha:W.cell? ⟨Ba,0,none⟩=some (.int .i64 ab))
 (cB8:∀a,Calls prog 105 #[.int .i64 kid,.int .i64 a,ptr By 0,ptr Bt 0,ptr Bv 0] W (oH J X l pre new ob W (.bool true))):
 Calls prog 108 #[.int .i64 kid,ptr Bv 0,ptr Ba 0] W (oH J X l pre new ob W (.bool false)):=by
 go_enter func108,ntmps108
 go_wp2_with (go_at_call 105;refine(cB8 _).mono ?_;rintro e W' ⟨rfl,hp⟩)
 go_ret
 exact⟨rfl,hp⟩
def cd9(J:List Int->Option Nat->World->Prop)(X l:Nat)(f:Int->Option (List Int))(ks:List Int)(all:List Int)(ob:Option Nat)(W:World)(j:Nat)(wr:World):Prop:=
 ∃rest ob' pre',fH f (ks.drop j)=some rest/\pre'++rest=all/\J pre' ob' wr/\Fr (Wr X l ob) W wr/\∀c,ob'=some c->ob=some c\/W.heap.size<=c
theorem f190{t:Tree}{rv bv:Value}{By Bt Bv Ba:Nat}{Z:Zone}{W:World}{ab:Int}{f:Int->Option (List Int)}{ks pre new:List Int}{ob:Option Nat}{v:Value}
 (hk:∀kid new,f kid=some new->∀W(pre:List Int) ob,pre.length+new.length<=M->J pre ob W->vZ X l t rv bv By Bt Bv Z ob W->W.cell? ⟨Ba,0,none⟩=some (.int .i64 ab)->¬Wr X l ob Ba->Calls prog 108 #[.int .i64 kid,ptr Bv 0,ptr Ba 0] W (oH J X l pre new ob W (.bool false)))
 (hM:pre.length+new.length<=M) (hJ:J pre ob W) (hV:vZ X l t rv bv By Bt Bv Z ob W) (ha:W.cell? ⟨Ba,0,none⟩=some (.int .i64 ab)) (hna:¬Wr X l ob Ba) (hs:ax8 X l ob W v ks) (hn:fH f ks=some new):
 Calls prog 190 #[v,.func (.func 108) #[] #[ptr Bv 0,ptr Ba 0]] W (oH J X l pre new ob W (.int .i64 (-1))):=by
 obtain⟨a,cp,rfl,hcp,hcell⟩:=hs;have HC:=Lib.hid hcell;clear hcell;have HN:=Lib.hid hn;clear hn
 go_enter func190,ntmps190
 go_wp2
 go_loopw [8] (λi wr=>∃j:Nat,i=.int .i64 j/\j<=ks.length/\cd9 J X l f ks (pre++new) ob W j wr) (λi _=>ks.length-(intOf i).toNat)
 case atStart=>exact⟨0,rfl,Y3 _,new,ob,pre,HN.out,rfl,hJ,Fr.refl _ _,λ_ h=>.inl h⟩
 case round=>
  obtain⟨j,rfl,hj,hL⟩:=hrel;by_cases hlt:j<ks.length
  .obtain⟨rest,ob',pre',h1,h2,h3,h4,h5⟩:=hL;have hd:ks.drop j=ks[j]::ks.drop (j+1):=xP hlt;obtain⟨b,o,hab,hcl,hnb⟩:=HC.out j ks[j] (I9 hlt);generalize ks[j]=x at hd hcl;rw[hd]at h1;cases hfx:f x with
   |none=>simp[fH,hfx]at h1
   |some n1=>
    cases hr:fH f (ks.drop (j+1))with
    |none=>simp[fH,hfx,hr]at h1
    |some r1=>
     simp only[fH,hfx,hr,G5,GX,Z9]at h1;subst h1;have hc:=(CB (a:=⟨b,o+j,none⟩) (h4.block b (cell_lt (a:=⟨b,o+j,none⟩) hcl) hnb)).trans hcl;have hna':¬Wr X l ob' Ba:=λhw=>by
      rcases hw with rfl|rfl|hw
      .exact hna (.inl rfl)
      .exact hna (.inr (.inl rfl))
      .rcases h5 _ hw with h|h
       .exact hna (.inr (.inr h))
       .have:=cell_lt (a:=⟨Ba,0,none⟩) ha;simp at this;omega
     have hM':pre'.length+n1.length<=M:=by have:=congrArg List.length h2;simp only[bQ]at this;omega
     have hcall:=hk x n1 hfx wr pre' ob' hM' h3 (hV.step h4 h5) ((CB (a:=⟨Ba,0,none⟩) (h4.block Ba (cell_lt (a:=⟨Ba,0,none⟩) ha) hna)).trans ha) hna';have HR:=Lib.hid hr;have HD:=Lib.hid h2;have hlt':(j:Int)<(ks.length:Int):=by omega
     have hj0:(0:Int)<=(j:Int):=by omega
     subst hab;clear hcl hfx hd hr h2 ha
     go_wp2_with (go_at_call 108;refine hcall.mono ?_;rintro e w3 ⟨rfl,ob3,hJ3,hF3,ho3⟩)
     go_roundw
     case rel=>
      refine⟨j+1,by go_num,hlt,r1,ob3,pre'++n1,HR.out,by rw[kM];exact HD.out,hJ3,bo6 h4 hF3 h5,λc hc=>?_⟩;rcases ho3 c hc with h|h
      .exact h5 c h
      .exact .inr (X4 h4.size h)
     case measure=>simp[intOf];omega
  .have hlt':¬((j:Int)<(ks.length:Int)):=by omega
   have HL:=Lib.hid hL;clear hL
   go_wp2
   go_ret
   obtain⟨rest,ob',pre',h1,h2,h3,h4,h5⟩:=HL.out;rw[BN (by omega)]at h1;cases h1;rw[List.append_nil]at h2;exact⟨rfl,ob',h2▸h3,h4,h5⟩
theorem f106{t:Tree}{rv bv:Value}{By Bt Bv Ba:Nat}{Z:Zone}{W:World}{ab:Int}{f:Int->Option (List Int)}{ks pre new:List Int}{ob:Option Nat}{v:Value}
 (hk:∀kid new,f kid=some new->∀W(pre:List Int) ob,pre.length+new.length<=M->J pre ob W->vZ X l t rv bv By Bt Bv Z ob W->W.cell? ⟨Ba,0,none⟩=some (.int .i64 ab)->¬Wr X l ob Ba->Calls prog 108 #[.int .i64 kid,ptr Bv 0,ptr Ba 0] W (oH J X l pre new ob W (.bool false)))
 (hM:pre.length+new.length<=M) (hJ:J pre ob W) (hV:vZ X l t rv bv By Bt Bv Z ob W) (ha:W.cell? ⟨Ba,0,none⟩=some (.int .i64 ab)) (hna:¬Wr X l ob Ba) (hs:ax8 X l ob W v ks) (hn:fH f ks=some new):
 Calls prog 106 #[v,.func (.func 108) #[] #[ptr Bv 0,ptr Ba 0]] W (oH J X l pre new ob W (.bool false)):=by
 have cC0:=f190 hk hM hJ hV ha hna hs hn
 go_enter func106,ntmps106
 go_wp2_with (go_at_call 190;refine cC0.mono ?_;rintro e W' ⟨rfl,hp⟩)
 go_ret
 exact⟨rfl,hp⟩
theorem dg8{Z':Zone}{W:World}{ob:Option Nat}{ks:List Int}{x:Value}(h:Rep Z' W (.sl 1 (ks.map F5)) x)(hl:ks.length<=1000000)(hz:∀b o,Z' b o->¬Wr X l ob b):ax8 X l ob W x ks:=by
 generalize hd:ks.map F5=ds at h;cases h with
 |nil _ a cap=>
  obtain rfl:ks=[]:=List.map_eq_nil_iff.1 hd;exact⟨a,cap,rfl,by simp,λj x h=>nomatch h⟩
 |sl _ ds b o cap f hcap hsz hc h=>
  subst hd;refine⟨some ⟨b,o,none⟩,cap,by rw[U7],hl,λj x hx=>⟨b,o,rfl,?_⟩⟩;have h1:(ks.map F5)[j]?=some (F5 x):=by rw[O6,hx];rfl
  obtain⟨z1,z2,_⟩:=hc j 0 _ (I x) h1 rfl;have h3:=h j 0 _ (I x) h1 rfl;rw[vY,oD]at z2;exact⟨z2.trans (congrArg some (sN h3)),hz _ _ z1⟩
theorem visit{t:Tree}{rv bv:Value}{By Bt Bv:Nat}{Z:Zone}
 (DV:∀pre ob W W',J pre ob W->Below W.heap.size W W'->J pre ob W') (yU:∀pre ob W,J pre ob W->X<W.heap.size/\l<W.heap.size/\∀c,ob=some c->c<W.heap.size) (hJg:∀pre ob W,J pre ob W->Gw W)
 (hR:∀m(pre:List Int) ob W x ab,pre.length<M->J pre ob W->YieldAt Fence.wide m prog l #[.int .i64 x,.int .i64 ab] W (oH J X l pre [x] ob W (.bool true)))
 (hks:∀id ks,nU t id=some ks->ks.length<=1000000):∀(N:Nat)(id:Int)(new:List Int),qU t N id=some new->∀(ab:Int)(pre:List Int)(ob:Option Nat)(W:World),pre.length+new.length<=M->J pre ob W->vZ X l t rv bv By Bt Bv Z ob W->
   Calls prog 105 #[.int .i64 id,.int .i64 ab,ptr By 0,ptr Bt 0,ptr Bv 0] W (oH J X l pre new ob W (.bool true))
 |0,_,_,h,_,_,_,_,_,_,_=>nomatch h
 |N+1,id,new,h,ab,pre,ob,W,hM,hJ,hV=>by
  have ih:=visit (rv:=rv) (bv:=bv) (By:=By) (Bt:=Bt) (Bv:=Bv) (Z:=Z) DV yU hJg hR hks N;cases hk:nU t id with
  |none=>simp[qU,hk]at h
  |some ks=>
   cases hp:fH (qU t N) ks with
   |none=>simp[qU,hk,hp]at h
   |some nk=>
    simp only[qU,hk,hp,G5,GX,Z9]at h;subst h;have J1:=DV _ _ _ _ hJ (al W (.cells #[.int .i64 ab] 3));have V1:=hV.step (Fr.of_below (al W (.cells #[.int .i64 ab] 3))) (λc h=>.inl h);have hlt:=yU _ _ _ hJ;have hBa:¬Wr X l ob W.heap.size:=λhw=>by
     rcases hw with h|h|h
     .omega
     .omega
     .have:=hlt.2.2 _ h;omega
    have a1:=(O5 (o:=0) (aW W (.cells #[.int .i64 ab] 3)) rfl).1;have hY:=hR (3-1) pre ob _ id ab (by simp at hM;omega) J1;have hfin:∀W2 qQ,J (pre++[id]) qQ W2->vZ X l t rv bv By Bt Bv Z qQ W2->W2.cell? ⟨W.heap.size,0,none⟩=some (.int .i64 ab)->¬Wr X l qQ W.heap.size->
     Calls prog 107 #[.agg #[rv,bv],.int .i64 id] W2 λe W3=>∃x,e=.returned x/\Fr (Wr X l qQ) W2 W3/\Calls prog 106 #[x,.func (.func 108) #[] #[ptr Bv 0,ptr W.heap.size 0]] W3 (oH J X l (pre++[id]) nk qQ W3 (.bool false)):=λW2 qQ J2 V2 a2 aH4=>by
     have hl2:=yU _ _ _ J2;refine((dt3 hk).2 Z W2 [.agg #[rv,bv],.int .i64 id] (O8.cons V2.rep (O8.cons (.v _) (O8.nil _ _))) (λb o hz=>(V2.z b o hz).1) (λw' hb=>Gs W2 w' (hJg _ _ _ J2) hb)).mono ?_;rintro e W3 ⟨x,Z',rfl,hx,hz1,hz2,hb⟩;have F3:Fr (Wr X l qQ) W2 W3:=Fr.of_below hb;have V3:=V2.step F3 (λc h=>.inl h);refine⟨x,rfl,F3,f106 (M:=M) (λkid n1 hf W pre ob hM hJ hV hBa hna=>f108 hV.v hBa (λa=>ih kid n1 hf a pre ob W hM hJ hV)) (by simp at hM⊢;omega) (DV _ _ _ _ J2 hb) V3 ((hb.cell (p:=⟨W.heap.size,0,none⟩) (cell_lt (a:=⟨W.heap.size,0,none⟩) a2)).trans a2) aH4 (dg8 (hx.pure rfl) (hks id ks hk) λb o hz=>?_) hp⟩;rcases(hz2 b o hz).1 with h|h
     .exact(V2.z b o h).2
     .intro hw;rcases hw with h'|h'|h'
      .omega
      .omega
      .have:=hl2.2.2 _ h';omega
    obtain⟨fn,tmps,assign,body,hy,hRr⟩:=hY;have y1:=V1.y;have HF:=Lib.hid hfin;clear hfin;refine(callsIn_wide (n:=3)).1 ?_;refine callsIn_of_wp func105 rfl trivial ?_ rfl;simp only[ntmps105,pU,pR,List.length_nil,Nat.reduceAdd,Nat.reduceSub,Array.replicate_succ,Array.replicate_zero,List.push_toArray,List.append_toArray,rO,List.cons_append]
    gi_wp2_with fail
    clear hy;refine hRr.mono ?_;rintro e W2 ⟨rfl,qQ,J2,F2,ho2⟩;have hs1:W.heap.size<(W.alloc (.cells #[.int .i64 ab] 3)).heap.size:=by simp
    have V2:=V1.step F2 ho2;have a2:=(CB (a:=⟨W.heap.size,0,none⟩) (F2.block _ hs1 hBa)).trans a1;have aH4:¬Wr X l qQ W.heap.size:=λhw=>by
     rcases hw with h|h|h
     .omega
     .omega
     .rcases ho2 _ h with h'|h'
      .exact hBa (.inr (.inr h'))
      .omega
    have hcall:=HF.out W2 qQ J2 V2 a2 aH4;have t20:=V2.t0;have t21:=V2.t1;have v2:=V2.v;clear y1 a1 hRr
    gi_wp2_with (first|(refine⟨trivial,?_⟩;gi_at_call 107;refine(callsIn_wide.2 hcall).mono ?_;rintro e W3 ⟨x,rfl,F3,cB9⟩)|(refine⟨trivial,?_⟩;gi_at_call 106;refine(callsIn_wide.2 cB9).mono ?_;rintro e W4 ⟨rfl,ob4,J4,F4,ho4⟩))
    go_ret
    have FA:Fr (Wr X l ob) W W2:=(Fr.of_below (al W (.cells #[.int .i64 ab] 3))).trans F2;have hoA:∀c,qQ=some c->ob=some c\/W.heap.size<=c:=λc h=>(ho2 c h).imp_right λh=>by omega
    refine⟨rfl,ob4,by simpa using J4,bo6 FA (F3.trans F4) hoA,λc h=>?_⟩;rcases ho4 c h with h|h
    .exact hoA c h
    .exact .inr (X4 (X4 FA.size F3.size) h)
end
end
end Go.Proofs.YtibiibjbmhckgaaGreatDoor
