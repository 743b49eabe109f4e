import Derived.Test.YtibiibjbmhckgaaGreatDoorQ4
import Derived.Shelf.Spec.SlicesInsertGrow
import Derived.Deep.RegionHeld3
import Derived.Deep.DrawnRows
import Derived.RangeFuncNested
import Derived.RangeFuncBound
import Derived.Laws.EntriesVeiled
set_option linter.unusedVariables false
set_option linter.unusedSimpArgs false
set_option linter.defProp false
namespace Go.Ev
section
open Go Go.F7 Go.RowKit
section
variable{P:Program}{S:U2}{w0:World}{ρ:Ren}{e:Env}{s:St}{a:Act}{w:World}{B m:Nat}
def cX6(R:Loop):Obj.loop R≠lM:=λh=>nomatch h
def Rl.turn(hR:Rl S w0 ρ s w){b q q':Nat}{ps:O1}{aW body:Code}{j j':Option Code}{L:Loc}(hb:s.h.get (pa b)=some (.l q e ps aW body j))(hL:ρ b=some L)(hr:s.ro<=b):
    ∃R,w.heap[L.blk]?=some (.loop ((lQ q j).put R))/\R.params.toList=ps/\R.assign=aW/\R.body=body/\aX ρ e R.tmps/\Rl S w0 ρ ⟨s.h.set (pa b) (some (.l q' e ps aW body j')),s.nx,s.ro⟩ (w.putObj L.blk (.loop ((lQ q' j').put R))):=by
 have⟨L',R,h1,h2,h3,h4,h5,h6,h7⟩:=hR.obj _ _ hb;rw[hL]at h1;injection h1 with h1
 subst h1;refine⟨R,h2,h3,h4,h5,h6,hR.putObj (O':=.loop ((lQ q' j').put R)) hb hL h2 (cX6 _) hr ⟨L,R,hL,JZ h2,h3,h4,h5,h6,h7⟩ λcs=>by simp⟩
def dc1(R:Loop)(q:lF):(q.put R).params=R.params/\(q.put R).tmps=R.tmps/\(q.put R).assign=R.assign/\(q.put R).body=R.body/\(q.put R).fn=R.fn:=by cases q<;>exact⟨rfl,rfl,rfl,rfl,rfl⟩
def bW7{n:Nat}:∀{ps:O1}{args:J7}{vs:H6}{e e0:Env}{tm:S9},bW6 ps args e=some e0->O5 ρ args vs->aX ρ e tm->tm.size=n->allB (λp=>Nat.blt p n) ps=true->
    ps.length=vs.length/\aX ρ e0 ((ps.zip vs).foldl (λ(t:S9) (p:Nat×Value)=>t.setIfInBounds p.1 p.2) tm)/\((ps.zip vs).foldl (λ(t:S9) (p:Nat×Value)=>t.setIfInBounds p.1 p.2) tm).size=n
 |[],[],vs,e,e0,tm,h,hv,he,hn,_=>by
  match vs,hv with
  |[],_=>cases h;exact⟨rfl,he,hn⟩
  |_::_,hv=>have:=hv.1;simp at this
 |[],_::_,_,_,_,_,h,_,_,_,_=>by cases h
 |_::_,[],_,_,_,_,h,_,_,_,_=>by cases h
 |p::ps,v::args,vs,e,e0,tm,h,hv,he,hn,hp=>by
  match vs,hv with
  |[],hv=>have:=hv.1;simp at this
  |x::vs,hv=>
   have hx:RV ρ v x:=hv.2 0 v x rfl rfl;have hs:O5 ρ args vs:=⟨by have:=hv.1;simpa using this,λj c y h1 h2=>hv.2 (j+1) c y (by simpa using h1) (by simpa using h2)⟩;have hp0:=AL hp p (by simp);have hps:allB (λp=>Nat.blt p n) ps=true:=by
    have h0:allB (λp=>Nat.blt p n) (p::ps)=bq (Nat.blt p n) (allB (λp=>Nat.blt p n) ps) false:=rfl;rw[h0,hp0]at hp;exact hp
   have he':aX ρ (yM p v e) (tm.setIfInBounds p x):=aX.put (a:={ tmps:=tm,defers:=[] }) (d:=some p) he (by simpa[inRange,hn]using hp0) hx;have⟨h1,h2,h3⟩:=bW7 (e:=yM p v e) (e0:=e0) (tm:=tm.setIfInBounds p x) h hs he' (by simpa using hn) hps;exact⟨by simp[h1],h2,h3⟩
def de1{r:RC}{k:Ex->Env->St->RO}(h:RC.rec (motive:=λ_=>RO) .no k (λ_=>.no) r≠.no):∃x e s,r=.one x e s/\k x e s≠.no:=by
 cases r with
 |no=>grind
 |one x e s=>grind
 |many l=>grind
def cK2{x x':Ex}{e':Env}{s':St}(h:jG (.one x e s) x' e' s'):x'=x/\e'=e/\s'=s:=by
 rcases h with h|⟨l,h,_⟩
 .grind
 .cases h
def yU:Ex->Option Code
 |.n=>none
 |.r=>some .ret
 |.x id=>some (.exit id)
theorem dg8(hR:Rl S w0 ρ s w){b:Nat}{L:Loc}(hL:ρ b=some L){x:Ex}(h:roundEnd b x e s≠.no):
 ∃bl s' w',roundEnd b x e s=.one (.q bl) s'/\(Instr.endRound L.blk (yU x)).run P w=.ok (.bool bl) w'/\Rl S w0 ρ s' w'/\s'.ro=s.ro/\s'.nx=s.nx:=by
 unfold roundEnd at h⊢;split at h
 rotate_left
 .grind
 rename_i e1 ps aW body j hb;have fin:∀(q:Nat)(jo:Option Code)(bl:Bool),setH s b (some (.l q e1 ps aW body jo)) (λs=>RO.one (.q bl) s)≠.no->bl=(yU x).isNone->(∀R:Loop,(lQ q jo).put R={ (lQ 1 j).put R with state:=if(yU x).isNone then .ready else .done,pending:=yU x })->
  ∃bl' s' w',setH s b (some (.l q e1 ps aW body jo)) (λs=>RO.one (.q bl) s)=.one (.q bl') s'/\(Instr.endRound L.blk (yU x)).run P w=.ok (.bool bl') w'/\Rl S w0 ρ s' w'/\s'.ro=s.ro/\s'.nx=s.nx:=by
  intro q jo bl h1 h2 h3;have⟨h4,h5⟩:=uK h1;have⟨R,t1,_,_,_,_,t6⟩:=hR.turn (q':=q) (j':=jo) hb hL h4;refine⟨bl,_,_,h5,?_,t6,rfl,rfl⟩;rw[h3 R,h2];exact run_endRound (P:=P) (yU x) t1
 cases x with
 |n=>exact fin 0 none true h rfl λR=>rfl
 |r=>exact fin 2 (some .ret) false h rfl λR=>rfl
 |x id=>exact fin 2 (some (.exit id)) false h rfl λR=>rfl
def dh0(hP:qO P){up:Runner}(hup:wG P up){b:Nat}{args:J7}{vs:H6}(hv:O5 ρ args vs)(hR:Rl S w ρ s w){L:Loc}(hL:ρ b=some L)(h:ag1 up b args s≠.no):
    ∃R:Loop,w.heap[L.blk]?=some (.loop R)/\vs.length=R.params.size/\RoundIn (eU none) 0 P L.blk R.fn ((R.params.zip vs.toArray).foldl (λtmps (t,a)=>tmps.setIfInBounds t a) R.tmps) R.assign R.body w λen w'=>
     ∃v s' ρ' x,en=.returned x/\Has (ag1 up b args s) v s'/\Ext ρ ρ'/\Rl S w ρ' s' w'/\s'.ro=s.ro/\s.nx<=s'.nx/\RV ρ' v x:=by
 unfold ag1 at h⊢;split at h
 rotate_left
 .grind
 rename_i e1 ps aW body j hb;have⟨e0,h1,h2⟩:=L6 h;rw[h2]at h⊢;clear h2;have⟨x1,e2,s1,h3,h4⟩:=de1 h;rw[h3]at h⊢;have⟨L',R,g1,g2,g3,g4,g5,g6,g7⟩:=hR.obj _ _ hb;rw[hL]at g1;injection g1 with g1
 subst g1;simp only[Z4]at g7;have⟨⟨⟨⟨k1,k2⟩,k3⟩,k4⟩,k5⟩:=g7;have⟨p1,p2,p3,p4,p5⟩:=dc1 R (lQ 0 j);have⟨q1,q2,q3⟩:=bW7 (ρ:=ρ) h1 hv g6 rfl k1;refine⟨_,g2,by rw[p1,<-q1,<-g3];simp,?_⟩;rw[p1,p2,p3,p4,p5,g4,g5];have hfold:((R.params.zip vs.toArray).foldl (λtmps (t,a)=>tmps.setIfInBounds t a) R.tmps)=(ps.zip vs).foldl (λ(tmps:S9) (p:Nat×Value)=>tmps.setIfInBounds p.1 p.2) R.tmps:=by
  rw[<-zL,Array.toList_zip,g3]
 rw[hfold];refine roundIn_of_wpIn trivial ?_;have hpre:Pre S w.heap.size R.tmps.size ρ e0 s { tmps:=(ps.zip vs).foldl (λ(tmps:S9) (p:Nat×Value)=>tmps.setIfInBounds p.1 p.2) R.tmps,defers:=[] } w:=
  ⟨Ext.refl _,hR,rfl,N8 _,q2,q3,trivial,N8 _⟩
 refine hup aW R.tmps.size k2 (some L.blk) (.inr k4) S w.heap.size ρ e0 s _ w _ hpre (by rw[h3];exact λe=>by cases e) λx e' s' ρ' a' w' hh hp=>?_;rw[h3]at hh;obtain⟨rfl,rfl,rfl⟩:=cK2 hh;replace h:ag2 up b body x e' s'≠.no:=h;have e3:(RC.rec (motive:=λ_=>RO) .no (ag2 up b body) (λ_=>.no) (RC.one x e' s'):RO)=ag2 up b body x e' s':=rfl;rw[e3];unfold ag2 at h⊢;split at h
 rotate_left
 .grind
 rename_i e4 ps4 bm2 bd4 j4 hb4;have⟨h5,h6⟩:=uK h;rw[h6]at h⊢;clear h6;have⟨h7,h8⟩:=bR3 h;have hL4:=hp.ext b L hL;have⟨R4,t1,t2,t3,t4,t5,t6⟩:=hp.rl.turn (q':=1) (j':=none) hb4 hL4 h5;show Exit.then _ _ (BK .n) a' w'
 refine⟨_,run_beginRound (P:=P) t1 rfl,?_⟩;have hk4:Kept (λk=>k≠L.blk) w' (w'.putObj L.blk (.loop ((lQ 1 none).put R4))):=⟨rfl,rfl,rfl,by simp,λk hk=>jA hk,λk hk=>(jA (λe=>by rw[e,t1]at hk;exact nomatch hk)).trans hk⟩;have cN9:Pre S w.heap.size R.tmps.size ρ' e' ⟨s'.h.set (pa b) (some (.l 1 e4 ps4 bm2 bd4 none)),s'.nx,s'.ro⟩ a' (w'.putObj L.blk (.loop ((lQ 1 none).put R4))):=
  ⟨Ext.refl _,t6.ae4,rfl,N8 _,hp.env,hp.sz,hp.dK.kept hk4,by have:=hp.bw;simpa using this⟩
 refine hup body R.tmps.size k3 (some L.blk) (.inr k5) S w.heap.size ρ' e' _ a' _ _ cN9 h7 λx2 e5 s5 ρ5 a5 w5 hh5 hp5=>?_;have⟨h9,h10⟩:=h8 x2 e5 s5 hh5;have hk5:Rl S w ρ5 s5 w5:=hp5.rl.onto t6.kept hR.slt t6.gs;have⟨bl,s6,w6,m1,m2,m3,m4,m5⟩:=dg8 (P:=P) (w0:=w) hk5 (hp5.ext b L hL4) h9;have hgoal:∃v w',(Instr.endRound L.blk (yU x2)).run P w5=.ok v w'/\∃v' s'' XQ x,Ending.returned v=.returned x/\Has (RC.rec (motive:=λ_=>RO) .no (roundEnd b) (λl=>wH (jS (λw=>roundEnd b w.1 w.2.1 w.2.2) l)) (up body e' ⟨s'.h.set (pa b) (some (.l 1 e4 ps4 bm2 bd4 none)),s'.nx,s'.ro⟩)) v' s''/\
  Ext ρ XQ/\Rl S w XQ s'' w'/\s''.ro=s.ro/\s.nx<=s''.nx/\RV XQ v' x:=
  ⟨_,w6,m2,.q bl,s6,ρ5,_,rfl,h10 _ _ (.inl m1),hp.ext.trans hp5.ext,m3,(m4.trans hp5.ro).trans hp.ro,Y2 hp.nx (Y2 hp5.nx (Nat.le_of_eq m5.symm)),.q bl⟩
 cases x2<;>exact hgoal
def dj2(hP:qO P){up:Runner}(hup:wG P up)(o:Oper)(fo:Operand)(args:yD)(tys:Array Nat)(ho:o.op=.call ⟨.value fo,args,tys⟩):cZ P o (IY up ⟨.value fo,args,tys⟩):=by
 intro S w0 ρ e s a w next Q h he hR hn
 have⟨us,h1,h2⟩:=L6 h;replace h2:IY up ⟨.value fo,args,tys⟩ e s=oR (look fo e) λfv=>an3 up fv us s:=h2;rw[h2]at h hn;clear h2;have⟨fv,h3,h4⟩:=L6 h;rw[h4]at h hn;clear h4;have hv:=as2 h1 he;have hf:=bG h3 he;have wW:args.map a.eval=(args.toList.map a.eval).toArray:=by grind
 have⟨dst,op,type,pos,after,guard⟩:=o;simp only at ho;subst ho;rcases dD3 (show bg8 fv _ _≠.no from h)with⟨f,fs,cs,rfl⟩|⟨b,rfl⟩
 .have e0:an3 up (.f f fs cs) us s=aG3 up f (fV fs (fV us cs)) s:=rfl;rw[e0,qU,qU]at h hn;unfold aG3 at h hn;cases hev:aK1 f with
  |some g=>
   rw[hev]at h hn;have⟨v,k1,k2⟩:=L6 (show oR (g (fs++(us++cs))) (λa=>RO.one a s)≠.no from h);replace hn:∀v s' ρ' x w',Has (oR (g (fs++(us++cs))) λa=>RO.one a s) v s'->Ext ρ ρ'->Rl S w0 ρ' s' w'->s'.ro=s.ro->s.nx<=s'.nx->RV ρ' v x->next (Act.put a dst x) w':=hn
   generalize hax:a.eval fo=y at hf;cases hf with
   |f _ _ _ vs us' g1 g2 g3 g4=>
    have hall:O5 ρ (fs++(us++cs)) (vs++(args.toList.map a.eval++us')):=O5.append ⟨g1,g3⟩ (hv.append ⟨g2,g4⟩);have⟨x,k3,k4⟩:=hP.bt3 f g hev ρ _ v _ w k1 hall (hR.gs w hR.kept);have hE:vs.toArray++args.map a.eval++us'.toArray=(vs++(args.toList.map a.eval++us')).toArray:=by grind
    refine bP (x:=x) (w':=w) ?_ (hn v s ρ x w (.inl k2) (Ext.refl _) hR rfl (N8 _) k4);simp only[execOp,resolve,Deferred.ofValue,hax,invoke,J6,U5,O8,hE];exact k3
  |none=>
  rw[hev]at h hn;replace h:AZ up f (fs++(us++cs)) s≠.no:=h;replace hn:∀v s' ρ' x w',Has (AZ up f (fs++(us++cs)) s) v s'->Ext ρ ρ'->Rl S w0 ρ' s' w'->s'.ro=s.ro->s.nx<=s'.nx->RV ρ' v x->next (Act.put a dst x) w':=hn
  have⟨⟨fn,hfn,hnm,hbd⟩,hcall⟩:=aG4 hP hup f _ s h;generalize hax:a.eval fo=y at hf;cases hf with
  |f _ _ _ vs us' g1 g2 g3 g4=>
   have hall:O5 ρ (fs++(us++cs)) (vs++(args.toList.map a.eval++us')):=O5.append ⟨g1,g3⟩ (hv.append ⟨g2,g4⟩);have hc:=hcall S ρ _ w hall hR.ae4;refine QS (λ_ h=>nomatch h) ?_;have hnm':¬(fn.name= "runtime.NumGoroutine"):=by grind
   have wX:¬(fn.body=none):=λe=>by grind
   have hE:vs.toArray++args.map a.eval++us'.toArray=(vs++(args.toList.map a.eval++us')).toArray:=by grind
   have hrun:(execOp a.eval ⟨dst,.call ⟨.value fo,args,tys⟩,type,pos,after,guard⟩).run P w=.ok (.enter f (vs++(args.toList.map a.eval++us')).toArray) w:=by
    simp only[execOp,resolve,Deferred.ofValue,hax,invoke,callFunc,J6,U5,O8,hE];simp[Go.program,Sem.run,hfn,hnm',wX]
   unfold Oper.wp;rw[hrun];simp only[Oper.upon];refine hc.mono ?_;rintro en w' ⟨v,s',ρ',x,rfl,q1,q2,q3,q4,q5,q6⟩;exact hn v s' ρ' x w' q1 q2 (q3.onto hR.kept hR.slt hR.gs) q4 q5 q6
 .have e0:an3 up (.y b) us s=ag1 up b us s:=rfl;rw[e0]at h hn;generalize hax:a.eval fo=y at hf;cases hf with
  |y _ L hL=>
   have⟨R,g1,g2,g3⟩:=dh0 hP hup hv hR.ae4 hL h;have hy:=run_yield (P:=P) (args:=(args.toList.map a.eval).toArray) g1 (by simpa using g2);have hrun:(execOp a.eval ⟨dst,.call ⟨.value fo,args,tys⟩,type,pos,after,guard⟩).run P w=.ok (.round L.blk R.fn ((R.params.zip (args.toList.map a.eval).toArray).foldl (λtmps (t,a)=>tmps.setIfInBounds t a) R.tmps) R.assign R.body) w:=by
    simp only[execOp,resolve,Deferred.ofValue,hax,invoke,J6,U5,O8,Array.empty_append,wW];exact hy
   intro τ;refine⟨λ_ _=>trivial,?_⟩;rw[Oper.semAt_eq _ _ (⟨dst,.call ⟨.value fo,args,tys⟩,type,pos,after,guard⟩:Oper) (λ_ h=>nomatch h),hrun];refine⟨λh=>absurd h (by simp[Fence.wide]),?_⟩;refine RoundIn.mono (F:=eU τ) (n:=0) g3 ?_;rintro en w' ⟨v,s',ρ',x,rfl,q1,q2,q3,q4,q5,q6⟩;exact hn v s' ρ' x w' q1 q2 (q3.onto hR.kept hR.slt hR.gs) q4 q5 q6
def c98{o:Oper}:cZ P o (λ_ _=>.no):=λS w0 ρ e s a w next Q h=>absurd rfl h
def bM3(hP:qO P){up:Runner}(hup:wG P up)(o:Oper):cZ P o (jB o.op up):=by
 have hT:=hP.ty;have hS:=hP.sk;have⟨dst,op,type,pos,after,guard⟩:=o;cases op with
 |move x=>exact bW0 _ x (.inl rfl)
 |assign x=>exact bW0 _ x (.inr rfl)
 |pick c x y=>exact dl2 _ c x y rfl
 |alloc t=>exact di6 hT _ t rfl
 |box t x=>exact di8 _ t x rfl
 |build t ps=>exact di9 hT _ t ps rfl
 |buildSlice t n ps=>exact dj0 hT _ t n ps rfl
 |insert t m k v=>exact bV9 hT hS _ t m k v (.inr rfl)
 |load t x=>exact dk5 hT _ t x rfl
 |store t x y=>exact dl5 hT _ t x y rfl
 |nilCheck x=>exact dl1 _ x rfl
 |binOp op t x y u=>exact di7 hT _ op t x y u rfl
 |unOp op t x=>exact dl6 _ op t x rfl
 |convert sr d x=>exact dj3 hT hP.YG _ sr d x rfl
 |makeFunc f a b=>exact dk7 _ f a b rfl
 |makeMap t r=>exact dk8 _ t r rfl
 |slice t x lo hi mx=>exact dl4 hT _ t x lo hi mx rfl
 |fieldAddr t x k=>exact dj8 hT _ t x k rfl
 |field t x k=>exact dj7 hT _ t x k rfl
 |indexAddr t x i=>exact dk4 hT _ t x i rfl
 |index t x i=>exact dj9 hT _ t x i rfl
 |lookup t m k ok=>exact dk6 hT hS _ t m k ok rfl
 |mapUpdate t m k v=>exact bV9 hT hS _ t m k v (.inl rfl)
 |mapEntry t m k=>exact dk9 hT hS _ t m k rfl
 |entryStore t m st v=>exact dj5 _ t m st v rfl
 |range t x=>exact dl3 hT _ t x rfl
 |next x q=>exact dl0 _ x q rfl
 |entry x=>exact dj4 _ x rfl
 |extract x k=>exact dj6 _ x k rfl
 |call c=>
  have⟨callee,args,tys⟩:=c;cases callee with
  |builtin b=>exact dj1 hT up _ b args tys rfl
  |value f=>exact dj2 hP hup _ f args tys rfl
  |invoke r m=>exact λS w0 ρ e s a w next Q h=>absurd (by
    show oR (tX args.toList e) (λ_=>RO.no)=.no
    cases tX args.toList e<;>rfl) h
 |_=>exact c98
end
def D9(R:Hp->Hp->Prop)(f:St->RO):Prop:=∀s s2:St,R s.h s2.h->(∃v,f s=.one v s/\f s2=.one v s2)\/(f s=.no/\f s2=.no)
section
variable{R:Hp->Hp->Prop}
def D9.one(v:AV):D9 R (λs=>.one v s):=λs s2 _=>.inl ⟨v,rfl,rfl⟩
def D9.no:D9 R (λ_=>.no):=λs s2 _=>.inr ⟨rfl,rfl⟩
def D9.oR{α:Type}(a:Option α){k:α->St->RO}(h:∀x,D9 R (k x)):D9 R (λs=>Ev.oR a λx=>k x s):=by
 rcases a with _|x
 .exact D9.no
 .exact h x
def D9.bR(c:Bool){k:St->RO}(h:D9 R k):D9 R (λs=>Ev.bR c (k s)):=by
 rcases c with _|_
 .exact D9.no
 .exact h
def D9.bq(c:Bool){k k':St->RO}(h:D9 R k)(h':D9 R k'):D9 R (λs=>Ev.bq c (k s) (k' s)):=by
 rcases c with _|_
 .exact h'
 .exact h
def D9.EN(a:AV){k:IntKind->Nat->St->RO}(h:∀x y,D9 R (k x y)):D9 R (λs=>Ev.EN a λx y=>k x y s):=by cases a<;>first|exact h _ _|exact D9.no
def D9.aj6(a:AV){k k':St->RO}(h:D9 R k)(h':D9 R k'):D9 R (λs=>Ev.aj6 a (k s) (k' s)):=by cases a<;>first|exact D9.bq _ h h'|exact D9.no
def D9.oP(a:AV){k:Nat->Nat->St->RO}(h:∀x y,D9 R (k x y)):D9 R (λs=>Ev.oP a λx y=>k x y s):=by cases a<;>first|exact h _ _|exact D9.no
def D9.XL(a:AV){k:Nat->Nat->Nat->E8->St->RO}(h:∀x y z u,D9 R (k x y z u)):D9 R (λs=>Ev.XL a λx y z u=>k x y z u s):=by cases a<;>first|exact h _ _ _ _|exact D9.no
def D9.EM(a:AV){k:J7->St->RO}(h:∀x,D9 R (k x)):D9 R (λs=>Ev.EM a λx=>k x s):=by cases a<;>first|exact h _|exact D9.no
def D9.iU(b:Nat){k:Nat->J7->St->RO}(h:∀x y,D9 Eq (k x y)):D9 Eq (λs=>Ev.iU s b λx y=>k x y s):=by
 intro s s2 he;show(∃v,Ev.oR (s.h.get (pa b)) _=_/\Ev.oR (s2.h.get (pa b)) _=_)\/(Ev.oR (s.h.get (pa b)) _=_/\Ev.oR (s2.h.get (pa b)) _=_);rw[he];rcases s2.h.get (pa b)with _|o
 .exact .inr ⟨rfl,rfl⟩
 .cases o with
  |c el cs=>exact h el cs s s2 he
  |_=>exact .inr ⟨rfl,rfl⟩
def aX3(b o:Nat):D9 R (af4 b o):=λs s2 _=>.inl ⟨_,af5 _ _ _,af5 _ _ _⟩
def bO2(k:IntKind)(n:Nat):D9 R (af0 k n):=λs s2 _=>.inl ⟨_,af2 _ _ _,af2 _ _ _⟩
def aX4(b o l:Nat)(c:E8):D9 R (af6 b o l c):=λs s2 _=>.inl ⟨_,aw5 _ _ _ _ _,aw5 _ _ _ _ _⟩
end
def bO1{op:Op}(h:iT op=0)(up:Runner)(e:Env):D9 (λ_ _=>True) (jB op up e):=by
 cases op with
 |move x=>exact D9.oR _ λa=>D9.one a
 |assign x=>exact D9.oR _ λa=>D9.one a
 |pick c x y=>exact D9.oR _ λa=>D9.aj6 a (D9.oR _ λa=>D9.one a) (D9.oR _ λa=>D9.one a)
 |build t ps=>exact D9.oR _ λa=>D9.oR _ λz=>D9.oR _ λz=>D9.one _
 |nilCheck x=>exact D9.oR _ λa=>D9.bR _ (D9.one a)
 |binOp op t x y u=>exact D9.oR _ λa=>D9.oR _ λb=>D9.oR _ λr=>D9.one r
 |unOp op t x=>exact D9.oR _ λa=>D9.oR _ λr=>D9.one r
 |makeFunc f fs cs=>
  cases f with
  |func f=>exact D9.oR _ λa=>D9.oR _ λr=>D9.one _
  |_=>exact D9.no
 |fieldAddr t x k=>exact D9.oR _ λa=>D9.oR _ λw=>D9.bR _ (D9.oP _ λb o=>aX3 _ _)
 |field t x k=>exact D9.oR _ λa=>D9.oR _ λw=>D9.EM _ λcs=>D9.oR _ λr=>D9.one r
 |indexAddr t x i=>exact D9.oR _ λa=>D9.oR _ λi=>D9.oR _ λw=>D9.oR _ λz=>D9.EN _ λ_ n=>D9.bq _ (D9.XL _ λb o l _=>D9.bR _ (aX3 _ _)) (D9.oR _ λl=>D9.oP _ λb o=>D9.bR _ (aX3 _ _))
 |index t x i=>
  refine D9.oR _ λa=>D9.oR _ λi=>D9.EN _ λ_ n=>D9.bq _ ?_ (D9.oR _ λl=>D9.oR _ λw=>D9.oR _ λz=>D9.EM _ λcs=>D9.bR _ (D9.oR _ λr=>D9.one r));cases a with
  |str l=>exact D9.oR _ λc=>D9.one _
  |_=>exact D9.no
 |extract x k=>
  refine D9.oR _ λa=>?_;cases a with
  |t cs=>exact D9.oR _ λa=>D9.one a
  |_=>exact D9.no
 |call c=>
  exfalso;have⟨callee,_,_⟩:=c;cases callee with
  |builtin b=>cases b<;>simp[iT]at h
  |_=>simp[iT]at h
 |_=>simp[iT]at h
def da9{op:Op}(h:iT op=1)(up:Runner)(e:Env):D9 Eq (jB op up e):=by
 cases op with
 |load t x=>exact D9.oR _ λa=>D9.oP _ λb o=>D9.iU b λ_ cs=>D9.oR _ λv=>D9.one v
 |slice t x lo hi mx=>
  refine D9.bR _ (D9.oR _ λa=>D9.oR _ λlo=>D9.oR _ λhi=>D9.oR _ λmx=>?_);unfold ay6;split
  .exact D9.oR _ λw=>D9.oR _ λr=>D9.one _
  .refine D9.oR _ λz=>D9.oR _ λw=>?_;unfold rowIs;split
   .exact aX4 _ _ _ _
   .exact D9.iU _ λfB _=>D9.bR _ (aX4 _ _ _ _)
  .exact D9.oR _ λ_=>D9.oR _ λ_=>D9.one _
  .exact D9.oR _ λz=>D9.oR _ λw=>aX4 _ _ _ _
  .exact D9.no
 |convert sr d x=>
  refine D9.oR _ λa=>?_;unfold ao4;split
  .unfold ao3;refine D9.oR _ λi=>D9.oR _ λj=>?_;split
   .exact D9.oR _ λz=>D9.bR _ (D9.iU _ λ_ cs=>D9.bR _ (D9.one _))
   .exact D9.oR _ λz=>D9.bR _ (D9.iU _ λel cs=>D9.bR _ (D9.bR _ (D9.bR _ (D9.bR _ (D9.one _)))))
   .exact D9.no
  .exact D9.oR _ λ_=>D9.oR _ λr=>D9.one r
 |lookup t m k ok=>
  refine D9.oR _ λm=>D9.oR _ λk=>D9.bR _ (D9.oR _ λvt=>?_);intro s s2 he;have e1:mapOf s.1 m=mapOf s2.1 m:=by grind
  simp only[e1]
  have:=D9.oR (R:=Eq) (mapOf s2.1 m) (k:=λes s=>oR (ZI k es) λr=>match r with
   |some w=>.one (bq ok (.t [w.2,.q true]) w.2) s
   |none=>oR (QW I7 vt) λz=>oR (partT vt z 0) λv=>.one (bq ok (.t [v,.q false]) v) s) (λes=>D9.oR _ λr=>by
    cases r with
    |some w=>exact D9.one _
    |none=>exact D9.oR _ λz=>D9.oR _ λv=>D9.one _)
  exact this s s2 he
 |call c=>
  have⟨callee,args,tys⟩:=c;cases callee with
  |builtin b=>
   cases b with
   |len=>
    refine D9.oR _ λvs=>?_;show D9 Eq λs=>lK .len tys.toList vs s;intro s s2 he;unfold lK;split
    .split
     .rename_i t _;refine D9.bR (R:=Eq) (NZ t _) (k:=λs=>UD _ s) ?_ s s2 he;intro s s2 he;unfold UD;split
      .exact bO2 _ _ s s2 he
      .grind
      .grind
      .grind
      .dsimp only;rw[show s.1=s2.1 from he];split
       .exact bO2 _ _ s s2 he
       .grind
      .grind
     .grind
    all_goals first|(rename_i hh;cases hh;done)|exact .inr ⟨rfl,rfl⟩
   |_=>simp[iT]at h
  |_=>simp[iT]at h
 |_=>simp[iT]at h
def D9.weak{f:St->RO}(h:D9 (λ_ _=>True) f):D9 Eq f:=λs s2 _=>h s s2 trivial
def aS3{l:List Operand}{e e':Env}(h:∀x∈l,look x e=look x e'):tX l e=tX l e':=by
 induction l with
 |nil=>rfl
 |cons x l ih=>
  show oB (look x e) (λa=>oB (tX l e) λr=>some (a::r))=oB (look x e') (λa=>oB (tX l e') λr=>some (a::r))
  grind
def bO4(at':Nat->FH){ps:KU}{e e':Env}(h:∀x∈ps.map (·.2),look x e=look x e'):∀z,DU at' ps e z=DU at' ps e' z:=by
 induction ps with
 |nil=>exact λ_=>rfl
 |cons p ps ih=>
  intro z;have e0:∀e,DU at' (p::ps) e z=oB (at' p.1) λw=>oB (look p.2 e) λa=>bg (Nat.beq (dM (cellsOf a)) w.2) (bg (Nat.ble 1 w.2) (oB (xG w.1 (cellsOf a) z) λz=>DU at' ps e z)):=λ_=>rfl;rw[e0,e0,h p.2 (by simp)];congr 1;funext w;congr 1;funext a;congr 2;congr 1;funext z'
  grind
def aW2{o:zZ}{e e':Env}(h:∀x∈o.toArray,look x e=look x e'):DN o e=DN o e':=by
 rcases o with _|x
 .rfl
 .show oB (look x e) _=oB (look x e') _;rw[h x (by simp)]
theorem c97{op:Op}{up:Runner}{e e':Env}(h:∀x∈op.operands,look x e=look x e')(s:St):jB op up e s=jB op up e' s:=by
 cases op with
 |move x=>show DL x e s=DL x e' s;unfold DL;rw[h x (by simp[Op.operands])]
 |assign x=>show DL x e s=DL x e' s;unfold DL;rw[h x (by simp[Op.operands])]
 |pick c x y=>show VL c x y e s=VL c x y e' s;unfold VL;rw[h c (by simp[Op.operands]),h x (by simp[Op.operands]),h y (by simp[Op.operands])]
 |alloc t=>rfl
 |box t x=>show UQ t x e s=UQ t x e' s;unfold UQ;rw[h x (by simp[Op.operands])]
 |build t ps=>show UR t ps e s=UR t ps e' s;unfold UR;simp only[λz w=>bO4 w (ps:=ps.toList) (e:=e) (e':=e') (λx hx=>h x (by simpa[Op.operands]using hx)) z]
 |buildSlice t n ps=>show IX t n ps e s=IX t n ps e' s;unfold IX;simp only[λz w=>bO4 w (ps:=ps.toList) (e:=e) (e':=e') (λx hx=>h x (by simpa[Op.operands]using hx)) z]
 |insert t m k v=>show yZ t m k v e s=yZ t m k v e' s;unfold yZ;rw[h m (by simp[Op.operands]),h k (by simp[Op.operands]),h v (by simp[Op.operands])]
 |load t x=>show VF t x e s=VF t x e' s;unfold VF;rw[h x (by simp[Op.operands])]
 |store t x y=>show VP t x y e s=VP t x y e' s;unfold VP;rw[h x (by simp[Op.operands]),h y (by simp[Op.operands])]
 |nilCheck x=>show VK x e s=VK x e' s;unfold VK;rw[h x (by simp[Op.operands])]
 |binOp op t x y u=>show UO op t x y u e s=UO op t x y u e' s;unfold UO;rw[h x (by simp[Op.operands]),h y (by simp[Op.operands])]
 |unOp op t x=>show VQ op t x e s=VQ op t x e' s;unfold VQ;rw[h x (by simp[Op.operands])]
 |convert sr d x=>show UU sr d x e s=UU sr d x e' s;unfold UU;rw[h x (by simp[Op.operands])]
 |makeFunc f fs cs=>
  show VH f fs cs e s=VH f fs cs e' s;unfold VH;rw[aS3 (l:=fs.toList) (e':=e') λx hx=>h x (by simp[Op.operands];exact .inl (by simpa using hx)),aS3 (l:=cs.toList) (e':=e') λx hx=>h x (by simp[Op.operands];exact .inr (by simpa using hx))]
 |makeMap t r=>rfl
 |slice t x lo hi mx=>
  show VO t x lo hi mx e s=VO t x lo hi mx e' s;unfold VO;rw[h x (by simp[Op.operands]),aW2 (o:=lo) (e':=e') λx hx=>h x (by simp[Op.operands]at hx⊢;simp[hx]),aW2 (o:=hi) (e':=e') λx hx=>h x (by simp[Op.operands]at hx⊢;simp[hx]),aW2 (o:=mx) (e':=e') λx hx=>h x (by simp[Op.operands]at hx⊢;simp[hx])]
 |fieldAddr t x k=>show VB t x k e s=VB t x k e' s;unfold VB;rw[h x (by simp[Op.operands])]
 |field t x k=>show VA t x k e s=VA t x k e' s;unfold VA;rw[h x (by simp[Op.operands])]
 |indexAddr t x i=>show VE t x i e s=VE t x i e' s;unfold VE;rw[h x (by simp[Op.operands]),h i (by simp[Op.operands])]
 |index t x i=>show VD t x i e s=VD t x i e' s;unfold VD;rw[h x (by simp[Op.operands]),h i (by simp[Op.operands])]
 |lookup t m k ok=>show VG t m k ok e s=VG t m k ok e' s;unfold VG;rw[h m (by simp[Op.operands]),h k (by simp[Op.operands])]
 |mapUpdate t m k v=>show yZ t m k v e s=yZ t m k v e' s;unfold yZ;rw[h m (by simp[Op.operands]),h k (by simp[Op.operands]),h v (by simp[Op.operands])]
 |mapEntry t m k=>show VI t m k e s=VI t m k e' s;unfold VI;rw[h m (by simp[Op.operands]),h k (by simp[Op.operands])]
 |entryStore t m st v=>show UY t m st v e s=UY t m st v e' s;unfold UY;rw[h m (by simp[Op.operands]),h st (by simp[Op.operands]),h v (by simp[Op.operands])]
 |range t x=>show VN t x e s=VN t x e' s;unfold VN;rw[h x (by simp[Op.operands])]
 |next x q=>show VJ x q e s=VJ x q e' s;unfold VJ;rw[h x (by simp[Op.operands])]
 |entry x=>show UW x e s=UW x e' s;unfold UW;rw[h x (by simp[Op.operands])]
 |extract x k=>show UZ x k e s=UZ x k e' s;unfold UZ;rw[h x (by simp[Op.operands])]
 |call c=>
  have⟨callee,args,tys⟩:=c;show IY up ⟨callee,args,tys⟩ e s=IY up ⟨callee,args,tys⟩ e' s;unfold IY;rw[aS3 (l:=args.toList) (e':=e') λx hx=>h x (by simp[Op.operands,Call.operands];exact .inr (by simpa using hx))];cases callee with
  |value f=>simp only[bo5];rw[h f (by simp[Op.operands,Call.operands])]
  |_=>rfl
 |_=>rfl
def c33{P:Program}(hP:qO P){up:Runner}{o:Oper}(h:iT o.op=3):EZ P o (jB o.op up):=by
 have⟨dst,op,type,pos,after,guard⟩:=o;cases op with
 |alloc t=>exact bH3 hP.ty _ t rfl
 |box t x=>exact bH4 _ t x rfl
 |buildSlice t n ps=>exact bH5 hP.ty _ t n ps rfl
 |makeMap t r=>exact bH6 _ t r rfl
 |call c=>
  exfalso;have⟨callee,_,_⟩:=c;cases callee with
  |builtin b=>cases b<;>simp[iT]at h
  |_=>simp[iT]at h
 |_=>simp[iT]at h
structure oC(S:Nat->Prop)(w0:World)(ρ:Ren)(T:Nat->AO->Prop)(nx ro:Nat)(w:World):Prop where
 kept:Kept S w0 w
 slt:∀k,S k->k<w0.heap.size
 gs:∀w',Kept S w0 w'->GE w'
 fresh:∀b,nx<=b->ρ b=none
 oO:ro<=nx
 obj:∀b o,T b o->X7 ρ w b o
 own:∀b o L,T b o->ρ b=some L->ro<=b->¬S L.blk
 lJ:∀b cs L,T b (.c mM cs)->ρ b=some L->L.sh=0
 inj:∀b b' o o' L L',T b o->T b' o'->ρ b=some L->ρ b'=some L'->L.blk=L'.blk->b=b'
def told(s:St):Nat->AO->Prop:=λb o=>s.h.get (pa b)=some o
section
variable{P:Program}{S:U2}{w0:World}{ρ:Ren}{e:Env}{s:St}{a:Act}{w:World}{B m:Nat}{T T':Nat->AO->Prop}{nx ro:Nat}
def oC.dz5(h:oC S w0 ρ T s.nx s.ro w)(hs:∀b o,told s b o->T b o):Rl S w0 ρ s w:=
 ⟨h.kept,h.slt,h.gs,h.fresh,h.oO,λb o hb=>h.obj b o (hs b o hb),λb o L hb=>h.own b o L (hs b o hb),λb cs L hb=>h.lJ b cs L (hs b _ hb),λb b' o o' L L' hb hb'=>h.inj b b' o o' L L' (hs b o hb) (hs b' o' hb')⟩
def oC.sub(h:oC S w0 ρ T nx ro w)(hs:∀b o,T' b o->T b o):oC S w0 ρ T' nx ro w:=
 ⟨h.kept,h.slt,h.gs,h.fresh,h.oO,λb o hb=>h.obj b o (hs b o hb),λb o L hb=>h.own b o L (hs b o hb),λb cs L hb=>h.lJ b cs L (hs b _ hb),λb b' o o' L L' hb hb'=>h.inj b b' o o' L L' (hs b o hb) (hs b' o' hb')⟩
def oC.loc(h:oC S w0 ρ T nx ro w){b:Nat}{o:AO}(hb:T b o):∃L,ρ b=some L/\L.blk<w.heap.size/\b<nx:=by
 have⟨L,h1,h2⟩:=(h.obj b o hb).loc;refine⟨L,h1,h2,?_⟩;rcases fJ b nx with h3|h3
 .exact h3
 .rw[h.fresh b h3]at h1;cases h1
def bQ7{o:Oper}{f:dB}(hop:cZ P o f)(hf:D9 Eq (f e))(h:oC S w0 ρ T nx ro w)(he:aX ρ e a.tmps){X X':St}(hX:∀b o,told X b o->T b o)(hXn:X.nx=nx){v:AV}(hv:f e X=.one v X'){next:kR}{Q:dD}
    (hn:∀ρ' x w',Ext ρ ρ'->oC S w0 ρ' T nx ro w'->RV ρ' v x->Kept S w w'->next (a.put o.dst x) w'):Oper.dV P o a w next Q:=by
 let S':Nat->Prop:=λk=>S k\/∃b o L,T b o/\ρ b=some L/\L.blk=k
 let X2:St:=⟨X.h,nx,nx⟩
 have hX2:f e X2=.one v X2:=by
  rcases hf X X2 rfl with⟨v',h1,h2⟩|⟨h1,_⟩
  .grind
  .grind
 have hR:Rl S' w ρ X2 w:=
  { kept:=Kept.refl _ _
    slt:=λk hk=>by
     rcases hk with hk|⟨b,o,L,g1,g2,g3⟩
     .exact aH (h.slt k hk) h.kept.size
     .have⟨M,g4,g5,_⟩:=h.loc g1
      grind
    gs:=λw' hk=>h.gs w' (h.kept.trans (hk.mono λk hk=>.inl hk))
    fresh:=h.fresh
    oO:=N8 _
    obj:=λb o hb=>h.obj b o (hX b o hb)
    own:=λb o L hb hL hr=>by
     have⟨_,_,_,g⟩:=h.loc (hX b o hb)
     grind
    lJ:=λb cs L hb=>h.lJ b cs L (hX b _ hb)
    inj:=λb b' o o' L L' hb hb'=>h.inj b b' o o' L L' (hX b o hb) (hX b' o' hb') }
 refine hop S' w ρ e X2 a w next Q (by rw[hX2];exact λe=>by cases e) he hR λv' s' ρ' x w' hh hx hR' _ _ jD=>?_
 have hvs:v'=v/\s'=X2:=by
  rw[hX2]at hh;rcases hh with hh|⟨l,hh,_⟩
  .grind
  .cases hh
 obtain⟨rfl,rfl⟩:=hvs;have vK:Kept S w w':=⟨hR'.kept.os,hR'.kept.tape,hR'.kept.output,hR'.kept.size,λk hk=>hR'.kept.block k (.inl hk),hR'.kept.dK⟩;have hat:∀b o L,T b o->ρ' b=some L->ρ b=some L:=λb o L hb hL=>by
  have⟨M,g1,_⟩:=h.loc hb;have:=hx b M g1
  grind
 refine hn ρ' x w' hx ⟨h.kept.trans vK,h.slt,h.gs,hR'.fresh,h.oO,λb o hb=>((h.obj b o hb).world λL hL=>hR'.kept.block _ (.inr ⟨b,o,L,hb,hL,rfl⟩)).ext hx,λb o L hb hL=>h.own b o L hb (hat b o L hb hL),λb cs L hb hL=>h.lJ b cs L hb (hat b _ L hb hL),
  λb b' o o' L L' hb hb' hL hL'=>h.inj b b' o o' L L' hb hb' (hat b o L hb hL) (hat b' o' L' hb' hL')⟩ jD vK
def cz9{o:Oper}{f:dB}(hop:cZ P o f)(h:oC S w0 ρ T nx ro w)(he:aX ρ e a.tmps){X sj:St}{D:U2}(hX:∀b o,told X b o->T b o/\¬D b)(hXn:X.nx=nx)(BR:X.ro=ro){v:AV}(hv:f e X=.one v sj)
    (hT':∀b o,T' b o->told sj b o\/(T b o/\D b)) (hD:∀b,D b->ro=0) {next:kR} {Q:dD}
    (hn:∀ρ' x w',Ext ρ ρ'->oC S w0 ρ' T' sj.nx ro w'->RV ρ' v x->Kept S w w'->nx<=sj.nx->sj.ro=ro->(∀b o,told sj b o->D b->(∃o',T b o')->False)->next (a.put o.dst x) w'):Oper.dV P o a w next Q:=by
 subst hXn;subst BR
 let S':Nat->Prop:=λk=>S k\/∃b o L,T b o/\D b/\ρ b=some L/\L.blk=k
 have hR:Rl S' w ρ X w:=
  { kept:=Kept.refl _ _
    slt:=λk hk=>by
     rcases hk with hk|⟨b,o,L,g1,_,g2,g3⟩
     .exact aH (h.slt k hk) h.kept.size
     .have⟨M,g4,g5,_⟩:=h.loc g1
      grind
    gs:=λw' hk=>h.gs w' (h.kept.trans (hk.mono λk hk=>.inl hk))
    fresh:=h.fresh
    oO:=h.oO
    obj:=λb o hb=>h.obj b o (hX b o hb).1
    own:=λb o L hb hL hr hS=>by
     rcases hS with hS|⟨b2,o2,L2,g1,g2,g3,g4⟩
     .exact h.own b o L (hX b o hb).1 hL hr hS
     .have:=h.inj b b2 o o2 L L2 (hX b o hb).1 g1 hL g3 g4.symm;subst this;exact(hX b o hb).2 g2
    lJ:=λb cs L hb=>h.lJ b cs L (hX b _ hb).1
    inj:=λb b' o o' L L' hb hb'=>h.inj b b' o o' L L' (hX b o hb).1 (hX b' o' hb').1 }
 refine hop S' w ρ e X a w next Q (by rw[hv];exact λe=>by cases e) he hR λv' s' ρ' x w' hh hx hR' hro hnx jD=>?_
 have hvs:v'=v/\s'=sj:=by
  rw[hv]at hh;rcases hh with hh|⟨l,hh,_⟩
  .grind
  .cases hh
 obtain⟨rfl,rfl⟩:=hvs;have vK:Kept S w w':=⟨hR'.kept.os,hR'.kept.tape,hR'.kept.output,hR'.kept.size,λk hk=>hR'.kept.block k (.inl hk),hR'.kept.dK⟩;have hat:∀b o L,T b o->ρ' b=some L->ρ b=some L:=λb o L hb hL=>by
  have⟨M,g1,_⟩:=h.loc hb;have:=hx b M g1
  grind
 have mix:∀b b' o o' L L',told s' b o->T b' o'->D b'->ρ' b=some L->ρ' b'=some L'->L.blk=L'.blk->False:=λb b' o o' L L' hb hb' hd hL hL' he=>by
  have h0:=hD b' hd;refine hR'.own b o L hb hL (by rw[hro,h0];exact aF _) (.inr ⟨b',o',L',hb',hd,hat b' o' L' hb' hL',he.symm⟩)
 refine hn ρ' x w' hx ⟨h.kept.trans vK,h.slt,h.gs,hR'.fresh,Y2 h.oO hnx,λb o hb=>?_,λb o L hb hL hr=>?_,λb cs L hb hL=>?_,λb b' o o' L L' hb hb' hL hL' he=>?_⟩ jD vK hnx hro λb o hb hd ⟨o',ho'⟩=>by
  have⟨L,g1,_⟩:=h.loc ho';exact mix b b o o' L L hb ho' hd (hx b L g1) (hx b L g1) rfl
 .rcases hT' b o hb with g|⟨g,gd⟩
  .exact hR'.obj b o g
  .exact((h.obj b o g).world λL hL=>hR'.kept.block _ (.inr ⟨b,o,L,g,gd,hL,rfl⟩)).ext hx
 .rcases hT' b o hb with g|⟨g,gd⟩
  .exact λhS=>hR'.own b o L g hL (by rw[hro];exact hr) (.inl hS)
  .exact h.own b o L g (hat b o L g hL) hr
 .rcases hT' b _ hb with g|⟨g,gd⟩
  .exact hR'.lJ b cs L g hL
  .exact h.lJ b cs L g (hat b _ L g hL)
 .rcases hT' b o hb with g|⟨g,gd⟩<;>rcases hT' b' o' hb' with k|⟨k,kd⟩
  .exact hR'.inj b b' o o' L L' g k hL hL' he
  .grind
  .grind
  .exact h.inj b b' o o' L L' g k (hat b o L g hL) (hat b' o' L' k hL') he
theorem c35{o:Oper}{f:dB}(hop:EZ P o f)(h:oC S w0 ρ T nx ro w)(he:aX ρ e a.tmps){b:Nat}(hb:ρ b=none)(hbn:b<nx){v:AV}{s':St}{ob:AO}(hv:f e ⟨full AO 18,b,0⟩=.one v s')(hob:s'.h.get (pa b)=some ob){next:kR}{Q:dD}
 (hn:∀L x w',oC S w0 (bH ρ b L) (λc o=>T c o\/(c=b/\o=ob)) nx ro w'->RV (bH ρ b L) v x->Kept S w w'->next (a.put o.dst x) w'):Oper.dV P o a w next Q:=by
 have⟨ob',mk,h1,h2⟩:=hop ρ e ⟨full AO 18,b,0⟩ a (by rw[hv];exact λe=>by cases e) he;have⟨O,x,L,q1,q2,q3,q4⟩:=h2 w;rw[h1,CY]at hv;injection hv with e1 e2
 have e3:ob'=ob:=by
  rw[<-e2]at hob;replace hob:((full AO 18).set (pa b) (some ob')).get (pa b)=some ob:=hob;rcases mQ hob with⟨_,g⟩|⟨g,_⟩
  .injection g
  .grind
 rw[e3]at q4;have⟨q5,q6⟩:=q4 b hb;simp only at e1;rw[e1]at q6;have hx0:=ae1 hb L;have vK:Kept S w (w.alloc O):=(Kept.refl S w).alloc (λk hk=>aH (h.slt k hk) h.kept.size) O;have hold:∀c o,T c o->c≠b:=λc o hc e=>by
  have⟨M,g1,_⟩:=h.loc hc
  grind
 have hat:∀c M,c≠b->bH ρ b L c=some M->ρ c=some M:=λc M hc hM=>by unfold bH at hM;rwa [H7 hc]at hM
 have hsame:∀M,bH ρ b L b=some M->M=L:=λM hM=>by rw[kH]at hM;exact(jJ hM).symm
 refine bP q1 (hn L x _ ⟨h.kept.trans vK,h.slt,h.gs,λc hc=>?_,h.oO,λc o hc=>?_,λc o M hc hM hr=>?_,λc cs M hc hM=>?_,λc c' o1 o2 M M' hc hc' hM hM' he=>?_⟩ q6 vK)
 .unfold bH;rw[H7 (by omega)];exact h.fresh c hc
 .rcases hc with hc|⟨rfl,rfl⟩
  .have⟨M,g1,g2,_⟩:=h.loc hc;exact((h.obj c o hc).world λM' hM'=>vJ w _ (by rw[g1]at hM';injection hM' with hM';subst hM';exact g2)).ext hx0
  .exact q5
 .rcases hc with hc|⟨rfl,rfl⟩
  .exact h.own c o M hc (hat c M (hold c o hc) hM) hr
  .rw[hsame M hM,q2];intro hk;have:=h.slt _ hk;have:=h.kept.size;omega
 .rcases hc with hc|⟨rfl,_⟩
  .exact h.lJ c cs M hc (hat c M (hold c _ hc) hM)
  .grind
 .have far:∀c o M,T c o->ρ c=some M->M.blk≠L.blk:=λc o M hc hM=>by
   have⟨M',g1,g2,_⟩:=h.loc hc
   grind
  rcases hc with hc|⟨rfl,_⟩<;>rcases hc' with hc'|⟨rfl,_⟩
  .exact h.inj c c' o1 o2 M M' hc hc' (hat c M (hold c _ hc) hM) (hat c' M' (hold c' _ hc') hM') he
  .grind
  .grind
  .rfl
def nM{a b:Bool}(h:bq a b false=true):a=true/\b=true:=by
 rcases a with _|_
 .cases h
 .exact⟨rfl,h⟩
def bu2{a b:AV}(h:ZK a b=true):a=b:=by
 unfold ZK at h;split at h
 .have⟨h1,h2⟩:=nM h;rw[G5 h1,G5 h2]
 .have⟨h1,h⟩:=nM h;have⟨h2,h⟩:=nM h;have⟨h3,h⟩:=nM h;rw[G5 h1,G5 h2,G5 h3];split at h
  .rfl
  .rw[G5 h]
  .cases h
 .rw[G5 h]
 .rw[G5 h]
 .exact aE8 h
def ZL:∀{l m:J7},ML l m=true->l=m
 |[],[],_=>rfl
 |[],_::_,h=>by cases h
 |_::_,[],h=>by cases h
 |x::l,y::m,h=>by
  have h0:ML (x::l) (y::m)=bq (ZK x y) (ML l m) false:=rfl;rw[h0]at h;have⟨h1,h2⟩:=nM h;rw[bu2 h1,ZL h2]
def cs4{a b:AV}(h:aE9 a b=true):a=b:=by
 unfold aE9 at h;split at h
 .rw[ZL h]
 .rw[ZL h]
 .have⟨h1,h⟩:=nM h;have⟨h2,h3⟩:=nM h;rw[G5 h1,ZL h2,ZL h3]
 .exact bu2 h
def cs7(ops:Y4):(Region.before ops.toArray).size=ops.length:=by
 unfold Region.before;rw[<-zL];have:∀(l:Y4)(acc:Array Nat),(l.foldl (λacc o=>acc.push (o.after.foldl (λs e=>if Region.binds .any e then s ||| 2^e.on ||| acc.getD e.on 0 else s) 0)) acc).size=acc.size+l.length:=by
  intro l;induction l with
  |nil=>grind
  |cons o l ih=>grind
 grind
end
def aC(ops:Y4)(i:Nat):Nat:=(Region.before ops.toArray).getD i 0
inductive DK where
 |skip
 |pure
 |rd
 |st (s:St)
 |al (ob:AO)
structure fU where
 v:AV
 k:DK
def dP(es:List fU)(c:Nat):Option DK:=(es[c]?).map (·.k)
def kX(es:List fU)(c:Nat):Prop:=∃s,dP es c=some (.st s)
noncomputable def fO (ops:List Oper) (es:List fU) (S:Nat->Bool) (e0:Env):Nat->Env
 |0=>e0
 |m+1=>match ops[m]?,es[m]? with
  |some o,some x=>bif S m then lU o.dst x.v (fO ops es S e0 m)else fO ops es S e0 m
  |_,_=>fO ops es S e0 m
noncomputable def dA (ops:Y4) (es:List fU) (e0:Env) (i:Nat):Env:=fO ops es (λ_=>true) e0 i
def bM(ops:List Oper)(es:List fU)(h0:DH):Option Nat->DH
 |none=>h0
 |some j=>match dP es j with
  |some (.st s)=>⟨j,aC ops j,s⟩
  |_=>h0
def Vq(es:List fU)(S:Nat->Bool):Option Nat->Prop
 |none=>∀c,kX es c->S c=false
 |some j=>kX es j/\S j=true/\∀c,kX es c->S c=true->c<=j
def bef:Option Nat->Nat->Prop
 |none,_=>True
 |some j,h=>j<h
section
variable(ops:Y4)(up:Runner)(es:List fU)(e0:Env)(b0:Nat)(h0:DH)
def KG(al:List DA):Prop:=∀d∈al,dP es d.i=some (.al d.o)/\d.b=b0+d.i
def SR(i:Nat)(o:Oper)(v:AV)(q:E8):Prop:=∃al:List DA,KG es b0 al/\∃X',jB o.op up (dA ops es e0 i) (jP (aC ops i) (bM ops es h0 q).mask al (bM ops es h0 q).s)=.one v X'
def RD(i:Nat)(o:Oper):Prop:=o.guard=none\/∃g,o.guard=some g/\uO ops (dA ops es e0 i) g=some true
def cU6(i:Nat)(q:E8):Prop:=Vq es (λc=>decide (c<i)) q
def ES(i:Nat)(o:Oper)(x:fU):Prop:=match x.k with
 |.skip=>(∃g,o.guard=some g/\uO ops (dA ops es e0 i) g=some false)/\x.v=un
 |.pure=>RD ops es e0 i o/\iT o.op=0/\∃X X',jB o.op up (dA ops es e0 i) X=.one x.v X'
 |.rd=>RD ops es e0 i o/\iT o.op=1/\∀q,(∀j,q=some j->kX es j)->(∀j,q=some j->j<i)->(∀h,kX es h->h<i->bef q h->(aC ops i).testBit h=false)->SR ops up es e0 b0 h0 i o x.v q
 |.st s=>RD ops es e0 i o/\(∀c,kX es c->c<i->(aC ops i).testBit c=true)/\(h0.s.ro=0\/∀c ob,dP es c=some (.al ob)->c<i->(aC ops i).testBit c=true)/\∃q,cU6 es i q/\(aC ops i) ||| (bM ops es h0 q).mask=aC ops i/\
   ∃al,KG es b0 al/\jB o.op up (dA ops es e0 i) (jP (aC ops i) (bM ops es h0 q).mask al (bM ops es h0 q).s)=.one x.v s
 |.al ob=>RD ops es e0 i o/\iT o.op=3/\(h0.s.ro=0\/∀c,kX es c->c<i->(aC ops i).testBit c=true)/\∃X',jB o.op up (dA ops es e0 i) ⟨full AO 18,b0+i,0⟩=.one x.v X'/\X'.h.get (pa (b0+i))=some ob
def XY(c j:Nat):Prop:=∀o x,ops[c]?=some o->es[c]?=some x->x.k=.rd->(aC ops j).testBit c=false->SR ops up es e0 b0 h0 c o x.v (some j)
structure Acc(d:DS):Prop where
 al:KG es b0 d.al
 hs:∀x∈d.hs,dP es x.i=some (.st x.s)/\x.mask=aC ops x.i
 TT:∀c,kX es c->∃x∈d.hs,x.i=c
 bl0:∀c ob,dP es c=some (.al ob)->∃x∈d.al,x.i=c
 gZ:d.hs.Pairwise (λx y=>y.i<x.i)
 rs:∀c o x,ops[c]?=some o->es[c]?=some x->x.k=.rd->∃r∈d.rs,r.i=c/\r.mask=aC ops c/\r.op=sS o.op/\r.e=dA ops es e0 c/\r.v=x.v
end
section
variable{ops:Y4}{up:Runner}{es pre:List fU}{e0:Env}{b0:Nat}{h0:DH}
def CO{c:Nat}(h:c<pre.length):dP (pre++es) c=dP pre c:=by unfold dP;rw[dX h]
def nS{c:Nat}{k:DK}(h:dP es c=some k):c<es.length:=by
 unfold dP at h;rcases hc:es[c]? with _|x
 .grind
 .grind
theorem cS3{c:Nat}{x:fU}(h:es[c]?=some x):dP es c=some x.k:=by unfold dP;rw[h];rfl
def ar6{c:Nat}(h:c<pre.length):kX (pre++es) c↔kX pre c:=by unfold kX;rw[CO h]
def cf5(S:mJ):∀(m:Nat),m<=pre.length->fO ops (pre++es) S e0 m=fO ops pre S e0 m
 |0,_=>rfl
 |m+1,h=>by
  simp only[fO,dX (show m<pre.length by omega),cf5 S m (by omega)]
def ZO{i:Nat}(h:i<=pre.length):dA ops (pre++es) e0 i=dA ops pre e0 i:=cf5 _ _ h
def dD0{q:E8}(h:∀j,q=some j->j<pre.length):bM ops (pre++es) h0 q=bM ops pre h0 q:=by
 rcases q with _|j
 .rfl
 .simp only[bM,CO (h j rfl)]
def cG6{i:Nat}{o:Oper}{x:fU}(ho:ops[i]?=some o)(hx:es[i]?=some x):dA ops es e0 (i+1)=lU o.dst x.v (dA ops es e0 i):=by
 unfold dA;simp only[fO,ho,hx,H9]
def aE2{al:List DA}(h:KG pre b0 al):KG (pre++es) b0 al:=λd hd=>⟨by rw[CO (nS (h d hd).1)];exact(h d hd).1,(h d hd).2⟩
def aC2{j:Nat}{s:St}(h:dP es j=some (.st s)):bM ops es h0 (some j)=⟨j,aC ops j,s⟩:=by simp only[bM,h]
theorem Acc.last{d:DS}(h:Acc ops pre e0 b0 d):∃q,Vq pre (λc=>decide (c<pre.length)) q/\(∀j,q=some j->j<pre.length)/\bM ops pre h0 q=lastH h0 d:=by
 cases hd:d.hs with
 |nil=>
  refine⟨none,λc hc=>?_,λj hj=>(by cases hj),by simp only[lastH,hd,bM];rfl⟩;obtain⟨x,hx,_⟩:=h.TT c hc
  grind
 |cons x tl=>
  have hx:=h.hs x (by rw[hd];simp);refine⟨some x.i,⟨⟨_,hx.1⟩,by simpa using nS hx.1,λc hc _=>?_⟩,λj hj=>(by injection hj with hj;subst hj;exact nS hx.1),?_⟩
  .obtain⟨y,hy,rfl⟩:=h.TT c hc;rw[hd]at hy;rcases lD.1 hy with rfl|hy
   .grind
   .have:=h.gZ;rw[hd]at this;exact Nat.le_of_lt ((List.pairwise_cons.1 this).1 y hy)
  .rw[aC2 hx.1];simp only[lastH,hd];obtain⟨i,mk,s⟩:=x;simp only at hx⊢;rw[hx.2];rfl
def bW1{op:OO}{e:Env}{s:St}{v:AV}(h:PL op up e s v=true):∃X',op.run up e s=.one v X':=by
 unfold PL at h;cases hr:op.run up e s with
 |no=>rw[hr]at h;cases h
 |many l=>rw[hr]at h;cases h
 |one v' X'=>
  rw[hr]at h;have:v=v':=cs4 h
  grind
def aY9{r:DR}{al:List DA}:∀{hs:List DH},WA r up al h0 hs=true->∀(a:List DH)(h:DH)(tl:List DH),hs=a++h::tl->r.mask.testBit h.i=false->PL r.op up r.e (jP r.mask (yQ h0 tl).mask al (yQ h0 tl).s) r.v=true
 |[],_,a,h,tl,e,_=>by cases a<;>cases e
 |x::hs,hr,a,h,tl,e,hb=>by
  have h1:WA r up al h0 (x::hs)=bq (Nat.testBit r.mask x.i) (WA r up al h0 hs) (bq (PL r.op up r.e (jP r.mask (yQ h0 hs).mask al (yQ h0 hs).s) r.v) (WA r up al h0 hs) false):=rfl;rw[h1,Y8]at hr;rcases a with _|⟨y,a⟩
  .simp only[uS,List.cons.injEq]at e;obtain⟨rfl,rfl⟩:=e;rw[H7 (by rw[hb];simp)]at hr;exact(nM hr).1
  .simp only[List.cons_append,List.cons.injEq]at e;obtain⟨rfl,e⟩:=e;split at hr
   .exact aY9 hr a h tl e hb
   .exact aY9 (nM hr).2 a h tl e hb
def FM(mask seen:Nat):∀(al:List DA)(s:St),(jP mask seen al s).nx=s.nx/\(jP mask seen al s).ro=s.ro/\∀b o,told (jP mask seen al s) b o->told s b o\/∃d∈al,mask.testBit d.i=true/\seen.testBit d.i=false/\b=d.b/\o=d.o
 |[],s=>⟨rfl,rfl,λb o h=>.inl h⟩
 |d::al,s=>by
  have h0:jP mask seen (d::al) s=bq (Nat.testBit mask d.i) (bq (Nat.testBit seen d.i) (jP mask seen al s) (jP mask seen al ⟨s.h.set (pa d.b) (some d.o),s.nx,s.ro⟩)) (jP mask seen al s):=rfl;rw[h0,Y8];have skip:(jP mask seen al s).nx=s.nx/\(jP mask seen al s).ro=s.ro/\∀b o,told (jP mask seen al s) b o->told s b o\/∃x∈d::al,mask.testBit x.i=true/\seen.testBit x.i=false/\b=x.b/\o=x.o:=by
   have⟨h1,h2,h3⟩:=FM mask seen al s
   grind
  split
  .rename_i hm;rw[Y8];split
   .exact skip
   .rename_i hs;have⟨h1,h2,h3⟩:=FM mask seen al ⟨s.h.set (pa d.b) (some d.o),s.nx,s.ro⟩;refine⟨h1,h2,λb o h=>?_⟩;rcases h3 b o h with g|⟨x,hx,g⟩
    .rcases mQ g with⟨rfl,e⟩|⟨_,g⟩
     .grind
     .exact .inl g
    .grind
  .exact skip
def bD1{x:fU}{c:Nat}{k:DK}(h:dP (pre++[x]) c=some k):dP pre c=some k\/(c=pre.length/\x.k=k):=by
 rcases fJ c pre.length with hlt|hge
 .rw[CO hlt]at h;exact .inl h
 .unfold dP at h
  grind
def bD0{x:fU}:dP (pre++[x]) pre.length=some x.k:=by unfold dP;simp
def Acc.snoc{d d':DS}{o:Oper}{x:fU}(h:Acc ops pre e0 b0 d)(ho:ops[pre.length]?=some o)
    (hal:d'.al=d.al/\(∀ob,x.k≠.al ob)\/∃ob,x.k=.al ob/\d'.al=⟨pre.length,b0+pre.length,ob⟩::d.al)
    (hhs:d'.hs=d.hs/\(∀s,x.k≠.st s)\/∃s,x.k=.st s/\d'.hs=⟨pre.length,aC ops pre.length,s⟩::d.hs)
    (hrs:d'.rs=d.rs/\x.k≠.rd\/d'.rs=⟨pre.length,aC ops pre.length,sS o.op,dA ops pre e0 pre.length,x.v⟩::d.rs):Acc ops (pre++[x]) e0 b0 d':=by
 constructor
 .intro y hy;rcases hal with⟨e,_⟩|⟨ob,hk,e⟩
  .rw[e]at hy;exact aE2 h.al y hy
  .rw[e]at hy;rcases lD.1 hy with rfl|hy
   .exact⟨by rw[bD0,hk],rfl⟩
   .exact aE2 h.al y hy
 .intro y hy;rcases hhs with⟨e,_⟩|⟨s,hk,e⟩
  .rw[e]at hy;exact⟨by rw[CO (nS (h.hs y hy).1)];exact(h.hs y hy).1,(h.hs y hy).2⟩
  .rw[e]at hy;rcases lD.1 hy with rfl|hy
   .exact⟨by rw[bD0,hk],rfl⟩
   .exact⟨by rw[CO (nS (h.hs y hy).1)];exact(h.hs y hy).1,(h.hs y hy).2⟩
 .rintro c ⟨s,hc⟩;rcases bD1 hc with hk|⟨rfl,hk⟩
  .have⟨y,hy,hi⟩:=h.TT c ⟨s,hk⟩
   grind
  .rcases hhs with⟨_,hn⟩|⟨s',_,e⟩
   .grind
   .exact⟨_,by rw[e];exact List.mem_cons_self ..,rfl⟩
 .intro c ob hc;rcases bD1 hc with hk|⟨rfl,hk⟩
  .have⟨y,hy,hi⟩:=h.bl0 c ob hk
   grind
  .rcases hal with⟨_,hn⟩|⟨ob',_,e⟩
   .grind
   .exact⟨_,by rw[e];exact List.mem_cons_self ..,rfl⟩
 .rcases hhs with⟨e,_⟩|⟨s,_,e⟩
  .rw[e];exact h.gZ
  .rw[e];exact List.pairwise_cons.2 ⟨λy hy=>nS (h.hs y hy).1,h.gZ⟩
 .intro c o' y ho' hy hk;rcases fJ c pre.length with hlt|hge
  .rw[dX hlt]at hy;have⟨r,hr,g1,g2,g3,g4,g5⟩:=h.rs c o' y ho' hy hk;refine⟨r,?_,g1,g2,g3,by rw[ZO (Nat.le_of_lt hlt)];exact g4,g5⟩
   grind
  .have hc:=(P7.1 hy).1;have hce:c=pre.length:=by grind
   subst hce;rw[ho]at ho';injection ho' with ho'
   subst ho';have hyx:y=x:=by grind
   subst hyx;rcases hrs with⟨_,hn⟩|e
   .grind
   .exact⟨_,by rw[e];exact List.mem_cons_self ..,rfl,rfl,rfl,by rw[ZO (N8 _)],rfl⟩
def cl9{q:E8}{n:Nat}(hn:n=pre.length):Vq (pre++es) (λc=>decide (c<n)) q↔Vq pre (λc=>decide (c<n)) q:=by
 subst hn
 have hs:∀c,kX (pre++es) c/\c<pre.length↔kX pre c:=λc=>⟨λ⟨h1,h2⟩=>(ar6 h2).1 h1,λh=>by
  have⟨s,hs⟩:=h
  exact⟨(ar6 (nS hs)).2 ⟨s,hs⟩,nS hs⟩⟩
 rcases q with _|j
 .constructor
  .intro h c hc;exact h c ((hs c).2 hc).1
  .intro h c hc;by_cases hlt:c<pre.length
   .exact h c ((hs c).1 ⟨hc,hlt⟩)
   .grind
 .constructor
  .rintro⟨h1,h2,h3⟩;exact⟨(hs j).1 ⟨h1,by simpa using h2⟩,h2,λc hc hl=>h3 c ((hs c).2 hc).1 hl⟩
  .rintro⟨h1,h2,h3⟩;exact⟨((hs j).2 h1).1,h2,λc hc hl=>h3 c ((hs c).1 ⟨hc,by simpa using hl⟩) hl⟩
def bU1{n:Nat}{b:Bool}(h:bq (Nat.beq n 0) true b=true):n=0\/b=true:=by
 rcases hb:Nat.beq n 0 with _|_
 .rw[hb]at h;exact .inr h
 .exact .inl (G5 hb)
def bq8(all:Y4):∀(l:Y4)(pre:List fU)(done:Y4)(ms:O1)(d:DS),all=done++l->done.length=pre.length->ms=(Region.before all.toArray).toList.drop pre.length->Acc all pre e0 b0 d->
    iO all b0 h0 l pre.length ms d up (dA all pre e0 pre.length)≠.no->
    ∃es,es.length=l.length/\(∀j o x,l[j]?=some o->es[j]?=some x->ES all up (pre++es) e0 b0 h0 (pre.length+j) o x)/\(∀c j,kX (pre++es) j->pre.length<=j->c<j->XY all up (pre++es) e0 b0 h0 c j)/\
     ∃dF,Acc all (pre++es) e0 b0 dF/\iO all b0 h0 l pre.length ms d up (dA all pre e0 pre.length)=ao6 h0 dF (dA all (pre++es) e0 (pre.length+l.length))
 |[],pre,done,ms,d,_,_,_,hacc,h=>by
  refine⟨[],rfl,λj o x h=>by simp at h,λc j ⟨s,hs⟩ hle=>?_,d,by simpa using hacc,by simp[iO]⟩;have:=nS hs
  grind
 |o::l,pre,done,ms,d,hall,hdl,hms,hacc,h=>by
  have ho:all[pre.length]?=some o:=by grind
  have dT1:pre.length<all.length:=(P7.1 ho).1;have hbs:(Region.before all.toArray).size=all.length:=by simp[cs7]
  have hmask:ms.headD 0=aC all pre.length:=by
   rw[hms];unfold aC;rw[List.headD_eq_head?_getD,List.head?_drop,kM,bY]
  have htail:ms.tail=(Region.before all.toArray).toList.drop (pre.length+1):=by rw[hms,List.tail_drop]
  have hall':all=(done++[o])++l:=by grind
  have e1:iO all b0 h0 (o::l) pre.length ms d up (dA all pre e0 pre.length)=wO all b0 h0 o (λi=>iO all b0 h0 l i) pre.length ms d up (dA all pre e0 pre.length):=rfl;rw[e1]at h⊢;have cont:∀(x:fU)(d':DS),Acc all (pre++[x]) e0 b0 d'->(∀es',ES all up (pre++x::es') e0 b0 h0 pre.length o x)->(∀s,x.k=.st s->∀es' c,c<pre.length->XY all up (pre++x::es') e0 b0 h0 c pre.length)->
   wO all b0 h0 o (λi=>iO all b0 h0 l i) pre.length ms d up (dA all pre e0 pre.length)=iO all b0 h0 l (Nat.succ pre.length) ms.tail d' up (lU o.dst x.v (dA all pre e0 pre.length))->
   ∃es,es.length=(o::l).length/\(∀j o' x,(o::l)[j]?=some o'->es[j]?=some x->ES all up (pre++es) e0 b0 h0 (pre.length+j) o' x)/\(∀c j,kX (pre++es) j->pre.length<=j->c<j->XY all up (pre++es) e0 b0 h0 c j)/\
    ∃dF,Acc all (pre++es) e0 b0 dF/\wO all b0 h0 o (λi=>iO all b0 h0 l i) pre.length ms d up (dA all pre e0 pre.length)=ao6 h0 dF (dA all (pre++es) e0 (pre.length+(o::l).length)):=by
   intro x d' hacc' hc hlat heq;have hlen:(pre++[x]).length=pre.length+1:=by simp
   have hfr:dA all (pre++[x]) e0 (pre++[x]).length=lU o.dst x.v (dA all pre e0 pre.length):=by
    rw[hlen,cG6 ho (x:=x) (by simp),ZO (N8 _)]
   have heq':iO all b0 h0 l (pre++[x]).length ms.tail d' up (dA all (pre++[x]) e0 (pre++[x]).length)=iO all b0 h0 l (Nat.succ pre.length) ms.tail d' up (lU o.dst x.v (dA all pre e0 pre.length)):=by grind
   have⟨es,h1,h2,h3,dF,h4,h5⟩:=bq8 all l (pre++[x]) (done++[o]) ms.tail d' hall' (by simp[hdl]) (by rw[hlen];exact htail) hacc' (by rw[heq',<-heq];exact h);have hpp:pre++[x]++es=pre++x::es:=by simp
   rw[hpp]at h2 h3 h4 h5;refine⟨x::es,by simp[h1],λj o' y hj hy=>?_,λc j hst hle hlt=>?_,dF,h4,?_⟩
   .cases j with
    |zero=>grind
    |succ j=>grind
   .by_cases hj:j=pre.length
    .subst hj;have⟨s,hs⟩:=hst;have:dP (pre++x::es) pre.length=some x.k:=by unfold dP;simp
     grind
    .grind
   .grind
  have hfr:∀(x:fU)(es':List fU),dA all (pre++x::es') e0 pre.length=dA all pre e0 pre.length:=λx es'=>ZO (N8 _);have hvq:∀(x:fU)(es':List fU)(q:E8),(∀j,q=some j->j<pre.length)->bM all (pre++x::es') h0 q=bM all pre h0 q:=λx es' q hq=>dD0 hq;have⟨q0,hq1,hq2,hq3⟩:=hacc.last (h0:=h0);obtain⟨E,hE⟩:∃E,E=dA all pre e0 pre.length:=⟨_,rfl⟩;rw[<-hE]at h cont⊢;simp only[<-hE]at hfr;have exec:(∀(x:fU) es',RD all (pre++x::es') e0 pre.length o)->wO all b0 h0 o (λi=>iO all b0 h0 l i) pre.length ms d up E=wP b0 h0 pre.length (aC all pre.length) o (iO all b0 h0 l (Nat.succ pre.length)) ms.tail d up E->
   ∃es,es.length=(o::l).length/\(∀j o' x,(o::l)[j]?=some o'->es[j]?=some x->ES all up (pre++es) e0 b0 h0 (pre.length+j) o' x)/\(∀c j,kX (pre++es) j->pre.length<=j->c<j->XY all up (pre++es) e0 b0 h0 c j)/\
    ∃dF,Acc all (pre++es) e0 b0 dF/\wO all b0 h0 o (λi=>iO all b0 h0 l i) pre.length ms d up E=ao6 h0 dF (dA all (pre++es) e0 (pre.length+(o::l).length)):=by
   intro hgo hR;rw[hR]at h cont⊢;have al':∀(x:fU) es',KG (pre++x::es') b0 d.al:=λx es'=>aE2 hacc.al;by_cases c0:iT o.op=0
   .have e2:wP b0 h0 pre.length (aC all pre.length) o (iO all b0 h0 l (Nat.succ pre.length)) ms.tail d up E=dr0 h0 pre.length (aC all pre.length) o (iO all b0 h0 l (Nat.succ pre.length)) ms.tail d up E:=by
     unfold wP;rw[c0];rfl
    rw[e2]at h cont⊢;unfold dr0 at h cont⊢;cases hr:jB o.op up E (lastH h0 d).s with
    |no=>rw[hr]at h;exact absurd rfl h
    |many _=>rw[hr]at h;exact absurd rfl h
    |one v X'=>
     rw[hr]at h cont;exact cont ⟨v,.pure⟩ d (hacc.snoc ho (.inl ⟨rfl,λ_ e=>by cases e⟩) (.inl ⟨rfl,λ_ e=>by cases e⟩) (.inl ⟨rfl,λe=>by cases e⟩)) (λes'=>⟨hgo _ es',c0,_,X',by rw[hfr];exact hr⟩) (λs e=>by cases e) rfl
   by_cases c1:iT o.op=1
   .have e2:wP b0 h0 pre.length (aC all pre.length) o (iO all b0 h0 l (Nat.succ pre.length)) ms.tail d up E=dr1 h0 pre.length (aC all pre.length) o (iO all b0 h0 l (Nat.succ pre.length)) ms.tail d up E:=by
     unfold wP;rw[c1];rfl
    rw[e2]at h cont⊢;unfold dr1 at h cont⊢;cases hr:jB o.op up E (jP (aC all pre.length) (lastH h0 d).mask d.al (lastH h0 d).s)with
    |no=>rw[hr]at h;exact absurd rfl h
    |many _=>rw[hr]at h;exact absurd rfl h
    |one v X'=>
     rw[hr]at h cont;simp only[Y8]at h cont⊢;by_cases hk:WA ⟨pre.length,aC all pre.length,sS o.op,E,v⟩ up d.al h0 d.hs=true
     rotate_left
     .grind
     rw[I9 hk]at h cont⊢;refine cont ⟨v,.rd⟩ ⟨_::d.rs,d.al,d.hs⟩ (hacc.snoc ho (.inl ⟨rfl,λ_ e=>by cases e⟩) (.inl ⟨rfl,λ_ e=>by cases e⟩) (.inr (by rw[hE]))) (λes'=>⟨hgo _ es',c1,λq g1 g2 g3=>?_⟩) (λs e=>by cases e) rfl;have hb:∀x∈d.hs,bef q x.i->(aC all pre.length).testBit x.i=false:=λx hx hbf=>by
      have h1:=hacc.hs x hx;have hlt:=nS h1.1;exact g3 x.i ⟨x.s,by rw[CO hlt];exact h1.1⟩ hlt hbf
     have direct:bM all pre h0 q=lastH h0 d->SR all up (pre++⟨v,.rd⟩::es') e0 b0 h0 pre.length o v q:=λe3=>by
      refine⟨d.al,al' _ _,X',?_⟩
      grind
     have other:∀(a:List DH)(y:DH)(tl:List DH),d.hs=a++y::tl->bef q y.i->bM all pre h0 q=yQ h0 tl->SR all up (pre++⟨v,.rd⟩::es') e0 b0 h0 pre.length o v q:=λa y tl e3 hbf e4=>by
      have⟨X2,hX2⟩:=bW1 (aY9 hk a y tl e3 (hb y (by rw[e3];simp) hbf));refine⟨d.al,al' _ _,X2,?_⟩;rw[hvq _ _ _ g2,e4,hfr];exact hX2
     cases q with
     |none=>
      rcases List.eq_nil_or_concat d.hs with hn|⟨a,y,hn⟩
      .exact direct (by simp only[bM,lastH,hn,yQ])
      .exact other a y [] (by simpa using hn) trivial rfl
     |some j=>
      have⟨sj,hsj⟩:=g1 j rfl;have hj:=g2 j rfl;rw[CO hj]at hsj;have⟨x,hx,hxi⟩:=hacc.TT j ⟨sj,hsj⟩;have hxe:bM all pre h0 (some j)=x:=by
       have h1:=hacc.hs x hx;rw[<-hxi,aC2 h1.1];have⟨xi,xm,xs⟩:=x
       grind
      have⟨a,tl,hsp⟩:=List.append_of_mem hx;rcases List.eq_nil_or_concat a with rfl|⟨a',y,rfl⟩
      .exact direct (by rw[hxe];simp only[lastH,hsp,yQ,uS])
      .refine other a' y (x::tl) (by simpa using hsp) ?_ (by rw[hxe];rfl);have hs:=hacc.gZ;rw[hsp]at hs;have:=List.pairwise_append.1 hs;have:=this.2.2 y (by simp) x (by simp);show j<y.i
       grind
   by_cases c2:iT o.op=2
   .have e2:wP b0 h0 pre.length (aC all pre.length) o (iO all b0 h0 l (Nat.succ pre.length)) ms.tail d up E=dr2 h0 pre.length (aC all pre.length) o (iO all b0 h0 l (Nat.succ pre.length)) ms.tail d up E:=by
     unfold wP;rw[c2];rfl
    rw[e2]at h cont⊢;unfold dr2 at h cont⊢;rw[Y8]at h cont⊢;by_cases hk:bq (allB (λh=>Nat.testBit (aC all pre.length) h.i) d.hs) (bq (Nat.beq (Nat.lor (aC all pre.length) (lastH h0 d).mask) (aC all pre.length)) (bq (Nat.beq h0.s.ro 0) true (allB (λa=>Nat.testBit (aC all pre.length) a.i) d.al)) false) false=true
    rotate_left
    .grind
    rw[I9 hk]at h cont⊢;have⟨hk1,hk2⟩:=nM hk;have⟨hk2,hk5⟩:=nM hk2;cases hr:jB o.op up E (jP (aC all pre.length) (lastH h0 d).mask d.al (lastH h0 d).s)with
    |no=>rw[hr]at h;exact absurd rfl h
    |many _=>rw[hr]at h;exact absurd rfl h
    |one v X'=>
     rw[hr]at h cont;simp only[Y8]at h cont⊢;by_cases hk3:allB (λr=>if Nat.testBit (aC all pre.length) r.i=true then true else PL r.op up r.e (jP r.mask (aC all pre.length) d.al X') r.v) d.rs=true
     rotate_left
     .grind
     rw[I9 hk3]at h cont⊢;have hst:∀es',dP (pre++⟨v,.st X'⟩::es') pre.length=some (.st X'):=λes'=>by unfold dP;simp
     refine cont ⟨v,.st X'⟩ ⟨d.rs,d.al,⟨pre.length,aC all pre.length,X'⟩::d.hs⟩ (hacc.snoc ho (.inl ⟨rfl,λ_ e=>by cases e⟩) (.inr ⟨X',rfl,rfl⟩) (.inl ⟨rfl,λe=>by cases e⟩)) (λes'=>⟨hgo _ es',λc hc hlt=>?_,(bU1 hk5).imp id λhb c ob hc hlt=>?_,q0,?_,?_,d.al,al' _ _,?_⟩) (λs e es' c hlt o' y hoc oK hk4 hb4=>?_) rfl
     .have⟨x,hx,hxi⟩:=hacc.TT c ((ar6 hlt).1 hc);rw[<-hxi];exact AL hk1 x hx
     .have⟨x,hx,hxi⟩:=hacc.bl0 c ob (by rw[CO hlt]at hc;exact hc);rw[<-hxi];exact AL hb x hx
     .exact(cl9 rfl).2 hq1
     .rw[hvq _ _ _ hq2,hq3];exact G5 hk2
     .grind
     .injection e with e
      rw[dX hlt]at oK;have⟨r,hr1,r1,r2,r3,r4,r5⟩:=hacc.rs c o' y hoc oK hk4;have hsr:=AL hk3 r hr1;simp only[r1,hb4]at hsr;obtain⟨X2,hX2⟩:=bW1 (by simpa using hsr);refine⟨d.al,al' _ _,X2,?_⟩;rw[aC2 (hst es'),ZO (Nat.le_of_lt hlt),<-r4,<-r5,<-r2];rw[r3]at hX2;exact hX2
   .have c3:iT o.op=3:=by
     have:iT o.op<=3:=by
      cases o.op with
      |call c=>
       have⟨callee,_,_⟩:=c;cases callee with
       |builtin b=>cases b<;>simp[iT]
       |_=>simp[iT]
      |_=>simp[iT]
     omega
    have e2:wP b0 h0 pre.length (aC all pre.length) o (iO all b0 h0 l (Nat.succ pre.length)) ms.tail d up E=dr3 b0 h0 pre.length (aC all pre.length) o (iO all b0 h0 l (Nat.succ pre.length)) ms.tail d up E:=by
     unfold wP;rw[c3];rfl
    rw[e2]at h cont⊢;unfold dr3 at h cont⊢;rw[Y8]at h cont⊢;by_cases hk:bq (Nat.beq h0.s.ro 0) true (allB (λh=>Nat.testBit (aC all pre.length) h.i) d.hs)=true
    rotate_left
    .grind
    rw[I9 hk]at h cont⊢;cases hr:jB o.op up E ⟨full AO 18,Nat.add b0 pre.length,0⟩with
    |no=>rw[hr]at h;exact absurd rfl h
    |many _=>rw[hr]at h;exact absurd rfl h
    |one v X'=>
     rw[hr]at h cont;cases hg:X'.h.get (pa (Nat.add b0 pre.length))with
     |none=>simp only[hg]at h;exact absurd rfl h
     |some ob=>
      simp only[hg]at h cont⊢
      exact cont ⟨v,.al ob⟩ ⟨d.rs,⟨pre.length,b0+pre.length,ob⟩::d.al,d.hs⟩ (hacc.snoc ho (.inr ⟨ob,rfl,rfl⟩) (.inl ⟨rfl,λ_ e=>by cases e⟩) (.inl ⟨rfl,λe=>by cases e⟩)) (λes'=>⟨hgo _ es',c3,(bU1 hk).imp id λhb c hc hlt=>(by
       have⟨y,hy,hyi⟩:=hacc.TT c ((ar6 hlt).1 hc);rw[<-hyi]
       exact AL hb y hy),X',by rw[hfr];exact hr,hg⟩) (λs e=>by cases e) rfl
  rcases hgd:o.guard with _|g
  .refine exec (λx es'=>.inl hgd) ?_;simp only[wO,hgd,hmask]
  .rcases hw:uO all E g with _|b
   .exact absurd (by simp only[wO,hgd,hw]) h
   .rcases b with _|_
    .have hR:wO all b0 h0 o (λi=>iO all b0 h0 l i) pre.length ms d up E=iO all b0 h0 l (Nat.succ pre.length) ms.tail d up (lU o.dst un E):=by simp only[wO,hgd,hw]
     exact cont ⟨un,.skip⟩ d (hacc.snoc ho (.inl ⟨rfl,λ_ e=>by cases e⟩) (.inl ⟨rfl,λ_ e=>by cases e⟩) (.inl ⟨rfl,λe=>by cases e⟩)) (λes'=>⟨⟨g,hgd,by rw[hfr];exact hw⟩,rfl⟩) (λs e=>by cases e) hR
    .refine exec (λx es'=>.inr ⟨g,hgd,by rw[hfr];exact hw⟩) ?_;simp only[wO,hgd,hw,hmask]
end
def aY2:∀(n k:Nat)(x:AV)(e:Tn n),k+1<2^n->gB n k (kY n k x e)=some x
 |0,k,x,e,h=>by simp at h
 |n+1,k,x,e,h=>by
  have hs:∀(e:Tn (n+1)),gB (n+1) k e=if k=0 then Nd.v (β:=Tn n) e else if k % 2=1 then gB n (k/2) (Nd.a (β:=Tn n) e)else gB n (k/2-1) (Nd.b (β:=Tn n) e):=λ_=>rfl
  have hp:kY (n+1) k x e=(if k=0 then sV (β:=Tn n) x e else if k % 2=1 then sA (β:=Tn n) (kY n (k/2) x) e else sB (β:=Tn n) (kY n (k/2-1) x) e:Nd (Tn n)):=rfl;rw[Nat.pow_succ]at h;rw[hs,hp];by_cases hk:k=0
  .rw[I9 hk,I9 hk];have⟨v,a,b⟩:=e;rfl
  .rw[H7 hk,H7 hk];by_cases h1:k % 2=1
   .rw[I9 h1,I9 h1];have:Nd.a (sA (β:=Tn n) (kY n (k/2) x) e)=kY n (k/2) x (Nd.a (β:=Tn n) e):=by have⟨v,a,b⟩:=e;rfl
    exact(congrArg (gB n (k/2)) this).trans (aY2 n (k/2) x _ (by omega))
   .rw[H7 h1,H7 h1];have:Nd.b (sB (β:=Tn n) (kY n (k/2-1) x) e)=kY n (k/2-1) x (Nd.b (β:=Tn n) e):=by have⟨v,a,b⟩:=e;rfl
    exact(congrArg (gB n (k/2-1)) this).trans (aY2 n (k/2-1) x _ (by omega))
def aY1:∀(n k j:Nat)(x:AV)(e:Tn n),j≠k->gB n j (kY n k x e)=gB n j e
 |0,k,j,x,e,h=>rfl
 |n+1,k,j,x,e,h=>by
  have hs:∀(e:Tn (n+1)),gB (n+1) j e=if j=0 then Nd.v (β:=Tn n) e else if j % 2=1 then gB n (j/2) (Nd.a (β:=Tn n) e)else gB n (j/2-1) (Nd.b (β:=Tn n) e):=λ_=>rfl
  have hp:kY (n+1) k x e=(if k=0 then sV (β:=Tn n) x e else if k % 2=1 then sA (β:=Tn n) (kY n (k/2) x) e else sB (β:=Tn n) (kY n (k/2-1) x) e:Nd (Tn n)):=rfl;rw[hs,hs,hp];have⟨v,a,b⟩:=e;by_cases hj:j=0
  .rw[I9 hj,I9 hj];by_cases hk:k=0
   .grind
   .rw[H7 hk];by_cases h1:k % 2=1
    .rw[I9 h1];rfl
    .rw[H7 h1];rfl
  .rw[H7 hj,H7 hj];by_cases hk:k=0
   .rw[I9 hk];rfl
   .rw[H7 hk];by_cases hj1:j % 2=1
    .rw[I9 hj1,I9 hj1];by_cases h1:k % 2=1
     .rw[I9 h1];exact aY1 n (k/2) (j/2) x a (by omega)
     .rw[H7 h1];rfl
    .rw[H7 hj1,H7 hj1];by_cases h1:k % 2=1
     .rw[I9 h1];rfl
     .rw[H7 h1];exact aY1 n (k/2-1) (j/2-1) x b (by omega)
def MG(d:E8)(v:AV)(e:Env)(t:Nat):fE t (lU d v e)=if d=some t/\t<160 then some v else fE t e:=by
 rcases d with _|d
 .rw[H7 (by simp)];rfl
 .rw[dm2];unfold fE yM;rcases fJ t 160 with ht|ht
  .rw[TG ht];rcases fJ d 160 with hd|hd
   .rw[TG hd];by_cases e1:d=t
    .subst e1;rw[I9 ⟨rfl,hd⟩];exact aY2 8 d v e (by omega)
    .rw[H7 (by simp[e1])];exact aY1 8 d t v e (λe=>e1 e.symm)
   .rw[ZM hd,H7 (λh=>by have:=h.1;injection this;omega)]
  .rw[ZM ht,H7 (by omega)]
def dc0{d:E8}{v:AV}{e e':Env}{t:Nat}(h:fE t e=fE t e'):fE t (lU d v e)=fE t (lU d v e'):=by rw[MG,MG,h]
section
variable{ops:Y4}{up:Runner}{es:List fU}{e0:Env}{b0:Nat}{h0:DH}
def cf4{O:pJ}{mask:Nat}{ok:Oper}:∀{l:Y4}{i:Nat},QK O mask ok l i=true->∀j oj,l[j]?=some oj->mask.testBit (i+j)=true\/oj.apart O ok=true
 |[],_,_,j,oj,h=>by simp at h
 |x::l,i,h,j,oj,hj=>by
  have h1:QK O mask ok (x::l) i=bq (Nat.testBit mask i) (QK O mask ok l (Nat.succ i)) (bq (x.apart O ok) (QK O mask ok l (Nat.succ i)) false):=rfl;rw[h1,Y8]at h;rcases j with _|j
  .simp at hj;subst hj;split at h
   .grind
   .exact .inr (nM h).1
  .have h2:QK O mask ok l (Nat.succ i)=true:=by
    split at h
    .exact h
    .exact(nM h).2
   have:=cf4 h2 j oj (by simpa using hj)
   grind
def cf2{O:pJ}:∀{ms:O1}{done l:Y4},aB8 O ms done l=true->∀k ok,l[k]?=some ok->∀j oj,j<done.length+k->(done++l)[j]?=some oj->(ms.getD k 0).testBit j=true\/oj.apart O ok=true
 |[],done,l,h,k,ok,hk=>by
  cases l with
  |nil=>simp at hk
  |cons=>cases h
 |m::ms,done,[],h,k,ok,hk=>by simp at hk
 |m::ms,done,o::l,h,k,ok,hk=>by
  have h1:aB8 O (m::ms) done (o::l)=bq (QK O m o done 0) (aB8 O ms (fV done [o]) l) false:=rfl;rw[h1,qU]at h;have⟨h2,h3⟩:=nM h;intro j oj hj hoj;rcases k with _|k
  .simp at hk;subst hk;rw[dX (by omega)]at hoj;have:=cf4 h2 j oj hoj
   grind
  .have:=cf2 h3 k ok (by simpa using hk) j oj (by simp;omega) (by simpa using hoj)
   grind
def aE4(h:FW ops.toArray=true){i k:Nat}{oi ok:Oper}(hik:i<k)(hi:ops[i]?=some oi)(hk:ops[k]?=some ok):(aC ops k).testBit i=true\/oi.apart ops.toArray ok=true:=by
 have⟨h1,_⟩:=nM h;have:=cf2 h1 k ok (by simpa using hk) i oi (by simpa using hik) (by simpa using hi);rw[RG,kM,<-bY]at this;exact this
def cA2(h:FW ops.toArray=true):BG 0 ops=true:=by
 have⟨_,h2⟩:=nM h
 grind
def bf4{S S':mJ}{t:Nat}:∀(m:Nat),(∀k o,k<m->ops[k]?=some o->o.dst=some t->S k=S' k)->fE t (fO ops es S e0 m)=fE t (fO ops es S' e0 m)
 |0,_=>rfl
 |m+1,h=>by
  have ih:=bf4 m (λk o hk ho hd=>h k o (by omega) ho hd);simp only[fO];rcases ho:ops[m]? with _|o
  .exact ih
  .rcases hx:es[m]? with _|x
   .exact ih
   .simp only;by_cases hd:o.dst=some t
    .rw[h m o (by omega) ho hd];cases S' m with
     |true=>exact dc0 ih
     |false=>exact ih
    .have h1:∀e,fE t (lU o.dst x.v e)=fE t e:=λe=>by rw[MG,H7 (λh=>hd h.1)]
     grind
def dC5(i:Nat):∀(m:Nat),i<=m->fO ops es (λk=>decide (k<i)) e0 m=dA ops es e0 i:=by
 intro m hm;induction m with
 |zero=>
  have:i=0:=by omega
  subst this;rfl
 |succ m ih=>
  by_cases h:i=m+1
  .subst h;have:∀q,q<=m+1->fO ops es (λk=>decide (k<m+1)) e0 q=fO ops es (λ_=>true) e0 q:=by
    intro q;induction q with
    |zero=>intro _;rfl
    |succ q ihq=>
     intro hq;simp only[fO,ihq (by omega)]
     grind
   exact this _ (N8 _)
  .rw[<-ih (by omega)];simp only[fO]
   grind
def co7(hd:FW ops.toArray=true){S:mJ}(hS:zO ops S){i:Nat}{o:Oper}(hoi:ops[i]?=some o)(hi:S i=false)(aO2:∀ed∈o.after,Region.binds .any ed=true->S ed.on=true):
    (∀t,t∈o.looksAt ops.toArray->fE t (dA ops es e0 i)=fE t (fO ops es S e0 ops.length))/\(∀k,(aC ops i).testBit k=true->k≠i->S k=true)/\(∀k,(aC ops k).testBit i=true->S k=false)/\
    (∀k ok,i<k->ops[k]?=some ok->S k=true->ok.dst=none\/ok.dst≠o.dst):=by
 have hlt:i<ops.length:=(P7.1 hoi).1;have hS':zO ops (λk=>S k || decide (k=i)):=by
  intro k o' ed ho' hk hed hb;simp only[Bool.or_eq_true,pU]at hk⊢;rcases hk with hk|rfl
  .exact .inl (hS k o' ed ho' hk hed hb)
  .grind
 have before:∀k,(aC ops i).testBit k=true->k≠i->S k=true:=by
  intro k hb hk;have:=al9 hS' hb (by simp)
  grind
 have behind:∀k,(aC ops k).testBit i=true->S k=false:=by
  intro k hb;cases hk:S k with
  |false=>rfl
  |true=>have:=al9 hS hb hk;rw[hi]at this;cases this
 refine⟨λt ht=>?_,before,behind,?_⟩
 .rw[<-dC5 (es:=es) (e0:=e0) i ops.length (by omega)];refine bf4 _ λk ok hk hok hdk=>?_;rcases yB k i with hlt'|heq|hgt
  .simp only[hlt',pV];rcases aE4 hd hlt' hok hoi with h|h
   .grind
   .exact absurd ht ((Oper.apart_spec h).1 t hdk)
  .grind
  .have:decide (k<i)=false:=by simp;omega
   rw[this];rcases aE4 hd hgt hoi hok with h|h
   .grind
   .exact absurd ht ((Oper.apart_spec h).2.2 t hdk)
 .intro k ok hgt hok hk;rcases aE4 hd hgt hoi hok with h|h
  .grind
  .rcases hdk:ok.dst with _|d
   .grind
   .exact .inr λe=>(Oper.apart_spec h).2.1 d e.symm hdk
def dC4{S:mJ}{i:Nat}{o:Oper}{x:fU}(hoi:ops[i]?=some o)(hxi:es[i]?=some x)(hi:S i=false)
    (h3:∀k ok,i<k->ops[k]?=some ok->S k=true->ok.dst=none\/ok.dst≠o.dst) (t:Nat):∀m,i<m->
    fE t (fO ops es (λk=>S k || decide (k=i)) e0 m)=fE t (lU o.dst x.v (fO ops es S e0 m)):=by
 have low:∀m,m<=i->fO ops es (λk=>S k || decide (k=i)) e0 m=fO ops es S e0 m:=by
  intro m;induction m with
  |zero=>intro _;rfl
  |succ m ih=>
   intro hm;simp only[fO,ih (by omega)]
   grind
 intro m;induction m with
 |zero=>grind
 |succ m ih=>
  intro hm;by_cases NJ:m=i
  .subst NJ;simp only[fO,hoi,hxi,low m (N8 _),hi,Bool.false_or,pV,H9,G6]
  .have ih:=ih (by omega);have hdd:decide (m=i)=false:=by simp;omega
   simp only[fO,hdd,Bool.or_false];rcases hom:ops[m]? with _|om
   .exact ih
   .rcases hem:es[m]? with _|em
    .exact ih
    .simp only;rcases hsm:S m with _|_
     .exact ih
     .simp only[H9];rw[MG,ih,MG,MG,MG]
      grind
theorem cX1{e e':Env}{o:Oper}(h:∀t,t∈o.looksAt ops.toArray->fE t e=fE t e'):∀x∈o.op.operands,look x e=look x e':=λx hx=>by
 cases x with
 |tmp t=>exact h t (bF8 hx rfl)
 |_=>rfl
def cg8{e e':Env}{o:Oper}{g:Nat×Bool}(hg:o.guard=some g)(h:∀t,t∈o.looksAt ops.toArray->fE t e=fE t e'):uO ops e g=uO ops e' g:=by
 unfold uO;rw[BN];rcases hj:ops[g.1]? with _|oj
 .rfl
 .show oB oj.dst _=oB oj.dst _;rcases hd:oj.dst with _|d
  .rfl
  .show oB (fE d e) _=oB (fE d e') _;rw[h d (bF7 (j:=g.1) (want:=g.2) hg (by rw[hj];exact hd))]
def TS(ops:Y4)(es:List fU)(b0:Nat)(h0:DH)(S:mJ)(q:E8):Nat->AO->Prop:=λb o=>told (bM ops es h0 q).s b o\/∃i,dP es i=some (.al o)/\S i=true/\(bM ops es h0 q).mask.testBit i=false/\b=b0+i
structure QZ(ops:List Oper)(es:List fU)(e0:Env)(b0:Nat)(h0:DH)(S0:Nat->Prop)(w0:World)(m B:Nat)(ρ0:Ren)(ro:Nat)(S:Nat->Bool)(q:Option Nat)(ρ:Ren)(a:Act)(w:World):Prop where
 vq:Vq es S q
 rl:oC S0 w0 ρ (TS ops es b0 h0 S q) (bM ops es h0 q).s.nx ro w
 env:aX ρ (fO ops es S e0 ops.length) a.tmps
 sz:a.tmps.size=m
 dK:lZ B w a.defers
 low:∀b,b<b0->ρ b=ρ0 b
 free:∀i ob,dP es i=some (.al ob)->S i=false->ρ (b0+i)=none
 top:∃L,ρ (b0+ops.length)=some L
 nx:b0+ops.length<(bM ops es h0 q).s.nx
 nt:∀i ob o,dP es i=some (.al ob)->(bM ops es h0 q).mask.testBit i=false->¬told (bM ops es h0 q).s (b0+i) o
 xM:(bM ops es h0 q).s.ro=ro
structure aD6(P:Program)(ops:List Oper)(up:Runner)(es:List fU)(e0:Env)(b0:Nat)(h0:DH)(m ro:Nat):Prop where
 len:es.length=ops.length
 cnd:∀i o x,ops[i]?=some o->es[i]?=some x->ES ops up es e0 b0 h0 i o x
 lat:∀c j,kX es j->c<j->XY ops up es e0 b0 h0 c j
 dr:FW ops.toArray=true
 op:∀o,cZ P o (jB o.op up)
 new:∀o:Oper,iT o.op=3->EZ P o (jB o.op up)
 ro:ro=h0.s.ro
 ops:IZ m ops=true
def Vq.unique{S S':mJ}{q q':E8}(h:Vq es S q)(h':Vq es S' q')(hs:∀c,kX es c->S c=S' c):q=q':=by
 rcases q with _|i
 .cases q' with
  |none=>rfl
  |some j=>
   have⟨g1,g2,_⟩:=h';have:=h j g1
   grind
 .have⟨k1,k2,k3⟩:=h;rcases q' with _|j
  .have:=h' i k1
   grind
  .have⟨g1,g2,g3⟩:=h'
   grind
def aJ5{c:Nat}{k:DK}(hlen:es.length=ops.length)(h:dP es c=some k):∃o x,ops[c]?=some o/\es[c]?=some x/\x.k=k:=by
 have hlt:=nS h;refine⟨ops[c]'(by omega),es[c],J9 _,J9 hlt,?_⟩;unfold dP at h
 grind
def cz2{P:Program}{S0:U2}{w0:World}{m B:Nat}{ρ0:Ren}{ro:Nat}(C:aD6 P ops up es e0 b0 h0 m ro){S:mJ}(hcl:zO ops S){i:Nat}{o:Oper}(hoi:ops[i]?=some o)(hi:S i=false)
    (aO2:∀ed∈o.after,Region.binds .any ed=true->S ed.on=true) {q:E8} {ρ:Ren} {a:Act} {w:World} (hI:QZ ops es e0 b0 h0 S0 w0 m B ρ0 ro S q ρ a w) {τ:E8} {K:kR} {Q:dD}
    (hK:∀q' ρ' a' w',QZ ops es e0 b0 h0 S0 w0 m B ρ0 ro (λk=>S k || decide (k=i)) q' ρ' a' w'->K a' w'):Go.wpOpIn (eU τ) 0 P ops.toArray Q i K a w:=by
 have hlt:i<ops.length:=(P7.1 hoi).1;have hxi:es[i]?=some (es[i]'(by rw[C.len];exact hlt)):=J9 _;generalize es[i]'(by rw[C.len];exact hlt)=x at hxi;have hc:=C.cnd i o x hoi hxi;have hki:=cS3 hxi;have⟨a1,a2,a3,a4⟩:=co7 (es:=es) (e0:=e0) C.dr hcl hoi hi aO2;have hd:inRange m o.dst=true:=AL C.ops o (iZ hoi);unfold Go.wpOpIn;have hoi':ops.toArray[i]?=some o:=by grind
 simp only[hoi'];have hadd:=λt=>dC4 (es:=es) (e0:=e0) hoi hxi hi a4 t ops.length hlt;have aJ3:∀{ρ':Ren}{y:Value},xX ρ ρ'->RV ρ' x.v y->aX ρ' (fO ops es (λk=>S k || decide (k=i)) e0 ops.length) (a.put o.dst y).tmps:=λ{ρ' y} hx hy t v ht=>by
  rw[hadd]at ht;exact aX.put (hI.env.ext hx) (by rw[hI.sz];exact hd) hy t v ht
 have hloc:∀X,jB o.op up (dA ops es e0 i) X=jB o.op up (fO ops es S e0 ops.length) X:=λX=>c97 (cX1 a1) X;have hnotin:∀k,S k=true->k≠i:=λk hk e=>by grind
 have vqS:(∀s,x.k≠.st s)->Vq es (λk=>S k || decide (k=i)) q:=λhns=>by
  have hne:∀c,kX es c->c≠i:=λc ⟨s,hs⟩ e=>by grind
  have hv:=hI.vq;cases q with
  |none=>exact λc hc=>by simp[hv c hc,hne c hc]
  |some j=>
   have⟨g1,g2,g3⟩:=hv;exact⟨g1,by simp[g2],λc hc hk=>g3 c hc (by simpa[hne c hc]using hk)⟩
 have tsS:(∀ob,x.k≠.al ob)->∀b o',TS ops es b0 h0 (λk=>S k || decide (k=i)) q b o'->TS ops es b0 h0 S q b o':=λhna b o' h=>by
  rcases h with h|⟨i',h1,h2,h3⟩
  .exact .inl h
  .refine .inr ⟨i',h1,?_,h3⟩
   grind
 have as4:∀{ρ':Ren},Ext ρ ρ'->∀b,b<b0+ops.length->ρ' b=ρ b:=λ{ρ'} hx b hb=>by
  have⟨L,hL⟩:=hI.top;exact hx.low b _ L hb hL
 have fin:(∀s,x.k≠.st s)->(∀ob,x.k≠.al ob)->∀ρ' y w',Ext ρ ρ'->oC S0 w0 ρ' (TS ops es b0 h0 S q) (bM ops es h0 q).s.nx ro w'->RV ρ' x.v y->Kept S0 w w'->K (a.put o.dst y) w':=λn1 n2 ρ' y w' hx hR hy hk=>
  hK q ρ' _ w' { vq:=vqS n1,rl:=hR.sub (tsS n2),env:=aJ3 hx hy,sz:=(VW _ _ _).trans hI.sz,dK:=by rw[put_defers];exact hI.dK.kept hk
                 low:=λb hb=>(as4 hx b (by omega)).trans (hI.low b hb)
                 free:=λi' ob h1 h2=>(as4 hx _ (by have:=nS h1;rw[C.len]at this;omega)).trans (hI.free i' ob h1 (by simp at h2;exact h2.1))
                 top:=by have⟨L,hL⟩:=hI.top;exact⟨L,hx _ _ hL⟩
                 nx:=hI.nx,nt:=hI.nt,xM:=hI.xM }
 have go:RD ops es e0 i o->Region.wanted o (yielded ops.toArray a.tmps)=true:=λh=>by
  rcases h with h|⟨g,hg,hw⟩
  .simp[Region.wanted,h]
  .exact bg5 hg (by rw[<-cg8 hg a1];exact hw) hI.env
 have cc7:∀(al:List DA),KG es b0 al->(∀ob,x.k≠.al ob)->∀b o',told (jP (aC ops i) (bM ops es h0 q).mask al (bM ops es h0 q).s) b o'->TS ops es b0 h0 S q b o':=λal hal hna b o' h=>by
  rcases(FM _ _ al _).2.2 b o' h with h|⟨d,hd1,hd2,hd3,rfl,rfl⟩
  .exact .inl h
  .have⟨g1,g2⟩:=hal d hd1;refine .inr ⟨d.i,g1,a2 d.i hd2 (λe=>?_),hd3,g2⟩
   grind
 have⟨v,k⟩:=x;cases k with
 |skip=>
  have⟨⟨g,hg,hw⟩,hv⟩:=hc;simp only at hv;have hwf:=bg5 hg (by rw[<-cg8 hg a1];exact hw) hI.env;rw[H7 (by rw[hwf];simp)];exact⟨λ_ _=>trivial,fin (λs e=>by cases e) (λs e=>by cases e) ρ undef w (Ext.refl _) hI.rl (by rw[hv];exact unR) (Kept.refl _ _)⟩
 |pure=>
  have⟨hgo,hcl0,X,X',hX⟩:=hc;rw[I9 (go hgo)];have hX0:jB o.op up (dA ops es e0 i) ⟨full AO 18,(bM ops es h0 q).s.nx,ro⟩=.one v ⟨full AO 18,(bM ops es h0 q).s.nx,ro⟩:=by
   rcases bO1 hcl0 up (dA ops es e0 i) X ⟨full AO 18,(bM ops es h0 q).s.nx,ro⟩ trivial with⟨v',h1,h2⟩|⟨h1,_⟩
   .grind
   .grind
  rw[hloc]at hX0;exact bQ7 (X:=⟨full AO 18,(bM ops es h0 q).s.nx,ro⟩) (C.op o) (bO1 hcl0 up _).weak hI.rl hI.env (λb o' h=>by have h:(full AO 18).get (pa b)=some o':=h;rw[ap7]at h;cases h) rfl hX0
   (λρ' y w' hx hR hy hk=>fin (λs e=>by cases e) (λs e=>by cases e) ρ' y w' hx hR hy hk) τ
 |rd=>
  have⟨hgo,cK6,hsr⟩:=hc;rw[I9 (go hgo)];have hq:SR ops up es e0 b0 h0 i o v q:=by
   have hv:=hI.vq;have comp:∀h,kX es h->h<i->bef q h->(aC ops i).testBit h=false:=λh hs hl hb=>by
    cases hbit:(aC ops i).testBit h with
    |false=>rfl
    |true=>
     have hSh:=a2 h hbit (by omega);cases q with
     |none=>rw[hv h hs]at hSh;cases hSh
     |some j=>
      have:=hv.2.2 h hs hSh;have hb:j<h:=hb;omega
   by_cases hj:∀j,q=some j->j<i
   .refine hsr q (λj e=>?_) hj comp;subst e;exact hv.1
   .have:∃j,q=some j/\¬j<i:=by
     cases q with
     |none=>exact absurd (λj e=>by cases e) hj
     |some j=>exact⟨j,rfl,λh=>hj λj' e=>by injection e with e;subst e;exact h⟩
    obtain⟨j,rfl,hji⟩:=this;have hne:=hnotin j hv.2.1;refine C.lat i j hv.1 (by omega) o _ hoi hxi rfl ?_;cases hbit:(aC ops j).testBit i with
    |false=>rfl
    |true=>have:=a3 j hbit;rw[hv.2.1]at this;cases this
  have⟨al,hal,X',hX⟩:=hq;rw[hloc]at hX;exact bQ7 (C.op o) (da9 cK6 up _) hI.rl hI.env (cc7 al hal (λob e=>by cases e)) (FM _ _ al _).1 hX
   (λρ' y w' hx hR hy hk=>fin (λs e=>by cases e) (λs e=>by cases e) ρ' y w' hx hR hy hk) τ
 |st sj=>
  have⟨hgo,hbef,cO6,q0,hq0,hor,al,hal,hX⟩:=hc;rw[I9 (go hgo)];have hqq:q=q0:=hI.vq.unique hq0 λc hs=>by
   rcases yB c i with h1|h1|h1
   .grind
   .grind
   .have:S c=false:=by
     have⟨s',hs'⟩:=hs;have⟨oc,xc,g1,g2,g3⟩:=aJ5 C.len hs';have hcc:=C.cnd c oc xc g1 g2;unfold ES at hcc;rw[g3]at hcc;exact a3 c (hcc.2.1 i ⟨sj,hki⟩ h1)
    grind
  subst hqq;rw[hloc]at hX;have hsub:∀k,(bM ops es h0 q).mask.testBit k=true->(aC ops i).testBit k=true:=λk hk=>by grind
  have TU:bM ops es h0 (some i)=⟨i,aC ops i,sj⟩:=aC2 hki
  let D:Nat->Prop:=λb=>∃i' ob,dP es i'=some (.al ob)/\S i'=true/\(aC ops i).testBit i'=false/\b=b0+i'
  refine cz9 (T':=TS ops es b0 h0 (λk=>S k || decide (k=i)) (some i)) (D:=D) (C.op o) hI.rl hI.env (λb o' h=>⟨cc7 al hal (λob e=>by cases e) b o' h,?_⟩) (FM _ _ al _).1 ((FM _ _ al _).2.1.trans hI.xM) hX (λb o' h=>?_) (λb ⟨i',ob,h1,hS',hm',_⟩=>?_) (λρ' y w' hx hR hy hk hn hr hsep=>?_) τ
  .rintro⟨i',ob,g1,g2,g3,rfl⟩;rcases(FM _ _ al _).2.2 _ o' h with h|⟨d,hd1,hd2,hd3,hd4,_⟩
   .refine hI.nt i' ob o' g1 ?_ h;cases hb:(bM ops es h0 q).mask.testBit i' with
    |false=>rfl
    |true=>grind
   .rw[(hal d hd1).2]at hd4
    grind
  .rcases h with h|⟨i',h1,h2,h3,h4⟩
   .grind
   .rw[TU]at h3;simp only at h3;have hne:i'≠i:=λe=>by grind
    have TN:S i'=true:=by grind
    refine .inr ⟨.inr ⟨i',h1,TN,?_,h4⟩,i',o',h1,TN,h3,h4⟩;cases hb:(bM ops es h0 q).mask.testBit i' with
    |false=>rfl
    |true=>grind
  .rw[C.ro];rcases cO6 with h|h
   .exact h
   .rcases yB i' i with h2|h2|h2
    .grind
    .grind
    .have⟨oc,xc,g1,g2,g3⟩:=aJ5 C.len h1;have hcc:=C.cnd i' oc xc g1 g2;unfold ES at hcc;rw[g3]at hcc;rcases hcc.2.2.1 with h3|h3
     .exact h3
     .have:=a3 i' (h3 i ⟨sj,hki⟩ h2)
      grind
  .refine hK (some i) ρ' _ w' { vq:=⟨⟨sj,hki⟩,by simp,λc hs hc=>?_⟩,rl:=by rw[TU];exact hR,env:=aJ3 hx hy,sz:=(VW _ _ _).trans hI.sz,dK:=by rw[put_defers];exact hI.dK.kept hk
                                low:=λb hb=>(as4 hx b (by omega)).trans (hI.low b hb)
                                free:=λi' ob h1 h2=>(as4 hx _ (by have:=nS h1;rw[C.len]at this;omega)).trans (hI.free i' ob h1 (by simp at h2;exact h2.1))
                                top:=by have⟨L,hL⟩:=hI.top;exact⟨L,hx _ _ hL⟩
                                nx:=by rw[TU];exact aH hI.nx hn
                                nt:=λi' ob o' h1 h2 h3=>?_
                                xM:=by rw[TU];exact hr }
   .simp only[Bool.or_eq_true,pU]at hc;rcases hc with hc|hc
    .rcases fJ i c with h1|h1
     .have⟨s',hs'⟩:=hs;have⟨oc,xc,g1,g2,g3⟩:=aJ5 C.len hs';have hcc:=C.cnd c oc xc g1 g2;unfold ES at hcc;rw[g3]at hcc;have:=a3 c (hcc.2.1 i ⟨sj,hki⟩ h1)
      grind
     .exact h1
    .omega
   .rw[TU]at h2 h3;simp only at h2 h3;by_cases TN:S i'=true
    .refine hsep _ o' h3 ⟨i',ob,h1,TN,h2,rfl⟩ ⟨ob,.inr ⟨i',h1,TN,?_,rfl⟩⟩;cases hb:(bM ops es h0 q).mask.testBit i' with
     |false=>rfl
     |true=>grind
    .have hf:=hI.free i' ob h1 (by simpa using TN);have hlt':b0+i'<b0+ops.length:=by have:=nS h1;rw[C.len]at this;omega
     have⟨M,g1,_⟩:=hR.loc (T:=TS ops es b0 h0 (λk=>S k || decide (k=i)) (some i)) (b:=b0+i') (o:=o') (by left;rw[TU];exact h3)
     grind
 |al ob=>
  have⟨hgo,cK7,_,X',hX,hob⟩:=hc;rw[I9 (go hgo)];rw[hloc]at hX;have hfree:=hI.free i ob hki hi;refine c35 (C.new o cK7) hI.rl hI.env hfree (by have:=hI.nx;omega) hX hob (λL y w' hR hy hk=>?_) τ;have hne:∀c,c≠b0+i->bH ρ (b0+i) L c=ρ c:=λc hc=>H7 hc
  exact hK q _ _ w' { vq:=vqS (λs e=>by cases e)
                      rl:=hR.sub λb o' h=>by
                       rcases h with h|⟨i',h1,h2,h3,h4⟩
                       .exact .inl (.inl h)
                       .by_cases e:i'=i
                        .grind
                        .exact .inl (.inr ⟨i',h1,by simpa[e]using h2,h3,h4⟩)
                      env:=aJ3 (ae1 hfree L) hy,sz:=(VW _ _ _).trans hI.sz,dK:=by rw[put_defers];exact hI.dK.kept hk
                      low:=λb hb=>(hne b (by omega)).trans (hI.low b hb)
                      free:=λi' ob' h1 h2=>by
                       simp at h2;exact(hne _ (by omega)).trans (hI.free i' ob' h1 h2.1)
                      top:=by have⟨M,hM⟩:=hI.top;exact⟨M,(hne _ (by omega)).trans hM⟩
                      nx:=hI.nx,nt:=hI.nt,xM:=hI.xM }
def cz1{P:Program}{S0:U2}{w0:World}{m B:Nat}{ρ0:Ren}{ro:Nat}(C:aD6 P ops up es e0 b0 h0 m ro){τ:E8}{Q:dD}
    (hQ:∀q ρ' a' w',QZ ops es e0 b0 h0 S0 w0 m B ρ0 ro (λ_=>true) q ρ' a' w'->Q .normal a' w'):
    ∀(fuel:Nat)(listed:Array Bool)(q:E8)(ρ:Ren)(a:Act)(w:World),listed.size=ops.length->zO ops (λk=>listed.getD k false)->(listed.toList.filter (!·)).length<=fuel->
     QZ ops es e0 b0 h0 S0 w0 m B ρ0 ro (λk=>listed.getD k false) q ρ a w->wpAnyIn (eU τ) 0 P .any ops.toArray Q fuel listed a w:=by
 have cL2:=cA2 C.dr;have edge:∀(l:Y4)(i0:Nat),BG i0 l=true->∀j o,l[j]?=some o->∀e∈o.after,Region.binds .any e=true->e.on<i0+j:=by
  intro l;induction l with
  |nil=>grind
  |cons x l ih=>
   intro i0 h j o hj e he hb;simp only[BG]at h;cases hx:(x.after.all λe=> !Region.binds .any e || Nat.blt e.on i0)with
   |false=>grind
   |true=>
    rw[hx]at h;simp only[H9]at h;cases j with
    |zero=>
     simp at hj;subst hj;rw[Array.all_eq_true']at hx;have:=hx e he;simp only[hb,fG,Bool.false_or]at this;have h2:e.on<i0:=fA this;omega
    |succ j=>grind
 have done:∀(listed:Array Bool),listed.size=ops.length->Region.ready .any ops.toArray listed=[]->∀k,k<ops.length->listed.getD k false=true:=by
  intro listed hsz hr k;induction k using Nat.strongRecOn with
  |_ k ih=>
   intro hk;cases hl:listed.getD k false with
   |true=>rfl
   |false=>
    exfalso;have ho:ops[k]?=some (ops[k]'hk):=J9 hk;have:k∈Region.ready .any ops.toArray listed:=by
     rw[mem_ready]
     grind
    grind
 have stop:∀(listed:Array Bool)(q:E8)(ρ:Ren)(a:Act)(w:World),listed.size=ops.length->Region.ready .any ops.toArray listed=[]->QZ ops es e0 b0 h0 S0 w0 m B ρ0 ro (λk=>listed.getD k false) q ρ a w->Q .normal a w:=by
  intro listed q ρ a w hsz hr hI;have hall:=done listed hsz hr;have hst:∀c k,dP es c=some k->listed.getD c false=true:=λc k h=>hall c (by have:=nS h;rw[C.len]at this;exact this);have hts:∀b o,TS ops es b0 h0 (λ_=>true) q b o->TS ops es b0 h0 (λk=>listed.getD k false) q b o:=λb o h=>h.imp id λ⟨i,h1,_,h3⟩=>⟨i,h1,hst i _ h1,h3⟩;refine hQ q ρ a w { vq:= ?_,rl:=hI.rl.sub hts,env:=λt v ht=>?_,sz:=hI.sz,dK:=hI.dK,low:=hI.low,free:=λi ob _ h2=>(by cases h2),top:=hI.top,nx:=hI.nx,nt:=hI.nt,xM:=hI.xM }
  .have hv:=hI.vq;cases q with
   |none=>exact λc ⟨s,hs⟩=>by have h1:listed.getD c false=false:=hv c ⟨s,hs⟩;rw[hst c _ hs]at h1;cases h1
   |some j=>exact⟨hv.1,rfl,λc ⟨s,hs⟩ _=>hv.2.2 c ⟨s,hs⟩ (hst c _ hs)⟩
  .exact hI.env t v (by rw[bf4 (S':=λ_=>true) ops.length λk o hk _ _=>hall k hk];exact ht)
 intro fuel;induction fuel with
 |zero=>
  intro listed q ρ a w hsz hcl hf hI;have hr:Region.ready .any ops.toArray listed=[]:=by
   rw[List.eq_nil_iff_forall_not_mem];intro k hk;rw[mem_ready]at hk;have⟨h1,o,ho,_⟩:=hk;have hltk:k<ops.length:=by grind
   have hlt:k<listed.size:=by grind
   have hmem:(false:Bool)∈listed.toList.filter (!·):=by
    rw[List.mem_filter];refine⟨?_,rfl⟩;rw[bY,lY hlt]at h1
    grind
   grind
  exact⟨hr,stop listed q ρ a w hsz hr hI⟩
 |succ fuel ih=>
  intro listed q ρ a w hsz hcl hf hI;refine⟨λhr=>stop listed q ρ a w hsz hr hI,λi hi=>?_⟩;rw[mem_ready]at hi;have⟨h1,o,ho,hall⟩:=hi;have hoi:ops[i]?=some o:=by grind
  have hlt:i<ops.length:=(P7.1 hoi).1;have hi0:listed.getD i false=false:=by grind
  refine cz2 C hcl hoi hi0 hall hI λq' ρ' a' w' hI'=>?_;have hfun:(λk=>(listed.setIfInBounds i true).getD k false)=(λk=>listed.getD k false || decide (k=i)):=by
   funext k;by_cases hk:k=i
   .subst hk;simp[bY,hsz,hlt]
   .rw[bY,bi6 (by omega),<-bY];simp[hk]
  refine ih (listed.setIfInBounds i true) q' ρ' a' w' (by simpa using hsz) ?_ ?_ ?_
  .rw[hfun];intro k o' ed ho' hk hed hb;simp only[Bool.or_eq_true,pU]at hk⊢;rcases hk with hk|rfl
   .exact .inl (hcl k o' ed ho' hk hed hb)
   .grind
  .have hset:∀(l:List Bool)(j:Nat),l[j]?=some false->((l.set j true).filter (!·)).length+1=(l.filter (!·)).length:=by
    intro l;induction l with
    |nil=>grind
    |cons b l ihl=>
     intro j h;cases j with
     |zero=>grind
     |succ j=>grind
   have:=hset listed.toList i (by
    rw[kM,lY (by omega)];rw[bY,lY (by omega)]at hi0
    simpa using hi0)
   grind
  .grind
def Rl.drew'{S:U2}{w0:World}{ρ:Ren}{s:St}{w:World}(hR:Rl S w0 ρ s w):Rl S w0 ρ s { w with drawn:=w.drawn+1 }:=hR.drew
def cA3{P:Program}(hP:qO P){up:Runner}(hup:wG P up){m id:Nat}{O:pJ}(ho:IZ m O.toList=true)(hd:FW O=true):ak7 P ((aH2 O).run up) (.region id O true) m:=by
 intro τ _ S B ρ e s a w Q hp h hQ;have⟨hh,nx,ro⟩:=s;have e0:(aH2 O).run up e ⟨hh,nx,ro⟩=fN (Nat.add nx (Nat.succ (dM O.toList))) λnx'=>iO O.toList nx ⟨0,0,⟨hh,nx',ro⟩⟩ O.toList 0 (Region.before O).toList ⟨[],[],[]⟩ up e:=rfl;rw[e0,jQ]at h hQ;obtain⟨nx',cM8⟩:∃nx',nx'=nx+(O.toList.length+1):=⟨_,rfl⟩;have cM9:Nat.add nx (Nat.succ (dM O.toList))=nx':=by rw[cM8,kE];rfl
 rw[cM9]at h hQ;obtain⟨h0,hh0⟩:∃h0:DH,h0=⟨0,0,⟨hh,nx',ro⟩⟩:=⟨_,rfl⟩;rw[<-hh0]at h hQ;have cK1:Acc O.toList [] e nx ⟨[],[],[]⟩:=⟨λd hd=>by simp at hd,λx hx=>by simp at hx,λc ⟨s,hs⟩=>by simp[dP]at hs,λc ob hc=>by simp[dP]at hc,List.Pairwise.nil,λc o x _ hx=>by simp at hx⟩;have hfr0:dA O.toList [] e 0=e:=rfl;have⟨es,h1,h2,h3,dF,h4,h5⟩:=bq8 (up:=up) (e0:=e) (b0:=nx) (h0:=h0) O.toList O.toList [] [] (Region.before O).toList ⟨[],[],[]⟩ rfl rfl (by simp) cK1 (by rw[show([]:List fU).length=0 from rfl,hfr0];exact h);simp only[uS,List.length_nil,X9]at h2 h3 h4 h5;rw[hfr0]at h5;rw[h5]at hQ;have hdr:FW O.toList.toArray=true:=by simpa using hd
 have C:aD6 P O.toList up es e nx h0 m ro:=
  { len:=h1,cnd:=λi o x ho hx=>h2 i o x ho hx,lat:=λc j hs hl=>h3 c j hs (aF _) hl,dr:=hdr,op:=λo=>bM3 hP hup o,new:=λo h=>c33 hP h,ops:=ho
    ro:=by rw[hh0] }
 have hR:=hp.rl.drew';have by4:∀b,nx<=b->ρ b=none:=hp.rl.fresh;have hx0:xX ρ (bH ρ (nx+O.toList.length) ⟨0,0,0,0⟩):=ae1 (by4 _ (by omega)) _;have hne:∀b,b≠nx+O.toList.length->bH ρ (nx+O.toList.length) ⟨0,0,0,0⟩ b=ρ b:=λb hb=>H7 hb;have hv0:bM O.toList es h0 none=h0:=rfl;have cJ7:∀b o,hh.get (pa b)=some o->b<nx:=λb o hb=>hR.lt (s:=⟨hh,nx,ro⟩) hb;have hat:∀b o L,hh.get (pa b)=some o->bH ρ (nx+O.toList.length) ⟨0,0,0,0⟩ b=some L->ρ b=some L:=λb o L hb hL=>by grind
 have hI0:QZ O.toList es e nx h0 S w m B ρ ro (λ_=>false) none (bH ρ (nx+O.toList.length) ⟨0,0,0,0⟩) a { w with drawn:=w.drawn+1 }:=
  { vq:=λ_ _=>rfl
    rl:=by
     have hsub:∀b o,TS O.toList es nx h0 (λ_=>false) none b o->hh.get (pa b)=some o:=λb o h=>by
      rcases h with h|⟨_,_,h,_⟩
      .rw[hv0,hh0]at h;exact h
      .cases h
     rw[hv0,hh0]
     exact⟨hR.kept,hR.slt,hR.gs,λb hb=>by rw[hne b (by simp only at hb;omega)];exact by4 b (by simp only at hb;omega),by have:=hR.oO;simp only at this⊢;omega,λb o hb=>(hR.obj b o (hsub b o (hh0▸hb))).ext hx0,
      λb o L hb hL hr=>hR.own b o L (hsub b o (hh0▸hb)) (hat b o L (hsub b o (hh0▸hb)) hL) hr,λb cs L hb hL=>hR.lJ b cs L (hsub b _ (hh0▸hb)) (hat b _ L (hsub b _ (hh0▸hb)) hL),
      λb b' o o' L L' hb hb' hL hL'=>hR.inj b b' o o' L L' (hsub b o (hh0▸hb)) (hsub b' o' (hh0▸hb')) (hat b o L (hsub b o (hh0▸hb)) hL) (hat b' o' L' (hsub b' o' (hh0▸hb')) hL')⟩
    env:=λt v ht=>by
     have hz:∀mm,fO O.toList es (λ_=>false) e mm=e:=λmm=>by
      induction mm with
      |zero=>rfl
      |succ mm ih=>simp only[fO,ih,G6];split<;>rfl
     rw[hz]at ht;exact(hp.env.ext hx0) t v ht
    sz:=hp.sz
    dK:=hp.dK.kept ((Kept.refl (λ_=>False) w).drew)
    low:=λb hb=>hne b (by omega)
    free:=λi ob h1' _=>by
     have:=nS h1'
     grind
    top:=⟨_,kH _ _⟩
    nx:=by grind
    nt:=λi ob o h1' _ h3'=>by
     rw[hv0,hh0]at h3';have:=cJ7 _ _ h3';omega
    xM:=by rw[hv0,hh0] }
 have⟨qF,hq1,hq2,hq3⟩:=h4.last (h0:=h0);refine wpIn_region_any hP.mixed ?_;have hlist:∀k,(Array.replicate O.size false).getD k false=false:=λk=>by
  rw[bY,Array.getElem?_replicate]
  grind
 have cL8:(λk=>(Array.replicate O.size false).getD k false)=λ_=>false:=funext hlist;have:=cz1 (ops:=O.toList) C (τ:=τ) (Q:=Q) (λq ρ' a' w' hI=>?_) O.size (Array.replicate O.size false) none _ a { w with drawn:=w.drawn+1 } (by simp)
  (λk o e' _ hk=>by simp only[hlist]at hk;cases hk) (Y2 (List.length_filter_le _ _) (by simp)) (by rw[cL8];exact hI0)
 .simpa using this
 .have hqe:q=qF:=hI.vq.unique hq1 λc ⟨s,hs⟩=>by have:=nS hs;simp[this]
  subst hqe;have hadd:=FM;have hend:∀(al:List DA)(s:St),(∀d∈al,dP es d.i=some (.al d.o)/\d.b=nx+d.i)->((List.rec (motive:=λ_=>St->St) (λs=>s) (λa _ ih s=>bq (Nat.testBit (lastH h0 dF).mask a.i) (ih s) (ih ⟨s.h.set (pa a.b) (some a.o),s.nx,s.ro⟩)) al:St->St) s).nx=s.nx/\
   ((List.rec (motive:=λ_=>St->St) (λs=>s) (λa _ ih s=>bq (Nat.testBit (lastH h0 dF).mask a.i) (ih s) (ih ⟨s.h.set (pa a.b) (some a.o),s.nx,s.ro⟩)) al:St->St) s).ro=s.ro/\
   ∀b o,told ((List.rec (motive:=λ_=>St->St) (λs=>s) (λa _ ih s=>bq (Nat.testBit (lastH h0 dF).mask a.i) (ih s) (ih ⟨s.h.set (pa a.b) (some a.o),s.nx,s.ro⟩)) al:St->St) s) b o->told s b o\/∃i,dP es i=some (.al o)/\(lastH h0 dF).mask.testBit i=false/\b=nx+i:=by
   intro al;induction al with
   |nil=>grind
   |cons d al ih=>
    intro s hal;have ih:=λs=>ih s λd hd=>hal d (RH _ hd);simp only;rw[Y8];split
    .exact ih s
    .rename_i hb;have⟨k1,k2,k3⟩:=ih ⟨s.h.set (pa d.b) (some d.o),s.nx,s.ro⟩;refine⟨k1,k2,λb o h=>?_⟩;rcases k3 b o h with g|g
     .rcases mQ g with⟨rfl,e1⟩|⟨_,g⟩
      .grind
      .exact .inl g
     .exact .inr g
  have⟨k1,k2,k3⟩:=hend dF.al (lastH h0 dF).s h4.al;have hqv:bM O.toList es h0 q=lastH h0 dF:=hq3;have hnx2:=hI.nx;rw[hqv]at hnx2;have hR':Rl S w ρ' ((List.rec (motive:=λ_=>St->St) (λs=>s) (λa _ ih s=>bq (Nat.testBit (lastH h0 dF).mask a.i) (ih s) (ih ⟨s.h.set (pa a.b) (some a.o),s.nx,s.ro⟩)) dF.al:St->St) (lastH h0 dF).s) w':=by
   have hrl:=hI.rl;have cO9:=hI.xM;rw[hqv]at hrl cO9;refine oC.dz5 (T:=TS O.toList es nx h0 (λ_=>true) q) ?_ λb o hb=>?_
   .grind
   .rcases k3 b o hb with g|⟨i,g1,g2,g3⟩
    .left;rw[hqv];exact g
    .exact .inr ⟨i,g1,rfl,by rw[hqv];exact g2,g3⟩
  refine hQ .n _ _ ρ' a' w' (.inl rfl) { ext:=⟨λb L hb=>?_,λb c L hb hc=>?_⟩,rl:=hR',ro:=k2.trans (by have:=hI.xM;rw[hqv]at this;exact this),nx:=by rw[k1];show nx<=_;omega,env:= ?_,sz:=hI.sz,dK:=hI.dK,bw:=Y2 hp.bw hR'.kept.size }
  .have hlt:b<nx:=by
    grind
   rw[hI.low b hlt];exact hb
  .have hlt:c<nx:=by
    grind
   exact hI.low b (by omega)
  .exact hI.env
end
section
variable{P:Program}{S:U2}{w0:World}{ρ:Ren}{e:Env}{s:St}{a:Act}{w:World}{B m:Nat}
def de2{r:RO}{k:St->RC}(h:RO.rec (motive:=λ_=>RC) .no (λ_ s=>k s) (λl=>sJ (jS (λw=>k w.2) l)) r≠.no):
    r≠.no/\∀v s',Has r v s'->k s'≠.no/\∀x e' s2,jG (k s') x e' s2->jG (RO.rec (motive:=λ_=>RC) .no (λ_ s=>k s) (λl=>sJ (jS (λw=>k w.2) l)) r) x e' s2:=by
 cases r with
 |no=>grind
 |one v0 s0=>
  refine⟨λh=>(by cases h),λv s' hv=>?_⟩;rcases hv with hv|⟨l,hv,_⟩
  .grind
  .cases hv
 |many l=>
  refine⟨λh=>(by cases h),λv s' hv=>?_⟩;rcases hv with hv|⟨l',hv,hm⟩
  .cases hv
  .injection hv with hv;subst hv
   exact(al1 (l:=jS (λw=>k w.2) l) h).2 (k s') (by rw[yY];exact jH.2 ⟨_,hm,rfl⟩)
def dd4(hP:qO P){up:Runner}(hup:wG P up){g:Operand}{ps:Array Tmp}{aW body:Code}{Q:dD}(hc:codeOk m (.rangeFunc g ps aW body)=true)(hp:Pre S B m ρ e s a w)(h:an2 g ps aW body up e s≠.no)
    (hQ:∀x e' s' ρ' a' w',jG (an2 g ps aW body up e s) x e' s'->kQ S B m ρ s w e' s' ρ' a' w'->Q (BK x) a' w'):(Code.rangeFunc g ps aW body).wpIn (eU none) 0 P Q a w:=by
 have hR:=hp.rl;have Y7:(allB (λp=>Nat.blt p m) ps.toList&&codeOk m aW&&codeOk m body&&eF aW&&eF body)=true:=by
  have h0:codeOk m (.rangeFunc g ps aW body)=bq (allB (λp=>Nat.blt p m) ps.toList) (bq (eF aW) (bq (eF body) (bq (codeOk m aW) (codeOk m body) false) false) false) false:=rfl;rw[h0]at hc;simp only[Y8]at hc
  grind
 unfold an2 at h hQ;rcases hg:look g e with _|fv
 .rw[hg]at h;exact absurd rfl h
 .rw[hg]at h hQ;simp only[CY]at h hQ;obtain⟨s1,hs1⟩:∃s1:St,s1=⟨s.h.set (pa s.nx) (some (.l 0 e ps.toList aW body none)),s.nx+1,s.ro⟩:=⟨_,rfl⟩;rw[<-hs1]at h hQ;replace h:av9 up fv e (.y s.nx) s1≠.no:=h;replace hQ:∀x e' s' ρ' a' w',jG (av9 up fv e (.y s.nx) s1) x e' s'->kQ S B m ρ s w e' s' ρ' a' w'->Q (BK x) a' w':=hQ;have hf:=bG hg hp.env;unfold av9 at h hQ;split at h
  rotate_left
  .grind
  rename_i b f fs cs hb;injection hb with hb
  subst hb;simp only at hQ;have⟨h1,h2⟩:=de2 h;generalize hax:a.eval g=y at hf;cases hf with
  |f _ _ _ vs us g1 g2 g3 g4=>
   refine wpIn_rangeFunc ?_;intro fn _;obtain⟨R,NH⟩:∃R:Loop,R={ state:=.ready,pending:=none,fn:=fn,tmps:=a.tmps,params:=ps,assign:=aW,body:=body,defers:=w.heap.size }:=⟨_,rfl⟩;obtain⟨w1,hw1⟩:∃w1,w1=(w.alloc (.deferred (some []))).alloc (.loop R):=⟨_,rfl⟩;have hsz1:w1.heap.size=w.heap.size+2:=by rw[hw1];simp
   have hD1:w1.heap[w.heap.size]?=some lM:=by
    rw[hw1];exact(Below.heap_alloc _ _ _ (by simp)).trans (World.alloc_heap_new w _)
   have aM1:(lQ 0 none).put R=R:=by rw[NH];rfl
   have hk0:Kept S w (w.alloc (.deferred (some []))):=kept_alloc hR _;have hloc:∀b o L,s.h.get (pa b)=some o->ρ b=some L->L.blk<w.heap.size:=λb o L hb hL=>by
    have⟨M,h1,h2⟩:=(hR.obj b o hb).loc
    grind
   have hR0:Rl S w ρ s (w.alloc (.deferred (some []))):=hR.world hk0 λb o L hb hL=>vJ w _ (hloc b o L hb hL);have hext:Ext ρ (bH ρ s.nx ⟨(w.alloc (.deferred (some []))).heap.size,0,0,0⟩):=JC hR.fresh _;have⟨hx1,hR1⟩:=hR0.newObj (.loop R) (.l 0 e ps.toList aW body none) ⟨_,R,kH _ _,by rw[aM1];exact bJ _ _,by rw[NH],by rw[NH],by rw[NH],by rw[NH];exact hp.env.ext hext,by rw[NH];show(allB (λp=>Nat.blt p a.tmps.size) ps.toList&&codeOk a.tmps.size aW&&codeOk a.tmps.size body&&eF aW&&eF body)=true;rw[hp.sz];exact Y7⟩ (λcs e=>by cases e);rw[<-hw1,<-hs1]at hR1;have hLb:(w.alloc (.deferred (some []))).heap.size=w.heap.size+1:=by simp
   rw[hLb]at hR1 hx1;obtain⟨ρ1,hρ1⟩:∃ρ1,ρ1=bH ρ s.nx ⟨w.heap.size+1,0,0,0⟩:=⟨_,rfl⟩;rw[<-hρ1]at hR1 hx1;have hL1:ρ1 s.nx=some ⟨w.heap.size+1,0,0,0⟩:=by rw[hρ1];exact kH _ _
   have e0:fV fs (fV [AV.y s.nx] cs)=fs++([AV.y s.nx]++cs):=by rw[qU,qU]
   have⟨⟨ZN,hfn,hnm,hbd⟩,hcall⟩:=aG4 hP hup f _ s1 h1;rw[e0]at hcall;have hall:O5 ρ1 (fs++([AV.y s.nx]++cs)) (vs++([Value.func (.yield (w.heap.size+1)) #[] #[]]++us)):=
    (O5.ext hx1 ⟨g1,g3⟩).append ((O5.cons (.y _ _ hL1) (O5.nil _)).append (O5.ext hx1 ⟨g2,g4⟩))
   have hc:=hcall S ρ1 _ w1 hall hR1.ae4;have hnm':¬(ZN.name= "runtime.NumGoroutine"):=by grind
   have wX:¬(ZN.body=none):=λe=>by grind
   have hE:vs.toArray++#[Value.func (.yield (w.heap.size+1)) #[] #[]]++us.toArray=(vs++([Value.func (.yield (w.heap.size+1)) #[] #[]]++us)).toArray:=by grind
   refine⟨w.heap.size+1,[{ target:=.collected w.heap.size,args:=#[] }],w1,{ target:=.fn (.func f) us.toArray,args:=vs.toArray++#[.func (.yield (w.heap.size+1)) #[] #[]] },w1,f,
    (vs++([Value.func (.yield (w.heap.size+1)) #[] #[]]++us)).toArray,w1,?_,?_,λ_ _=>trivial,?_,λh=>(nomatch h),?_⟩
   .rw[hw1,NH];exact run_enterLoop_outer _ _ _ _ _
   .simp only[resolve,hax];simp[go_sem]
   .simp only[invoke,callFunc,hE];simp[Go.program,Sem.run,hfn,hnm',wX,go_sem]
   refine SE.2 (hc.mono ?_);rintro en w3 ⟨v,s3,ρ3,x,rfl,q1,q2,q3,q4,q5,q6⟩;rw[<-e0]at q1;have⟨k1,k2⟩:=h2 v s3 q1;have hL3:=q2 _ _ hL1;have cO5:s3.ro<=s.nx:=by rw[q4,hs1];exact hR.oO
   have wV:Rl S w ρ3 s3 w3:=q3.onto hR1.kept hR.slt hR1.gs;have fin:∀(q:Nat)(jo:Option Code)(e3:Env)(OV:O1)(KZ LC:Code)(x3:Ex),s3.h.get (pa s.nx)=some (.l q e3 OV KZ LC jo)->(∀R3:Loop,((lQ q jo).put R3).state≠.busy/\((lQ q jo).put R3).pending=yU x3)->MI s.nx e s3=.one x3 e (YQ s3 s.nx)->
    ∃jump w₄,(Instr.endLoop (w.heap.size+1)).run P w3=.ok jump w₄/\(match jump with
     |none=>Q .normal { a with defers:=[{ target:=.collected w.heap.size,args:=#[] }]++a.defers } w₄
     |some c=>c.wpIn (eU none) 0 P Q { a with defers:=[{ target:=.collected w.heap.size,args:=#[] }]++a.defers } w₄):=by
    intro q jo e3 OV KZ LC x3 hb3 hst her;have⟨L3,R3,m1,m2,m3⟩:=wV.obj _ _ hb3;rw[hL3]at m1;injection m1 with m1
    subst m1;have hend:(Instr.endLoop (w.heap.size+1)).run P w3=.ok (yU x3) (w3.putObj (w.heap.size+1) (.loop { (lQ q jo).put R3 with state:=.exhausted })):=by
     rw[<-(hst R3).2];exact run_endLoop (P:=P) m2 (hst R3).1
    refine⟨yU x3,_,hend,?_⟩;replace hL3:ρ3 s.nx=some ⟨w.heap.size+1,0,0,0⟩:=hL3;have hnS:=wV.own _ _ _ hb3 hL3 cO5;have hoth:∀k,k≠w.heap.size+1->(w3.putObj (w.heap.size+1) (.loop { (lQ q jo).put R3 with state:=.exhausted })).heap[k]?=w3.heap[k]?:=λk hk=>jA hk;have hk4:Kept S w3 (w3.putObj (w.heap.size+1) (.loop { (lQ q jo).put R3 with state:=.exhausted })):=
     ⟨rfl,rfl,rfl,by simp,λk hk=>hoth k (λe=>hnS (e▸hk)),λk hk=>(hoth k (λe=>by rw[e,m2]at hk;exact nomatch hk)).trans hk⟩
    have hR4:=(wV.drop s.nx).world hk4 λb o L hb hL=>hoth _ λe=>by
     rcases mQ hb with⟨_,e'⟩|⟨hne,hb'⟩
     .cases e'
     .exact hne (wV.inj b s.nx o _ L _ hb' hb3 hL hL3 e)
    have cO0:kQ S B m ρ s w e (YQ s3 s.nx) ρ3 { a with defers:=[{ target:=.collected w.heap.size,args:=#[] }]++a.defers } (w3.putObj (w.heap.size+1) (.loop { (lQ q jo).put R3 with state:=.exhausted })):=
     { ext:=hx1.trans q2
       rl:=hR4
       ro:=by show s3.ro=s.ro;rw[q4,hs1]
       nx:=by show s.nx<=s3.nx;rw[hs1]at q5;exact Y2 (Nat.le_succ _) q5
       env:=hp.env.ext (hx1.trans q2)
       sz:=hp.sz
       dK:=⟨⟨w.heap.size,rfl,(hk4.dK _ (q3.kept.dK _ hD1)),hp.bw,hp.dK.lt⟩,(hp.dK.kept wV.kept).kept hk4⟩
       bw:=by have h1:=hp.bw;have h2:=wV.kept.size;simp;omega }
    have hq:=hQ x3 e _ ρ3 _ _ (k2 x3 e _ (.inl her)) cO0;cases x3 with
    |n=>exact hq
    |r=>exact wpIn_ret hq
    |x id=>exact wpIn_exit hq
   have k1':=k1;unfold MI at k1;split at k1
   .rename_i e3 OV KZ LC j3 hb3;exact fin 0 j3 e3 OV KZ LC .n hb3 (λR3=>⟨by simp[lQ,lF.put],rfl⟩) (by simp only[MI,hb3])
   .rename_i e3 OV KZ LC j3 hb3;split at k1
    .exact fin 2 (some .ret) e3 OV KZ LC .r hb3 (λR3=>⟨by simp[lQ,lF.put],rfl⟩) (by simp only[MI,hb3])
    .rename_i id;exact fin 2 (some (.exit id)) e3 OV KZ LC (.x id) hb3 (λR3=>⟨by simp[lQ,lF.put],rfl⟩) (by simp only[MI,hb3])
    .grind
   .grind
def aF6{a b:Bool}(h:bq a b false=true):a=true/\b=true:=nM h
def bJ1{τ:E8}{x y:Code}(h:τ=none\/(eF x&&eF y)=true):(τ=none\/eF x=true)/\(τ=none\/eF y=true):=⟨nr1 h,UM h⟩
def cX8{up:Runner}{ia:OL}{body:Code}(ih:ak7 P (ia.run up) body m){τ:E8}(hτ:τ=none\/eF body=true){Q:dD}(k:Nat)(hp:Pre S B m ρ e s a w)(h:OB k ia up e s≠.no)
    (hQ:∀x e' s' ρ' a' w',jG (OB k ia up e s) x e' s'->kQ S B m ρ s w e' s' ρ' a' w'->Q (BK x) a' w'):(Code.loop body).wpIn (eU τ) 0 P Q a w:=by
 refine ch1 (λk a' w'=>∃e' s' ρ',OB k ia up e' s'≠.no/\(∀x e2 s2,jG (OB k ia up e' s') x e2 s2->x≠.n->∀ρ2 a2 w2,kQ S B m ρ s w e2 s2 ρ2 a2 w2->Q (BK x) a2 w2)/\kQ S B m ρ s w e' s' ρ' a' w') k ⟨e,s,ρ,h,λx e2 s2 hh _ ρ2 a2 w2 hq=>hQ x e2 s2 ρ2 a2 w2 hh hq,hp⟩ ?_;rintro k a1 w1 ⟨e1,s1,ρ1,h1,h2,hp1⟩;rcases k with _|k
 .exact absurd rfl h1
 .have e0:OB (k+1) ia up e1 s1=bC (ia.run up e1 s1) λx e s=>Ex.rec (motive:=λ_=>RC) (OB k ia up e s) (λi=>.one (.x i) e s) (.one .r e s) x:=rfl;rw[e0]at h1 h2;have⟨h3,h4⟩:=aF0 h1;refine ih τ hτ S B ρ1 e1 s1 a1 w1 _ hp1.pre h3 λx e2 s2 ρ2 a2 w2 hh hq=>?_;have⟨h5,h6⟩:=h4 x e2 s2 hh;have hq':=hp1.trans hq;cases x with
  |n=>exact⟨k,aP k,e2,s2,ρ2,h5,λx e3 s3 hh3 hne ρ3 a3 w3 hq3=>h2 x e3 s3 (h6 x e3 s3 hh3) hne ρ3 a3 w3 hq3,hq'⟩
  |r=>exact h2 .r e2 s2 (h6 .r e2 s2 (.inl rfl)) (λe=>by cases e) ρ2 a2 w2 hq'
  |x id=>exact h2 (.x id) e2 s2 (h6 (.x id) e2 s2 (.inl rfl)) (λe=>by cases e) ρ2 a2 w2 hq'
set_option maxRecDepth 100000 in
def cx4(hP:qO P){up:Runner}(hup:wG P up)(c:Code):∀m,codeOk m c=true->ak7 P ((comp c).run up) c m:=by
 induction c with
 |skip=>exact λm _ τ _ S B ρ e s a w Q hp _ hQ=>wpIn_skip (hQ .n e s ρ a w (.inl rfl) hp)
 |region id ops draw=>
  intro m hc;have h0:codeOk m (.region id ops draw)=bq (IZ m ops.toList) (bq draw (FW ops) true) false:=rfl;rw[h0]at hc;have⟨h1,h2⟩:=aF6 hc;cases draw with
  |true=>exact cA3 hP hup h1 h2
  |false=>
   intro τ _ S B ρ e s a w Q hp h hQ;refine wpIn_region_list ?_;have:=aW1 (P:=P) (m:=m) (up:=up) (λo=>bM3 hP hup o) (τ:=τ) (all:=ops.toList) (Q:=Q) ops.toList ρ e s a w h1 hp h hQ;simpa using this
 |seq x y CG ihy=>
  intro m hc;have h0:codeOk m (.seq x y)=bq (codeOk m x) (codeOk m y) false:=rfl;rw[h0]at hc;have⟨h1,h2⟩:=aF6 hc;intro τ hτ S B ρ e s a w Q hp h hQ;have⟨n1,n2⟩:=bJ1 (x:=x) (y:=y) hτ;have e0:(comp (.seq x y)).run up e s=bC ((comp x).run up e s) (sqK (comp y) up):=rfl;rw[e0]at h hQ;have⟨h3,h4⟩:=aF0 h;refine wpIn_seq (CG m h1 τ n1 S B ρ e s a w _ hp h3 λx1 e1 s1 ρ1 a1 w1 hh hq=>?_);have⟨h5,h6⟩:=h4 x1 e1 s1 hh;cases x1 with
  |n=>exact ihy m h2 τ n2 S B ρ1 e1 s1 a1 w1 Q hq.pre h5 λx2 e2 s2 ρ2 a2 w2 hh2 hq2=>hQ x2 e2 s2 ρ2 a2 w2 (h6 _ _ _ hh2) (hq.trans hq2)
  |r=>exact hQ .r e1 s1 ρ1 a1 w1 (h6 _ _ _ (.inl rfl)) hq
  |x id=>exact hQ (.x id) e1 s1 ρ1 a1 w1 (h6 _ _ _ (.inl rfl)) hq
 |cond c x y CG ihy=>
  intro m hc;have h0:codeOk m (.cond c x y)=bq (codeOk m x) (codeOk m y) false:=rfl;rw[h0]at hc;have⟨h1,h2⟩:=aF6 hc;intro τ hτ S B ρ e s a w Q hp h hQ;have⟨n1,n2⟩:=bJ1 (x:=x) (y:=y) hτ;have e0:(comp (.cond c x y)).run up e s=Option.rec (motive:=λ_=>RC) .no (λa=>aj7 a (comp x) (comp y) up e s) (look c e):=rfl;rw[e0]at h hQ;cases hl:look c e with
  |none=>rw[hl]at h;exact absurd rfl h
  |some v=>
   rw[hl]at h hQ;replace h:aj7 v (comp x) (comp y) up e s≠.no:=h;replace hQ:∀x' e' s' ρ' a' w',jG (aj7 v (comp x) (comp y) up e s) x' e' s'->kQ S B m ρ s w e' s' ρ' a' w'->Q (BK x') a' w':=hQ;have hv:=bG hl hp.env;unfold aj7 at h hQ;split at h
   .rename_i b;simp only at hQ;have hb:a.eval c=.bool b:=by generalize a.eval c=z at hv;cases hv;rfl
    cases b with
    |true=>exact wpIn_cond_true hb (CG m h1 τ n1 S B ρ e s a w Q hp h hQ)
    |false=>exact wpIn_cond_false hb (ihy m h2 τ n2 S B ρ e s a w Q hp h hQ)
   .grind
 |block id body ih=>
  intro m hc;intro τ hτ S B ρ e s a w Q hp h hQ;have e0:(comp (.block id body)).run up e s=bC ((comp body).run up e s) (blK id):=rfl;rw[e0]at h hQ;have⟨h3,h4⟩:=aF0 h;refine wpIn_block (ih m hc τ hτ S B ρ e s a w _ hp h3 λx1 e1 s1 ρ1 a1 w1 hh hq=>?_);have⟨h5,h6⟩:=h4 x1 e1 s1 hh;cases x1 with
  |n=>exact hQ .n e1 s1 ρ1 a1 w1 (h6 _ _ _ (.inl rfl)) hq
  |r=>exact hQ .r e1 s1 ρ1 a1 w1 (h6 _ _ _ (.inl rfl)) hq
  |x j=>
   have e1':blK id (.x j) e1 s1=bq (Nat.beq j id) (.one .n e1 s1) (.one (.x j) e1 s1):=rfl;simp only[BK,Exit.inBlock];by_cases hj:j=id
   .rw[I9 hj];refine hQ .n e1 s1 ρ1 a1 w1 (h6 _ _ _ (.inl ?_)) hq;rw[e1',hj,Nat.beq_refl];rfl
   .rw[H7 hj];refine hQ (.x j) e1 s1 ρ1 a1 w1 (h6 _ _ _ (.inl ?_)) hq;have:Nat.beq j id=false:=by rw[uZ];simpa using hj
    rw[e1',this];rfl
 |loop body ih=>
  intro m hc;intro τ hτ S B ρ e s a w Q hp h hQ;have e0:(comp (.loop body)).run=aG1 (comp body):=rfl;rw[e0]at h hQ;unfold aG1 at h hQ;generalize 4096=k at h hQ;exact cX8 (ih m hc) hτ k hp h hQ
 |exit id=>exact λm _ τ _ S B ρ e s a w Q hp _ hQ=>wpIn_exit (hQ (.x id) e s ρ a w (.inl rfl) hp)
 |ret=>exact λm _ τ _ S B ρ e s a w Q hp _ hQ=>wpIn_ret (hQ .r e s ρ a w (.inl rfl) hp)
 |rangeFunc g ps x y=>
  intro m hc τ hτ S B ρ e s a w Q hp h hQ;obtain rfl:τ=none:=hτ.resolve_right (λh=>nomatch h);exact dd4 hP hup hc hp h hQ
 |_=>exact λm _ τ _ S B ρ e s a w Q hp h _=>absurd rfl h
def bt1(hP:qO P):∀n,wG P (evN n)
 |0=>λc m _ τ _ S B ρ e s a w Q hp h _=>absurd rfl h
 |n+1=>λc m hc=>cx4 hP (bt1 hP n) c m hc
def ay9{b:Nat}{o:AO}(h:st0.h.get (pa b)=some o):False:=by
 have e0:st0.h=full AO 18:=rfl;rw[e0,ap7]at h;cases h
def Rl.start(w:World)(hg:∀w',Kept (λk=>k<w.heap.size) w w'->GE w'):Rl (λk=>k<w.heap.size) w (λ_=>none) st0 w:=
 { kept:=Kept.refl _ _
   slt:=λ_ h=>h
   gs:=hg
   fresh:=λ_ _=>rfl
   oO:=N8 _
   obj:=λb o h=>(ay9 h).elim
   own:=λb o L h=>(ay9 h).elim
   lJ:=λb cs L h=>(ay9 h).elim
   inj:=λb b' o o' L L' h=>(ay9 h).elim }
def cF0(hP:qO P){n:Nat}{f:FuncId}(h:evT n f=true){G:aB}(hG:∀w,G w->GE w):Holds P G f [] (.v (.bool true)):=by
 have h0:evT n f=RO.rec (motive:=λ_=>Bool) false (λv _=>isTrue v) (λ_=>false) (AZ (evN n) f [] st0):=rfl;rw[h0]at h;cases hr:AZ (evN n) f [] st0 with
 |no=>rw[hr]at h;cases h
 |many l=>rw[hr]at h;cases h
 |one v s=>
  rw[hr]at h;replace h:isTrue v=true:=h;have⟨hb,hc⟩:=aG4 hP (bt1 hP n) f [] st0 (by rw[hr];exact λe=>by cases e);rw[hr]at hc;refine⟨hb,λZ w vs hv hz hg=>?_⟩;have:vs=[]:=mD hv.1.symm;subst this;refine(hc (λk=>k<w.heap.size) (λ_=>none) [] w (O5.nil _) (Rl.start w λw' hk=>hG w' (hg w' hk.below))).mono ?_;rintro en w' ⟨v',s',ρ',x,rfl,hh,_,hR,_,_,hx⟩;have hv':v'=v:=by
   rcases hh with hh|⟨l,hh,_⟩
   .grind
   .cases hh
  subst hv';have hx':x=.bool true:=by
   unfold isTrue at h;split at h
   .cases hx;rw[h]
   .cases h
  refine⟨x,Z,rfl,?_,λ_ _ h=>h,λb o h=>⟨.inl h,aH (hz b o h) hR.kept.size⟩,hR.kept.below⟩;rw[hx'];exact .mk (.v _)
end
end
section
open Go Go.F7
set_option maxRecDepth 1000000 in
def cs6:evT 60 5=true:=by decide+kernel
end
section
open Go Go.F7 Go.RowKit Go.Proofs Go.Proofs.YtibiibjbmhckgaaGreatDoor Proofs.Tryz
def zK{α:Type}(p:Nat->α->Prop):Bt α->Prop
 |.lf=>True
 |.nd k v a b=>p k v/\zK p a/\zK p b
def zK.get{α:Type}{p:Nat->α->Prop}{f:Nat}{x:α}:∀{b:Bt α},zK p b->b.get f=some x->p f x
 |.lf,_,h=>nomatch h
 |.nd k v a b,⟨h1,h2,h3⟩,h=>by
  change bq (Nat.beq f k) (some v) (bq (Nat.blt f k) (a.get f) (b.get f))=some x at h;cases e:Nat.beq f k with
  |true=>rw[e]at h;cases h;rw[G5 e];exact h1
  |false=>
   rw[e]at h;cases e2:Nat.blt f k with
   |true=>rw[e2]at h;exact h2.get h
   |false=>rw[e2]at h;exact h3.get h
def allT{α:Type}(p:α->Bool):Bt α->Bool
 |.lf=>true
 |.nd _ v a b=>p v&&allT p a&&allT p b
def aE3{α:Type}{p:α->Bool}{f:Nat}{x:α}:∀{b:Bt α},allT p b=true->b.get f=some x->p x=true
 |.lf,_,h=>nomatch h
 |.nd k v a b,h0,h=>by
  simp only[allT,Z4]at h0;change bq (Nat.beq f k) (some v) (bq (Nat.blt f k) (a.get f) (b.get f))=some x at h;cases e:Nat.beq f k with
  |true=>rw[e]at h;cases h;exact h0.1.1
  |false=>
   rw[e]at h;cases e2:Nat.blt f k with
   |true=>rw[e2]at h;exact aE3 h0.1.2 h
   |false=>rw[e2]at h;exact aE3 h0.2 h
def co8:allT (λF=> !(F.name== "runtime.NumGoroutine")&&aL1 F) fnB=true:=by decide+kernel
def XC{α:Type}:Bt α->List (Nat×α)
 |.lf=>[]
 |.nd k v a b=>(k,v)::(XC a++XC b)
def al0{α:Type}{p:Nat->α->Prop}:∀{b:Bt α},(∀x∈XC b,p x.1 x.2)->zK p b
 |.lf,_=>trivial
 |.nd k v a b,h=>⟨h (k,v) (by simp[XC]),al0 λx hx=>h x (by simp[XC,hx]),al0 λx hx=>h x (by simp[XC,hx])⟩
def cp9:zK (O6 prog) tyB:=al0 λx hx=>O9 _ _ ((List.map_inj_left (f:=λx=>tab.get x.1) (g:=λx=>some x.2)).1 (by kernel_rfl) x hx)
def cp7:zK (λf F=>prog.funcs[f]?=some F) fnB:=al0 λx hx=>(List.map_inj_left (f:=λx:Nat×Func=>prog.funcs[x.1]?) (g:=λx=>some x.2)).1 (by kernel_rfl) x hx
def aQ3:∀(p s:mG),TV (p.map UInt8.toNat) (s.map UInt8.toNat)=p.isPrefixOf s
 |[],s=>by cases s<;>rfl
 |_::_,[]=>rfl
 |x::p,y::s=>by
  change bq (Nat.beq x.toNat y.toNat) (TV (p.map UInt8.toNat) (s.map UInt8.toNat)) false=(x==y&&p.isPrefixOf s);rw[aQ3 p s];by_cases e:x=y
  .subst e;rw[Nat.beq_refl];simp[bq]
  .have:Nat.beq x.toNat y.toNat=false:=by
    cases h:Nat.beq x.toNat y.toNat with
    |false=>rfl
    |true=>exact absurd (UInt8.toNat_inj.1 (G5 h)) e
   rw[this];simp[bq,e]
def bC0(p:mG):∀(s:mG)(i:Nat),idxOf (p.map UInt8.toNat) (s.map UInt8.toNat) i=if Lib.index s p= -1 then none else some (i+(Lib.index s p).toNat)
 |[],i=>by
  change bq (TV (p.map UInt8.toNat) (List.map UInt8.toNat [])) (some i) none=_;rw[aQ3];cases p<;>rfl
 |b::l,i=>by
  change bq (TV (p.map UInt8.toNat) (List.map UInt8.toNat (b::l))) (some i) (idxOf (p.map UInt8.toNat) (l.map UInt8.toNat) (i+1))=_;rw[aQ3,bC0 p l];have:=Lib.index_ge l p;rw[show Lib.index (b::l) p=if p.isPrefixOf (b::l)then 0 else if Lib.index l p== -1 then -1 else Lib.index l p+1 from rfl];cases p.isPrefixOf (b::l)with
  |true=>rfl
  |false=>
   by_cases h:Lib.index l p= -1
   .simp[bq,h]
   .have h2:¬Lib.index l p+1= -1:=by omega
    have h3:i+1+(Lib.index l p).toNat=i+(Lib.index l p+1).toNat:=by omega
    simp[bq,h,h2,h3]
def bq2(c:Nat)(hc:c<256):∀s:mG,countB c (s.map UInt8.toNat)=Lib.countByte s c.toUInt8
 |[]=>rfl
 |x::s=>by
  change bq (Nat.beq x.toNat c) (Nat.succ (countB c (s.map UInt8.toNat))) (countB c (s.map UInt8.toNat))=_;rw[bq2 c hc s];unfold Lib.countByte;rw[List.count_cons];by_cases e:x.toNat=c
  .have e2:x=c.toUInt8:=by subst e;simp
   subst e2;simp[bq,e,Nat.beq_refl]
  .have e2:¬x=c.toUInt8:=λh=>e (by rw[h];simp;omega);have e3:Nat.beq x.toNat c=false:=by
    cases h:Nat.beq x.toNat c with
    |false=>rfl
    |true=>exact absurd (G5 h) e
   rw[e3];simp[bq,e2]
def bR8(s:mG):∀n,aZ0 (s.map UInt8.toNat) n=(Lib.repeatL s n).map UInt8.toNat
 |0=>rfl
 |n+1=>by
  change fV (s.map UInt8.toNat) (aZ0 (s.map UInt8.toNat) n)=_;rw[bR8 s n];simp[Lib.repeatL,qU]
def ax3{ρ:Ren}{s:O1}{x:Value}(h:RV ρ (.str s) x):∃b,x=.string b/\s=b.data.toList.map UInt8.toNat:=by
 cases h with|str b=>exact⟨b,rfl,rfl⟩
theorem bV4{ρ:Ren}{k:IntKind}{n:Nat}{x:Value}(h:RV ρ (.n k n) x):x=.int k (.ofNat n):=by
 cases h;rfl
def a01{ρ:Ren}{a b:AV}{vs:H6}(h:O5 ρ [a,b] vs):∃x y,vs=[x,y]/\RV ρ a x/\RV ρ b y:=by
 obtain⟨h1,h2⟩:=h
 match vs,h1 with
 |[x,y],_=>exact⟨x,y,rfl,h2 0 _ _ rfl rfl,h2 1 _ _ rfl rfl⟩
def di0{ρ:Ren}{a:AV}{vs:H6}(h:O5 ρ [a] vs):∃x,vs=[x]/\RV ρ a x:=by
 obtain⟨h1,h2⟩:=h
 match vs,h1 with
 |[x],_=>exact⟨x,rfl,h2 0 _ _ rfl rfl⟩
def am5{α:Type}{c:Bool}{a:Option α}{v:α}(h:bq c a none=some v):c=true/\a=some v:=by
 cases c
 .exact nomatch h
 .exact⟨rfl,h⟩
def cF3{ρ:Ren}{args:J7}{v:AV}{vs:H6}{w:World}(h:aI1 args=some v)(hr:O5 ρ args vs)(hG:GE w):
    Calls prog 229 vs.toArray w λen w'=>∃x,en=.returned x/\RV ρ v x/\Below w.heap.size w w':=by
 unfold aI1 at h;split at h
 .obtain⟨x,y,rfl,hx,hy⟩:=a01 hr;obtain⟨a,rfl,rfl⟩:=ax3 hx;obtain⟨b,rfl,rfl⟩:=ax3 hy;obtain⟨h1,h2⟩:=am5 h;obtain⟨m,hm⟩:=hG;have hs:a.size<4294967281:=by
   have:=I8 h1;rw[kE]at this;simp only[X0,iW]at this;have e:a.size=a.data.size:=rfl;omega
  refine(Tryz.strings_Index a b m w hs hm).mono λe w' ⟨he,hw⟩=>⟨_,he,?_,by rw[hw];exact Below.refl _ _⟩;rw[bC0]at h2;have hg:=Lib.index_ge a.data.toList b.data.toList;split at h2
  .rename_i hi;cases h2;rw[hi];exact .neg .i64 0
  .rename_i hi;simp only[bB9,jQ,X9]at h2;cases h2;have:=RV.n (ρ:=ρ) .i64 (Lib.index a.data.toList b.data.toList).toNat
   rwa [show Int.ofNat (Lib.index a.data.toList b.data.toList).toNat=Lib.index a.data.toList b.data.toList from by simp only[Int.ofNat_eq_natCast];omega]at this
 .exact nomatch h
def cF4{ρ:Ren}{args:J7}{v:AV}{vs:H6}{w:World}(h:aI4 args=some v)(hr:O5 ρ args vs):
    Calls prog 18 vs.toArray w λen w'=>∃x,en=.returned x/\RV ρ v x/\Below w.heap.size w w':=by
 unfold aI4 at h;split at h
 .rename_i n;obtain⟨x,y,rfl,hx,hy⟩:=a01 hr;obtain⟨a,rfl,rfl⟩:=ax3 hx;cases bV4 hy;obtain⟨h1,h2⟩:=am5 h;obtain⟨h3,h4⟩:=am5 h2;have hn:=I8 h1;have hs:a.size<=1000000:=by
   have:=I8 h3;rw[kE]at this;simp only[X0,iW]at this;have e:a.size=a.data.size:=rfl;omega
  have hm:a.size*n<=1000000*4096:=Nat.mul_le_mul hs hn;refine(Tryz.strings_Repeat a n w (by omega) (by omega)).mono λe w' ⟨he,hw⟩=>⟨_,he,?_,hw⟩;rw[cF8,bR8]at h4;cases h4;exact RV.str ⟨(Lib.repeatL a.data.toList n).toArray⟩
 .exact nomatch h
def cF5{ρ:Ren}{args:J7}{v:AV}{vs:H6}{w:World}(h:aI5 args=some v)(hr:O5 ρ args vs):
    ∃x,(callFunc 163 vs.toArray).run prog w=.ok (.value x) w/\RV ρ v x:=by
 unfold aI5 at h;split at h
 .obtain⟨x,rfl,hx⟩:=di0 hr;cases h;exact⟨x,by rw[run_callFunc_extern func163 (by kernel_rfl) (by kernel_rfl) (by kernel_rfl) (e:=Extern.AbiNoEscape.same) (by kernel_rfl)];rfl,hx⟩
 .exact nomatch h
def cF2{ρ:Ren}{args:J7}{v:AV}{vs:H6}{w:World}(h:aI0 args=some v)(hr:O5 ρ args vs):
    ∃x,(callFunc 387 vs.toArray).run prog w=.ok (.value x) w/\RV ρ v x:=by
 unfold aI0 at h;split at h
 .rename_i n;obtain⟨x,y,rfl,hx,hy⟩:=a01 hr;obtain⟨a,rfl,rfl⟩:=ax3 hx;cases bV4 hy;obtain⟨h1,h2⟩:=am5 h;have hn:=I8 h1;refine⟨_,by rw[run_callFunc_extern func387 (by kernel_rfl) (by kernel_rfl) (by kernel_rfl) (e:=Extern.BytealgCount.count) (by kernel_rfl),Lib.run_countString];rfl,?_⟩;rw[bq2 _ (by omega),jQ]at h2;cases h2;exact RV.n .i64 _
 .exact nomatch h
def dh1{P:Program}{fits:TypeId->Bool}{d e c:Nat}(hc:1<=c)(h:rowAt P fits d e 1 0 1=true):rowAt P fits d e c 0 1=true:=by
 cases d with
 |zero=>exact h
 |succ d=>
  unfold rowAt at h⊢;simp only[Nat.zero_div,Nat.zero_mod,X9,Nat.zero_lt_one,pV,rX]at h⊢;have hc':0<c:=hc;simpa only[hc,hc',pV,rX,N8]using h
theorem cW8{P:Program}{d e u c:Nat}(hc:1<=c)(h0:d≠0)(h:rowAt P (sameLayout P P.depth · u) P.depth e 1 0 1=true):liesAt P d e c 0 u 1=true:=by
 cases d with
 |zero=>exact absurd rfl h0
 |succ d=>unfold liesAt;rw[dh1 hc h];rfl
def cu0:rowAt prog (sameLayout prog prog.depth · am1) prog.depth mM 1 0 1=true:=by kernel_rfl
def ct8:prog.cellsOf mM=2:=by kernel_rfl
def ct9:Nat.beq prog.depth 0=false:=by kernel_rfl
def ae0:qO prog where
 ty t i h:=cp9.get h
 sk t h:=by
  rw[G5 h];kernel_rfl
 YG n hn:=cW8 (by rw[ct8];omega) (λh=>by have:=ct9;rw[h]at this;exact nomatch this) cu0
 mixed:=mixed
 fn f F h:=by
  have:=aE3 co8 h;simp only[Z4,Bool.not_eq_true']at this;exact⟨cp7.get h,this.1,this.2⟩
 ext f g h:=by
  change aJ9.get f=some g at h;have h0:zK (λf g=>rZ prog f/\∀(ρ:Ren)(args:J7)(v:AV)(vs:H6)(w:World),g args=some v->O5 ρ args vs->GE w->Calls prog f vs.toArray w λen w'=>∃x,en=.returned x/\RV ρ v x/\Below w.heap.size w w') aJ9:=
   ⟨⟨⟨_,func229,by kernel_rfl,by kernel_rfl⟩,λρ args v vs w h hr hG=>cF3 h hr hG⟩,⟨⟨⟨_,func18,by kernel_rfl,by kernel_rfl⟩,λρ args v vs w h hr hG=>cF4 h hr⟩,trivial,trivial⟩,trivial⟩
  exact h0.get h
 bt3 f g h:=by
  change aK2.get f=some g at h;have h0:zK (λf g=>∀(ρ:Ren)(args:J7)(v:AV)(vs:H6)(w:World),g args=some v->O5 ρ args vs->GE w->∃x,(callFunc f vs.toArray).run prog w=.ok (.value x) w/\RV ρ v x) aK2:=
   ⟨λρ args v vs w h hr hG=>cF5 h hr,trivial,⟨λρ args v vs w h hr hG=>cF2 h hr,trivial,trivial⟩⟩
  exact h0.get h
def cs5{G:aB}(hG:∀w,G w->GE w):Holds prog G 5 [] (.v (.bool true)):=cF0 ae0 cs6 hG
end
end Go.Ev
namespace Go
abbrev nH:=@List.length_drop
abbrev oZ:=@List.size_toArray
abbrev pF:=@List.take_of_length_le
abbrev sG:=@List.take_append_of_le_length
abbrev EU:=@List.drop_eq_nil_of_le
abbrev EY:=@List.mem_of_mem_take
abbrev KP:=@List.mem_of_mem_drop
abbrev RI:=@List.take_take
abbrev ak3:=@Array.toList_append
abbrev ak5:=@IntKind.wrap_i64
abbrev bj1:=@Lib.wpList_append_run
abbrev KO:=@List.flatMap_cons
abbrev FN:=@beq_eq_false_iff_ne
abbrev zU:=@List.drop_eq_getElem_cons
end Go
namespace Go.Proofs.YtibiibjbmhckgaaGreatDoor
section
open Go Go.F7 Go.RowKit Go.Ev Proofs.Tryz
structure Fr(S:Nat->Prop)(w w':World):Prop where
 os:w'.os=w.os
 tape:w'.tape=w.tape
 output:w'.output=w.output
 size:w.heap.size<=w'.heap.size
 block:∀k,k<w.heap.size->¬S k->w'.heap[k]?=w.heap[k]?
def run_copy_row{P:Program}{W:World}{t tx ty el z:Nat}(hu:P.underlying t=some (.slice el))(hz:∀w,(Go.sizeOf el).run P w=.ok z w){b o dLen dCap e:Nat}{arr:S9}(hh:W.heap[b]?=some (.cells arr e (0,0)))
    {x:Value} {sl:Nat} (hl:(Builtin.lenOf x).run P W=.ok sl W) {vs:H6} (hsrc:(Builtin.firstCells z (Nat.min sl dLen) x).run P W=.ok vs.toArray W) (hfit:o+vs.length<=arr.size) (h1:∀u∈vs,u.oneCell'=true):
    (Builtin.copy_ #[t,tx] ty #[.slice (some ⟨b,o,none⟩) dLen dCap,x]).run P W=.ok (goInt (Nat.min sl dLen)) (W.setRow b (arr.toList.take o++vs++arr.toList.drop (o+vs.length)).toArray):=by
 have hst:=run_storeCells_at P b o e vs 0 arr W hh (by simpa using hfit) h1;simp only[pG]at hst;simp[Builtin.copy_,O4 hu,hl,hz,hsrc,hst]
inductive P8(w:World)(el z:Nat):Value->Nat->List Value->Option Nat->Prop
 |e (a:Option Addr):P8 w el z (.slice a 0 0) 0 [] none
 |b (b c n:Nat) (arr:Array Value) (hh:w.heap[b]?=some (.cells arr el (0,0))) (hs:arr.size=c*z) (hn:n<=c) (hm:c<=maxLen) (h1:∀u∈arr.toList.take (n*z),u.oneCell'=true):P8 w el z (.slice (some ⟨b,0,none⟩) n c) n (arr.toList.take (n*z)) (some b)
def vP{w:World}{el z b c n:Nat}{arr:S9}{C:H6}(hh:w.heap[b]?=some (.cells arr el (0,0)))(hs:arr.size=c*z)(hn:n<=c)(hm:c<=maxLen)(h1:∀u∈C,u.oneCell'=true)(hC:arr.toList.take (n*z)=C):P8 w el z (.slice (some ⟨b,0,none⟩) n c) n C (some b):=by subst hC;exact .b b c n arr hh hs hn hm h1
def ck7{t:Nat}{i:TI}(hT:O6 prog t i)(hs:1<=i.size)(n:Nat):∀u∈(Builtin.zeroCells (Q9 i).cells n).toList,u.oneCell'=true:=λu hu=>by
 have hzs:(Q9 i).cells.size=i.size:=by rw[lX hT];simp[hT.len]
 simp only[Builtin.zeroCells,Array.toList_map,jH]at hu;obtain⟨q,hq,rfl⟩:=hu;have hq2:q % (Q9 i).cells.size<(Q9 i).cells.size:=Nat.mod_lt _ (by omega);rw[getElem!_pos (Q9 i).cells _ hq2];have ho:=hT.one;rw[oW]at ho;have hmem:∀u∈(Q9 i).cells.toList,u.oneCell'=true:=by
  rw[lX hT];intro u hu;exact ho u (by simpa using hu)
 exact hmem _ (by simp)
def aD4{t:Nat}{i:TI}(hT:O6 prog t i)(n:Nat):(Builtin.zeroCells (Q9 i).cells n).toList.length=n*i.size:=by
 have hzs:(Q9 i).cells.size=i.size:=by rw[lX hT];simp[hT.len]
 simp[size_zeroCells,hzs]
def Fr.setRow{S:U2}{w w':World}(h:Fr S w w'){b:Nat}{r:S9}(hb:S b\/w.heap.size<=b):Fr S w (w'.setRow b r):=
 ⟨h.os,h.tape,h.output,by simpa[World.setRow]using h.size,λk hk hn=>(vW w' b k r (λe=>hb.elim (λhs=>hn (e▸hs)) (λhl=>by omega))).trans (h.block k hk hn)⟩
def Fr.refl(S:U2)(w:World):Fr S w w:=⟨rfl,rfl,rfl,N8 _,λ_ _ _=>rfl⟩
def Fr.drew{S:U2}{w w':World}(h:Fr S w w'):Fr S w w'.drew:=⟨h.os,h.tape,h.output,h.size,h.block⟩
def Fr.alloc{S:U2}{w w':World}(h:Fr S w w')(o:Obj):Fr S w (w'.alloc o):=
 ⟨h.os,h.tape,h.output,by simp only[World.alloc,Array.size_push];exact Nat.le_succ_of_le h.size,λk hk hn=>(Below.heap_alloc _ _ _ (aH hk h.size)).trans (h.block k hk hn)⟩
def dm3{α:Type}(A V:List α)(a d z:Nat)(hV:V.length=z)(hA:a+d+z<=A.length):
    (A.take (a+z)++(A.drop a).take d++A.drop (a+z+((A.drop a).take d).length)).take a++V++(A.take (a+z)++(A.drop a).take d++A.drop (a+z+((A.drop a).take d).length)).drop (a+V.length)=A.take a++V++(A.drop a).take d++A.drop (a+z+d):=by
 have hd:((A.drop a).take d).length=d:=by rw[Y1,nH];omega
 rw[hd,hV];generalize (A.drop a).take d=vs at hd⊢;have h1:(A.take (a+z)++vs++A.drop (a+z+d)).take a=A.take a:=by
  rw[lC,sG (by rw[Y1];omega),RI,uU (by omega)]
 have h2:(A.take (a+z)++vs++A.drop (a+z+d)).drop (a+z)=vs++A.drop (a+z+d):=by
  rw[lC,List.drop_append_of_le_length (by rw[Y1];omega),EU (by rw[Y1];omega)];rfl
 rw[h1,h2,<-lC]
def cI0{α:Type}(X V vs:List α)(a d z:Nat)(hV:V.length=z)(hvs:vs.length=d)(hX:a+z+d<=X.length):
    (X.take a++V++X.drop (a+V.length)).take (a+z)++vs++(X.take a++V++X.drop (a+V.length)).drop (a+z+vs.length)=X.take a++V++vs++X.drop (a+z+d):=by
 rw[hV,hvs];have h1:(X.take a++V++X.drop (a+z)).take (a+z)=X.take a++V:=by
  rw[sG (by simp[Y1];omega),pF (by simp[Y1];omega)]
 have h2:(X.take a++V++X.drop (a+z)).drop (a+z+d)=X.drop (a+z+d):=by
  rw[List.drop_append,EU (by simp[Y1];omega),List.drop_drop,uS];congr 1;simp[Y1];omega
 rw[h1,h2]
def TF{P:Program}{W:World}{b e:Nat}{arr:S9}(hh:W.heap[b]?=some (.cells arr e (0,0)))(z n o l c:Nat)(hfit:o+n*z<=arr.size):
    (Builtin.firstCells z n (.slice (some ⟨b,o,none⟩) l c)).run P W=.ok ((arr.toList.drop o).take (n*z)).toArray W:=by
 refine run_firstCells_some W z n ⟨b,o,none⟩ l c _ (by rw[Y1,nH,iW];omega) λj v hj=>?_;rw[kN]at hj;split at hj
 .rw[iI,kU W b (o+j) arr e (0,0) hh];rw[zV]at hj;simpa using hj
 .exact nomatch hj
structure IK(F T E Z O:Nat)(ti:TI):Prop where
 hu:prog.underlying T=some (.slice E)
 hty:I7 E=some ti
 hz:∀w,(Go.sizeOf E).run prog w=.ok Z w
 sz:ti.size=Z
 pos:1<=Z
 by_:ti.bytes<=4096
 ov:∀(args:Array Value)(w:World),(callFunc O args).run prog w=((Extern.SlicesOverlaps.overlaps #[T,T] #[4] args).run prog w).andThen λv w'=>.ok (.value v) w'
 one:(F=239/\T=75/\E=134/\Z=4/\O=313)\/(F=77/\T=34/\E=52/\Z=6/\O=133)\/(F=135/\T=26/\E=3/\Z=1/\O=227)
section
variable{F T E Z O:Nat}{ti:TI}
set_option maxRecDepth 100000 in
set_option maxHeartbeats 12000000 in
def aP6(K:IK F T E Z O ti)(w:World)(n c:Nat)(base:qP)(vb vc:Nat)(hn:n<=c)
    (v':Value) (w':World) (hr:(Builtin.append_ #[T,T] T #[.slice base n c,.slice (some ⟨vb,0,none⟩) 1 vc]).run prog w=.ok v' w'):
    Calls prog F #[.slice base n c,.int .i64 n,.slice (some ⟨vb,0,none⟩) 1 vc] w λe w2=>e=.returned v'/\w2=w':=by
 have u:=K.hu;have z:=K.hz;rcases K.one with⟨rfl,rfl,rfl,rfl,rfl⟩|⟨rfl,rfl,rfl,rfl,rfl⟩|⟨rfl,rfl,rfl,rfl,rfl⟩
 all_goals
  clear K;have u:=O4 u
  first|go_enter func239,ntmps239|go_enter func77,ntmps77|go_enter func135,ntmps135
  cases base with
  |none=>
   go_wp2_with (at_builtin;refine bj1 _ rfl _ _ _ _ rfl _ _ rfl rfl _ _ hr ?_)
   go_ret
   exact⟨rfl,rfl⟩
  |some a=>
   obtain⟨ab,ao,asp⟩:=a
   go_wp2_with (at_builtin;refine bj1 _ rfl _ _ _ _ rfl _ _ rfl rfl _ _ hr ?_)
   all_goals (go_ret;exact⟨rfl,rfl⟩)
set_option maxRecDepth 100000 in
set_option maxHeartbeats 12000000 in
def cR3(K:IK F T E Z O ti)(w:World)(b n c i vb vc:Nat)(hi:i<n)(hroom:n+1<=c)(hn:n<=4000)(arr1 YE:S9)
    (hov:∀o lb cb,(callFunc O #[.slice (some ⟨vb,0,none⟩) 1 vc,.slice (some ⟨b,o,none⟩) lb cb]).run prog w=.ok (.value (.bool false)) w)
    (h1:∀W:World,W.heap=w.heap->∀ty dc sc,(Builtin.copy_ #[T,T] ty #[.slice (some ⟨b,(i+1)*Z,none⟩) (n-i) dc,.slice (some ⟨b,i*Z,none⟩) (n+1-i) sc]).run prog W=.ok (goInt ((n-i:Nat):Int)) (W.setRow b arr1))
    (h2:∀W:World,W.heap=(w.setRow b arr1).heap->∀ty dc,(Builtin.copy_ #[T,T] ty #[.slice (some ⟨b,i*Z,none⟩) (n+1-i) dc,.slice (some ⟨vb,0,none⟩) 1 vc]).run prog W=.ok (goInt 1) (W.setRow b YE)):
    Calls prog F #[.slice (some ⟨b,0,none⟩) n c,.int .i64 i,.slice (some ⟨vb,0,none⟩) 1 vc] w λe w2=>e=.returned (.slice (some ⟨b,0,none⟩) (n+1) c)/\w2=(w.drew.setRow b arr1).setRow b YE:=by
 have u:=K.hu;have z:=K.hz;rcases K.one with⟨rfl,rfl,rfl,rfl,rfl⟩|⟨rfl,rfl,rfl,rfl,rfl⟩|⟨rfl,rfl,rfl,rfl,rfl⟩
 all_goals
  clear K;have u:=O4 u
  try simp only[yC]at h1 h2
  have hz2:¬((i:Int)=(n:Int)):=by omega
  have hw1:IntKind.i64.wrap ((i:Int)+1)=(i:Int)+1:=by rw[ak5];omega
  have hw2:IntKind.i64.wrap ((n:Int)+1)=(n:Int)+1:=by rw[ak5];omega
  have hb0:¬((c:Int)<(n:Int)+1):=by omega
  have hb1:(0:Int)<=(i:Int)+1:=by omega
  have hb1':(0:Int)<=(n:Int)+1:=by omega
  have hin:i<=n:=by omega
  have htn:((i:Int)+1).toNat=i+1:=by omega
  have cP1:((n:Int)+1).toNat=n+1:=by omega
  have hb2:¬(c=i+1):=by omega
  have hb3:(i:Int)<=(n:Int)+1:=by omega
  have hb4:¬(c=i):=by omega
  have mixed:=mixed;have h2':=h2 (w.drew.setRow b arr1) rfl 3 (c-i)
  first|go_enter func239,ntmps239|go_enter func77,ntmps77|go_enter func135,ntmps135
  go_wp2_with (simp only[hov])
  go_region_law_o (refine step_copy_runI rfl _ _ _ _ rfl _ _ (by simp[Act.eval,Act.put]) (by simp[Act.eval,Act.put]) (h1 w.drew rfl 3 (c-(i+1)) (c-i)) ?_)
  go_wp2_with (simp only[h2'])
  go_ret
  exact⟨rfl,rfl⟩
set_option maxRecDepth 100000 in
set_option maxHeartbeats 12000000 in
def cR0(K:IK F T E Z O ti)(w W1:World)(b n i vb vc nb G:Nat)(hi:i<n)(hn:n<=4000)(hG:n+1<=G)(arr1 YE:S9)
    (hr:(Builtin.append_ #[T,3] T #[.slice (some ⟨b,0,none⟩) i n,.int .i64 ((n:Int)+1-(i:Int))]).run prog w=.ok (.slice (some ⟨nb,0,none⟩) (n+1) G) W1)
    (h1:∀ty dc,(Builtin.copy_ #[T,T] ty #[.slice (some ⟨nb,i*Z,none⟩) (n+1-i) dc,.slice (some ⟨vb,0,none⟩) 1 vc]).run prog W1=.ok (goInt 1) (W1.setRow nb arr1))
    (h2:∀ty dc sc,(Builtin.copy_ #[T,T] ty #[.slice (some ⟨nb,(i+1)*Z,none⟩) (n-i) dc,.slice (some ⟨b,i*Z,none⟩) (n-i) sc]).run prog (W1.setRow nb arr1).drew=.ok (goInt ((n-i:Nat):Int)) ((W1.setRow nb arr1).drew.setRow nb YE)):
    Calls prog F #[.slice (some ⟨b,0,none⟩) n n,.int .i64 i,.slice (some ⟨vb,0,none⟩) 1 vc] w λe w2=>e=.returned (.slice (some ⟨nb,0,none⟩) (n+1) G)/\w2=(W1.setRow nb arr1).drew.setRow nb YE:=by
 have u:=K.hu;have z:=K.hz;rcases K.one with⟨rfl,rfl,rfl,rfl,rfl⟩|⟨rfl,rfl,rfl,rfl,rfl⟩|⟨rfl,rfl,rfl,rfl,rfl⟩
 all_goals
  clear K;have u:=O4 u
  try simp only[yC]at h1 h2
  have u3:=O4 underlying3;have hz2:¬((i:Int)=(n:Int)):=by omega
  have hw1:IntKind.i64.wrap ((i:Int)+1)=(i:Int)+1:=by rw[ak5];omega
  have hw2:IntKind.i64.wrap ((n:Int)+1)=(n:Int)+1:=by rw[ak5];omega
  have hw3:IntKind.i64.wrap ((n:Int)+1-(i:Int))=(n:Int)+1-(i:Int):=by rw[ak5];omega
  have hb0:(n:Int)<(n:Int)+1:=by omega
  have hb1:(0:Int)<=(i:Int)+1:=by omega
  have hb1':(0:Int)<=(n:Int)+1:=by omega
  have hin:i<=n:=by omega
  have htn:((i:Int)+1).toNat=i+1:=by omega
  have cP1:((n:Int)+1).toNat=n+1:=by omega
  have hb2:¬(G=i+1):=by omega
  have hb3:(i:Int)<=(n:Int)+1:=by omega
  have dR8:(i:Int)+1<=(n:Int)+1:=by omega
  have hb4:¬(n=i):=by omega
  have hb5:¬(G=i):=by omega
  have hni:n+1-(i+1)=n-i:=by omega
  have mixed:=mixed;have h1':=h1 3 (G-i)
  first|go_enter func239,ntmps239|go_enter func77,ntmps77|go_enter func135,ntmps135
  go_wp2_with (first|(at_builtin;refine bj1 _ rfl _ _ _ _ rfl _ _ rfl rfl _ _ hr ?_)|(at_builtin;refine wpList_copy_runI _ rfl _ _ _ _ rfl _ _ rfl rfl (h1 _ _) ?_)|simp only[h1'])
  go_region_law_o (refine step_copy_runI rfl _ _ _ _ rfl _ _ (by simp[Act.eval,Act.put]) (by simp[Act.eval,Act.put]) (h2 3 (G-(i+1)) (n-i)) ?_)
  go_wp2
  go_ret
  exact⟨rfl,rfl⟩
set_option maxRecDepth 100000 in
set_option maxHeartbeats 4000000 in
def aP7(K:IK F T E Z O ti){w:World}{v:Value}{n:Nat}{C:H6}{ob:E8}(h:P8 w E Z v n C ob){i:Nat}(hi:i<=n)(hn:n<=4000){vb vc:Nat}{V:S9}(hV:w.heap[vb]?=some (.cells V E (0,0)))(NI:Z<=V.size)
    (hV1:∀u∈V.toList.take Z,u.oneCell'=true) (hne:ob≠some vb):Calls prog F #[v,.int .i64 i,.slice (some ⟨vb,0,none⟩) 1 vc] w λe w'=>
      ∃v' ob',e=.returned v'/\P8 w' E Z v' (n+1) (C.take (i*Z)++V.toList.take Z++C.drop (i*Z)) ob'/\(ob'=ob\/∃b',ob'=some b'/\w.heap.size<=b')/\Fr (λk=>ob=some k) w w':=by
 have hu:=K.hu;have hty:=K.hty;have hz:=K.hz;have hp:=K.pos;have tk:=ae0.ty _ _ hty;have S:∀a,(a+1)*Z=a*Z+Z:=λa=>Nat.succ_mul a Z;have M:∀{a b},a<=b->a*Z<=b*Z:=λh=>iJ Z h;have D:∀a b,(b-a)*Z=b*Z-a*Z:=λa b=>Nat.sub_mul b a Z;obtain⟨Vl,hVe⟩:∃Vl,Vl=V.toList.take Z:=⟨_,rfl⟩;rw[<-hVe]at hV1⊢;have lN:Vl.length=Z:=by rw[hVe,Y1,iW];omega
 have hvb:vb<w.heap.size:=(X6.1 hV).1;have hsrc:∀W:World,W.heap[vb]?=some (.cells V E (0,0))->Src prog ti.size T (.slice (some ⟨vb,0,none⟩) 1 vc) 1 Vl W:=λW hW=>
  Src.ofSlice W hu ⟨vb,0,none⟩ 1 vc Vl (by rw[lN,K.sz,nI]) (λj u hj=>by rw[iI,X9,kU W vb j V E (0,0) hW];rw[hVe,kN]at hj;split at hj;(simpa using hj);exact nomatch hj) hV1
 have hA:=aE5 ae0.ty hu hty K.by_ (hsrc w hV);have hsV:∀W:World,W.heap[vb]?=some (.cells V E (0,0))->∀m,1<=m->(Builtin.firstCells Z (Nat.min 1 m) (.slice (some ⟨vb,0,none⟩) 1 vc)).run prog W=.ok Vl.toArray W:=λW hW m hm=>by
  have q:=(hsrc W hW).cells;rw[K.sz]at q;rw[show Nat.min 1 m=1 from uU hm];exact q
 have hz1:=ck7 tk (by rw[K.sz];exact hp);have hzl:∀n,(Builtin.zeroCells (Q9 ti).cells n).toList.length=n*Z:=λn=>by rw[aD4 tk,K.sz]
 have fresh:∀(L:H6)(m n':Nat)(base:qP)(c:Nat),L.length=n'*Z->n'+1<=m->m<=maxLen->(∀u∈L,u.oneCell'=true)->
  P8 (w.drew.alloc (.cells ((L++Vl).toArray++Builtin.zeroCells (Q9 ti).cells (m-(n'+1))) E)) E Z (.slice (some ⟨w.heap.size,0,none⟩) (n'+1) m) (n'+1) (L++Vl) (some w.heap.size):=λL m n' base c hL hm hmx hL1=>
  have a1:=S n';have a2:=M hm;have a3:=D (n'+1) m
  vP (bJ w.drew _) (by simp only[Array.size_append,oZ,cO,hL,lN];rw[<-iW,hzl];omega) hm hmx
   (λu hu=>by
     simp only[iY]at hu;rcases hu with hu|hu
     .exact hL1 u hu
     .exact hV1 u hu)
   (by simp only[ak3];rw[sG (by simp only[cO,hL,lN];omega),pF (by simp only[cO,hL,lN];omega)])
 cases h with
 |e a=>
  obtain rfl:i=0:=by omega
  obtain⟨m,hm,hmx,hr⟩:=hA.grow T a 0 0 [] (by rw[K.sz];rcases K.one with⟨rfl,rfl,rfl,rfl,rfl⟩|⟨rfl,rfl,rfl,rfl,rfl⟩|⟨rfl,rfl,rfl,rfl,rfl⟩<;>cases a<;>rfl) (by omega) (by omega)
  refine(aP6 K w 0 0 a vb vc (N8 _) _ _ hr).mono λe w' ⟨he,hw⟩=>⟨_,some w.heap.size,he,?_,.inr ⟨_,rfl,N8 _⟩,?_⟩
  .rw[hw];simpa using fresh [] m 0 a 0 (by simp) hm hmx (λu hu=>by simp at hu)
  .rw[hw];exact((Fr.refl _ w).drew).alloc _
 |b b c n arr hh hs hnc hcm h1=>
  have hbw:b<w.heap.size:=(X6.1 hh).1;have bA8:vb≠b:=λe=>hne (by rw[e]);have hAl:arr.toList.length=c*Z:=by rw[iW,hs]
  have b1:=S i;have b2:=S n;have b3:=M hi;have b4:=M hnc;by_cases hin:i=n
  .subst hin;have hC:(arr.toList.take (i*Z)).take (i*Z)++Vl++(arr.toList.take (i*Z)).drop (i*Z)=arr.toList.take (i*Z)++Vl:=by
    rw[RI,Nat.min_self,EU (by rw[Y1];omega),List.append_nil]
   rw[hC];have hrow:=TF (P:=prog) (W:=w.drew) hh Z i 0 i c (by rw[hs];omega);by_cases hroom:i+1<=c
   .have b5:=M hroom;have hr:=hA.room T b 0 i c E arr hh hroom (by rw[lN,hs,K.sz];omega);refine(aP6 K w i c _ vb vc hnc _ _ hr).mono λe w' ⟨he,hw⟩=>⟨_,some b,he,?_,.inl rfl,?_⟩
    .rw[hw];refine vP (rU w b arr _ E (0,0) hh) (by simp only[oZ,cO,Y1,nH,lN,hAl,K.sz];omega) hroom hcm (λu hu=>?_) ?_
     .simp only[iY]at hu;rcases hu with hu|hu
      .exact h1 u hu
      .exact hV1 u hu
     .simp only[X9,K.sz];rw[sG (by simp only[cO,Y1,lN,hAl];omega),pF (by simp only[cO,Y1,lN,hAl];omega)]
    .rw[hw];exact(Fr.refl _ w).setRow (.inl rfl)
   .obtain⟨m,hm,hmx,hr⟩:=hA.grow T (some ⟨b,0,none⟩) i c (arr.toList.take (i*Z)) (by rw[K.sz];simpa using hrow) (by omega) (by omega);refine(aP6 K w i c _ vb vc hnc _ _ hr).mono λe w' ⟨he,hw⟩=>⟨_,some w.heap.size,he,?_,.inr ⟨_,rfl,N8 _⟩,?_⟩
    .rw[hw];exact fresh _ m i none 0 (by rw[Y1,hAl];omega) hm hmx h1
    .rw[hw];exact((Fr.refl _ w).drew).alloc _
  .have hlt:i<n:=by omega
   have b6:=D i n;have b7:=D i (n+1);have b8:=M (show i+1<=n from hlt);have hmn:Nat.min (n+1-i) (n-i)=n-i:=Nat.min_eq_right (by omega);have bz0:Nat.min (n-i) (n-i)=n-i:=Nat.min_self _;have hm1:Nat.min 1 (n+1-i)=1:=uU (by omega);have hdl:((arr.toList.drop (i*Z)).take ((n-i)*Z)).length=(n-i)*Z:=by rw[Y1,nH,hAl];omega
   have cI9:(arr.toList.take (n*Z)).drop (i*Z)=(arr.toList.drop (i*Z)).take ((n-i)*Z):=by rw[List.drop_take];congr 1;omega
   have ht1:∀u∈arr.toList.take (i*Z),u.oneCell'=true:=λu hu=>h1 u (by rw[show arr.toList.take (i*Z)=(arr.toList.take (n*Z)).take (i*Z)from by rw[RI,uU (by omega)]]at hu;exact EY hu);have ar1:∀u∈(arr.toList.drop (i*Z)).take ((n-i)*Z),u.oneCell'=true:=λu hu=>h1 u (by rw[<-cI9]at hu;exact KP hu);have hCt:(arr.toList.take (n*Z)).take (i*Z)=arr.toList.take (i*Z):=by rw[RI,uU (by omega)]
   have hCd:(arr.toList.take (n*Z)).drop (i*Z)=(arr.toList.drop (i*Z)).take ((n-i)*Z):=by rw[List.drop_take];congr 1;omega
   rw[hCt,hCd];have hi1:(i+1)*Z=i*Z+Z:=by omega
   by_cases hroom:n+1<=c
   .have b5:=M hroom;have hkey:=dm3 arr.toList Vl (i*Z) ((n-i)*Z) Z lN (by rw[hAl];omega);obtain⟨R1,hR1⟩:∃R1:S9,R1=(arr.toList.take ((i+1)*Z)++(arr.toList.drop (i*Z)).take ((n-i)*Z)++arr.toList.drop ((i+1)*Z+((arr.toList.drop (i*Z)).take ((n-i)*Z)).length)).toArray:=⟨_,rfl⟩;have aM0:R1.toList.length=c*Z:=by
     rw[hR1];simp only[cO,Y1,nH,hAl];omega
    rw[<-hi1,show arr.toList.take ((i+1)*Z)++(arr.toList.drop (i*Z)).take ((n-i)*Z)++arr.toList.drop ((i+1)*Z+((arr.toList.drop (i*Z)).take ((n-i)*Z)).length)=R1.toList from by rw[hR1]]at hkey;have key2:(arr.toList.take (i*Z)++Vl++(arr.toList.drop (i*Z)).take ((n-i)*Z)++arr.toList.drop ((i+1)*Z+(n-i)*Z)).length=c*Z:=by
     simp only[cO,Y1,nH,hAl,lN];omega
    refine(cR3 K w b n c i vb vc hlt hroom hn R1
     (arr.toList.take (i*Z)++Vl++(arr.toList.drop (i*Z)).take ((n-i)*Z)++arr.toList.drop ((i+1)*Z+(n-i)*Z)).toArray
     (λo lb cb=>?_) (λW hW ty dc sc=>?_) (λW hW ty dc=>?_)).mono λe w' ⟨he,hw⟩=>⟨_,some b,he,?_,.inl rfl,?_⟩
    .rw[K.ov,
      Lib.run_overlaps_apart w T 4 E hu Z hz ⟨vb,0,none⟩ ⟨b,o,none⟩ 1 vc lb cb bA8 E E V.size (c*Z) (by simp[World.shape?,hV]) (by simp[World.shape?,hh,hs]) (by omega) (by simp[World.frozen?,hV]) (by simp[World.frozen?,hV])]
     rfl
    .have hc:=run_copy_row (P:=prog) (W:=W) (t:=T) (tx:=T) (ty:=ty) (dCap:=dc) (o:=(i+1)*Z) (dLen:=n-i) (x:=.slice (some ⟨b,i*Z,none⟩) (n+1-i) sc) hu hz (by rw[hW];exact hh) (sl:=n+1-i) rfl
      (vs:=(arr.toList.drop (i*Z)).take ((n-i)*Z)) (by rw[hmn];exact TF (by rw[hW];exact hh) _ _ _ _ _ (by rw[hs];omega)) (by rw[hdl,hs];omega) ar1
     rw[hmn,<-hR1]at hc;exact hc
    .have hb2:W.heap[b]?=some (.cells R1 E (0,0)):=by rw[hW];exact rU w b arr R1 E (0,0) hh
     have hv2:W.heap[vb]?=some (.cells V E (0,0)):=by rw[hW];exact(vW w b vb _ bA8).trans hV
     have hc:=run_copy_row (P:=prog) (W:=W) (t:=T) (tx:=T) (ty:=ty) (dCap:=dc) (o:=i*Z) (dLen:=n+1-i) (x:=.slice (some ⟨vb,0,none⟩) 1 vc) hu hz hb2 (sl:=1) rfl
      (vs:=Vl) (hsV W hv2 _ (by omega)) (by rw[lN,<-iW,aM0];omega) hV1
     rw[hm1,hkey]at hc;exact hc
    .rw[hw];refine vP (rU (w.drew.setRow b R1) b R1 _ E (0,0) (rU w.drew b arr R1 E (0,0) hh)) (by rw[oZ];exact key2) hroom hcm (λu hu=>?_) ?_
     .simp only[iY]at hu;rcases hu with(hu|hu)|hu
      .exact ht1 u hu
      .exact hV1 u hu
      .exact ar1 u hu
     .rw[sG (by simp only[cO,Y1,nH,lN,hAl];omega),pF (by simp only[cO,Y1,nH,lN,hAl];omega)]
    .rw[hw];exact((((Fr.refl (λk=>some b=some k) w).drew).setRow (.inl rfl)).setRow (.inl rfl))
   .obtain rfl:n=c:=by omega
    have hAz:=bl2 (w:=w) ae0.ty hu hty K.by_ (by rw[K.sz];exact hp) (k:=.i64) underlying3 (n:=n+1-i) (by omega);have hrow:=TF (P:=prog) (W:=w.drew) hh Z i 0 i n (by rw[hs];omega);obtain⟨m,hm,hmx,hr⟩:=hAz.grow T (some ⟨b,0,none⟩) i n (arr.toList.take (i*Z)) (by rw[K.sz];simpa using hrow) (by omega) (by omega);have hin1:i+(n+1-i)=n+1:=by omega
    rw[hin1]at hm hr;have b9:=M hm;have c1:=D (n+1) m;rw[show Int.ofNat (n+1-i)=(n:Int)+1-(i:Int)from by simp only[Int.ofNat_eq_natCast];omega]at hr;obtain⟨X,hX⟩:∃X:S9,X=(arr.toList.take (i*Z)++(Builtin.zeroCells (Q9 ti).cells (n+1-i)).toList).toArray++Builtin.zeroCells (Q9 ti).cells (m-(n+1)):=⟨_,rfl⟩;rw[<-hX]at hr;have vI:X.toList.length=m*Z:=by
     rw[hX];simp only[ak3,cO,Y1,hAl,hzl];omega
    have hXt:X.toList.take (i*Z)=arr.toList.take (i*Z):=by
     rw[hX];simp only[ak3];rw[lC,sG (by rw[Y1,hAl];omega),RI,Nat.min_self]
    have hkey:=cI0 X.toList Vl ((arr.toList.drop (i*Z)).take ((n-i)*Z)) (i*Z) ((n-i)*Z) Z lN hdl (by rw[vI];omega);obtain⟨R1,hR1⟩:∃R1:S9,R1=(X.toList.take (i*Z)++Vl++X.toList.drop (i*Z+Vl.length)).toArray:=⟨_,rfl⟩;have aM0:R1.toList.length=m*Z:=by
     rw[hR1];simp only[cO,Y1,nH,vI,lN];omega
    rw[<-hi1,show X.toList.take (i*Z)++Vl++X.toList.drop (i*Z+Vl.length)=R1.toList from by rw[hR1]]at hkey;have hn1:(w.drew.alloc (.cells X E)).heap[w.heap.size]?=some (.cells X E (0,0)):=bJ w.drew _;have hv1:(w.drew.alloc (.cells X E)).heap[vb]?=some (.cells V E (0,0)):=(Below.heap_alloc w.drew _ _ hvb).trans hV;have hb1:(w.drew.alloc (.cells X E)).heap[b]?=some (.cells arr E (0,0)):=(Below.heap_alloc w.drew _ _ hbw).trans hh
    refine(cR0 K w (w.drew.alloc (.cells X E)) b n i vb vc w.heap.size m hlt hn hm R1
     (X.toList.take (i*Z)++Vl++(arr.toList.drop (i*Z)).take ((n-i)*Z)++X.toList.drop ((i+1)*Z+(n-i)*Z)).toArray hr (λty dc=>?_) (λty dc sc=>?_)).mono λe w' ⟨he,hw⟩=>⟨_,some w.heap.size,he,?_,.inr ⟨_,rfl,N8 _⟩,?_⟩
    .have hc:=run_copy_row (P:=prog) (t:=T) (tx:=T) (ty:=ty) (dCap:=dc) (o:=i*Z) (dLen:=n+1-i) (x:=.slice (some ⟨vb,0,none⟩) 1 vc) hu hz hn1 (sl:=1) rfl
      (vs:=Vl) (hsV _ hv1 _ (by omega)) (by rw[lN,<-iW,vI];omega) hV1
     rw[hm1,<-hR1]at hc;exact hc
    .have hc:=run_copy_row (P:=prog) (t:=T) (tx:=T) (ty:=ty) (dCap:=dc) (o:=(i+1)*Z) (dLen:=n-i) (x:=.slice (some ⟨b,i*Z,none⟩) (n-i) sc)
      (W:=((w.drew.alloc (.cells X E)).setRow w.heap.size R1).drew) hu hz (rU (w.drew.alloc (.cells X E)) w.heap.size X R1 E (0,0) hn1) (sl:=n-i) rfl
      (vs:=(arr.toList.drop (i*Z)).take ((n-i)*Z)) (by rw[bz0];exact TF (P:=prog) (W:=((w.drew.alloc (.cells X E)).setRow w.heap.size R1).drew) ((vW (w.drew.alloc (.cells X E)) w.heap.size b R1 (by omega)).trans hb1) Z (n-i) (i*Z) (n-i) sc (by rw[hs];omega))
      (by rw[hdl,<-iW,aM0];omega) ar1
     rw[bz0,hkey]at hc;exact hc
    .rw[hw];refine vP (rU ((w.drew.alloc (.cells X E)).setRow w.heap.size R1).drew w.heap.size R1 _ E (0,0) (rU (w.drew.alloc (.cells X E)) w.heap.size X R1 E (0,0) hn1)) (by simp only[oZ,cO,Y1,nH,vI,lN,hAl];omega) hm hmx (λu hu=>?_) ?_
     .simp only[iY]at hu;rcases hu with(hu|hu)|hu
      .exact ht1 u hu
      .exact hV1 u hu
      .exact ar1 u hu
     .rw[sG (by simp only[cO,Y1,nH,lN,hAl,vI];omega),pF (by simp only[cO,Y1,nH,lN,hAl,vI];omega),hXt]
    .rw[hw];exact((((Fr.refl _ w).drew.alloc _).setRow (.inr (N8 _))).drew.setRow (.inr (N8 _)))
end
def ikC:IK 239 75 134 4 313 JQ:=⟨underlying75,rfl,sizeOf134,rfl,by decide,by decide,run_callFunc_extern func313 (by kernel_rfl) (by kernel_rfl) (by kernel_rfl) (by kernel_rfl),.inl ⟨rfl,rfl,rfl,rfl,rfl⟩⟩
def ikB:IK 77 34 52 6 133 xO:=⟨underlying34,rfl,sizeOf52,rfl,by decide,by decide,run_callFunc_extern func133 (by kernel_rfl) (by kernel_rfl) (by kernel_rfl) (by kernel_rfl),.inr (.inl ⟨rfl,rfl,rfl,rfl,rfl⟩)⟩
def ikI:IK 135 26 3 1 227 rW:=⟨underlying26,rfl,sizeOf3,rfl,by decide,by decide,run_callFunc_extern func227 (by kernel_rfl) (by kernel_rfl) (by kernel_rfl) (by kernel_rfl),.inr (.inr ⟨rfl,rfl,rfl,rfl,rfl⟩)⟩
def RF(f e z:Nat):Prop:=∀{w:World}{v:Value}{n:Nat}{C:H6}{ob:E8},P8 w e z v n C ob->∀{i:Nat},i<=n->n<=4000->∀{vb vc:Nat}{V:S9},w.heap[vb]?=some (.cells V e (0,0))->z<=V.size->
 (∀u∈V.toList.take z,u.oneCell'=true)->ob≠some vb->Calls prog f #[v,.int .i64 i,.slice (some ⟨vb,0,none⟩) 1 vc] w λe' w'=>
   ∃v' ob',e'=.returned v'/\P8 w' e z v' (n+1) (C.take (i*z)++V.toList.take z++C.drop (i*z)) ob'/\(ob'=ob\/∃b',ob'=some b'/\w.heap.size<=b')/\Fr (λk=>ob=some k) w w'
def cQ7:RF 239 134 4:=λh _ hi hn _ _ _ hV NI hV1 hne=>aP7 ikC h hi hn hV NI hV1 hne
def cQ6:RF 77 52 6:=λh _ hi hn _ _ _ hV NI hV1 hne=>aP7 ikB h hi hn hV NI hV1 hne
def cQ8:RF 135 3 1:=λh _ hi hn _ _ _ hV NI hV1 hne=>aP7 ikI h hi hn hV NI hV1 hne
def bN0{w:World}{e z n:Nat}{v:Value}{xs:H6}(h:w.ownsRow 0 e z v n xs)(h1:∀u∈xs,u.oneCell'=true):∃ob,P8 w e z v n xs ob/\ob=v.ownBlock:=by
 obtain⟨hl,⟨rfl,rfl⟩|⟨g,cap,cur,rfl,_,hh,hn,hm,hs,rfl⟩⟩:=h
 .obtain rfl:xs=[]:=mD (by omega);exact⟨none,.e none,rfl⟩
 .exact⟨some g,.b g cap n cur hh hs hn hm h1,rfl⟩
def P8.row{w:World}{e z n:Nat}{v:Value}{C:H6}{ob:E8}(h:P8 w e z v n C ob)(hn:n≠0):∃b c arr,ob=some b/\v=.slice (some ⟨b,0,none⟩) n c/\w.heap[b]?=some (.cells arr e (0,0))/\w.ownsRow 0 e z v n C:=by
 cases h with
 |e a=>exact absurd rfl hn
 |b b c n arr hh hs hnc hm h1=>exact⟨b,c,arr,rfl,rfl,hh,by rw[Y1,iW,hs];exact uU (iJ _ hnc),.inr ⟨b,c,arr,rfl,aF _,hh,hnc,hm,hs,rfl⟩⟩
def P8.heap{w:World}{e z n:Nat}{v:Value}{C:H6}{ob:E8}(h:P8 w e z v n C ob){k:Nat}(hk:ob=some k):∃arr,w.heap[k]?=some (.cells arr e (0,0)):=by
 cases h with
 |e a=>cases hk
 |b b c n arr hh=>injection hk with hk;subst hk;exact⟨arr,hh⟩
def bS0{Z:Zone}{w:World}{ob:J8}{Eo:Q8}{c:CV}{x:Value}(h:O7 Z w ob Eo (.c c) x):Rep Z w c x:=by cases h with|c _ _ h=>exact h
def cD2{G:aB}{f e z:Nat}(hb:rZ prog f)(hins:RF f e z)(l:dS)(d:G9)(i:Nat)(hi:i<=l.length)(hn:l.length<=4000):
    gI prog G f [.rs 0 0,.c (I i),.rs 1 0] [(0,.arr e z l none),(0,.arr e z [d] none)] (.rs 0 1) [(1,.arr e z (l.take i++[d]++l.drop i) none),(0,.arr e z [d] none)]:=by
 refine⟨hb,λZ w Eo vs hg hzl hl hargs hgs=>?_⟩
 match vs,hl with
 |[v,iv,u],_=>
  have hx:=hargs 0 (.rs 0 0) v rfl rfl;have hiv:=bS0 (hargs 1 (.c (I i)) iv rfl rfl);have hu:=hargs 2 (.rs 1 0) u rfl rfl;have hE0:Eo 0=v:=by cases hx with|rs _ _ _ _ _ h=>exact h _ _ _ _ rfl
  have hE1:Eo 1=u:=by cases hu with|rs _ _ _ _ _ h=>exact h _ _ _ _ rfl
  obtain rfl:iv=.int .i64 i:=by cases hiv;rfl
  have⟨xs,hz0,hown,hfoc,rC,hcells,hnz⟩:=hg.ok 0;have⟨ys,_,hown1,cL6,aN2,bx9,cN0⟩:=hg.ok 1;rw[hE0]at hown hnz;rw[hE1]at hown1 cN0;have hx1:∀u∈xs,u.oneCell'=true:=λu hu=>by
   obtain⟨k,hk,rfl⟩:=eX hu;have hkl:k<l.length*z:=by rw[<-hown.1];exact hk
   have hq:k/z<l.length:=Nat.div_lt_of_lt_mul (by rw[Nat.mul_comm];exact hkl);have hd:aO l none (k/z)=some l[k/z]:=J9 hq;have hdl:=rC (k/z) _ hq hd;have hr:k % z<l[k/z].length:=by rw[hdl];exact Nat.mod_lt _ hz0
   have⟨ha,u,hu,hrep⟩:=hcells (k/z) _ hq hd (k % z) _ (J9 hr);rw[Nat.mul_comm,Nat.div_add_mod,J9 hk]at hu;injection hu with hu
   rw[hu];exact hrep.au0 ha
  have hy1:∀u∈ys,u.oneCell'=true:=λu hu=>by
   obtain⟨k,hk,rfl⟩:=eX hu;have hkl:k<z:=by have:=hown1.1;simp at this;omega
   have hdl:=aN2 0 d (by simp) rfl;have⟨ha,u,hu,hrep⟩:=bx9 0 d (by simp) rfl k _ (J9 (show k<d.length by omega));rw[Nat.zero_mul,X9,J9 hk]at hu;injection hu with hu
   rw[hu];exact hrep.au0 ha
  have⟨ob,hob,aN8⟩:=bN0 hown hx1;obtain⟨hyl,⟨_,h0⟩|⟨vb,vc,V,hue,_,hV,_,_,NI,hys⟩⟩:=hown1
  .simp at h0
  .subst hue;simp only[sD,List.length_nil,X9,nI]at hys hyl;have hVz:z<=V.size:=by rw[<-iW];have:=congrArg List.length hys;rw[Y1]at this;omega
   have hap:∀b,ob=some b->b≠vb:=λb hb hbe=>by
    refine hg.apart 0 1 b (by decide) ?_ ?_
    .show(G8.arr e z l none).blk (Eo 0) b;rw[hE0];rw[aN8]at hb;cases v with
     |slice a n c=>cases a with
      |none=>simp[Value.ownBlock]at hb
      |some a=>simpa[Value.ownBlock,G8.blk]using hb
     |_=>simp[Value.ownBlock]at hb
    .show(G8.arr e z [d] none).blk (Eo 1) b;rw[hE1];simp[G8.blk,hbe]
   refine(hins hob hi hn hV hVz (by rw[hys];exact hy1) (λh=>hap vb h rfl)).mono ?_;rintro e' w' ⟨v',ob',rfl,hO,aN5,hfr⟩;obtain⟨b',c',arr',rfl,rfl,hh',hrow⟩:=hO.row (by omega);have bz5:∀k,ob=some k->(G8.arr e z l none).blk (Eo 0) k:=λk hk=>by
    rw[hE0];rw[aN8]at hk;cases v with
    |slice a n c=>cases a with
     |none=>simp[Value.ownBlock]at hk
     |some a=>simpa[Value.ownBlock,G8.blk]using hk
    |_=>simp[Value.ownBlock]at hk
   have aq8:∀k o,ob=some k->¬Z k o:=λk o hk=>hnz k o (aN8▸hk);have hkeep:Keeps Z w Z w':=λb o hz=>⟨hz,jM (hfr.block b (hzl b o hz) (λh=>aq8 b o h hz))⟩;have hnew:∀b,b=b'->ob=some b\/w.heap.size<=b:=λb hb=>by
    subst hb;rcases aN5 with h|⟨q,h,hq⟩
    .exact .inl h.symm
    .injection h with h;subst h;exact .inr hq
   have dT4:vb<w.heap.size:=(X6.1 hV).1;have hok:eY (I5 [(0,G8.arr e z l none),(0,G8.arr e z [d] none)]) Eo (I5 [(1,G8.arr e z (l.take i++[d]++l.drop i) none),(0,G8.arr e z [d] none)]) (λj=>if j=0 then .slice (some ⟨b',0,none⟩) (l.length+1) c' else Eo j):=by
    have h2:∀t,I5 [(1,G8.arr e z (l.take i++[d]++l.drop i) none),(0,G8.arr e z [d] none)] (t+2)=(0,.none):=λt=>by simp[I5]
    have h2':∀t,I5 [(0,G8.arr e z l none),(0,G8.arr e z [d] none)] (t+2)=(0,.none):=λt=>by simp[I5]
    refine⟨λt=>?_,λt g hg hl=>?_,λt g el s hg ho=>?_,λt g el s ds D7 hg ho=>?_,λt g es hg ho=>?_⟩
    .match t with
     |0=>exact aF _
     |1=>exact N8 _
     |t+2=>rw[h2,h2'];exact N8 _
    .match t with
     |0=>obtain⟨cs,h|h|h⟩:=hl<;>cases h
     |1=>obtain⟨cs,h|h|h⟩:=hl<;>cases h
     |t+2=>obtain⟨cs,h|h|h⟩:=hl<;>(rw[h2]at h;cases h)
    .match t with
     |0=>cases ho
     |1=>cases ho
     |t+2=>rw[h2]at ho;cases ho
    .match t with
     |0=>cases ho;exact absurd hg (Nat.not_succ_le_zero 0)
     |1=>exact⟨⟨ds,D7,ho⟩,rfl⟩
     |t+2=>rw[h2]at ho;cases ho
    .match t with
     |0=>cases ho
     |1=>cases ho
     |t+2=>rw[h2]at ho;cases ho
   have hl':(l.take i++[d]++l.drop i).length=l.length+1:=by simp;omega
   have hxl:xs.length=l.length*z:=hown.1;have aO9:(V.toList.take z).length=z:=by rw[hys];exact hyl
   have hiz:i*z<=xs.length:=by rw[hxl];exact iJ _ hi
   refine⟨_,Z,_,rfl,
    { res:=.rs 0 1 _ ⟨_,_,_,rfl⟩ (N8 _) λ_ _ _ _ _=>rfl
      grp:=⟨λj=>?_,λj j' b hj h1 h2=>?_⟩
      keeps:=hkeep
      X5:=λb o hz=>aH (hzl b o hz) hfr.size
      iH:=λb o hz=>.inl hz
      kept:=⟨hfr.os,hfr.tape,hfr.output,hfr.size,λk hk=>hfr.block k hk.1 (λh=>hk.2 ⟨0,bz5 k h⟩),λk hk=>?_⟩
      own:=λb ⟨j,hj⟩=>?_
      ok:=hok }⟩
   .match j with
    |0=>
     refine⟨_,hz0,by show w'.ownsRow 0 e z _ (l.take i++[d]++l.drop i).length _;rw[hl'];exact hrow,⟨λ_ _ h=>(nomatch h),λk q hq _=>?_⟩,λk q hk hq=>?_,λk q hk hq j c hc=>?_,λb o hb hz=>?_⟩
     .have hm:=iZ hq;simp only[iY,xZ]at hm;rcases hm with(hm|rfl)|hm
      .obtain⟨p,hp,rfl⟩:=eX (EY hm);exact hfoc.2 p _ (J9 hp) (λ_ _ h=>nomatch h)
      .exact cL6.2 0 q rfl (λ_ _ h=>nomatch h)
      .obtain⟨p,hp,rfl⟩:=eX (KP hm);exact hfoc.2 p _ (J9 hp) (λ_ _ h=>nomatch h)
     .replace hq:(l.take i++[d]++l.drop i)[k]?=some q:=hq;have hm:=iZ hq;simp only[iY,xZ]at hm;rcases hm with(hm|rfl)|hm
      .obtain⟨p,hp,rfl⟩:=eX (EY hm);exact rC p _ hp (J9 hp)
      .exact aN2 0 q (by simp) rfl
      .obtain⟨p,hp,rfl⟩:=eX (KP hm);exact rC p _ hp (J9 hp)
     .replace hq:(l.take i++[d]++l.drop i)[k]?=some q:=hq;have hxk:∀(p j:Nat)(c:CV),l[p]?=some q->q[j]?=some c->c.atom=true/\∃u,xs[p*z+j]?=some u/\Z5 Z w' (I5 [(1,G8.arr e z (l.take i++[d]++l.drop i) none),(0,G8.arr e z [d] none)]) (λj=>if j=0 then .slice (some ⟨b',0,none⟩) (l.length+1) c' else Eo j) c u:=λp j c hp hc=>by
       have⟨ha,u,hu,hr⟩:=hcells p q (P7.1 hp).1 hp j c hc;exact⟨ha,u,hu,hr.keep hkeep hok⟩
      have hql:q.length=z:=by
       have hm:=iZ hq;simp only[iY,xZ]at hm;rcases hm with(hm|rfl)|hm
       .obtain⟨p,hp,rfl⟩:=eX (EY hm);exact rC p _ hp (J9 hp)
       .exact aN2 0 q (by simp) rfl
       .obtain⟨p,hp,rfl⟩:=eX (KP hm);exact rC p _ hp (J9 hp)
      have hjz:j<z:=by rw[<-hql];exact(P7.1 hc).1
      have htk:(xs.take (i*z)).length=i*z:=by rw[Y1];omega
      rcases yB k i with hlt|rfl|hgt
      .rw[lC,dX (by rw[Y1];omega),kN,I9 hlt]at hq;have hm:k*z+z<=i*z:=by rw[<-Nat.succ_mul];exact iJ z hlt
       rw[lC,dX (by rw[htk];omega),kN,I9 (by omega)];exact hxk k j c hq hc
      .rw[lC,dN (by rw[Y1];omega),Y1,uU hi,Nat.sub_self]at hq;simp at hq;subst hq;rw[lC,dN (by rw[htk];omega),htk,Nat.add_sub_cancel_left,dX (by rw[aO9];omega),hys];have⟨ha,u,hu,hr⟩:=bx9 0 d (by simp) rfl j c hc;rw[Nat.zero_mul,X9]at hu;exact⟨ha,u,hu,hr.keep hkeep hok⟩
      .rw[dN (by simp;omega),zV]at hq;have hq2:l[k-1]?=some q:=by rw[<-hq];congr 1;simp;omega
       have hm:i*z+z<=k*z:=by rw[<-Nat.succ_mul];exact iJ z hgt
       have hk1:(k-1)*z=k*z-z:=by rw[Nat.sub_mul,nI]
       rw[dN (by rw[cO,htk,aO9];omega),zV,cO,htk,aO9,
        show i*z+(k*z+j-(i*z+z))=(k-1)*z+j from by rw[hk1];omega]
       exact hxk (k-1) j c hq2 hc
     .simp only[if_true,Value.ownBlock,aQ]at hb;rcases hnew b hb.symm with h|h
      .exact aq8 b o h hz
      .have:=hzl b o hz;omega
    |1=>exact(hg.ok 1).keep hkeep hok λb hb=>⟨hfr.block b ((hg.ok 1).lt hb) (λh=>by
      have:b=vb:=by
       have hb':(G8.arr e z [d] none).blk (Eo 1) b:=hb;rw[hE1]at hb';simpa[G8.blk]using hb'.symm
      exact hap b h this),λ_ h=>h⟩
    |j+2=>rw[show I5 [(1,G8.arr e z (l.take i++[d]++l.drop i) none),(0,G8.arr e z [d] none)] (j+2)=(0,.none)from by simp[I5]];trivial
   .have g0:∀b,(I5 [(1,G8.arr e z (l.take i++[d]++l.drop i) none),(0,G8.arr e z [d] none)] 0).2.blk (Value.slice (some ⟨b',0,none⟩) (l.length+1) c') b->b=b':=λb h=>Eq.symm h;have g1:∀b,(I5 [(1,G8.arr e z (l.take i++[d]++l.drop i) none),(0,G8.arr e z [d] none)] 1).2.blk (Eo 1) b->b=vb:=λb h=>by rw[hE1]at h;exact Eq.symm h
    have key:b=b'->b=vb->False:=λe1 e2=>by
     rcases hnew b e1 with h|h
     .exact hap b h e2
     .omega
    match j,j',h1,h2 with
    |0,0,_,_=>exact hj rfl
    |0,1,h1,h2=>exact key (g0 b h1) (g1 b h2)
    |1,0,h1,h2=>exact key (g0 b h2) (g1 b h1)
    |1,1,_,_=>exact hj rfl
    |j+2,_,h1,_=>simp[I5,G8.blk]at h1
    |_,j+2,_,h2=>simp[I5,G8.blk]at h2
   .by_cases h:ob=some k
    .have⟨arr,ha⟩:=hob.heap h;rw[ha]at hk;cases hk
    .exact(hfr.block k (X6.1 hk).1 h).trans hk
   .match j,hj with
    |0,hj=>exact(hnew b (Eq.symm hj)).elim (λh=>.inr ⟨0,bz5 b h⟩) .inl
    |1,hj=>exact .inr ⟨1,hj⟩
    |j+2,hj=>simp[I5,G8.blk]at hj
def PN(w:World)(b o:Nat)(v:Value){arr:S9}{el:Nat}{fr:Nat×Nat}(h:w.heap[b]?=some (.cells arr el fr)):(w.setCell ⟨b,o,none⟩ v).heap[b]?=some (.cells (arr.setIfInBounds o v) el fr):=by
 have hlt:b<w.heap.size:=(X6.1 h).1;have hv:w.heap[b]=.cells arr el fr:=(X6.1 h).2;unfold World.setCell
 grind
def lT(w:World)(b o k:Nat)(v:Value)(h:k≠b):(w.setCell ⟨b,o,none⟩ v).heap[k]?=w.heap[k]?:=by
 simp[World.setCell,zM,Ne.symm h]
def ah4(w:World)(a:Addr)(v:Value):(w.setCell a v).heap.size=w.heap.size:=by simp[World.setCell]
def P8.keep{w w':World}{el z n:Nat}{v:Value}{C:H6}{ob:E8}(h:P8 w el z v n C ob)(hk:∀k,ob=some k->w'.heap[k]?=w.heap[k]?):P8 w' el z v n C ob:=by
 cases h with
 |e a=>exact .e a
 |b b c n arr hh hs hn hm h1=>exact .b b c n arr ((hk b rfl).trans hh) hs hn hm h1
def P8.lt{w:World}{el z n:Nat}{v:Value}{C:H6}{ob:E8}(h:P8 w el z v n C ob){k:Nat}(hk:ob=some k):k<w.heap.size:=by
 have⟨arr,ha⟩:=h.heap hk
 grind
def P8.len{w:World}{el z n:Nat}{v:Value}{C:H6}{ob:E8}(h:P8 w el z v n C ob):C.length=n*z:=by
 cases h with
 |e a=>simp
 |b b c n arr hh hs hn hm h1=>rw[Y1,iW,hs];exact uU (iJ _ hn)
def P8.one{w:World}{el z n:Nat}{v:Value}{C:H6}{ob:E8}(h:P8 w el z v n C ob):∀u∈C,u.oneCell'=true:=by
 cases h with
 |e a=>grind
 |b b c n arr hh hs hn hm h1=>exact h1
def P8.cell{w:World}{el z n:Nat}{v:Value}{C:H6}{b:Nat}(h:P8 w el z v n C (some b)){j:Nat}{u:Value}(hj:C[j]?=some u):w.cell? ⟨b,j,none⟩=some u:=by
 cases h with
 |b b c n arr hh hs hn hm h1=>
  rw[kU w b j arr el (0,0) hh]
  grind
def P8.form{w:World}{el z n:Nat}{v:Value}{C:H6}{ob:E8}(h:P8 w el z v n C ob)(hn:0<n):∃b c,ob=some b/\v=.slice (some ⟨b,0,none⟩) n c/\n<=c:=by
 cases h with
 |e a=>grind
 |b b c n arr hh hs hnc hm h1=>grind
def P8.sl{w:World}{el z n:Nat}{v:Value}{C:H6}{ob:E8}(h:P8 w el z v n C ob):∃a c,v=.slice a n c/\n<=c:=by
 cases h with
 |e a=>grind
 |b b c n arr hh hs hnc hm h1=>grind
def P8.WI{w:World}{el z n:Nat}{v:Value}{C:H6}{b:Nat}(h:P8 w el z v n C (some b)){j:Nat}{u:Value}(hu:u.oneCell'=true)(hj:j<C.length):P8 (w.setCell ⟨b,j,none⟩ u) el z v n (C.set j u) (some b):=by
 cases h with
 |b b c n arr hh hs hn hm h1=>
  rw[Y1]at hj;refine vP (PN w b j u hh) (by simpa using hs) hn hm (λx hx=>?_) ?_
  .grind
  .rw[Array.toList_setIfInBounds,List.take_set]
def Fr.WI{S:U2}{w w':World}(h:Fr S w w'){b o:Nat}{v:Value}(hb:S b\/w.heap.size<=b):Fr S w (w'.setCell ⟨b,o,none⟩ v):=
 ⟨h.os,h.tape,h.output,by rw[ah4];exact h.size,λk hk hn=>(lT w' b o k v (λe=>hb.elim (λhs=>hn (e▸hs)) (λhl=>by omega))).trans (h.block k hk hn)⟩
def Fr.trans{S:U2}{a b c:World}(h:Fr S a b)(k:Fr S b c):Fr S a c:=
 ⟨k.os.trans h.os,k.tape.trans h.tape,k.output.trans h.output,Y2 h.size k.size,λi hi hn=>(k.block i (aH hi h.size) hn).trans (h.block i hi hn)⟩
def Fr.of_below{S:U2}{w w':World}(h:Below w.heap.size w w'):Fr S w w':=⟨h.os,h.tape,h.output,h.size,λk hk _=>h.block k hk⟩
def Fr.mono{S S':U2}{w w':World}(h:Fr S w w')(hs:∀k,S k->S' k):Fr S' w w':=⟨h.os,h.tape,h.output,h.size,λk hk hn=>h.block k hk (λhS=>hn (hs k hS))⟩
def Fr.base{S:U2}{w0 w w':World}(h0:Below w0.heap.size w0 w)(h:Fr S w w')(hS:∀k,S k->w0.heap.size<=k):Below w0.heap.size w0 w':=
 ⟨h.os.trans h0.os,h.tape.trans h0.tape,h.output.trans h0.output,Y2 h0.size h.size,λk hk=>(h.block k (aH hk h0.size) (λhs=>by have:=hS k hs;omega)).trans (h0.block k hk)⟩
def bcs(b:Branch)(k:Value):H6:=[.int .i64 b.Unit.ID,.int .i64 b.Unit.Parent,.int .i64 b.Unit.Level,.string ⟨⟨b.Unit.Title⟩⟩,.string ⟨⟨b.Unit.Mark⟩⟩,k]
def aN(l:F6):H6:=l.map (Value.int .i64)
structure Row where
 b:Branch
 k:Value
 o:Option Nat
def Row.cs(r:Row):H6:=bcs r.b r.k
structure Lay where
 x:Nat
 rv:Value
 ro:Option Nat
 roots:List Int
 bv:Value
 bo:Option Nat
 rows:List Row
def rcs(l:List Row):H6:=l.flatMap Row.cs
def Lay.tree(L:Lay):Tree:=⟨L.roots,L.rows.map Row.b⟩
inductive Pl where
 |x
 |r
 |b
 |k (i:Nat)
def Lay.at(L:Lay):Pl->Option Nat
 |.x=>some L.x
 |.r=>L.ro
 |.b=>L.bo
 |.k i=>(L.rows[i]?).bind Row.o
def VZ(l:List Row):(rcs l).length=l.length*6:=by
 induction l with
 |nil=>rfl
 |cons r l ih=>simp only[rcs,KO,cO,sD]at ih⊢;rw[ih];simp[Row.cs,bcs];omega
def bQ6(l:List Row)(i:Nat):rcs (l.take i)=(rcs l).take (i*6):=by
 induction l generalizing i with
 |nil=>simp[rcs]
 |cons r l ih=>cases i with
  |zero=>simp[rcs]
  |succ i=>
   have hr:r.cs.length=6:=rfl;simp only[rcs,List.take_succ_cons,KO]at ih⊢;rw[ih,List.take_append,pF (l:=r.cs) (by rw[hr];omega),hr,show(i+1)*6-6=i*6 from by omega]
def bQ5(l:List Row)(i:Nat):rcs (l.drop i)=(rcs l).drop (i*6):=by
 induction l generalizing i with
 |nil=>simp[rcs]
 |cons r l ih=>cases i with
  |zero=>simp[rcs]
  |succ i=>
   have hr:r.cs.length=6:=rfl;simp only[rcs,List.drop_succ_cons,KO]at ih⊢;rw[ih,List.drop_append,EU (show r.cs.length<=(i+1)*6 from by rw[hr];omega),hr,uS,show(i+1)*6-6=i*6 from by omega]
def aY7(l l':List Row):rcs (l++l')=rcs l++rcs l':=by simp[rcs]
def aw1{l:List Row}{i:Nat}{r:Row}(h:l[i]?=some r){j:Nat}(hj:j<6):(rcs l)[i*6+j]?=r.cs[j]?:=by
 induction l generalizing i with
 |nil=>simp at h
 |cons q l ih=>
  have hq:q.cs.length=6:=rfl;simp only[rcs,KO]at ih⊢;rcases i with _|i
  .grind
  .grind
def aY8{l:List Row}{i:Nat}{r r':Row}(h:l[i]?=some r){j:Nat}{u:Value}(hj:j<6)(hr:r'.cs=r.cs.set j u):rcs (l.set i r')=(rcs l).set (i*6+j) u:=by
 induction l generalizing i with
 |nil=>simp at h
 |cons q l ih=>
  have hq:q.cs.length=6:=rfl;simp only[rcs,KO]at ih⊢;rcases i with _|i
  .grind
  .grind
structure Ed(w0 w:World)(L:Lay):Prop where
 base:Below w0.heap.size w0 w
 hx:w.heap[L.x]?=some (.cells #[L.rv,L.bv] 98 (0,0))
 hr:P8 w 3 1 L.rv L.roots.length (aN L.roots) L.ro
 hb:P8 w 52 6 L.bv L.rows.length (rcs L.rows) L.bo
 hk:∀(i:Nat)(r:Row),L.rows[i]?=some r->P8 w 3 1 r.k r.b.Kids.length (aN r.b.Kids) r.o
 nd:∀p q b,L.at p=some b->L.at q=some b->p=q
 lo:∀p b,L.at p=some b->w0.heap.size<=b
def Ed.dI{w0 w:World}{L:Lay}(h:Ed w0 w L){p:Pl}{b:Nat}(hb:L.at p=some b):b<w.heap.size:=by
 cases p with
 |x=>cases hb;exact(X6.1 h.hx).1
 |r=>exact h.hr.lt hb
 |b=>exact h.hb.lt hb
 |k i=>
  rcases hr:L.rows[i]? with _|r
  .simp[Lay.at,hr]at hb
  .simp only[Lay.at,hr,F9]at hb;exact(h.hk i r hr).lt hb
def Ed.keep{w0 w w':World}{L:Lay}(h:Ed w0 w L)(hb:Below w0.heap.size w0 w')(hk:∀p b,L.at p=some b->w'.heap[b]?=w.heap[b]?):Ed w0 w' L where
 base:=hb
 hx:=(hk .x _ rfl).trans h.hx
 hr:=h.hr.keep λk hk'=>hk .r k hk'
 hb:=h.hb.keep λk hk'=>hk .b k hk'
 hk:=λi r hr=>(h.hk i r hr).keep λk hk'=>hk (.k i) k (by simp[Lay.at,hr,hk'])
 nd:=h.nd
 lo:=h.lo
def Ed.below{w0 w w':World}{L:Lay}(h:Ed w0 w L)(hb:Below w.heap.size w w'):Ed w0 w' L:=
 h.keep (h.base.trans (hb.mono h.base.size)) λ_ b hp=>hb.block b (h.dI hp)
theorem Ed.c0{w0 w:World}{L:Lay}(h:Ed w0 w L):w.cell? ⟨L.x,0,none⟩=some L.rv:=by rw[kU w L.x 0 _ _ _ h.hx];rfl
theorem Ed.c1{w0 w:World}{L:Lay}(h:Ed w0 w L):w.cell? ⟨L.x,1,none⟩=some L.bv:=by rw[kU w L.x 1 _ _ _ h.hx];rfl
def Ed.sK{w0 w:World}{L:Lay}(h:Ed w0 w L){i:Nat}{r:Row}(hr:L.rows[i]?=some r):∃b c,L.bo=some b/\L.bv=.slice (some ⟨b,0,none⟩) L.rows.length c/\L.rows.length<=c:=
 h.hb.form (Nat.lt_of_le_of_lt (aF _) (P7.1 hr).1)
def Ed.cell{w0 w:World}{L:Lay}(h:Ed w0 w L){i:Nat}{r:Row}(hr:L.rows[i]?=some r){b:Nat}(hb:L.bo=some b){j:Nat}{u:Value}(hj:j<6)(hu:r.cs[j]?=some u):w.cell? ⟨b,i*6+j,none⟩=some u:=by
 have hB:=h.hb;rw[hb]at hB;exact hB.cell ((aw1 hr hj).trans hu)
def Below.xE{w0 w1:World}{b o:Nat}{v:Value}(h:Below w0.heap.size w0 w1)(hb:w0.heap.size<=b):Below w0.heap.size w0 (w1.setCell ⟨b,o,none⟩ v):=
 ⟨h.os,h.tape,h.output,by rw[ah4];exact h.size,λk hk=>(lT w1 b o k v (by omega)).trans (h.block k hk)⟩
theorem bB7(l:F6):∀u∈aN l,u.oneCell'=true:=λu hu=>by
 simp only[aN,jH]at hu;obtain⟨n,_,rfl⟩:=hu;rfl
def Ed.a08{w0 w:World}{L:Lay}(h:Ed w0 w L){i:Nat}{r:Row}(hr:L.rows[i]?=some r){b:Nat}(hb:L.bo=some b){j:Nat}{u:Value}(hu:u.oneCell'=true){b':Branch}(hj:j<5)(hc:bcs b' r.k=(bcs r.b r.k).set j u)(hkd:b'.Kids=r.b.Kids):
    Ed w0 (w.setCell ⟨b,i*6+j,none⟩ u) { L with rows:=L.rows.set i ⟨b',r.k,r.o⟩ }:=by
 have hlt:i<L.rows.length:=(P7.1 hr).1;have hat:∀p,Lay.at { L with rows:=L.rows.set i ⟨b',r.k,r.o⟩ } p=L.at p:=λp=>by
  cases p with
  |k m=>
   simp only[Lay.at,xY]
   grind
  |_=>rfl
 have ho:∀p c,L.at p=some c->p≠.b->(w.setCell ⟨b,i*6+j,none⟩ u).heap[c]?=w.heap[c]?:=λp c hp hpb=>
  lT w b _ c u (λe=>hpb (h.nd p .b c hp (by rw[e];exact hb)))
 have hB:=h.hb;rw[hb]at hB;refine⟨Below.xE h.base (h.lo .b b hb),(ho .x _ rfl (by simp)).trans h.hx,h.hr.keep λk hk=>ho .r k hk (by simp),?_,λm q hq=>?_,λp q c hp hq=>h.nd p q c (hat p▸hp) (hat q▸hq),λp c hp=>h.lo p c (hat p▸hp)⟩
 .have:=hB.WI (j:=i*6+j) (u:=u) hu (by rw[VZ];omega);rw[<-aY8 (r':=⟨b',r.k,r.o⟩) hr (by omega) hc]at this
  grind
 .replace hq:(L.rows.set i ⟨b',r.k,r.o⟩)[m]?=some q:=hq;rw[xY]at hq;by_cases hm:i=m
  .subst hm;rw[I9 rfl,I9 hlt]at hq;injection hq with hq;subst hq
   show P8 _ 3 1 r.k b'.Kids.length (aN b'.Kids) r.o;rw[hkd];exact(h.hk i r hr).keep λk hk=>ho (.k i) k (by simp[Lay.at,hr,hk]) (by simp)
  .rw[H7 hm]at hq;exact(h.hk m q hq).keep λk hk=>ho (.k m) k (by simp[Lay.at,hq,hk]) (by simp)
def Ed.dm0{w0 w w1:World}{L:Lay}(h:Ed w0 w L){i:Nat}{r:Row}(hr:L.rows[i]?=some r){b:Nat}(hb:L.bo=some b){l':F6}{v':Value}{o':E8}(hO:P8 w1 3 1 v' l'.length (aN l') o')(ho':∀c,o'=some c->r.o=some c\/w.heap.size<=c)(hf:Fr (λk=>r.o=some k) w w1):
    Ed w0 (w1.setCell ⟨b,i*6+5,none⟩ v') { L with rows:=L.rows.set i ⟨{ r.b with Kids:=l' },v',o'⟩ }:=by
 have hlt:i<L.rows.length:=(P7.1 hr).1;have hki:∀c,r.o=some c->L.at (.k i)=some c:=λc hc=>by simp[Lay.at,hr,hc]
 have hat:∀p,p≠.k i->Lay.at { L with rows:=L.rows.set i ⟨{ r.b with Kids:=l' },v',o'⟩ } p=L.at p:=λp hp=>by
  cases p with
  |k m=>
   simp only[Lay.at,xY]
   grind
  |_=>rfl
 have hat':Lay.at { L with rows:=L.rows.set i ⟨{ r.b with Kids:=l' },v',o'⟩ } (.k i)=o':=by
  simp[Lay.at,hlt]
 have hv1:v'.oneCell'=true:=by obtain⟨a,c,rfl,_⟩:=hO.sl;rfl
 have hne:∀p c,L.at p=some c->p≠.k i->r.o≠some c:=λp c hp hpk hc=>hpk (h.nd p (.k i) c hp (hki c hc));have ho1:∀p c,L.at p=some c->p≠.k i->w1.heap[c]?=w.heap[c]?:=λp c hp hpk=>hf.block c (h.dI hp) (hne p c hp hpk);have ho:∀p c,L.at p=some c->p≠.k i->p≠.b->(w1.setCell ⟨b,i*6+5,none⟩ v').heap[c]?=w.heap[c]?:=λp c hp hpk hpb=>
  (lT w1 b _ c v' (λe=>hpb (h.nd p .b c hp (by rw[e];exact hb)))).trans (ho1 p c hp hpk)
 have hob:∀c,o'=some c->c≠b:=λc hc e=>by
  rcases ho' c hc with hq|hq
  .exact absurd (h.nd (.k i) .b c (hki c hq) (by rw[e];exact hb)) (by simp)
  .have:=h.dI (p:=.b) hb;omega
 have hB:P8 w1 52 6 L.bv L.rows.length (rcs L.rows) (some b):=hb▸h.hb.keep λk hk=>ho1 .b k hk (by simp);have hnew:∀p c,Lay.at { L with rows:=L.rows.set i ⟨{ r.b with Kids:=l' },v',o'⟩ } p=some c->(p≠.k i/\L.at p=some c)\/(p=.k i/\o'=some c):=λp c hp=>by grind
 have key:∀p c,p≠.k i->L.at p=some c->o'=some c->False:=λp c hpk hp hc=>by
  rcases ho' c hc with hq|hq
  .grind
  .have:=h.dI hp;omega
 refine⟨Below.xE (hf.base h.base λk hk=>h.lo (.k i) k (hki k hk)) (h.lo .b b hb),(ho .x _ rfl (by simp) (by simp)).trans h.hx,h.hr.keep λk hk=>ho .r k hk (by simp) (by simp),?_,λm q hq=>?_,λp q c hp hq=>?_,λp c hp=>?_⟩
 .have:=hB.WI (j:=i*6+5) (u:=v') hv1 (by rw[VZ];omega);rw[<-aY8 (r':=⟨{ r.b with Kids:=l' },v',o'⟩) hr (by omega) rfl]at this
  grind
 .replace hq:(L.rows.set i ⟨{ r.b with Kids:=l' },v',o'⟩)[m]?=some q:=hq;rw[xY]at hq;by_cases hm:i=m
  .subst hm;rw[I9 rfl,I9 hlt]at hq;injection hq with hq;subst hq
   exact hO.keep λk hk=>lT w1 b _ k v' (hob k hk)
  .rw[H7 hm]at hq;exact(h.hk m q hq).keep λk hk=>ho (.k m) k (by simp[Lay.at,hq,hk]) (by simpa using Ne.symm hm) (by simp)
 .rcases hnew p c hp with⟨h1,h2⟩|⟨h1,h2⟩<;>rcases hnew q c hq with⟨h3,h4⟩|⟨h3,h4⟩
  .exact h.nd p q c h2 h4
  .grind
  .grind
  .rw[h1,h3]
 .rcases hnew p c hp with⟨h1,h2⟩|⟨h1,h2⟩
  .exact h.lo p c h2
  .rcases ho' c h2 with hq|hq
   .exact h.lo (.k i) c (hki c hq)
   .exact Y2 h.base.size hq
def Ed.dm1{w0 w w1:World}{L:Lay}(h:Ed w0 w L){l':F6}{v':Value}{o':E8}(hO:P8 w1 3 1 v' l'.length (aN l') o')(ho':∀c,o'=some c->L.ro=some c\/w.heap.size<=c)(hf:Fr (λk=>L.ro=some k) w w1):
    Ed w0 (w1.setCell ⟨L.x,0,none⟩ v') { L with rv:=v',ro:=o',roots:=l' }:=by
 have hne:∀p c,L.at p=some c->p≠.r->L.ro≠some c:=λp c hp hpk hc=>hpk (h.nd p .r c hp hc);have ho1:∀p c,L.at p=some c->p≠.r->w1.heap[c]?=w.heap[c]?:=λp c hp hpk=>hf.block c (h.dI hp) (hne p c hp hpk);have ho:∀p c,L.at p=some c->p≠.r->p≠.x->(w1.setCell ⟨L.x,0,none⟩ v').heap[c]?=w.heap[c]?:=λp c hp hpk hpb=>
  (lT w1 L.x _ c v' (λe=>hpb (h.nd p .x c hp (by rw[e];rfl)))).trans (ho1 p c hp hpk)
 have hob:∀c,o'=some c->c≠L.x:=λc hc e=>by
  rcases ho' c hc with hq|hq
  .exact absurd (h.nd .r .x c hq (by rw[e];rfl)) (by simp)
  .have:=h.dI (p:=.x) rfl;omega
 have hat:∀p,p≠.r->Lay.at { L with rv:=v',ro:=o',roots:=l' } p=L.at p:=λp hp=>by cases p<;>first|rfl|exact absurd rfl hp
 have hnew:∀p c,Lay.at { L with rv:=v',ro:=o',roots:=l' } p=some c->(p≠.r/\L.at p=some c)\/(p=.r/\o'=some c):=λp c hp=>by
  by_cases hpk:p=.r
  .subst hpk;exact .inr ⟨rfl,hp⟩
  .grind
 have key:∀p c,p≠.r->L.at p=some c->o'=some c->False:=λp c hpk hp hc=>by
  rcases ho' c hc with hq|hq
  .grind
  .have:=h.dI hp;omega
 refine⟨Below.xE (hf.base h.base λk hk=>h.lo .r k hk) (h.lo .x _ rfl),?_,hO.keep λk hk=>lT w1 L.x _ k v' (hob k hk),h.hb.keep λk hk=>ho .b k hk (by simp) (by simp),λm q hq=>(h.hk m q hq).keep λk hk=>ho (.k m) k (by simp[Lay.at,(show L.rows[m]?=some q from hq),hk]) (by simp) (by simp),λp q c hp hq=>?_,λp c hp=>?_⟩
 .rw[PN w1 L.x 0 v' ((ho1 .x _ rfl (by simp)).trans h.hx)];rfl
 .rcases hnew p c hp with⟨h1,h2⟩|⟨h1,h2⟩<;>rcases hnew q c hq with⟨h3,h4⟩|⟨h3,h4⟩
  .exact h.nd p q c h2 h4
  .grind
  .grind
  .rw[h1,h3]
 .rcases hnew p c hp with⟨h1,h2⟩|⟨h1,h2⟩
  .exact h.lo p c h2
  .rcases ho' c h2 with hq|hq
   .exact h.lo .r c hq
   .exact Y2 h.base.size hq
def Ed.setB{w0 w w1:World}{L:Lay}(h:Ed w0 w L){rows':List Row}{v':Value}{o':E8}(hO:P8 w1 52 6 v' rows'.length (rcs rows') o')(ho':∀c,o'=some c->L.bo=some c\/w.heap.size<=c)(hf:Fr (λk=>L.bo=some k) w w1)
    (ix:Nat->E8) (hix:∀i r,rows'[i]?=some r->(∃j,ix i=some j/\L.rows[j]?=some r)\/(ix i=none/\r.k=.slice none 0 0/\r.o=none/\r.b.Kids=[])) (hinj:∀i i' j,ix i=some j->ix i'=some j->i=i'):
    Ed w0 (w1.setCell ⟨L.x,1,none⟩ v') { L with bv:=v',bo:=o',rows:=rows' }:=by
 have hne:∀p c,L.at p=some c->p≠.b->L.bo≠some c:=λp c hp hpk hc=>hpk (h.nd p .b c hp hc);have ho1:∀p c,L.at p=some c->p≠.b->w1.heap[c]?=w.heap[c]?:=λp c hp hpk=>hf.block c (h.dI hp) (hne p c hp hpk);have ho:∀p c,L.at p=some c->p≠.b->p≠.x->(w1.setCell ⟨L.x,1,none⟩ v').heap[c]?=w.heap[c]?:=λp c hp hpk hpb=>
  (lT w1 L.x _ c v' (λe=>hpb (h.nd p .x c hp (by rw[e];rfl)))).trans (ho1 p c hp hpk)
 have hob:∀c,o'=some c->c≠L.x:=λc hc e=>by
  rcases ho' c hc with hq|hq
  .exact absurd (h.nd .b .x c hq (by rw[e];rfl)) (by simp)
  .have:=h.dI (p:=.x) rfl;omega
 have hnew:∀p c,Lay.at { L with bv:=v',bo:=o',rows:=rows' } p=some c->(∃q,q≠.b/\L.at q=some c/\(p=q/\(∀m,p≠.k m)\/∃m j,p=.k m/\q=.k j/\ix m=some j))\/(p=.b/\o'=some c):=λp c hp=>by
  cases p with
  |x=>exact .inl ⟨.x,by simp,hp,.inl ⟨rfl,by simp⟩⟩
  |r=>exact .inl ⟨.r,by simp,hp,.inl ⟨rfl,by simp⟩⟩
  |b=>exact .inr ⟨rfl,hp⟩
  |k m=>
   simp only[Lay.at]at hp;cases hm:rows'[m]? with
   |none=>grind
   |some r=>
    rw[hm,F9]at hp;rcases hix m r hm with⟨j,h1,h2⟩|⟨_,_,h3,_⟩
    .exact .inl ⟨.k j,by simp,by simp[Lay.at,h2,hp],.inr ⟨m,j,rfl,rfl,h1⟩⟩
    .grind
 have key:∀p c,p≠.b->L.at p=some c->o'=some c->False:=λp c hpk hp hc=>by
  rcases ho' c hc with hq|hq
  .grind
  .have:=h.dI hp;omega
 refine⟨Below.xE (hf.base h.base λk hk=>h.lo .b k hk) (h.lo .x _ rfl),?_,h.hr.keep λk hk=>ho .r k hk (by simp) (by simp),hO.keep λk hk=>lT w1 L.x _ k v' (hob k hk),λm q hq=>?_,λp q c hp hq=>?_,λp c hp=>?_⟩
 .rw[PN w1 L.x 1 v' ((ho1 .x _ rfl (by simp)).trans h.hx)];rfl
 .rcases hix m q hq with⟨j,h1,h2⟩|⟨_,h2,h3,h4⟩
  .exact(h.hk j q h2).keep λk hk=>ho (.k j) k (by simp[Lay.at,h2,hk]) (by simp) (by simp)
  .rw[h2,h3,h4];exact .e none
 .rcases hnew p c hp with⟨a,h1,h2,h3⟩|⟨h1,h2⟩<;>rcases hnew q c hq with⟨a',h1',h2',h3'⟩|⟨h1',h2'⟩
  .have e:=h.nd a a' c h2 h2'
   grind
  .grind
  .grind
  .rw[h1,h1']
 .rcases hnew p c hp with⟨a,h1,h2,h3⟩|⟨h1,h2⟩
  .exact h.lo a c h2
  .rcases ho' c h2 with hq|hq
   .exact h.lo .b c hq
   .exact Y2 h.base.size hq
abbrev jZ(w:World):Zone:=λb _=>b<w.heap.size
def aZ1{w:World}{v:Value}{l:F6}{o:E8}(h:P8 w 3 1 v l.length (aN l) o):Rep (jZ w) w (.sl 1 (l.map F8)) v:=by
 rcases l with _|⟨n,l⟩
 .cases h with
  |e a=>exact .nil _ _ _
  |b b c n arr hh hs hn hm h1=>exact .nil _ _ _
 .obtain⟨b,c,rfl,rfl,hc⟩:=h.form (by simp);have hlt:=h.lt rfl;refine cast (by rw[X0]) (Rep.sl (Z:=jZ w) (w:=w) 1 ((n::l).map F8) b 0 c (λi _=>.int .i64 ((n::l)[i]?.getD 0)) (by simpa using hc) (λi d hd=>?_) (λi j d e hd he=>?_) (λi j d e hd he=>?_))
  .rw[P9]at hd;cases hi:(n::l)[i]? with
   |none=>grind
   |some m=>rw[hi]at hd;cases hd;rfl
  .rw[P9]at hd;cases hi:(n::l)[i]? with
   |none=>grind
   |some m=>
    rw[hi]at hd;cases hd
    match j,he with
    |0,he=>
     cases he;refine⟨hlt,?_,rfl⟩;refine h.cell ?_;simp only[aN,P9,X9,yC,pG,hi];rfl
  .rw[P9]at hd;rcases hi:(n::l)[i]? with _|m
   .grind
   .rw[hi]at hd;cases hd
    match j,he with
    |0,he=>cases he;exact .v _
def Ed.bR9{w0 w:World}{L:Lay}(h:Ed w0 w L):Rep (jZ w) w (.sl 6 ((L.rows.map Row.b).map I4)) L.bv:=by
 rcases hr:L.rows with _|⟨r0,rs⟩
 .have hb:=h.hb;rw[hr]at hb;generalize rcs []=C at hb;generalize L.bo=o at hb;generalize L.bv=v at hb;cases hb with
  |e a=>exact .nil _ _ _
  |b b c n arr hh hs hn hm h1=>exact .nil _ _ _
 .have⟨b,c,U3,hbv,hc⟩:=h.sK (i:=0) (r:=r0) (by rw[hr];rfl);have hlt:=h.dI (p:=.b) U3;rw[hbv,<-hr];have hg:∀(i j:Nat)(d:G9)(e:CV),((L.rows.map Row.b).map I4)[i]?=some d->d[j]?=some e->∃r,L.rows[i]?=some r/\d=I4 r.b/\j<6:=λi j d e hd he=>by
   rw[P9,P9]at hd;cases hi:L.rows[i]? with
   |none=>grind
   |some r=>
    rw[hi]at hd;cases hd;exact⟨r,rfl,rfl,(P7.1 he).1⟩
  refine cast (by simp) (Rep.sl (Z:=jZ w) (w:=w) 6 ((L.rows.map Row.b).map I4) b 0 c (λi j=>((L.rows[i]?).bind λr=>r.cs[j]?).getD undef) (by simpa using hc) (λi d hd=>?_) (λi j d e hd he=>?_) (λi j d e hd he=>?_))
  .rw[P9,P9]at hd;cases hi:L.rows[i]? with
   |none=>grind
   |some r=>rw[hi]at hd;cases hd;rfl
  .obtain⟨r,hi,rfl,hj⟩:=hg i j d e hd he;obtain⟨u,hu⟩:∃u,r.cs[j]?=some u:=⟨_,J9 (show j<r.cs.length from hj)⟩;refine⟨hlt,?_,?_⟩
   .rw[X9,h.cell hi U3 hj hu];simp[hi,hu]
   .match j,he with
    |0,he=>cases he;rfl
    |1,he=>cases he;rfl
    |2,he=>cases he;rfl
    |3,he=>cases he;rfl
    |4,he=>cases he;rfl
    |5,he=>cases he;rfl
  .obtain⟨r,hi,rfl,hj⟩:=hg i j d e hd he;simp only[hi,F9]
   match j,he with
   |0,he=>cases he;exact .v _
   |1,he=>cases he;exact .v _
   |2,he=>cases he;exact .v _
   |3,he=>cases he;exact .v _
   |4,he=>cases he;exact .v _
   |5,he=>cases he;exact aZ1 (h.hk i r hi)
theorem Ed.rep{w0 w:World}{L:Lay}(h:Ed w0 w L):Rep (jZ w) w (.agg (gW L.tree)) (.agg #[L.rv,L.bv]):=
 .agg _ [L.rv,L.bv] rfl (λi c x h1 h2=>by
  match i,h1,h2 with
  |0,h1,h2=>cases h1;cases h2;exact aZ1 h.hr
  |1,h1,h2=>cases h1;cases h2;exact h.bR9) (λi c h1=>by
  match i,h1 with
  |0,h1=>cases h1;rfl
  |1,h1=>cases h1;rfl)
def bz7{f:FuncId}{args:G9}{r:CV}(h:Holds prog Gw f args r)(hp:r.pure=true){w:World}(hg:Gw w){vs:H6}(hr:U0 (jZ w) w args vs):
    Calls prog f vs.toArray w λe w'=>∃x,e=.returned x/\Below w.heap.size w w'/\∃Z':Zone,Rep Z' w' r x/\∀b o,Z' b o->b<w'.heap.size:=
 (h.2 (jZ w) w vs hr (λ_ _ h=>h) (λw' hb=>Gs w w' hg hb)).mono λ_ _ ⟨x,Z',h1,h2,_,h4,h5⟩=>⟨x,h1,h5,Z',h2.pure hp,λb o hz=>(h4 b o hz).2⟩
def ZY{f:FuncId}{args:G9}{u:Value}(h:Holds prog Gw f args (.v u)){w:World}(hg:Gw w){vs:H6}(hr:U0 (jZ w) w args vs):
    Calls prog f vs.toArray w λe w'=>e=.returned u/\Below w.heap.size w w':=
 (bz7 h rfl hg hr).mono λ_ _ ⟨x,h1,h2,Z',h3,_⟩=>by cases h3;exact⟨h1,h2⟩
def aN9{f:FuncId}{args:G9}{u v:Value}(h:Holds prog Gw f args (.U6 [.v u,.v v])){w:World}(hg:Gw w){vs:H6}(hr:U0 (jZ w) w args vs):
    Calls prog f vs.toArray w λe w'=>e=.returned (.tuple #[u,v])/\Below w.heap.size w w':=
 (bz7 h rfl hg hr).mono λ_ _ ⟨x,h1,h2,Z',h3,_⟩=>by
   cases h3 with
   |U6 _ vs hl hh=>
    match vs,hl,hh with
    |[a,b],_,hh=>
     have e1:=hh 0 _ a rfl rfl;have e2:=hh 1 _ b rfl rfl;cases e1;cases e2
     grind
end
section
open Go Go.F7 Go.RowKit Proofs.Tryz
abbrev ptr(b o:Nat):Value:=.pointer (some ⟨b,o,none⟩)
def XW(w:World)(bv:Value)(id i:Int)(ok:Bool):Prop:=Calls prog 129 #[bv,.int .i64 id,.func (.func 130) #[] #[]] w λe w'=>e=.returned (.tuple #[.int .i64 i,.bool ok])/\Below w.heap.size w w'
set_option maxRecDepth 100000
set_option maxHeartbeats 2000000
def aI7{w0 w:World}{L:Lay}(hE:Ed w0 w L){id i:Int}{ok:Bool}(hc:XW w L.bv id i ok):
    Calls prog 72 #[ptr L.x 0,.int .i64 id] w λe w'=>e=.returned (.tuple #[.int .i64 i,.bool ok])/\Below w.heap.size w w':=by
 have c1:=hE.c1
 go_enter func72,ntmps72
 go_wp2_with (go_at_call 129;refine hc.mono ?_;rintro e w' ⟨rfl,hw⟩)
 go_ret2
 exact⟨rfl,hw⟩
def cA5{w0 w:World}{L:Lay}(hE:Ed w0 w L){id i:Int}(hc:XW w L.bv id i false):
    Calls prog 73 #[ptr L.x 0,.int .i64 id] w λe w'=>e=.returned (.pointer none)/\Below w.heap.size w w':=by
 have hf:=aI7 hE hc
 go_enter func73,ntmps73
 go_wp2_with (go_at_call 72;refine hf.mono ?_;rintro e w' ⟨rfl,hw⟩)
 go_ret
 exact⟨rfl,hw⟩
def aI6{w0 w:World}{L:Lay}(hE:Ed w0 w L){id:Int}{k:Nat}{r:Row}(hr:L.rows[k]?=some r){b:Nat}(hb:L.bo=some b)(hc:XW w L.bv id k true):
    Calls prog 73 #[ptr L.x 0,.int .i64 id] w λe w'=>e=.returned (ptr b (k*6))/\Below w.heap.size w w':=by
 have hf:=aI7 hE hc;have⟨b',c,U3,hbv,hlc⟩:=hE.sK hr;obtain rfl:b'=b:=jJ (U3.symm.trans hb);have hlt:k<L.rows.length:=(P7.1 hr).1;have hlt':(k:Int)<(L.rows.length:Int):=by omega
 have hK:=λw' (hw:Below w.heap.size w w')=>(hE.below hw).c1;rw[hbv]at hK
 go_enter func73,ntmps73
 go_wp2_with (go_at_call 72;refine hf.mono ?_;rintro e w' ⟨rfl,hw⟩;have c1:=hK w' hw)
 go_ret
 exact⟨rfl,hw⟩
def cA9{w:World}{L:Lay}:
    Calls prog 75 #[ptr L.x 0,.int .i64 0] w λe w'=>e=.returned (ptr L.x 0)/\w'=w:=by
 go_enter func75,ntmps75
 go_wp2
 go_ret
 exact⟨rfl,rfl⟩
def cB4{w0 w:World}{L:Lay}(hE:Ed w0 w L){id:Int}(hid:id≠0){k:Nat}{r:Row}(hr:L.rows[k]?=some r){b:Nat}(hb:L.bo=some b)(hc:XW w L.bv id k true):
    Calls prog 75 #[ptr L.x 0,.int .i64 id] w λe w'=>e=.returned (ptr b (k*6+5))/\Below w.heap.size w w':=by
 have hf:=aI6 hE hr hb hc
 go_enter func75,ntmps75
 go_wp2_with (go_at_call 73;refine hf.mono ?_;rintro e w' ⟨rfl,hw⟩)
 go_ret
 exact⟨rfl,hw⟩
def cB9{w:World}{L:Lay}{l:Int}:
    Calls prog 74 #[ptr L.x 0,.int .i64 0,.int .i64 l] w λe w'=>e=.returned (.int .i64 (bif l==1 then 0 else 18))/\w'=w:=by
 by_cases hl:l=1
 .subst hl
  go_enter func74,ntmps74
  go_wp2
  go_ret
  exact⟨rfl,rfl⟩
 .have h1:(l==1)=false:=FN.2 hl
  go_enter func74,ntmps74
  go_wp2
  go_ret
  exact⟨by rw[h1];rfl,rfl⟩
def cC0{w0 w:World}{L:Lay}(hE:Ed w0 w L){id l:Int}(hid:id≠0){k:Nat}{r:Row}(hr:L.rows[k]?=some r){b:Nat}(hb:L.bo=some b)(hc:XW w L.bv id k true){q:Bool}
    (hq:∀w1,Below w.heap.size w w1->Calls prog 131 #[.int .i64 r.b.Unit.Level,.int .i64 l] w1 λe w'=>e=.returned (.bool q)/\Below w1.heap.size w1 w'):
    Calls prog 74 #[ptr L.x 0,.int .i64 id,.int .i64 l] w λe w'=>e=.returned (.int .i64 (bif !(l==1)&&q then 0 else 18))/\Below w.heap.size w w':=by
 have hf:=aI6 hE hr hb hc;have hK:=λw' (hw:Below w.heap.size w w')=>(hE.below hw).cell hr hb (j:=2) (by omega) rfl;by_cases hl:l=1
 .subst hl
  go_enter func74,ntmps74
  go_wp2
  go_ret
  exact⟨rfl,Below.refl _ _⟩
 .have h1:(l==1)=false:=FN.2 hl;have h2:(l !=1)=true:=by simp[hl]
  cases q
  all_goals
   go_enter func74,ntmps74
   go_wp2_with (first|(go_at_call 73;refine hf.mono ?_;rintro e w' ⟨rfl,hw⟩;have c1:=hK w' hw)|(go_at_call 131;refine(hq _ hw).mono ?_;rintro e w'' ⟨rfl,hw2⟩))
   go_ret
   exact⟨by rw[h1];rfl,hw.trans (hw2.mono hw.size)⟩
def cC4{w0 w:World}{L:Lay}(hE:Ed w0 w L){s:ByteArray}{but id:Int}{ok:Bool}
    (hc:Calls prog 132 #[.agg #[L.rv,L.bv],.string s] w λe w'=>e=.returned (.tuple #[.int .i64 id,.bool ok])/\Below w.heap.size w w'):
    Calls prog 76 #[ptr L.x 0,.string s,.int .i64 but] w λe w'=>e=.returned (.bool (ok&& !(id==but)))/\Below w.heap.size w w':=by
 have c0:=hE.c0;have c1:=hE.c1;cases ok
 all_goals
  go_enter func76,ntmps76
  go_wp2_with (go_at_call 132;refine hc.mono ?_;rintro e w' ⟨rfl,hw⟩)
  go_ret
  exact⟨rfl,hw⟩
def cB6{w0 w:World}{L:Lay}(hE:Ed w0 w L){i e:Int}
    (hc:Calls prog 86 #[.agg #[L.rv,L.bv]] w λe' w'=>e'=.returned (.tuple #[.int .i64 i,.int .i64 e])/\Below w.heap.size w w'):
    Calls prog 79 #[ptr L.x 0] w λe' w'=>e'=.returned (.int .i64 (bif e==15 then 15 else 0))/\Below w.heap.size w w':=by
 have c0:=hE.c0;have c1:=hE.c1;by_cases h:e=15
 .subst h
  go_enter func79,ntmps79
  go_wp2_with (go_at_call 86;refine hc.mono ?_;rintro e w' ⟨rfl,hw⟩)
  go_ret
  exact⟨rfl,hw⟩
 .have h1:(e==15)=false:=FN.2 h
  go_enter func79,ntmps79
  go_wp2_with (go_at_call 86;refine hc.mono ?_;rintro e w' ⟨rfl,hw⟩)
  go_ret
  exact⟨by rw[h1];rfl,hw⟩
def At(w:World)(f:FuncId)(args:S9)(u:Value):Prop:=∀w1,Below w.heap.size w w1->Calls prog f args w1 λe w'=>e=.returned u/\Below w1.heap.size w1 w'
def At.below{w w1:World}{f:FuncId}{args:S9}{u:Value}(h:At w f args u)(hw:Below w.heap.size w w1):At w1 f args u:=λw2 hw2=>h w2 (hw.trans (hw2.mono hw.size))
def At.here{w:World}{f:FuncId}{args:S9}{u:Value}(h:At w f args u):Calls prog f args w λe w'=>e=.returned u/\Below w.heap.size w w':=h w (Below.refl _ _)
abbrev XV(w:World)(bv:Value)(id i:Int)(ok:Bool):Prop:=At w 129 #[bv,.int .i64 id,.func (.func 130) #[] #[]] (.tuple #[.int .i64 i,.bool ok])
def br6{w0 w:World}{L:Lay}(hE:Ed w0 w L){id i:Int}{ok:Bool}(hc:XV w L.bv id i ok):At w 72 #[ptr L.x 0,.int .i64 id] (.tuple #[.int .i64 i,.bool ok]):=λw1 h1=>aI7 (hE.below h1) (hc w1 h1)
def ao7{w0 w:World}{L:Lay}(hE:Ed w0 w L){id i:Int}(hc:XV w L.bv id i false):At w 73 #[ptr L.x 0,.int .i64 id] (.pointer none):=λw1 h1=>cA5 (hE.below h1) (hc w1 h1)
def YZ{w0 w:World}{L:Lay}(hE:Ed w0 w L){id:Int}{k:Nat}{r:Row}(hr:L.rows[k]?=some r){b:Nat}(hb:L.bo=some b)(hc:XV w L.bv id k true):At w 73 #[ptr L.x 0,.int .i64 id] (ptr b (k*6)):=λw1 h1=>aI6 (hE.below h1) hr hb (hc w1 h1)
def cA8(w:World)(L:Lay):At w 75 #[ptr L.x 0,.int .i64 0] (ptr L.x 0):=λ_ _=>(cA9 (L:=L)).mono λ_ _ ⟨h1,h2⟩=>⟨h1,h2▸Below.refl _ _⟩
def cA7{w0 w:World}{L:Lay}(hE:Ed w0 w L){id:Int}(hid:id≠0){k:Nat}{r:Row}(hr:L.rows[k]?=some r){b:Nat}(hb:L.bo=some b)(hc:XV w L.bv id k true):At w 75 #[ptr L.x 0,.int .i64 id] (ptr b (k*6+5)):=λw1 h1=>cB4 (hE.below h1) hid hr hb (hc w1 h1)
def cB8(w:World)(L:Lay)(l:Int):At w 74 #[ptr L.x 0,.int .i64 0,.int .i64 l] (.int .i64 (bif l==1 then 0 else 18)):=λ_ _=>(cB9 (L:=L)).mono λ_ _ ⟨h1,h2⟩=>⟨h1,h2▸Below.refl _ _⟩
def cC3{w0 w:World}{L:Lay}(hE:Ed w0 w L){s:ByteArray}{but id:Int}{ok:Bool}(hc:At w 132 #[.agg #[L.rv,L.bv],.string s] (.tuple #[.int .i64 id,.bool ok])):At w 76 #[ptr L.x 0,.string s,.int .i64 but] (.bool (ok&& !(id==but))):=λw1 h1=>cC4 (hE.below h1) (hc w1 h1)
def cB5{w0 w:World}{L:Lay}(hE:Ed w0 w L){i e:Int}(hc:At w 86 #[.agg #[L.rv,L.bv]] (.tuple #[.int .i64 i,.int .i64 e])):At w 79 #[ptr L.x 0] (.int .i64 (bif e==15 then 15 else 0)):=λw1 h1=>cB6 (hE.below h1) (hc w1 h1)
end
section
open Go Go.F7 Go.RowKit Proofs.Tryz
set_option maxRecDepth 100000
set_option maxHeartbeats 2000000
def Q5{w:World}{b o:Nat}{arr:S9}{el:Nat}{v:Value}(h:w.heap[b]?=some (.cells arr el (0,0)))(hv:arr[o]?=some v):w.cell? ⟨b,o,none⟩=some v/\w.frozen? ⟨b,o,none⟩=false:=
 ⟨(kU w b o arr el (0,0) h).trans hv,by simp[World.frozen?,h]⟩
def cB7{w:World}{x pb po:Nat}{hv:Value}{l:F6}{o:E8}{before id parent j:Int}{a:Nat}(hins:RF 135 3 1)
    (hk:Calls prog 75 #[ptr x 0,.int .i64 parent] w λe w'=>e=.returned (ptr pb po)/\Below w.heap.size w w')
    {arr:S9} {el:Nat} (hr:w.heap[pb]?=some (.cells arr el (0,0))) (hc:arr[po]?=some hv) (hO:P8 w 3 1 hv l.length (aN l) o) (hpo:o≠some pb) (hl:l.length<=4000)
    (hi:∀w1,Below w.heap.size w w1->Calls prog 31 #[hv,.int .i64 before] w1 λe w'=>e=.returned (.int .i64 j)/\Below w1.heap.size w1 w') (ha:(j=a/\a<=l.length)\/(j= -1/\a=l.length)):
    Calls prog 78 #[ptr x 0,.int .i64 id,.int .i64 parent,.int .i64 before] w λe w'=>e=.returned (.tuple #[])/\∃v' o' w1,P8 w1 3 1 v' (l.length+1) (aN (l.take a++[id]++l.drop a)) o'/\
     (∀c,o'=some c->o=some c\/w.heap.size<=c)/\Fr (λk=>o=some k) w w1/\w'=w1.setCell ⟨pb,po,none⟩ v':=by
 obtain⟨ad,cp,rfl,hcp⟩:=hO.sl;have hpb:pb<w.heap.size:=(X6.1 hr).1;have hB:∀w',Below w.heap.size w w'->w'.cell? ⟨pb,po,none⟩=some (.slice ad l.length cp):=λw' hw=>(Q5 ((hw.block pb hpb).trans hr) hc).1;have hcs:(aN l).take (a*1)++[Value.int .i64 id]++(aN l).drop (a*1)=aN (l.take a++[id]++l.drop a):=by simp[aN]
 have hal:a<=l.length:=by rcases ha with h|h<;>omega
 have fin:∀w2,Below w.heap.size w w2->Calls prog 135 #[.slice ad l.length cp,.int .i64 a,.slice (some ⟨w2.heap.size,0,none⟩) 1 1] (w2.alloc (.cells #[.int .i64 id] 3)) λe w'=>∃v' o',e=.returned v'/\P8 w' 3 1 v' (l.length+1) (aN (l.take a++[id]++l.drop a)) o'/\
  (∀c,o'=some c->o=some c\/w.heap.size<=c)/\Fr (λk=>o=some k) w w'/\w'.cell? ⟨pb,po,none⟩=some (.slice ad l.length cp)/\w'.frozen? ⟨pb,po,none⟩=false:=λw2 hw2=>by
  have hb3:Below w.heap.size w (w2.alloc (.cells #[.int .i64 id] 3)):=hw2.alloc hw2.size _;have hO3:P8 (w2.alloc (.cells #[.int .i64 id] 3)) 3 1 (.slice ad l.length cp) l.length (aN l) o:=hO.keep λk hk=>hb3.block k (hO.lt hk);refine(hins hO3 hal hl (bJ w2 _) (by simp) (λu hu=>?_) (λh=>by have:=hO.lt h;have:=hw2.size;omega)).mono ?_
  .simp at hu;subst hu;rfl
  .rintro e w' ⟨v',o',he,h1,h2,h3⟩;have h3':Fr (λk=>o=some k) w w':=(Fr.of_below hb3).trans (h3.mono λk hk=>hk) |>λh=>h;have hrow:=(h3'.block pb hpb hpo).trans hr;refine⟨v',o',he,?_,λc hc=>?_,h3',(Q5 hrow hc).1,(Q5 hrow hc).2⟩
   .rw[<-hcs];exact h1
   .rcases h2 with rfl|⟨b',hb',hsz⟩
    .exact .inl hc
    .rw[hb']at hc;injection hc with hc;subst hc;exact .inr (Y2 hb3.size hsz)
 rcases ha with⟨rfl,ha⟩|⟨rfl,ha⟩
 .have hn:¬((a:Int)<0):=by omega
  go_enter func78,ntmps78
  go_wp2_with (first|(go_at_call 75;refine hk.mono ?_;rintro e w1 ⟨rfl,hw1⟩;have c1:=hB w1 hw1)|(go_at_call 31;refine(hi _ hw1).mono ?_;rintro e w2 ⟨rfl,hw2⟩;have c2:=hB w2 (hw1.trans (hw2.mono hw1.size)))|(go_at_call 135;refine(fin _ (hw1.trans (hw2.mono hw1.size))).mono ?_;rintro e w3 ⟨v',o',rfl,h1,h2,h3,c3,f3⟩;obtain⟨ad',cp',rfl,_⟩:=h1.sl))
  go_end0
  exact⟨rfl,_,o',w3,h1,h2,h3,rfl⟩
 .subst ha
  go_enter func78,ntmps78
  go_wp2_with (first|(go_at_call 75;refine hk.mono ?_;rintro e w1 ⟨rfl,hw1⟩;have c1:=hB w1 hw1)|(go_at_call 31;refine(hi _ hw1).mono ?_;rintro e w2 ⟨rfl,hw2⟩;have c2:=hB w2 (hw1.trans (hw2.mono hw1.size)))|(go_at_call 135;refine(fin _ (hw1.trans (hw2.mono hw1.size))).mono ?_;rintro e w3 ⟨v',o',rfl,h1,h2,h3,c3,f3⟩;obtain⟨ad',cp',rfl,_⟩:=h1.sl))
  go_end0
  exact⟨rfl,_,o',w3,h1,h2,h3,rfl⟩
def DF(o:Opn):S9:=#[.int .i64 o.ID,.int .i64 o.Day,.int .i64 o.Kind,.int .i64 o.Unit,.int .i64 o.Parent,.int .i64 o.Before,.int .i64 o.Level,.string ⟨⟨o.Title⟩⟩,.string ⟨⟨o.Mark⟩⟩,.int .i64 o.Origin.bQ,.int .i64 o.Origin.X3,.int .i64 o.Origin.Number]
abbrev oval(o:Opn):Value:=.agg (DF o)
structure Bx(w:World)(p:Nat)(o:Opn):Prop where
 k3:w.cell? ⟨p,3,none⟩=some (.int .i64 o.Unit)
 k4:w.cell? ⟨p,4,none⟩=some (.int .i64 o.Parent)
 k5:w.cell? ⟨p,5,none⟩=some (.int .i64 o.Before)
 k6:w.cell? ⟨p,6,none⟩=some (.int .i64 o.Level)
 k7:w.cell? ⟨p,7,none⟩=some (.string ⟨⟨o.Title⟩⟩)
 k8:w.cell? ⟨p,8,none⟩=some (.string ⟨⟨o.Mark⟩⟩)
theorem kC(w:World)(o:Opn):Bx (w.alloc (.cells (DF o) 33)) w.heap.size o:=by
 have h:(w.alloc (.cells (DF o) 33)).heap[w.heap.size]?=some (.cells (DF o) 33 (0,0)):=bJ w _;refine⟨?_,?_,?_,?_,?_,?_⟩<;>(rw[kU _ _ _ _ _ _ h];rfl)
def Bx.lt{w:World}{p:Nat}{o:Opn}(h:Bx w p o):p<w.heap.size:=cell_lt (a:=⟨p,3,none⟩) h.k3
def Bx.below{w w':World}{p:Nat}{o:Opn}(h:Bx w p o)(hw:Below w.heap.size w w'):Bx w' p o:=
 ⟨(hw.cell (p:=⟨p,3,none⟩) h.lt).trans h.k3,(hw.cell (p:=⟨p,4,none⟩) h.lt).trans h.k4,(hw.cell (p:=⟨p,5,none⟩) h.lt).trans h.k5,(hw.cell (p:=⟨p,6,none⟩) h.lt).trans h.k6,(hw.cell (p:=⟨p,7,none⟩) h.lt).trans h.k7,(hw.cell (p:=⟨p,8,none⟩) h.lt).trans h.k8⟩
def al(w:World)(o:Obj):Below w.heap.size w (w.alloc o):=(Below.refl _ _).alloc (N8 _) _
def Below.and{a b c:World}(h:Below a.heap.size a b)(k:Below b.heap.size b c):Below a.heap.size a c:=h.trans (k.mono h.size)
def cy2{w:World}{x:Nat}{o:Opn}{i:Int}(h72:At w 72 #[ptr x 0,.int .i64 o.Unit] (.tuple #[.int .i64 i,.bool true])):
    Calls prog 32 #[ptr x 0,oval o] w λe w'=>e=.returned (.int .i64 6)/\Below w.heap.size w w':=by
 have k3:=(kC w o).k3
 go_enter func32,ntmps32
 go_wp2_with (go_at_call 72;refine(h72 _ (al w _)).mono ?_;rintro e w1 ⟨rfl,hw1⟩)
 go_ret
 exact⟨rfl,Below.and (al w _) hw1⟩
def cy3{w:World}{x:Nat}{o:Opn}{i:Int}(h72:At w 72 #[ptr x 0,.int .i64 o.Unit] (.tuple #[.int .i64 i,.bool false]))(hp:o.Parent≠0)(Y6:At w 73 #[ptr x 0,.int .i64 o.Parent] (.pointer none)):
    Calls prog 32 #[ptr x 0,oval o] w λe w'=>e=.returned (.int .i64 7)/\Below w.heap.size w w':=by
 have bx:=kC w o;have k3:=bx.k3;have hp':(o.Parent !=0)=true:=by simp[hp]
 go_enter func32,ntmps32
 go_wp2_with (first|(go_at_call 72;refine(h72 _ (al w _)).mono ?_;rintro e w1 ⟨rfl,hw1⟩;have k4:=(bx.below hw1).k4)|(go_at_call 73;refine(Y6 _ (Below.and (al w _) hw1)).mono ?_;rintro e w2 ⟨rfl,hw2⟩))
 go_ret
 exact⟨rfl,Below.and (Below.and (al w _) hw1) hw2⟩
def dr(w:World):Below w.heap.size w w.drew:=⟨rfl,rfl,rfl,N8 _,λ_ _=>rfl⟩
def dn(w:World)(n:Nat):Below w.heap.size w (w.drewN n):=⟨rfl,rfl,rfl,N8 _,λ_ _=>rfl⟩
def D9(w:World)(x:Nat)(p:Int):Prop:=p=0\/(p≠0/\∃b o,At w 73 #[ptr x 0,.int .i64 p] (ptr b o))
def cy4{w:World}{x:Nat}{o:Opn}{i e:Int}(h72:At w 72 #[ptr x 0,.int .i64 o.Unit] (.tuple #[.int .i64 i,.bool false]))(hp:D9 w x o.Parent)(aS:At w 74 #[ptr x 0,.int .i64 o.Parent,.int .i64 o.Level] (.int .i64 e))(he:e≠0):
    Calls prog 32 #[ptr x 0,oval o] w λe' w'=>e'=.returned (.int .i64 e)/\Below w.heap.size w w':=by
 have bx:=kC w o;have k3:=bx.k3;have he':(e !=0)=true:=by simp[he]
 rcases hp with hp|⟨hp,b,po,Y6⟩
 .have hp':(o.Parent !=0)=false:=by simp[hp]
  clear hp
  go_enter func32,ntmps32
  go_wp2_with (first|(go_at_call 72;refine(h72 _ (al w _)).mono ?_;rintro e w1 ⟨rfl,hw1⟩;have k4:=(bx.below hw1).k4;have k6:=(bx.below hw1).k6)|(go_at_call 74;refine(aS _ (Below.and (al w _) hw1)).mono ?_;rintro e w2 ⟨rfl,hw2⟩))
  go_ret
  exact⟨rfl,Below.and (Below.and (al w _) hw1) hw2⟩
 .have hp':(o.Parent !=0)=true:=by simp[hp]
  clear hp
  go_enter func32,ntmps32
  go_wp2_with (first|(go_at_call 72;refine(h72 _ (al w _)).mono ?_;rintro e w1 ⟨rfl,hw1⟩;have k4:=(bx.below hw1).k4)|(go_at_call 73;refine(Y6 _ (Below.and (al w _) hw1)).mono ?_;rintro e w2 ⟨rfl,hw2⟩;have IE:=(bx.below (Below.and hw1 hw2)).k4;have k6:=(bx.below (Below.and hw1 hw2)).k6)|(go_at_call 74;refine(aS _ (Below.and (al w _) (Below.and hw1 hw2))).mono ?_;rintro e w3 ⟨rfl,hw3⟩))
  go_ret
  exact⟨rfl,Below.and (Below.and (al w _) hw1) (Below.and hw2 hw3)⟩
def SI(w:World){a b:Nat}(o:Nat)(v:Value)(h:b≠a)(k:Nat):(w.setCell ⟨a,o,none⟩ v).cell? ⟨b,k,none⟩=w.cell? ⟨b,k,none⟩:=FK (a:=⟨b,k,none⟩) (lT w a o b v h)
def newRow(o:Opn):Row:=⟨⟨⟨o.Unit,o.Parent,o.Level,o.Title,o.Mark⟩,[]⟩,.slice none 0 0,none⟩
def NQ(a i:Nat):E8:=if i<a then some i else if i=a then none else some (i-1)
def cR2{l:List Row}{a:Nat}{r:Row}(h:a<=l.length):(l.take a++[r]++l.drop a).length=l.length+1:=by simp;omega
def cQ9{l:List Row}{a:Nat}{r:Row}(h:a<=l.length){i:Nat}{q:Row}(hq:(l.take a++[r]++l.drop a)[i]?=some q):(∃j,NQ a i=some j/\l[j]?=some q)\/(NQ a i=none/\q=r):=by
 unfold NQ;rcases yB i a with hi|rfl|hi
 .rw[lC,dX (by rw[Y1];omega),kN,I9 hi]at hq;exact .inl ⟨i,by rw[I9 hi],hq⟩
 .rw[lC,dN (by rw[Y1];omega),Y1,uU h,Nat.sub_self]at hq;simp at hq;exact .inr ⟨by simp,hq.symm⟩
 .rw[dN (by simp;omega),zV]at hq;refine .inl ⟨i-1,by rw[H7 (by omega),H7 (by omega)],?_⟩;rw[<-hq];congr 1;simp;omega
def cR1(a:Nat):∀i i' j,NQ a i=some j->NQ a i'=some j->i=i':=λi i' j h1 h2=>by
 unfold NQ at h1 h2;split at h1<;>split at h2
 .simp at h1 h2;omega
 .split at h2
  .cases h2
  .simp at h1 h2;omega
 .split at h1
  .cases h1
  .simp at h1 h2;omega
 .split at h1
  .cases h1
  .split at h2
   .cases h2
   .simp at h1 h2;omega
end
section
open Go Go.F7 Go.RowKit Go.Sort Proofs.Tryz
set_option maxRecDepth 100000
set_option maxHeartbeats 2000000
def cY0{w:World}{g:Nat}{f:S9->S9}{arr:S9}{el:Nat}{fr:Nat×Nat}(h:w.heap[g]?=some (.cells arr el fr)):(mapBlock w g f).heap[g]?=some (.cells (f arr) el fr):=by
 simp[mapBlock,zM,h,onCells]
def bF9{w:World}{g k:Nat}{f:S9->S9}(h:k≠g):(mapBlock w g f).heap[k]?=w.heap[k]?:=by
 simp[mapBlock,zM,Ne.symm h]
def bG0{w:World}{g:Nat}{f:S9->S9}:(mapBlock w g f).heap.size=w.heap.size:=by simp[mapBlock]
def dc2{enc:Int->Value}{F Z:F6}{arr:S9}(h:F.length+Z.length<=arr.size):(putCells enc 0 (F++Z).toArray arr).toList.take F.length=F.map enc:=by
 apply nZ;intro i;rw[kN];by_cases hi:i<F.length
 .rw[I9 hi,kM];simp only[putCells,Array.getElem?_mapIdx,oZ,cO,X9,aF,true_and,Nat.sub_zero];rw[lY (by omega),FB,I9 (by omega),P9,J9 hi,FB,getElem!_pos (F++Z).toArray i (by simp;omega)];simp[List.getElem_append_left hi]
 .rw[H7 hi,uQ (by simp;omega)]
def take1{W:World}{bx:Nat}{id x:Int}(h:W.cell? ⟨bx,0,none⟩=some (.int .i64 id)):FnGives prog 137 #[ptr bx 0] #[.int .i64 x] (.bool (x==id)) W:=by
 unfold FnGives
 go_enter func137,ntmps137
 go_wp2
 go_ret
 exact⟨rfl,0,rfl⟩
def cz5{w:World}{g cp bx:Nat}{l:F6}{id:Int}(hO:P8 w 3 1 (.slice (some ⟨g,0,none⟩) l.length cp) l.length (aN l) (some g))(hl:l.length<=4000)(hbx:w.heap[bx]?=some (.cells #[.int .i64 id] 3 (0,0)))(hne:bx≠g):
    Calls prog 136 #[.slice (some ⟨g,0,none⟩) l.length cp,.func (.func 137) #[] #[ptr bx 0]] w λe w'=>e=.returned (.slice (some ⟨g,0,none⟩) (l.filter λx=> !(x==id)).length cp)/\
     P8 w' 3 1 (.slice (some ⟨g,0,none⟩) (l.filter λx=> !(x==id)).length cp) (l.filter λx=> !(x==id)).length (aN (l.filter λx=> !(x==id))) (some g)/\Fr (λk=>k=g) w w':=by
 have hbl:bx<w.heap.size:=(X6.1 hbx).1;generalize hC:aN l=C at hO;generalize hn:l.length=n at hO⊢;cases hO with
 |b _ _ _ arr hh hs hnc hm h1=>
  subst hn;have hat:∀j,j<l.length->arr[j]?=some (.int .i64 l[j]!):=λj hj=>by
   have:=congrArg (λc=>c[j]?) hC;simp only[aN,kN,yC,I9 hj,kM]at this;rw[<-this,P9,J9 hj,getElem!_pos l j hj];rfl
  have hf:(l.filter λx=> !(x==id)).length<=l.length:=List.length_filter_le _ _;have hPO:∀(q:Nat)(os:Array Obj)(dk:Array Int),(sortWorld (Value.int .i64) w g 0 q dk os).cell? ⟨bx,0,none⟩=some (.int .i64 id):=λq os dk=>by
   refine(Q5 (arr:=#[.int .i64 id]) (el:=3) ?_ rfl).1;rw[show(sortWorld (Value.int .i64) w g 0 q dk os).heap=(mapBlock (Go.Sort.ahead w q) g (putCells (Value.int .i64) 0 dk)).heap++os from rfl,QX (by rw[bG0];exact hbl),bF9 hne];exact hbx
  have key:=Tryz.slices_DeleteFunc (Value.int .i64) (λ_=>rfl) (λx=>x==id) 137 #[ptr bx 0] (enters_of func137 (by kernel_rfl) rfl) 0 zeroValue3 g 0 cp l.toArray w
   (λW x hb=>take1 ((Q5 ((hb.block bx hbl).trans hbx) rfl).1)) (λq os dk x _=>take1 (hPO q os dk)) (λj hj=>by
     have hj':j<l.length:=by simpa using hj
     rw[X9];have:=Q5 hh (hat j hj')
     simpa[getElem!_pos,hj']using this) (by simp;omega) (by simp;omega)
  simp only[oZ]at key;refine key.mono ?_
  .rintro e w' ⟨rfl,q,rfl⟩;simp only[];have hh':(putRow (Value.int .i64) (Go.Sort.ahead w q) g 0 ((l.filter λx=> !(x==id))++List.replicate (l.length-(l.filter λx=> !(x==id)).length) 0).toArray).heap[g]?=some (.cells (putCells (Value.int .i64) 0 ((l.filter λx=> !(x==id))++List.replicate (l.length-(l.filter λx=> !(x==id)).length) 0).toArray arr) 3 (0,0)):=cY0 (w:=Go.Sort.ahead w q) hh;have hsz:(l.filter λx=> !(x==id)).length+(List.replicate (l.length-(l.filter λx=> !(x==id)).length) (0:Int)).length<=arr.size:=by rw[List.length_replicate,hs];omega
   refine⟨by simp,vP (arr:=putCells (Value.int .i64) 0 ((l.filter λx=> !(x==id))++List.replicate (l.length-(l.filter λx=> !(x==id)).length) 0).toArray arr) (C:=aN _) (by simpa using hh') (by simp[putCells,hs]) (by omega) hm (bB7 _) ?_,⟨rfl,rfl,rfl,Nat.le_of_eq bG0.symm,λk _ hk=>bF9 (w:=Go.Sort.ahead w q) hk⟩⟩;rw[yC];simpa[aN]using dc2 (enc:=Value.int .i64) hsz
def cC1{w:World}{x b r pb po g cp:Nat}{l:F6}{id par:Int}
    (Y6:At w 73 #[ptr x 0,.int .i64 id] (ptr b r)) (hb:b<w.heap.size) (hpar:w.cell? ⟨b,r+1,none⟩=some (.int .i64 par)) (iQ:At w 75 #[ptr x 0,.int .i64 par] (ptr pb po))
    {arr:S9} {el:Nat} (hr:w.heap[pb]?=some (.cells arr el (0,0))) (hc:arr[po]?=some (.slice (some ⟨g,0,none⟩) l.length cp)) (hO:P8 w 3 1 (.slice (some ⟨g,0,none⟩) l.length cp) l.length (aN l) (some g)) (hpo:g≠pb) (hl:l.length<=4000):
    Calls prog 80 #[ptr x 0,.int .i64 id] w λe w'=>e=.returned (.tuple #[])/\∃v' w1,P8 w1 3 1 v' (l.filter λx=> !(x==id)).length (aN (l.filter λx=> !(x==id))) (some g)/\Fr (λk=>some g=some k) w w1/\w'=w1.setCell ⟨pb,po,none⟩ v':=by
 have hpb:pb<w.heap.size:=(X6.1 hr).1;have hg:g<w.heap.size:=hO.lt rfl;have hB:∀w',Below w.heap.size w w'->w'.cell? ⟨pb,po,none⟩=some (.slice (some ⟨g,0,none⟩) l.length cp):=λw' hw=>(Q5 ((hw.block pb hpb).trans hr) hc).1;have hP:∀w',Below w.heap.size w w'->w'.cell? ⟨b,r+1,none⟩=some (.int .i64 par):=λw' hw=>(hw.cell (p:=⟨b,r+1,none⟩) hb).trans hpar;have hX:∀w',Below (w.alloc (.cells #[.int .i64 id] 3)).heap.size (w.alloc (.cells #[.int .i64 id] 3)) w'->w'.heap[w.heap.size]?=some (.cells #[.int .i64 id] 3 (0,0)):=λw' hw=>
  (hw.block w.heap.size (by simp)).trans (bJ w _)
 have hXc:∀w',Below (w.alloc (.cells #[.int .i64 id] 3)).heap.size (w.alloc (.cells #[.int .i64 id] 3)) w'->w'.cell? ⟨w.heap.size,0,none⟩=some (.int .i64 id):=λw' hw=>(Q5 (hX w' hw) rfl).1;have x0:=hXc _ (Below.refl _ _);have fin:∀w',Below (w.alloc (.cells #[.int .i64 id] 3)).heap.size (w.alloc (.cells #[.int .i64 id] 3)) w'->Calls prog 136 #[.slice (some ⟨g,0,none⟩) l.length cp,.func (.func 137) #[] #[ptr w.heap.size 0]] w' λe w1=>∃n',e=.returned (.slice (some ⟨g,0,none⟩) n' cp)/\w1.cell? ⟨pb,po,none⟩=some (.slice (some ⟨g,0,none⟩) l.length cp)/\w1.frozen? ⟨pb,po,none⟩=false/\
  P8 w1 3 1 (.slice (some ⟨g,0,none⟩) n' cp) (l.filter λx=> !(x==id)).length (aN (l.filter λx=> !(x==id))) (some g)/\Fr (λk=>some g=some k) w w1:=λw' hw=>by
  have hw':=Below.and (al w (.cells #[.int .i64 id] 3)) hw;refine(cz5 (hO.keep λk hk=>hw'.block k (hO.lt hk)) hl (hX w' hw) (by omega)).mono ?_;rintro e w1 ⟨rfl,h1,h2⟩;have hF:Fr (λk=>some g=some k) w w1:=(Fr.of_below hw').trans (h2.mono λk hk=>by rw[hk]) |>λh=>h;have hrow:=(hF.block pb hpb (λh=>hpo (jJ h))).trans hr;exact⟨_,rfl,(Q5 hrow hc).1,(Q5 hrow hc).2,h1,hF⟩
 go_enter func80,ntmps80
 go_wp2_with (first|(go_at_call 73;refine(Y6 _ (al w _)).mono ?_;rintro e w1 ⟨rfl,hw1⟩;have c1:=hP w1 (Below.and (al w _) hw1))|(go_at_call 75;refine(iQ _ (Below.and (al w _) hw1)).mono ?_;rintro e w2 ⟨rfl,hw2⟩;have c2:=hB w2 (Below.and (al w _) (Below.and hw1 hw2)))|(go_at_call 136;refine(fin _ (Below.and hw1 hw2)).mono ?_;rintro e w3 ⟨n',rfl,c3,f3,h1,h2⟩))
 go_end0
 exact⟨rfl,_,w3,h1,h2,rfl⟩
end
section
open Go Go.F7 Go.RowKit Go.Ev Proofs.Tryz
set_option maxRecDepth 100000
set_option maxHeartbeats 2000000
def bW5{g el:Nat}{fr:Nat×Nat}:∀(vs:H6)(o:Nat)(w:World)(arr:S9),w.heap[g]?=some (.cells arr el fr)->o+vs.length<=arr.size->
    (w.setCells g o vs).heap[g]?=some (.cells (arr.toList.take o++vs++arr.toList.drop (o+vs.length)).toArray el fr)/\Fr (λk=>k=g) w (w.setCells g o vs)
 |[],o,w,arr,h,_=>⟨by simpa[World.setCells]using h,Fr.refl _ _⟩
 |v::r,o,w,arr,h,hl=>by
  simp only[sD]at hl;have h1:=PN w g o v h;have⟨h2,h3⟩:=bW5 r (o+1) (w.setCell ⟨g,o,none⟩ v) (arr.setIfInBounds o v) h1 (by simp;omega);refine⟨?_,(Fr.WI (S:=λk=>k=g) (Fr.refl _ w) (.inl rfl)).trans h3⟩;simp only[World.setCells];rw[h2];congr 3;rw[Array.toList_setIfInBounds,List.take_add_one,List.getElem?_set_self (by simp;omega),List.take_set,List.set_eq_of_length_le (by rw[Y1];omega),List.drop_set_of_lt (by omega)];simp only[Option.toList,lC,List.singleton_append,sD];rw[show o+1+r.length=o+(r.length+1)from by omega]
def dI2:Q9 xO=.agg #[.int .i64 0,.int .i64 0,.int .i64 0,.string ⟨#[]⟩,.string ⟨#[]⟩,.slice none 0 0]:=by kernel_rfl
set_option maxHeartbeats 4000000 in
theorem cz7{w:World}{g i m cp:Nat}{C:H6}(hO:P8 w 52 6 (.slice (some ⟨g,0,none⟩) (i+1+m) cp) (i+1+m) C (some g))(hn:i+1+m<=4000):
 Calls prog 81 #[.slice (some ⟨g,0,none⟩) (i+1+m) cp,.int .i64 i,.int .i64 ((i:Int)+1)] w λe w'=>e=.returned (.slice (some ⟨g,0,none⟩) (i+m) cp)/\
  P8 w' 52 6 (.slice (some ⟨g,0,none⟩) (i+m) cp) (i+m) (C.take (i*6)++C.drop ((i+1)*6)) (some g)/\Fr (λk=>k=g) w w':=by
 generalize hnn:i+1+m=n at hO;cases hO with
 |b _ _ _ arr hh hs hnc hm h1=>
  subst hnn;have⟨i0,hi0,hz1,_,_⟩:=xQ.gX;have hal:arr.toList.length=cp*6:=by rw[iW,hs]
  obtain⟨news,hnews⟩:∃news,news=(arr.toList.drop ((i+1)*6)).take (m*6):=⟨_,rfl⟩;have s1:news.length=m*6:=by rw[hnews,Y1,nH,hal];omega
  obtain⟨A,hA,hsrc⟩:∃A:Addr,(if cp=i+1 then(some ⟨g,0,none⟩:qP)else some ⟨g,(i+1)*6,none⟩)=some A/\∀t u,news[t]?=some u->w.drew.cell? (A.add t)=some u:=by
   by_cases h:cp=i+1
   .refine⟨⟨g,0,none⟩,by simp[h],λt u hu=>?_⟩;have h0:news=[]:=List.length_eq_zero_iff.1 (by rw[s1];omega);rw[h0]at hu;simp at hu
   .refine⟨⟨g,(i+1)*6,none⟩,by simp[h],λt u hu=>?_⟩;rw[hnews,kN]at hu;split at hu
    .rw[zV,kM]at hu;rw[iI];exact(Q5 (w:=w) hh hu).1
    .exact nomatch hu
  have s2:∀u∈news,u.oneCell'=true:=λu hu=>h1 u (by
   rw[hnews]at hu;obtain⟨t,ht,rfl⟩:=eX hu;rw[List.getElem_take,List.getElem_drop];have:t<m*6:=by rw[<-hnews,s1]at ht;exact ht
   have e:arr.toList[(i+1)*6+t]'(by rw[hal];omega)=(arr.toList.take ((i+1+m)*6))[(i+1)*6+t]'(by rw[Y1,hal];omega):=by rw[List.getElem_take]
   rw[e];exact gK _)
  have s3:∀t,t<news.length->(w.drew.cell? ⟨g,0+i*6+t,none⟩).isSome=true/\w.drew.frozen? ⟨g,0+i*6+t,none⟩=false:=λt ht=>by
   have hb:0+i*6+t<arr.size:=by rw[hs];omega
   have:=Q5 (w:=w) hh (lY hb);exact⟨by show(w.cell? _).isSome=true;rw[this.1];rfl,this.2⟩
  have⟨hW1,hF1⟩:=bW5 (el:=52) (fr:=(0,0)) news (0+i*6) w.drew arr hh (by rw[s1,hs];omega);obtain⟨W1,hW⟩:∃W1,W1=w.drew.setCells g (0+i*6) news:=⟨_,rfl⟩;rw[<-hW]at hW1 hF1;obtain⟨arr1,aq1⟩:∃arr1,arr1=(arr.toList.take (0+i*6)++news++arr.toList.drop (0+i*6+news.length)).toArray:=⟨_,rfl⟩;rw[<-aq1]at hW1;have ha1:arr1.size=cp*6:=by rw[aq1];simp only[oZ,cO,Y1,nH,hal,s1];omega
  obtain⟨Zs,hZs⟩:∃Zs,Zs=(Builtin.zeroCells (Q9 xO).cells 1).toList:=⟨_,rfl⟩;have hZl:Zs.length=6:=by rw[hZs,aD4 xQ];rfl
  have hZ1:∀u∈Zs,u.oneCell'=true:=λu hu=>ck7 xQ (by decide) 1 u (hZs▸hu);have hst:=run_storeCells_at (P:=prog) g ((i+m)*6) 52 Zs 0 arr1 W1 hW1 (by rw[hZl,ha1];omega) hZ1;obtain⟨W2,hW2⟩:∃W2,W2=W1.setRow g (arr1.toList.take ((i+m)*6+0)++Zs++arr1.toList.drop ((i+m)*6+0+Zs.length)).toArray:=⟨_,rfl⟩;rw[<-hW2]at hst;have hZe:Zs=(Builtin.zeroCells #[.int .i64 0,.int .i64 0,.int .i64 0,.string ⟨#[]⟩,.string ⟨#[]⟩,.slice none 0 0] 1).toList:=by rw[hZs,dI2];rfl
  rw[hZe]at hst;have hcl:∀ty c,(Builtin.clear_ #[34] ty #[.slice (some ⟨g,(i+m)*6,none⟩) (i+1+m-(i+m)) c]).run prog W1=.ok (.tuple #[]) W2:=λty c=>by
   rw[show i+1+m-(i+m)=1 from by omega];have hz:=zeroValue52 W1;simp[Builtin.clear_,O4 underlying34,hz,hst,go_sem]
  have HW:=Lib.hid hW;have HN:=Lib.hid hnews;have HA:=Lib.hid aq1;have H2:=Lib.hid hW2;have HZ:=Lib.hid hZl;have HS:=Lib.hid s1;clear hst hZe hZs hW hnews aq1 hW2 hZl s1;have hn1:¬((i:Int)=(i:Int)+1):=by omega
  have hic:i<=cp:=by omega
  have hjc:i+1<=cp:=by omega
  have hq1:(0:Int)<=(i:Int)+1:=by omega
  have hq2:(i:Int)+1<=(i:Int)+1+(m:Int):=by omega
  have hq3:(i:Int)+(m:Int)<=(i:Int)+1+(m:Int):=by omega
  have hq0:(0:Int)<=(i:Int)+(m:Int):=by omega
  have mixed:=@mixed
  go_enter func81,ntmps81
  go_wp2_with fail
  go_region_law_o (refine step_append_room rfl (.tmp 22) (.tmp 25) 34 rfl 52 i0 6 underlying34 hi0 hz1 g 0 i cp (by simp[Act.eval,Act.put]) A m (cp-(i+1)) news (by simp[Act.eval,Act.put]) HS.out hsrc s2 (by omega) s3 ?_;rw[<-HW.out])
  go_wp2
  go_ret
  have e1:(arr.toList.take ((i+1+m)*6)).take (i*6)++(arr.toList.take ((i+1+m)*6)).drop ((i+1)*6)=arr.toList.take (i*6)++news:=by
   rw[RI,uU (by omega),List.drop_take,HN.out];congr 2;omega
  have hl1:arr1.toList.take ((i+m)*6)=arr.toList.take (i*6)++news:=by
   rw[HA.out,X9];simp only[];rw[sG (by rw[cO,Y1,hal,HS.out];omega),pF (by rw[cO,Y1,hal,HS.out];omega)]
  have hl2:arr1.toList.length=cp*6:=by rw[iW];exact ha1
  refine⟨rfl,vP (arr:=(arr1.toList.take ((i+m)*6+0)++Zs++arr1.toList.drop ((i+m)*6+0+Zs.length)).toArray) ?_ ?_ (by omega) hm (λu hu=>?_) ?_,?_⟩
  .rw[H2.out];exact rU W1 g arr1 _ 52 (0,0) hW1
  .simp only[oZ,cO,Y1,nH,hl2,HZ.out];omega
  .rcases iY.1 hu with hu|hu
   .exact h1 u (EY hu)
   .exact h1 u (KP hu)
  .rw[e1];simp only[pG];rw[lC,sG (by rw[Y1,hl2];omega),RI,Nat.min_self,hl1]
  .rw[H2.out];exact(Fr.trans (b:=w.drew) ((Fr.refl _ w).drew) hF1).setRow (.inl rfl)
end
section
open Go Go.F7 Go.RowKit Go.Ev Proofs.Tryz
set_option maxRecDepth 100000
set_option maxHeartbeats 4000000
def P8.TK{w:World}{el z n:Nat}{v:Value}{C:H6}{b:Nat}(h:P8 w el z v n C (some b))(j:Nat):w.frozen? ⟨b,j,none⟩=false:=by
 cases h with
 |b b c n arr hh hs hn hm h1=>simp[World.frozen?,hh]
def Ed.TK{w0 w:World}{L:Lay}(h:Ed w0 w L){b:Nat}(hb:L.bo=some b)(j:Nat):w.frozen? ⟨b,j,none⟩=false:=by
 have hB:=h.hb;rw[hb]at hB;exact hB.TK j
def df1{w:World}{x:Nat}{o:Opn}(Y6:At w 73 #[ptr x 0,.int .i64 o.Unit] (.pointer none)):
    Calls prog 34 #[ptr x 0,oval o] w λe w'=>e=.returned (.int .i64 7)/\Below w.heap.size w w':=by
 have k3:=(kC w o).k3
 go_enter func34,ntmps34
 go_wp2_with (go_at_call 73;refine(Y6 _ (al w _)).mono ?_;rintro e w1 ⟨rfl,hw1⟩)
 go_ret
 exact⟨rfl,Below.and (al w _) hw1⟩
def df3{w0 w:World}{L:Lay}{o:Opn}(hE:Ed w0 w L){k:Nat}{r:Row}(hr:L.rows[k]?=some r){b:Nat}(hb:L.bo=some b)(Y6:At w 73 #[ptr L.x 0,.int .i64 o.Unit] (ptr b (k*6))):
    Calls prog 34 #[ptr L.x 0,oval o] w λe w'=>e=.returned (.int .i64 0)/\Ed w0 w' { L with rows:=L.rows.set k ⟨{ r.b with Unit:={ r.b.Unit with Title:=o.Title } },r.k,r.o⟩ }:=by
 have bx:=kC w o;have k3:=bx.k3;have hK:=λw' (hw:Below w.heap.size w w')=>(hE.below hw).cell hr hb (j:=3) (by omega) rfl;have hF:=λw' (hw:Below w.heap.size w w')=>(hE.below hw).TK hb (k*6+3)
 go_enter func34,ntmps34
 go_wp2_with (go_at_call 73;refine(Y6 _ (al w _)).mono ?_;rintro e w1 ⟨rfl,hw1⟩;have k7:=(bx.below hw1).k7;have c1:=hK w1 (Below.and (al w _) hw1);have f1:=hF w1 (Below.and (al w _) hw1))
 go_ret
 exact⟨rfl,(hE.below (Below.and (al w _) hw1)).a08 hr hb rfl (by omega) rfl rfl⟩
def cY3{w:World}{x:Nat}{o:Opn}(Y6:At w 73 #[ptr x 0,.int .i64 o.Unit] (.pointer none)):
    Calls prog 35 #[ptr x 0,oval o] w λe w'=>e=.returned (.int .i64 7)/\Below w.heap.size w w':=by
 have k3:=(kC w o).k3
 go_enter func35,ntmps35
 go_wp2_with (go_at_call 73;refine(Y6 _ (al w _)).mono ?_;rintro e w1 ⟨rfl,hw1⟩)
 go_ret
 exact⟨rfl,Below.and (al w _) hw1⟩
def cY7{w:World}{x b p:Nat}{o:Opn}(Y6:At w 73 #[ptr x 0,.int .i64 o.Unit] (ptr b p))(nP:At w 76 #[ptr x 0,.string ⟨⟨o.Mark⟩⟩,.int .i64 o.Unit] (.bool true)):
    Calls prog 35 #[ptr x 0,oval o] w λe w'=>e=.returned (.int .i64 19)/\Below w.heap.size w w':=by
 have bx:=kC w o;have k3:=bx.k3
 go_enter func35,ntmps35
 go_wp2_with (first|(go_at_call 73;refine(Y6 _ (al w _)).mono ?_;rintro e w1 ⟨rfl,hw1⟩;have k8:=(bx.below hw1).k8;have k3':=(bx.below hw1).k3)|(go_at_call 76;refine(nP _ (Below.and (al w _) hw1)).mono ?_;rintro e w2 ⟨rfl,hw2⟩))
 go_ret
 exact⟨rfl,Below.and (Below.and (al w _) hw1) hw2⟩
def cY4{w0 w:World}{L:Lay}{o:Opn}(hE:Ed w0 w L){k:Nat}{r:Row}(hr:L.rows[k]?=some r){b:Nat}(hb:L.bo=some b)(Y6:At w 73 #[ptr L.x 0,.int .i64 o.Unit] (ptr b (k*6)))(nP:At w 76 #[ptr L.x 0,.string ⟨⟨o.Mark⟩⟩,.int .i64 o.Unit] (.bool false)):
    Calls prog 35 #[ptr L.x 0,oval o] w λe w'=>e=.returned (.int .i64 0)/\Ed w0 w' { L with rows:=L.rows.set k ⟨{ r.b with Unit:={ r.b.Unit with Mark:=o.Mark } },r.k,r.o⟩ }:=by
 have bx:=kC w o;have k3:=bx.k3;have hK:=λw' (hw:Below w.heap.size w w')=>(hE.below hw).cell hr hb (j:=4) (by omega) rfl;have hF:=λw' (hw:Below w.heap.size w w')=>(hE.below hw).TK hb (k*6+4)
 go_enter func35,ntmps35
 go_wp2_with (first|(go_at_call 73;refine(Y6 _ (al w _)).mono ?_;rintro e w1 ⟨rfl,hw1⟩;have k8:=(bx.below hw1).k8;have k3':=(bx.below hw1).k3)|(go_at_call 76;refine(nP _ (Below.and (al w _) hw1)).mono ?_;rintro e w2 ⟨rfl,hw2⟩;have k8':=(bx.below (Below.and hw1 hw2)).k8;have c1:=hK w2 (Below.and (al w _) (Below.and hw1 hw2));have f1:=hF w2 (Below.and (al w _) (Below.and hw1 hw2))))
 go_ret
 exact⟨rfl,(hE.below (Below.and (al w _) (Below.and hw1 hw2))).a08 hr hb rfl (by omega) rfl rfl⟩
def de6{w:World}{x:Nat}{o:Opn}{i:Int}(h72:At w 72 #[ptr x 0,.int .i64 o.Unit] (.tuple #[.int .i64 i,.bool false])):
    Calls prog 36 #[ptr x 0,oval o] w λe w'=>e=.returned (.int .i64 7)/\Below w.heap.size w w':=by
 have k3:=(kC w o).k3
 go_enter func36,ntmps36
 go_wp2_with (go_at_call 72;refine(h72 _ (al w _)).mono ?_;rintro e w1 ⟨rfl,hw1⟩)
 go_ret
 exact⟨rfl,Below.and (al w _) hw1⟩
def de5{w0 w:World}{L:Lay}{o:Opn}(hE:Ed w0 w L){k:Nat}{r:Row}(hr:L.rows[k]?=some r)(hk:r.b.Kids≠[])(h72:At w 72 #[ptr L.x 0,.int .i64 o.Unit] (.tuple #[.int .i64 k,.bool true])):
    Calls prog 36 #[ptr L.x 0,oval o] w λe w'=>e=.returned (.int .i64 11)/\Below w.heap.size w w':=by
 have k3:=(kC w o).k3;obtain⟨b,cp,U3,hbv,hlc⟩:=hE.sK hr;have hlt:k<L.rows.length:=(P7.1 hr).1;have hlt':(k:Int)<(L.rows.length:Int):=by omega
 have hK:=λw' (hw:Below w.heap.size w w')=>(hE.below hw).c1;rw[hbv]at hK;obtain⟨ad,c2,hkk,_⟩:=(hE.hk k r hr).sl;have hC:=λw' (hw:Below w.heap.size w w')=>(hE.below hw).cell hr U3 (j:=5) (u:=r.k) (by omega) rfl;rw[hkk]at hC;have hpos:(r.b.Kids.length:Int)>0:=by have:=List.length_pos_iff.2 hk;omega
 clear hkk hbv
 go_enter func36,ntmps36
 go_wp2_with (go_at_call 72;refine(h72 _ (al w _)).mono ?_;rintro e w1 ⟨rfl,hw1⟩;have c1:=hK w1 (Below.and (al w _) hw1);have c5:=hC w1 (Below.and (al w _) hw1))
 go_ret
 exact⟨rfl,Below.and (al w _) hw1⟩
def SS(a i:Nat):E8:=if i<a then some i else some (i+1)
def cz6{l:List Row}{a m:Nat}(h:l.length=a+1+m):(l.take a++l.drop (a+1)).length=a+m:=by simp;omega
def cz3{l:List Row}{a i:Nat}{q:Row}(h:a<l.length)(hq:(l.take a++l.drop (a+1))[i]?=some q):∃j,SS a i=some j/\l[j]?=some q:=by
 unfold SS;by_cases hi:i<a
 .rw[dX (by rw[Y1];omega),kN,I9 hi]at hq;exact⟨i,by rw[I9 hi],hq⟩
 .rw[dN (by rw[Y1];omega),zV,Y1,uU (by omega)]at hq;exact⟨i+1,by rw[H7 hi],by rw[<-hq];congr 1;omega⟩
def cz4(a:Nat):∀i i' j,SS a i=some j->SS a i'=some j->i=i':=λi i' j h1 h2=>by
 unfold SS at h1 h2;split at h1<;>split at h2<;>(simp at h1 h2;omega)
def de7{w0 w:World}{L:Lay}{R:Lay->Prop}{o:Opn}(hE:Ed w0 w L){k:Nat}{r:Row}(hr:L.rows[k]?=some r)(hk:r.b.Kids=[])(h72:At w 72 #[ptr L.x 0,.int .i64 o.Unit] (.tuple #[.int .i64 k,.bool true]))
    (htake:∀W,Below w.heap.size w W->Calls prog 80 #[ptr L.x 0,.int .i64 o.Unit] W λe W'=>e=.returned (.tuple #[])/\∃L2,Ed w0 W' L2/\L2.x=L.x/\R L2) (hR:∀L2,R L2->k<L2.rows.length/\L2.rows.length<=4000):
    Calls prog 36 #[ptr L.x 0,oval o] w λe w'=>e=.returned (.int .i64 0)/\∃L2 L3,R L2/\Ed w0 w' L3/\L3.x=L.x/\L3.roots=L2.roots/\L3.rows=L2.rows.take k++L2.rows.drop (k+1):=by
 have bx:=kC w o;have k3:=bx.k3;obtain⟨b,cp,U3,hbv,hlc⟩:=hE.sK hr;have hlt:k<L.rows.length:=(P7.1 hr).1;have hlt':(k:Int)<(L.rows.length:Int):=by omega
 have hK:=λw' (hw:Below w.heap.size w w')=>(hE.below hw).c1;rw[hbv]at hK;obtain⟨ad,c2,hkk,_⟩:=(hE.hk k r hr).sl;have hC:=λw' (hw:Below w.heap.size w w')=>(hE.below hw).cell hr U3 (j:=5) (u:=r.k) (by omega) rfl;rw[hkk,hk]at hC;have hdel:∀W L2,Ed w0 W L2->L2.x=L.x->R L2->∃n c b2,W.cell? ⟨L.x,1,none⟩=some (.slice (some ⟨b2,0,none⟩) n c)/\(k:Int)+1<=4000/\Calls prog 81 #[.slice (some ⟨b2,0,none⟩) n c,.int .i64 k,.int .i64 ((k:Int)+1)] W λe W'=>∃n',e=.returned (.slice (some ⟨b2,0,none⟩) n' c)/\
  W'.cell? ⟨L.x,1,none⟩=some (.slice (some ⟨b2,0,none⟩) n c)/\W'.frozen? ⟨L.x,1,none⟩=false/\∃L3,Ed w0 (W'.setCell ⟨L.x,1,none⟩ (.slice (some ⟨b2,0,none⟩) n' c)) L3/\L3.x=L.x/\L3.roots=L2.roots/\L3.rows=L2.rows.take k++L2.rows.drop (k+1):=λW L2 hE2 hx2 hR2=>by
  obtain⟨hk2,hn2⟩:=hR L2 hR2;obtain⟨m,hm⟩:∃m,L2.rows.length=k+1+m:=⟨L2.rows.length-(k+1),by omega⟩;obtain⟨b2,c,hb2,hv2,_⟩:=hE2.sK (J9 hk2);have hB:=hE2.hb;rw[hv2,hb2,hm]at hB;have hc1:=hE2.c1;rw[hv2,hx2,hm]at hc1;refine⟨_,c,b2,hc1,by omega,(cz7 hB (by omega)).mono ?_⟩;rintro e W' ⟨rfl,hO,hf⟩;have hf':Fr (λk=>L2.bo=some k) W W':=hf.mono λq hq=>by rw[hq];exact hb2
  have hkx:W'.heap[L2.x]?=_:=(hf'.block L2.x (hE2.dI (p:=.x) rfl) (λh=>by have:=hE2.nd .b .x L2.x h rfl;cases this)).trans hE2.hx;have hh:=Q5 hkx rfl (o:=1);rw[hx2,hv2,hm]at hh;refine⟨_,rfl,hh.1,hh.2,{ L2 with bv:=.slice (some ⟨b2,0,none⟩) (k+m) c,bo:=some b2,rows:=L2.rows.take k++L2.rows.drop (k+1) },?_,hx2,rfl,rfl⟩;rw[<-hx2];refine hE2.setB (by rw[cz6 hm,aY7,bQ6,bQ5];exact hO) (λq hq=>.inl (by rw[hb2];exact hq)) hf' (SS k) (λi q hq=>.inl ?_) (cz4 k);exact cz3 hk2 hq
 clear hkk hbv
 go_enter func36,ntmps36
 go_wp2_with (first|(go_at_call 72;refine(h72 _ (al w _)).mono ?_;rintro e w1 ⟨rfl,hw1⟩;have c1:=hK w1 (Below.and (al w _) hw1);have c5:=hC w1 (Below.and (al w _) hw1);have k3':=(bx.below hw1).k3)|(go_at_call 80;refine(htake _ (Below.and (al w _) hw1)).mono ?_;rintro e w2 ⟨rfl,L2,hE2,hx2,hR2⟩;obtain⟨n2,c3,b2,c2',hk4,hcall⟩:=hdel w2 L2 hE2 hx2 hR2)|(go_at_call 81;refine hcall.mono ?_;rintro e w3 ⟨n',rfl,c4,f4,L3,TL,hx3,hr3,hw3⟩))
 go_ret
 exact⟨rfl,L2,L3,hR2,TL,hx3,hr3,hw3⟩
end
section
open Go Go.F7 Go.RowKit Go.Ev Proofs.Tryz
set_option maxRecDepth 100000
set_option maxHeartbeats 2000000
def cV5:Go.Shelf.Ren:=⟨λ|41=>88|n=>n,λ|22=>34|23=>52|4=>4|n=>n,λ|n=>n⟩
def bE7:Go.Proofs.SlLaysE0.n41 prog cV5:={
 mixed:=by kernel_rfl
 f41:=⟨Tryz.f88.name,by decide,func88.trans (congrArg some (by kernel_rfl))⟩
 t4:=underlying4
 a4:=isAgg4
 z4:=sizeOf4
 v4:=zeroValue4
 t22:=underlying34
 a22:=isAgg34
 z22:=sizeOf34
 v22:=zeroValue34 }
def cw9(a:Addr)(c:Nat)(w:World):
    Calls prog 88 #[.slice (some a) 0 c] w λe w'=>∃v',e=.returned v'/\w'.ownsRow w.heap.size 52 6 v' 0 []/\Below w.heap.size w w':=by
 have mixed:=@mixed;have t22:=underlying34;obtain⟨i0,hi,hz1,hz2,hz0⟩:=xQ.gX;have hzs:(Q9 xO).cells.size=6:=by rw[lX xQ];rfl
 have q22:∀(w:World)(a:qP)(n c n' c':Nat),(binOp .eql 34 (.slice a n c) (.slice none n' c')).run prog w=.ok (.bool a.isNone) w:=λw a n c n' c'=>Lib.run_eql_slice_nil w _ _ a n c n' c' t22;have u22:∀w,Sem.run prog (underlying 34) w=.ok (TypeDesc.slice 52) w:=O4 t22
 go_enter func88,ntmps88
 go_wp2_with (at_builtin;refine wpList_append_own _ rfl _ _ 34 rfl w.heap.size 52 i0 (Q9 xO) 6 i0.bytes t22 hi hz0 hz1 rfl hzs (by decide) _ _ _ rfl (World.ownsRow_made w #[] 0 (N8 _) (aF _) rfl) a 0 c [] rfl rfl (by intro j u hj;simp at hj) (by intro u hu;cases hu) (by unfold maxLen;omega) (by omega) (by simp) ?_)
 intro v' w1 hown hgrow hnil
 go_wp2
 go_ret
 refine⟨v',rfl,by simpa using hown,?_⟩;exact((Below.refl _ w).alloc (N8 _) _).grown hgrow (by simp) (by intro k hk;simp[Value.ownBlock]at hk;omega)
def au1{w:World}{B e z n:Nat}{v:Value}{xs:H6}(h:w.ownsRow B e z v n xs)(h1:∀u∈xs,u.oneCell'=true):∃ob,P8 w e z v n xs ob/\∀g,ob=some g->B<=g:=by
 obtain⟨hl,⟨rfl,rfl⟩|⟨g,cap,cur,rfl,hg,hh,hn,hm,hs,rfl⟩⟩:=h
 .obtain rfl:xs=[]:=mD (by omega);exact⟨none,.e none,λ_ h=>nomatch h⟩
 .exact⟨some g,.b g cap n cur hh hs hn hm h1,λ_ h=>by injection h with h;subst h;exact hg⟩
def bp3{Z:Zone}{w:World}{l:F6}{v:Value}(h:Rep Z w (.sl 1 (l.map F8)) v)(hl:l.length<=4000):Calls prog 87 #[v] w λe w'=>∃v' o',e=.returned v'/\P8 w' 3 1 v' l.length (aN l) o'/\(∀c,o'=some c->w.heap.size<=c)/\Below w.heap.size w w':=by
 generalize hd:l.map F8=ds at h;cases h with
 |nil _ a cap=>
  obtain rfl:l=[]:=List.map_eq_nil_iff.1 hd;cases a with
  |none=>exact(Tryz.slices_Clone_int_nil 0 cap w).mono λe w' ⟨h1,h2⟩=>⟨_,none,h1,.e none,(λ_ h=>nomatch h),h2.symm▸Below.refl w.heap.size w⟩
  |some a=>
   refine(Tryz.slices_Clone_int_zero a cap w).mono λe w' ⟨v',h1,h2,_,h3⟩=>?_;obtain⟨o',hO,ho⟩:=au1 h2 (λu hu=>nomatch hu);exact⟨v',o',h1,hO,ho,h3⟩
 |sl _ ds b o cap f hcap hsz hc h=>
  subst hd;have hb:140737488355328=140737488355328:=rfl
  have key:=Tryz.slices_Clone_int b o l.length cap l w (N8 _) (by omega) (λj hj=>by
   have h1:(l.map F8)[j]?=some (F8 l[j]):=by rw[P9,J9 hj];rfl
   have h2:=(hc j 0 _ (I l[j]) h1 rfl).2.1;have h3:=h j 0 _ (I l[j]) h1 rfl;rw[yC,pG]at h2;rw[h2]
   rw[vS h3,RG,J9 hj];rfl)
  rw[pF (N8 _)]at key;rw[X0];refine key.mono λe w' ⟨v',h1,h2,_,h3⟩=>?_;obtain⟨o',hO,ho⟩:=au1 h2 (bB7 l);exact⟨v',o',h1,hO,ho,h3⟩
theorem dg0{Z:Zone}{w:World}{sz:Nat}{ds:dS}{u:Value}(h:Rep Z w (.sl sz ds) u):u.oneCell'=true:=h.atom rfl
def cx0{Z:Zone}{w:World}{bs:X8}{v:Value}(h:Rep Z w (.sl 6 (bs.map I4)) v)(hl:bs.length<=4000):Calls prog 88 #[v] w λe w'=>∃v' o' rows,e=.returned v'/\rows.map Row.b=bs/\P8 w' 52 6 v' rows.length (rcs rows) o'/\(∀c,o'=some c->w.heap.size<=c)/\
    (∀(i:Nat)(r:Row),rows[i]?=some r->r.o=none/\Rep Z w (.sl 1 (r.b.Kids.map F8)) r.k)/\Below w.heap.size w w':=by
 have c39:∀cap,Calls prog 88 #[.slice none 0 cap] w λe w'=>e=.returned (.slice none 0 0)/\w'=w:=λcap=>AnyE.slices_Clone_nil bE7 0 cap w;obtain⟨i0,hi0,hz1,hz2,hz0⟩:=xQ.gX;have hzs:(Q9 xO).cells.size=6:=by rw[lX xQ];rfl
 have c94:∀(b o cap:Nat)(rows:List Row),rows.map Row.b=bs->(∀(i:Nat)(r:Row),rows[i]?=some r->r.o=none/\Rep Z w (.sl 1 (r.b.Kids.map F8)) r.k)->(∀j u,(rcs rows)[j]?=some u->w.cell? ⟨b,o+j,none⟩=some u)->
  Calls prog 88 #[.slice (some ⟨b,o,none⟩) rows.length cap] w λe w'=>∃v' o' rows,e=.returned v'/\rows.map Row.b=bs/\P8 w' 52 6 v' rows.length (rcs rows) o'/\(∀c,o'=some c->w.heap.size<=c)/\
   (∀(i:Nat)(r:Row),rows[i]?=some r->r.o=none/\Rep Z w (.sl 1 (r.b.Kids.map F8)) r.k)/\Below w.heap.size w w':=λb o cap rows hrb hrr hc=>by
  have hlen:rows.length=bs.length:=by rw[<-hrb,X0]
  have h1:∀u∈rcs rows,u.oneCell'=true:=λu hu=>by
   obtain⟨j,hj,rfl⟩:=eX hu;have hj':=hj;rw[VZ]at hj';have hq:j/6<rows.length:=by omega
   have hg:=aw1 (J9 hq) (show j % 6<6 by omega);rw[show j/6*6+j % 6=j from by omega,J9 hj]at hg;have hk:=dg0 (hrr (j/6) _ (J9 hq)).2
   match j % 6,hg with
   |0,hg=>injection hg with hg;rw[hg];rfl
   |1,hg=>injection hg with hg;rw[hg];rfl
   |2,hg=>injection hg with hg;rw[hg];rfl
   |3,hg=>injection hg with hg;rw[hg];rfl
   |4,hg=>injection hg with hg;rw[hg];rfl
   |5,hg=>injection hg with hg;rw[hg];exact hk
   |n+6,hg=>cases hg
  have key:=AnyE.slices_Clone bE7 i0 (Q9 xO) 6 i0.bytes hi0 hz0 hz1 rfl hzs (by decide) sizeOf52 b o rows.length cap (rcs rows) w (VZ rows) (by rw[hlen];exact Y2 hl (by decide)) (by rw[hlen,hz2];exact Y2 (iJ _ hl) (by decide)) hc h1;refine key.mono λe w' ⟨v',h1',h2,_,h3⟩=>?_;obtain⟨o',hO,ho⟩:=au1 h2 h1;exact⟨v',o',rows,h1',hrb,hO,ho,hrr,h3⟩
 generalize hd:bs.map I4=ds at h;cases h with
 |nil _ a cap=>
  obtain rfl:bs=[]:=List.map_eq_nil_iff.1 hd;cases a with
  |none=>exact(c39 cap).mono λe w' ⟨h1,h2⟩=>⟨_,none,[],h1,rfl,.e none,(λ_ h=>nomatch h),(λ_ _ h=>nomatch h),h2.symm▸Below.refl w.heap.size w⟩
  |some a=>
   refine(cw9 a cap w).mono λe w' ⟨v',h1,h2,h3⟩=>?_;obtain⟨o',hO,ho⟩:=au1 h2 (λu hu=>nomatch hu);exact⟨v',o',[],h1,rfl,hO,ho,(λ_ _ h=>nomatch h),h3⟩
 |sl _ ds b o cap f hcap hsz hc h=>
  subst hd;rw[X0];obtain⟨rows,hrows⟩:∃rows,rows=bs.mapIdx λi b=>(⟨b,f i 5,none⟩:Row):=⟨_,rfl⟩;have hget:∀i,rows[i]?=(bs[i]?).map λb=>(⟨b,f i 5,none⟩:Row):=λi=>by rw[hrows,List.getElem?_mapIdx]
  have hlen:rows.length=bs.length:=by rw[hrows,List.length_mapIdx]
  rw[<-hlen];refine c94 b o cap rows ?_ (λi r hr=>?_) (λj u hu=>?_)
  .apply nZ;intro i;rw[P9,hget];cases bs[i]?<;>rfl
  .rw[hget]at hr;cases hb:bs[i]? with
   |none=>rw[hb]at hr;cases hr
   |some c=>
    rw[hb]at hr;cases hr;exact⟨rfl,h i 5 (I4 c) _ (by rw[P9,hb];rfl) rfl⟩
  .have hj:j<(rcs rows).length:=(P7.1 hu).1;rw[VZ]at hj;have hq:j/6<bs.length:=by omega
   have hr:rows[j/6]?=some ⟨bs[j/6],f (j/6) 5,none⟩:=by rw[hget,J9 hq];rfl
   have hg:=aw1 hr (show j % 6<6 by omega);rw[show j/6*6+j % 6=j from by omega,hu]at hg;have hd:(bs.map I4)[j/6]?=some (I4 bs[j/6]):=by rw[P9,J9 hq];rfl
   have hall:∀(q:Nat)(e:CV),(I4 bs[j/6])[q]?=some e->w.cell? ⟨b,o+j/6*6+q,none⟩=some (f (j/6) q)/\Rep Z w e (f (j/6) q):=λq e he=>⟨(hc _ _ _ e hd he).2.1,h _ _ _ e hd he⟩;have hjj:o+j=o+j/6*6+j % 6:=by omega
   rw[hjj]
   match j % 6,hg with
   |0,hg=>injection hg with hg;rw[hg,(hall 0 _ rfl).1,vS (hall 0 _ rfl).2]
   |1,hg=>injection hg with hg;rw[hg,(hall 1 _ rfl).1,vS (hall 1 _ rfl).2]
   |2,hg=>injection hg with hg;rw[hg,(hall 2 _ rfl).1,vS (hall 2 _ rfl).2]
   |3,hg=>injection hg with hg;rw[hg,(hall 3 _ rfl).1,vS (hall 3 _ rfl).2]
   |4,hg=>injection hg with hg;rw[hg,(hall 4 _ rfl).1,vS (hall 4 _ rfl).2]
   |5,hg=>injection hg with hg;rw[hg,(hall 5 _ rfl).1]
   |n+6,hg=>cases hg
end
section
open Go Go.F7 Go.RowKit Go.Ev Proofs.Tryz
set_option maxRecDepth 100000
set_option maxHeartbeats 4000000
attribute [local go_sem ↓] Go.wp_at_zero Go.wp_at_succ
def CP{Z:Zone}{w w':World}(hZ:∀b o,Z b o->b<w.heap.size)(hb:Below w.heap.size w w'):Keeps Z w Z w':=λb o hz=>⟨hz,jM (hb.block b (hZ b o hz))⟩
def aR1{Z:Zone}{w w':World}(hZ:∀b o,Z b o->b<w.heap.size)(hb:Below w.heap.size w w'):Keeps Z w' Z w:=λb o hz=>⟨hz,jM (hb.block b (hZ b o hz)).symm⟩
structure qL(w0 w:World)(L:Lay)(J:Nat):Prop where
 base:Below w0.heap.size w0 w
 hx:w.heap[L.x]?=some (.cells #[L.rv,L.bv] 36 (0,0))
 hr:P8 w 3 1 L.rv L.roots.length (aN L.roots) L.ro
 hb:P8 w 52 6 L.bv L.rows.length (rcs L.rows) L.bo
 hk:∀(i:Nat)(r:Row),L.rows[i]?=some r->i<J->P8 w 3 1 r.k r.b.Kids.length (aN r.b.Kids) r.o
 hn:∀(i:Nat)(r:Row),L.rows[i]?=some r->J<=i->r.o=none
 nd:∀p q b,L.at p=some b->L.at q=some b->p=q
 lo:∀p b,L.at p=some b->w0.heap.size<=b
def qL.dI{w0 w:World}{L:Lay}{J:Nat}(h:qL w0 w L J){p:Pl}{b:Nat}(hb:L.at p=some b):b<w.heap.size:=by
 cases p with
 |x=>cases hb;exact(X6.1 h.hx).1
 |r=>exact h.hr.lt hb
 |b=>exact h.hb.lt hb
 |k i=>
  cases hr:L.rows[i]? with
  |none=>simp[Lay.at,hr]at hb
  |some r=>
   simp only[Lay.at,hr,F9]at hb;by_cases hi:i<J
   .exact(h.hk i r hr hi).lt hb
   .rw[h.hn i r hr (by omega)]at hb;cases hb
def qL.below{w0 w w':World}{L:Lay}{J:Nat}(h:qL w0 w L J)(hb:Below w.heap.size w w'):qL w0 w' L J where
 base:=h.base.trans (hb.mono h.base.size)
 hx:=(hb.block _ (h.dI (p:=.x) rfl)).trans h.hx
 hr:=h.hr.keep λk hk'=>hb.block k (h.dI (p:=.r) hk')
 hb:=h.hb.keep λk hk'=>hb.block k (h.dI (p:=.b) hk')
 hk:=λi r hr hi=>(h.hk i r hr hi).keep λk hk'=>hb.block k (h.dI (p:=.k i) (by simp[Lay.at,hr,hk']))
 hn:=h.hn
 nd:=h.nd
 lo:=h.lo
def qL.step{w0 w w1:World}{L:Lay}{J:Nat}(h:qL w0 w L J){r:Row}(hr:L.rows[J]?=some r){b:Nat}(hb:L.bo=some b){v':Value}{o':E8}(hO:P8 w1 3 1 v' r.b.Kids.length (aN r.b.Kids) o')(ho':∀c,o'=some c->w.heap.size<=c)(hf:Below w.heap.size w w1):
    qL w0 (w1.setCell ⟨b,J*6+5,none⟩ v') { L with rows:=L.rows.set J ⟨r.b,v',o'⟩ } (J+1):=by
 have hlt:J<L.rows.length:=(P7.1 hr).1;have hat:∀p,p≠.k J->Lay.at { L with rows:=L.rows.set J ⟨r.b,v',o'⟩ } p=L.at p:=λp hp=>by
  cases p with
  |k m=>
   simp only[Lay.at,xY];by_cases hm:J=m
   .exact absurd (by rw[hm]) hp
   .rw[H7 hm]
  |_=>rfl
 have hat':Lay.at { L with rows:=L.rows.set J ⟨r.b,v',o'⟩ } (.k J)=o':=by simp[Lay.at,hlt]
 have hv1:v'.oneCell'=true:=by obtain⟨a,c,rfl,_⟩:=hO.sl;rfl
 have ho1:∀p c,L.at p=some c->w1.heap[c]?=w.heap[c]?:=λp c hp=>hf.block c (h.dI hp);have ho:∀p c,L.at p=some c->p≠.b->(w1.setCell ⟨b,J*6+5,none⟩ v').heap[c]?=w.heap[c]?:=λp c hp hpb=>
  (lT w1 b _ c v' (λe=>hpb (h.nd p .b c hp (by rw[e];exact hb)))).trans (ho1 p c hp)
 have hbl:b<w.heap.size:=h.dI (p:=.b) hb;have hob:∀c,o'=some c->c≠b:=λc hc e=>by have:=ho' c hc;omega
 have hB:P8 w1 52 6 L.bv L.rows.length (rcs L.rows) (some b):=hb▸h.hb.keep λk hk=>ho1 .b k hk;have hnew:∀p c,Lay.at { L with rows:=L.rows.set J ⟨r.b,v',o'⟩ } p=some c->(p≠.k J/\L.at p=some c)\/(p=.k J/\o'=some c):=λp c hp=>by
  by_cases hpk:p=.k J
  .subst hpk;exact .inr ⟨rfl,hat'.symm.trans hp⟩
  .exact .inl ⟨hpk,(hat p hpk).symm.trans hp⟩
 have key:∀p c,L.at p=some c->o'=some c->False:=λp c hp hc=>by have:=ho' c hc;have:=h.dI hp;omega
 refine⟨Below.xE (h.base.trans (hf.mono h.base.size)) (h.lo .b b hb),(ho .x _ rfl (by simp)).trans h.hx,h.hr.keep λk hk=>ho .r k hk (by simp),?_,λm q hq hm=>?_,λm q hq hm=>?_,λp q c hp hq=>?_,λp c hp=>?_⟩
 .have:=hB.WI (j:=J*6+5) (u:=v') hv1 (by rw[VZ];omega);rw[<-aY8 (r':=⟨r.b,v',o'⟩) hr (by omega) rfl]at this;show P8 _ 52 6 L.bv (L.rows.set J ⟨r.b,v',o'⟩).length _ L.bo;rw[List.length_set,hb];exact this
 .replace hq:(L.rows.set J ⟨r.b,v',o'⟩)[m]?=some q:=hq;rw[xY]at hq;by_cases hjm:J=m
  .subst hjm;rw[I9 rfl,I9 hlt]at hq;injection hq with hq;subst hq
   exact hO.keep λk hk=>lT w1 b _ k v' (hob k hk)
  .rw[H7 hjm]at hq;exact(h.hk m q hq (by omega)).keep λk hk=>ho (.k m) k (by simp[Lay.at,hq,hk]) (by simp)
 .replace hq:(L.rows.set J ⟨r.b,v',o'⟩)[m]?=some q:=hq;rw[xY,H7 (by omega)]at hq;exact h.hn m q hq (by omega)
 .rcases hnew p c hp with⟨h1,h2⟩|⟨h1,h2⟩<;>rcases hnew q c hq with⟨h3,h4⟩|⟨h3,h4⟩
  .exact h.nd p q c h2 h4
  .exact(key p c h2 h4).elim
  .exact(key q c h4 h2).elim
  .rw[h1,h3]
 .rcases hnew p c hp with⟨h1,h2⟩|⟨h1,h2⟩
  .exact h.lo p c h2
  .exact Y2 h.base.size (ho' c h2)
def qL.done{w0 w:World}{L:Lay}{J:Nat}(h:qL w0 w L J)(hJ:L.rows.length<=J):Ed w0 (w.alloc (.cells #[L.rv,L.bv] 98)) { L with x:=w.heap.size }:=by
 have hb:=al w (.cells #[L.rv,L.bv] 98);have hlt:∀p c,Lay.at { L with x:=w.heap.size } p=some c->(p≠.x/\L.at p=some c)\/(p=.x/\c=w.heap.size):=λp c hp=>by
  cases p with
  |x=>cases hp;exact .inr ⟨rfl,rfl⟩
  |r=>exact .inl ⟨by simp,hp⟩
  |b=>exact .inl ⟨by simp,hp⟩
  |k m=>exact .inl ⟨by simp,hp⟩
 refine⟨h.base.trans (hb.mono h.base.size),bJ w _,h.hr.keep λk hk=>hb.block k (h.dI (p:=.r) hk),h.hb.keep λk hk=>hb.block k (h.dI (p:=.b) hk),λi r hr=>?_,λp q c hp hq=>?_,λp c hp=>?_⟩
 .replace hr:L.rows[i]?=some r:=hr;exact(h.hk i r hr (aH (P7.1 hr).1 hJ)).keep λk hk=>hb.block k (h.dI (p:=.k i) (by simp[Lay.at,hr,hk]))
 .rcases hlt p c hp with⟨h1,h2⟩|⟨h1,h2⟩<;>rcases hlt q c hq with⟨h3,h4⟩|⟨h3,h4⟩
  .exact h.nd p q c h2 h4
  .have:=h.dI h2;omega
  .have:=h.dI h4;omega
  .rw[h1,h3]
 .rcases hlt p c hp with⟨h1,h2⟩|⟨h1,h2⟩
  .exact h.lo p c h2
  .have:=h.base.size;omega
def bS4{Z:Zone}{w:World}{sz:Nat}{ds:dS}{u:Value}(h:Rep Z w (.sl sz ds) u):∃a n c,u=.slice a n c:=by cases h<;>exact⟨_,_,_,rfl⟩
def bi8(Z:Zone)(w0:World)(t:Tree)(X:Nat)(bv:Value)(j:Nat)(wr:World):Prop:=∃L,qL w0 wr L j/\L.x=X/\L.bv=bv/\L.tree=t/\∀(i:Nat)(r:Row),L.rows[i]?=some r->j<=i->Rep Z w0 (.sl 1 (r.b.Kids.map F8)) r.k
def mkJ{w0 W:World}{X:Nat}{rv bv:Value}{ro bo:E8}{roots:F6}{rows:List Row}(h0:Below w0.heap.size w0 W)(hx:W.heap[X]?=some (.cells #[rv,bv] 36 (0,0)))(hr:P8 W 3 1 rv roots.length (aN roots) ro)(hb:P8 W 52 6 bv rows.length (rcs rows) bo)
    (hn:∀(i:Nat)(r:Row),rows[i]?=some r->r.o=none) (a1:ro≠some X) (a2:bo≠some X) (a3:∀c,ro=some c->bo≠some c) (l1:w0.heap.size<=X) (l2:∀c,ro=some c->w0.heap.size<=c) (l3:∀c,bo=some c->w0.heap.size<=c):qL w0 W ⟨X,rv,ro,roots,bv,bo,rows⟩ 0:=by
 have hk0:∀i,Lay.at ⟨X,rv,ro,roots,bv,bo,rows⟩ (.k i)=none:=λi=>by
  simp only[Lay.at];cases h:rows[i]? with
  |none=>rfl
  |some r=>exact hn i r h
 refine⟨h0,hx,hr,hb,λi r _ hi=>absurd hi (Nat.not_lt_zero _),λi r h _=>hn i r h,λp q b hp hq=>?_,λp b hp=>?_⟩
 .cases p with
  |k i=>rw[hk0]at hp;cases hp
  |x=>cases q with
   |k i=>rw[hk0]at hq;cases hq
   |x=>rfl
   |r=>cases hp;exact absurd hq a1
   |b=>cases hp;exact absurd hq a2
  |r=>cases q with
   |k i=>rw[hk0]at hq;cases hq
   |x=>cases hq;exact absurd hp a1
   |r=>rfl
   |b=>exact absurd hq (a3 b hp)
  |b=>cases q with
   |k i=>rw[hk0]at hq;cases hq
   |x=>cases hq;exact absurd hp a2
   |r=>exact absurd hp (a3 b hq)
   |b=>rfl
 .cases p with
  |k i=>rw[hk0]at hp;cases hp
  |x=>cases hp;exact l1
  |r=>exact l2 b hp
  |b=>exact l3 b hp
theorem rP{w:World}{X:Nat}{a c rv bv:Value}(h:w.heap[X]?=some (.cells #[a,c] 36 (0,0))):((w.setCell ⟨X,0,none⟩ rv).setCell ⟨X,1,none⟩ bv).heap[X]?=some (.cells #[rv,bv] 36 (0,0)):=by
 rw[PN _ X 1 bv (PN w X 0 rv h)];rfl
def ah3{w:World}{X k:Nat}{rv bv:Value}(h:k≠X):((w.setCell ⟨X,0,none⟩ rv).setCell ⟨X,1,none⟩ bv).heap[k]?=w.heap[k]?:=(lT _ X 1 k bv h).trans (lT w X 0 k rv h)
def qL.cell{w0 w:World}{L:Lay}{J:Nat}(h:qL w0 w L J){i:Nat}{r:Row}(hr:L.rows[i]?=some r){b:Nat}(hb:L.bo=some b){j:Nat}{u:Value}(hj:j<6)(hu:r.cs[j]?=some u):w.cell? ⟨b,i*6+j,none⟩=some u:=by
 have hB:=h.hb;rw[hb]at hB;exact hB.cell ((aw1 hr hj).trans hu)
def cA6{Z:Zone}{w0:World}{t:Tree}{JF FP:Value}(hZ:∀b o,Z b o->b<w0.heap.size)(hr0:Rep Z w0 (.sl 1 (t.Q7.map F8)) JF)(hb0:Rep Z w0 (.sl 6 (t.Branches.map I4)) FP)(h1:t.Q7.length<=4000)(h2:t.Branches.length<=4000)(h3:∀b∈t.Branches,b.Kids.length<=4000):
    Calls prog 39 #[.agg #[JF,FP]] w0 λe w'=>∃L,e=.returned (ptr L.x 0)/\Ed w0 w' L/\L.tree=t:=by
 have bw4:∀W,Below w0.heap.size w0 W->_:=λW hW=>bp3 (hr0.keep (CP hZ hW)) h1;have aL7:∀W,Below w0.heap.size w0 W->_:=λW hW=>cx0 (hb0.keep (CP hZ hW)) h2;have ht:=bJ w0 (.cells #[JF,FP] 36);have a0:=al w0 (.cells #[JF,FP] 36)
 go_enter func39,ntmps39
 go_wp2_with fail
 rename_i K hK;have rest:∀(X:Nat)(W:World)(ra ba:qP)(rc bc n:Nat),n<=4000->bi8 Z w0 t X (.slice ba n bc) 0 W->n=t.Branches.length->W.cell? ⟨X,0,none⟩=some (.slice ra t.Q7.length rc)->K ⟨#[.agg #[JF,FP],ptr w0.heap.size 0,.pointer none,ptr X 0,undef,undef,ptr w0.heap.size 0,JF,.slice ra t.Q7.length rc,ptr w0.heap.size 1,FP,.slice ba n bc,.agg #[.slice ra t.Q7.length rc,.slice ba n bc],undef,undef,undef,undef,undef,undef,undef,undef,undef,undef,undef,undef,undef,undef,undef,undef,undef,undef,undef,undef],[]⟩ W:=λX W ra ba rc bc n hn hrel hnt jD=>by
  have x1:W.cell? ⟨X,1,none⟩=some (.slice ba n bc):=by
   obtain⟨L,hE,hLx,hLb,_⟩:=hrel;have:=(Q5 (o:=1) hE.hx rfl).1;rw[hLx,hLb]at this;exact this
  refine hK _ _ ?_;have HN:=Lib.hid hnt;clear hnt jD
  go_wp2_with fail
  go_loopw [16] (λi wr=>∃j:Nat,i=.int .i64 j/\j<=n/\bi8 Z w0 t X (.slice ba n bc) j wr) (λi _=>n-(intOf i).toNat)
  case atStart=>exact⟨0,rfl,aF _,hrel⟩
  case round=>
   obtain⟨j,rfl,hjn,hrj⟩:=hrel;clear hrel;by_cases hlt:j<n
   .obtain⟨L,hE,hLx,hLb,GY,hcl⟩:=hrj;have hlen:L.rows.length=n:=by rw[HN.out,<-GY];simp[Lay.tree]
    have hjl:j<L.rows.length:=by omega
    have hr:=J9 hjl;generalize L.rows[j]=r at hr;have hrep:=hcl j r hr (N8 _);obtain⟨ka,kn,kc,hkk⟩:=bS4 hrep;obtain⟨b,c,U3,hbv,_⟩:=hE.hb.form (by omega);rw[hLb,hlen]at hbv;injection hbv with e1 e2 e3
    subst e1;have c0:wr.cell? ⟨b,j*6,none⟩=some (.int .i64 r.b.Unit.ID):=hE.cell hr U3 (j:=0) (by omega) rfl;have c1:=hE.cell hr U3 (j:=1) (by omega) rfl;have c2:=hE.cell hr U3 (j:=2) (by omega) rfl;have c3:=hE.cell hr U3 (j:=3) (by omega) rfl;have c4:=hE.cell hr U3 (j:=4) (by omega) rfl;have c5:=hE.cell hr U3 (j:=5) (u:=r.k) (by omega) rfl;rw[hkk]at c5;have x1':wr.cell? ⟨X,1,none⟩=some (.slice (some ⟨b,0,none⟩) n bc):=by
     have:=(Q5 (o:=1) hE.hx rfl).1;rw[hLx,hLb]at this;exact this
    have hmem:r.b∈t.Branches:=by rw[<-GY];exact List.mem_map_of_mem (iZ hr)
    have hC:∀W,Below wr.heap.size wr W->_:=λW hW=>bp3 (hrep.keep (CP hZ (hE.base.trans (hW.mono hE.base.size)))) (h3 r.b hmem);rw[hkk]at hC;have BQ:X≠b:=λe=>by have:=hE.nd .x .b b (by rw[<-e,<-hLx];rfl) U3;cases this
    have hbX:b≠X:=BQ.symm;have hbl:b<wr.heap.size:=hE.dI (p:=.b) U3;have vI:X<wr.heap.size:=hLx▸hE.dI (p:=.x) rfl;have hj0:(0:Int)<=(j:Int):=by omega
    have dS4:(j:Int)<(n:Int):=by omega
    have hfr:∀W,Below wr.heap.size wr W->W.cell? ⟨b,j*6+5,none⟩=some (.slice ka kn kc)/\W.frozen? ⟨b,j*6+5,none⟩=false:=λW hW=>by
     have hB:=(hE.below hW).hb;rw[U3]at hB;exact⟨by have:=(hE.below hW).cell hr U3 (j:=5) (u:=r.k) (by omega) rfl;rwa [hkk]at this,hB.TK _⟩
    have HK:=Lib.hid hkk;have HL:=Lib.hid GY;have HLb:=Lib.hid hLb;have HLx:=Lib.hid hLx;have Hlen:=Lib.hid hlen;clear hkk GY hLb hLx hlen e2 e3 hrep
    go_wp2_with fail
    have hu:=bJ wr (.cells #[.int .i64 r.b.Unit.ID,.int .i64 r.b.Unit.Parent,.int .i64 r.b.Unit.Level,.string ⟨⟨r.b.Unit.Title⟩⟩,.string ⟨⟨r.b.Unit.Mark⟩⟩,.slice ka kn kc] 52);have ha:=al wr (.cells #[.int .i64 r.b.Unit.ID,.int .i64 r.b.Unit.Parent,.int .i64 r.b.Unit.Level,.string ⟨⟨r.b.Unit.Title⟩⟩,.string ⟨⟨r.b.Unit.Mark⟩⟩,.slice ka kn kc] 52);generalize wr.alloc (.cells #[.int .i64 r.b.Unit.ID,.int .i64 r.b.Unit.Parent,.int .i64 r.b.Unit.Level,.string ⟨⟨r.b.Unit.Title⟩⟩,.string ⟨⟨r.b.Unit.Mark⟩⟩,.slice ka kn kc] 52)=W1 at hu ha⊢;have hub:wr.heap.size≠b:=by omega
    have hul:wr.heap.size<W1.heap.size:=(X6.1 hu).1;generalize hus:wr.heap.size=u at hu hub hul⊢;have hbu:b≠u:=hub.symm;have k5:=(Q5 (o:=5) hu rfl).1;have k1:=(ha.cell (p:=⟨X,1,none⟩) vI).trans x1';have HU:=Lib.hid hus;clear c0 c1 c2 c3 c4 c5 x1' hus
    go_region_held3 (λw'=>w'.cell? ⟨X,1,none⟩=some (.slice (some ⟨b,0,none⟩) n bc)/\w'.cell? ⟨u,5,none⟩=some (.slice ka kn kc)) (go_keep)
     (first|(go_at_call 87;refine(hC _ (Below.and ha (dr _))).mono ?_;rintro e w3 ⟨v',o',rfl,hO,ho',hw3⟩;obtain⟨va,vc,rfl,_⟩:=hO.sl;have q3:Below W1.heap.size W1 w3:=Below.and (dr _) hw3;have k53:=(q3.cell (p:=⟨u,5,none⟩) hul).trans k5;have k13:=(q3.cell (p:=⟨X,1,none⟩) (aH vI ha.size)).trans k1;have b5:=(hfr w3 (Below.and ha q3)).1;have f5:=(hfr w3 (Below.and ha q3)).2))
    all_goals
     go_wp2
     go_roundw
     case rel=>
      refine⟨j+1,by go_num,hlt,{ L with rows:=L.rows.set j ⟨r.b,_,o'⟩ },(hE.below ha).step hr U3 hO ho' q3,HLx.out,HLb.out,?_,λi r' hr' hi=>?_⟩
      .rw[<-HL.out];simp only[Lay.tree];congr 1;apply nZ;intro i;rw[P9,P9,xY];by_cases hij:j=i
       .subst hij;rw[I9 rfl,I9 hjl,hr];rfl
       .rw[H7 hij]
      .replace hr':(L.rows.set j ⟨r.b,_,o'⟩)[i]?=some r':=hr';rw[xY,H7 (by omega)]at hr';exact hcl i r' hr' (by omega)
     case measure=>simp[intOf];omega
   .obtain⟨L,hE,hLx,hLb,GY,hcl⟩:=hrj;have hlen:L.rows.length=n:=by rw[HN.out,<-GY];simp[Lay.tree]
    obtain⟨va,vc,jD,_⟩:=hE.hr.sl;have y0:=(Q5 (o:=0) hE.hx rfl).1;have y1:=(Q5 (o:=1) hE.hx rfl).1;rw[hLx,jD]at y0;rw[hLx,hLb]at y1;have hD:=hE.done (by omega);rw[jD,hLb]at hD;have HD:=Lib.hid hD;have HL:=Lib.hid GY;have hlt':¬((j:Int)<(n:Int)):=by omega
    clear hD GY jD hLb hLx hlen x1 hcl
    go_wp2
    go_ret
    exact⟨_,rfl,HD.out,HL.out⟩
 generalize w0.alloc (.cells #[JF,FP] 36)=W0 at ht a0⊢;have T0:=(Q5 (o:=0) ht rfl).1;have T1:=(Q5 (o:=1) ht rfl).1;have hT:w0.heap.size<W0.heap.size:=(X6.1 ht).1;have n0:=World.new_ne W0 ⟨w0.heap.size,0,none⟩ T0
 go_region_held3 (λw'=>w'.cell? ⟨w0.heap.size,0,none⟩=some JF/\w'.cell? ⟨w0.heap.size,1,none⟩=some FP) (go_keep)
  (first|(go_at_call 87;refine(bw4 _ (Below.and a0 (dr _))).mono ?_;rintro e w2 ⟨rv,ro,rfl,hOr,hro,hw2⟩;obtain⟨ra,rc,rfl,_⟩:=hOr.sl;have q2:Below W0.heap.size W0 w2:=Below.and (dr _) hw2;have b2:=Below.and a0 q2;have RQ:=(q2.cell (p:=⟨w0.heap.size,0,none⟩) hT).trans T0;have T12:=(q2.cell (p:=⟨w0.heap.size,1,none⟩) hT).trans T1;have n2:=World.new_ne w2 ⟨w0.heap.size,0,none⟩ RQ)|(go_at_call 87;refine(bw4 _ (Below.and a0 (Below.and (dr _) (al _ _)))).mono ?_;rintro e w2 ⟨rv,ro,rfl,hOr,hro,hw2⟩;obtain⟨ra,rc,rfl,_⟩:=hOr.sl;have q2:Below W0.heap.size W0 w2:=Below.and (Below.and (dr _) (al _ _)) hw2;have b2:=Below.and a0 q2;have RQ:=(q2.cell (p:=⟨w0.heap.size,0,none⟩) hT).trans T0;have T12:=(q2.cell (p:=⟨w0.heap.size,1,none⟩) hT).trans T1;have n2:=World.new_ne w2 ⟨w0.heap.size,0,none⟩ RQ;have x2:w2.heap[W0.heap.size]?=some (.cells #[.slice none 0 0,.slice none 0 0] 36 (0,0)):=(hw2.block W0.heap.size (by simp)).trans (bJ W0.drew _))|(go_at_call 88;have x2':=x2;refine(aL7 _ b2).mono ?_;rintro e w3 ⟨bv,bo,rows,rfl,hrows,hOb,U3,hrr,hw3⟩;obtain⟨ba,bc,rfl,_⟩:=hOb.sl;have q3:Below w2.heap.size w2 w3:=hw3;have YA:=(q3.cell (p:=⟨w0.heap.size,0,none⟩) (aH hT q2.size)).trans RQ;have T13:=(q3.cell (p:=⟨w0.heap.size,1,none⟩) (aH hT q2.size)).trans T12;have n3:=World.new_ne w3 ⟨w0.heap.size,0,none⟩ YA;have x3:=(q3.block W0.heap.size (X6.1 x2).1).trans x2;have y0:=(Q5 (o:=0) x3 rfl).1;have y1:=(Q5 (o:=1) x3 rfl).1;have z0:=(Q5 (o:=0) x3 rfl).2;have z1:=(Q5 (o:=1) x3 rfl).2)|(go_at_call 88;refine(aL7 _ (Below.and b2 (al _ _))).mono ?_;rintro e w3 ⟨bv,bo,rows,rfl,hrows,hOb,U3,hrr,hw3⟩;obtain⟨ba,bc,rfl,_⟩:=hOb.sl;have q3:Below w2.heap.size w2 w3:=Below.and (al _ _) hw3;have YA:=(q3.cell (p:=⟨w0.heap.size,0,none⟩) (aH hT q2.size)).trans RQ;have T13:=(q3.cell (p:=⟨w0.heap.size,1,none⟩) (aH hT q2.size)).trans T12;have n3:=World.new_ne w3 ⟨w0.heap.size,0,none⟩ YA;have x3:w3.heap[w2.heap.size]?=some (.cells #[.slice none 0 0,.slice none 0 0] 36 (0,0)):=(hw3.block w2.heap.size (by simp)).trans (bJ w2 _);have y0:=(Q5 (o:=0) x3 rfl).1;have y1:=(Q5 (o:=1) x3 rfl).1;have z0:=(Q5 (o:=0) x3 rfl).2;have z1:=(Q5 (o:=1) x3 rfl).2)|(go_at_call 88;refine(aL7 _ b2).mono ?_;rintro e w3 ⟨bv,bo,rows,rfl,hrows,hOb,U3,hrr,hw3⟩;obtain⟨ba,bc,rfl,_⟩:=hOb.sl;have q3:Below w2.heap.size w2 w3:=hw3;have YA:=(q3.cell (p:=⟨w0.heap.size,0,none⟩) (aH hT q2.size)).trans RQ;have T13:=(q3.cell (p:=⟨w0.heap.size,1,none⟩) (aH hT q2.size)).trans T12;have n3:=World.new_ne w3 ⟨w0.heap.size,0,none⟩ YA))
 .have z0:=b2.size;have z1:=q2.size;have z2:=q3.size;have zr:∀c,ro=some c->w0.heap.size<=c:=λc hc=>by have:=hro c hc;first|omega|(simp at this;omega)
  have zb:∀c,bo=some c->w2.heap.size<=c:=λc hc=>by have:=U3 c hc;first|omega|(simp at this;omega)
  have BU:w0.heap.size<=w3.heap.size:=by omega
  have BR:∀k,ro=some k->k≠w3.heap.size:=λk hk e=>by have h1:=hOr.lt hk;have h2:=hro k hk;first|omega|(simp at h2;omega)
  have BQ:∀k,bo=some k->k≠w3.heap.size:=λk hk e=>by have h1:=hOb.lt hk;have h2:=U3 k hk;first|omega|(simp at h2;omega)
  refine rest w3.heap.size (w3.alloc (.cells #[.slice ra t.Q7.length rc,.slice ba rows.length bc] 36)) ra ba rc bc rows.length (by rw[<-hrows,X0]at h2;exact h2) ⟨⟨w3.heap.size,.slice ra t.Q7.length rc,ro,t.Q7,.slice ba rows.length bc,bo,rows⟩,mkJ (Below.and b2 (Below.and q3 (al w3 _))) (bJ w3 (.cells #[.slice ra t.Q7.length rc,.slice ba rows.length bc] 36)) (hOr.keep λk hk=>(Below.and q3 (al w3 _)).block k (hOr.lt hk)) (hOb.keep λk hk=>(al w3 _).block k (hOb.lt hk)) (λi r h=>(hrr i r h).1) (λh=>BR _ h rfl) (λh=>BQ _ h rfl) (λc h h'=>by have:=hOr.lt h;have:=zb c h';omega) BU zr (λc h=>by have:=zb c h;omega),rfl,rfl,by simp only[Lay.tree];rw[hrows],λi r h _=>(hrr i r h).2.keep (aR1 hZ b2)⟩ (by rw[<-hrows,X0]) (Q5 (o:=0) (bJ w3 (.cells #[.slice ra t.Q7.length rc,.slice ba rows.length bc] 36)) rfl).1
 .have z0:=b2.size;have z1:=q2.size;have z2:=q3.size;have zr:∀c,ro=some c->w0.heap.size<=c:=λc hc=>by have:=hro c hc;first|omega|(simp at this;omega)
  have zb:∀c,bo=some c->w2.heap.size<=c:=λc hc=>by have:=U3 c hc;first|omega|(simp at this;omega)
  have BU:w0.heap.size<=w2.heap.size:=by omega
  have BR:∀k,ro=some k->k≠w2.heap.size:=λk hk e=>by have h1:=hOr.lt hk;have h2:=hro k hk;first|omega|(simp at h2;omega)
  have BQ:∀k,bo=some k->k≠w2.heap.size:=λk hk e=>by have h1:=hOb.lt hk;have h2:=U3 k hk;first|omega|(simp at h2;omega)
  refine rest w2.heap.size ((w3.setCell ⟨w2.heap.size,0,none⟩ (.slice ra t.Q7.length rc)).setCell ⟨w2.heap.size,1,none⟩ (.slice ba rows.length bc)) ra ba rc bc rows.length (by rw[<-hrows,X0]at h2;exact h2) ⟨⟨w2.heap.size,.slice ra t.Q7.length rc,ro,t.Q7,.slice ba rows.length bc,bo,rows⟩,mkJ (Below.xE (Below.xE (Below.and b2 q3) BU) BU) (rP x3) (hOr.keep λk hk=>(ah3 (BR k hk)).trans (q3.block k (hOr.lt hk))) (hOb.keep λk hk=>ah3 (BQ k hk)) (λi r h=>(hrr i r h).1) (λh=>BR _ h rfl) (λh=>BQ _ h rfl) (λc h h'=>by have:=hOr.lt h;have:=zb c h';omega) BU zr (λc h=>by have:=zb c h;omega),rfl,rfl,by simp only[Lay.tree];rw[hrows],λi r h _=>(hrr i r h).2.keep (aR1 hZ (Below.and b2 (al w2 _)))⟩ (by rw[<-hrows,X0]) (Q5 (o:=0) (rP x3) rfl).1
 .have z0:=b2.size;have z1:=q2.size;have z2:=q3.size;have zr:∀c,ro=some c->w0.heap.size<=c:=λc hc=>by have:=hro c hc;first|omega|(simp at this;omega)
  have zb:∀c,bo=some c->w2.heap.size<=c:=λc hc=>by have:=U3 c hc;first|omega|(simp at this;omega)
  have z3:=(X6.1 x2).1;have BU:w0.heap.size<=W0.heap.size:=by omega
  have BR:∀k,ro=some k->k≠W0.heap.size:=λk hk e=>by have h1:=hOr.lt hk;have h2:=hro k hk;first|omega|(simp at h2;omega)
  have BQ:∀k,bo=some k->k≠W0.heap.size:=λk hk e=>by have h1:=hOb.lt hk;have h2:=U3 k hk;first|omega|(simp at h2;omega)
  refine rest W0.heap.size ((w3.setCell ⟨W0.heap.size,0,none⟩ (.slice ra t.Q7.length rc)).setCell ⟨W0.heap.size,1,none⟩ (.slice ba rows.length bc)) ra ba rc bc rows.length (by rw[<-hrows,X0]at h2;exact h2) ⟨⟨W0.heap.size,.slice ra t.Q7.length rc,ro,t.Q7,.slice ba rows.length bc,bo,rows⟩,mkJ (Below.xE (Below.xE (Below.and b2 q3) BU) BU) (rP x3) (hOr.keep λk hk=>(ah3 (BR k hk)).trans (q3.block k (hOr.lt hk))) (hOb.keep λk hk=>ah3 (BQ k hk)) (λi r h=>(hrr i r h).1) (λh=>BR _ h rfl) (λh=>BQ _ h rfl) (λc h h'=>by have:=hOr.lt h;have:=zb c h';omega) BU zr (λc h=>by have:=zb c h;omega),rfl,rfl,by simp only[Lay.tree];rw[hrows],λi r h _=>(hrr i r h).2.keep (aR1 hZ b2)⟩ (by rw[<-hrows,X0]) (Q5 (o:=0) (rP x3) rfl).1
end
section
open Go Go.F7 Go.RowKit Go.Ev Proofs.Tryz
set_option maxRecDepth 100000
set_option maxHeartbeats 4000000
def iG(f:Int->Option (List Int)):List Int->Option (List Int)
 |[]=>some []
 |k::r=>(f k).bind λl=>(iG f r).map (l++·)
def uG(t:Tree):Nat->Int->Option (List Int)
 |0,_=>none
 |n+1,id=>(qI t id).bind λks=>(iG (uG t n) ks).map (id::·)
def Wr(X l:Nat)(ob:E8)(k:Nat):Prop:=k=X\/k=l\/ob=some k
def bu7{X l:Nat}{ob ob':E8}{w w1 w2:World}(h:Fr (Wr X l ob) w w1)(h':Fr (Wr X l ob') w1 w2)(ho:∀c,ob'=some c->ob=some c\/w.heap.size<=c):Fr (Wr X l ob) w w2:=
 ⟨h'.os.trans h.os,h'.tape.trans h.tape,h'.output.trans h.output,Y2 h.size h'.size,λk hk hn=>(h'.block k (aH hk h.size) (λhw=>by
   rcases hw with rfl|rfl|hw
   .exact hn (.inl rfl)
   .exact hn (.inr (.inl rfl))
   .rcases ho k hw with h1|h1
    .exact hn (.inr (.inr h1))
    .omega)).trans (h.block k hk hn)⟩
section
variable{J:F6->E8->World->Prop}{X l M:Nat}
def aE0(X l:Nat)(ob:E8)(W:World)(v:Value)(ks:F6):Prop:=∃a cp,v=.slice a ks.length cp/\ks.length<=1000000/\∀j x,ks[j]?=some x->∃b o,a=some ⟨b,o,none⟩/\W.cell? ⟨b,o+j,none⟩=some (.int .i64 x)/\¬Wr X l ob b
def qR(J:F6->E8->World->Prop)(X l:Nat)(pre new:F6)(ob:E8)(W:World)(u:Value)(e:Ending)(W':World):Prop:=
 e=.returned u/\∃ob',J (pre++new) ob' W'/\Fr (Wr X l ob) W W'/\∀c,ob'=some c->ob=some c\/W.heap.size<=c
structure yF(X l:Nat)(t:Tree)(rv bv:Value)(By Bt Bv:Nat)(Z:Zone)(ob:Option Nat)(W:World):Prop where
 y:W.cell? ⟨By,0,none⟩=some (.func (.yield l) #[] #[])
 t0:W.cell? ⟨Bt,0,none⟩=some rv
 t1:W.cell? ⟨Bt,1,none⟩=some bv
 v:W.cell? ⟨Bv,0,none⟩=some (.func (.func 105) #[] #[ptr By 0,ptr Bt 0,ptr Bv 0])
 ny:¬Wr X l ob By
 nt:¬Wr X l ob Bt
 nv:¬Wr X l ob Bv
 rep:Rep Z W (.agg (gW t)) (.agg #[rv,bv])
 z:∀b o,Z b o->b<W.heap.size/\¬Wr X l ob b
def yF.step{t:Tree}{rv bv:Value}{By Bt Bv:Nat}{Z:Zone}{ob ob':E8}{W W':World}(h:yF X l t rv bv By Bt Bv Z ob W)(hf:Fr (Wr X l ob) W W')(ho:∀c,ob'=some c->ob=some c\/W.heap.size<=c):yF X l t rv bv By Bt Bv Z ob' W':=by
 have hn:∀k,k<W.heap.size->¬Wr X l ob k->¬Wr X l ob' k:=λk hk hn hw=>by
  rcases hw with rfl|rfl|hw
  .exact hn (.inl rfl)
  .exact hn (.inr (.inl rfl))
  .rcases ho k hw with h1|h1
   .exact hn (.inr (.inr h1))
   .omega
 have hc:∀b o v,W.cell? ⟨b,o,none⟩=some v->¬Wr X l ob b->W'.cell? ⟨b,o,none⟩=some v:=λb o v hv hb=>(FK (a:=⟨b,o,none⟩) (hf.block b (cell_lt hv) hb)).trans hv
 exact⟨hc _ _ _ h.y h.ny,hc _ _ _ h.t0 h.nt,hc _ _ _ h.t1 h.nt,hc _ _ _ h.v h.nv,hn _ (cell_lt (a:=⟨By,0,none⟩) h.y) h.ny,hn _ (cell_lt (a:=⟨Bt,0,none⟩) h.t0) h.nt,hn _ (cell_lt (a:=⟨Bv,0,none⟩) h.v) h.nv,
  h.rep.keep λb o hz=>⟨hz,jM (hf.block b (h.z b o hz).1 (h.z b o hz).2)⟩,λb o hz=>⟨aH (h.z b o hz).1 hf.size,hn b (h.z b o hz).1 (h.z b o hz).2⟩⟩
def f108{W:World}{Bv Ba By Bt:Nat}{kid ab:Int}{pre new:F6}{ob:E8}(hv:W.cell? ⟨Bv,0,none⟩=some (.func (.func 105) #[] #[ptr By 0,ptr Bt 0,ptr Bv 0]))(ha:W.cell? ⟨Ba,0,none⟩=some (.int .i64 ab))
    (cI4:∀a,Calls prog 105 #[.int .i64 kid,.int .i64 a,ptr By 0,ptr Bt 0,ptr Bv 0] W (qR J X l pre new ob W (.bool true))):
    Calls prog 108 #[.int .i64 kid,ptr Bv 0,ptr Ba 0] W (qR J X l pre new ob W (.bool false)):=by
 go_enter func108,ntmps108
 go_wp2_with (go_at_call 105;refine(cI4 _).mono ?_;rintro e W' ⟨rfl,hp⟩)
 go_ret
 exact⟨rfl,hp⟩
def cl4(J:F6->E8->World->Prop)(X l:Nat)(f:Int->qQ)(ks:F6)(all:F6)(ob:E8)(W:World)(j:Nat)(wr:World):Prop:=
 ∃rest ob' pre',iG f (ks.drop j)=some rest/\pre'++rest=all/\J pre' ob' wr/\Fr (Wr X l ob) W wr/\∀c,ob'=some c->ob=some c\/W.heap.size<=c
def f190{t:Tree}{rv bv:Value}{By Bt Bv Ba:Nat}{Z:Zone}{W:World}{ab:Int}{f:Int->qQ}{ks pre new:F6}{ob:E8}{v:Value}
    (hk:∀kid new,f kid=some new->∀W(pre:F6) ob,pre.length+new.length<=M->J pre ob W->yF X l t rv bv By Bt Bv Z ob W->W.cell? ⟨Ba,0,none⟩=some (.int .i64 ab)->¬Wr X l ob Ba->Calls prog 108 #[.int .i64 kid,ptr Bv 0,ptr Ba 0] W (qR J X l pre new ob W (.bool false)))
    (hM:pre.length+new.length<=M) (hJ:J pre ob W) (hV:yF X l t rv bv By Bt Bv Z ob W) (ha:W.cell? ⟨Ba,0,none⟩=some (.int .i64 ab)) (hna:¬Wr X l ob Ba) (hs:aE0 X l ob W v ks) (hn:iG f ks=some new):
    Calls prog 190 #[v,.func (.func 108) #[] #[ptr Bv 0,ptr Ba 0]] W (qR J X l pre new ob W (.int .i64 (-1))):=by
 obtain⟨a,cp,rfl,hcp,hcell⟩:=hs;have HC:=Lib.hid hcell;clear hcell;have HN:=Lib.hid hn;clear hn
 go_enter func190,ntmps190
 go_wp2
 go_loopw [8] (λi wr=>∃j:Nat,i=.int .i64 j/\j<=ks.length/\cl4 J X l f ks (pre++new) ob W j wr) (λi _=>ks.length-(intOf i).toNat)
 case atStart=>exact⟨0,rfl,aF _,new,ob,pre,HN.out,rfl,hJ,Fr.refl _ _,λ_ h=>.inl h⟩
 case round=>
  obtain⟨j,rfl,hj,hL⟩:=hrel;by_cases hlt:j<ks.length
  .obtain⟨rest,ob',pre',h1,h2,h3,h4,h5⟩:=hL;have hd:ks.drop j=ks[j]::ks.drop (j+1):=zU hlt;obtain⟨b,o,hab,hcl,hnb⟩:=HC.out j ks[j] (J9 hlt);generalize ks[j]=x at hd hcl;rw[hd]at h1;cases hfx:f x with
   |none=>simp[iG,hfx]at h1
   |some n1=>
    cases hr:iG f (ks.drop (j+1))with
    |none=>simp[iG,hfx,hr]at h1
    |some r1=>
     simp only[iG,hfx,hr,F9,FB,aQ]at h1;subst h1;have hc:=(FK (a:=⟨b,o+j,none⟩) (h4.block b (cell_lt (a:=⟨b,o+j,none⟩) hcl) hnb)).trans hcl;have hna':¬Wr X l ob' Ba:=λhw=>by
      rcases hw with rfl|rfl|hw
      .exact hna (.inl rfl)
      .exact hna (.inr (.inl rfl))
      .rcases h5 _ hw with h|h
       .exact hna (.inr (.inr h))
       .have:=cell_lt (a:=⟨Ba,0,none⟩) ha;simp at this;omega
     have hM':pre'.length+n1.length<=M:=by have:=congrArg List.length h2;simp only[cO]at this;omega
     have hcall:=hk x n1 hfx wr pre' ob' hM' h3 (hV.step h4 h5) ((FK (a:=⟨Ba,0,none⟩) (h4.block Ba (cell_lt (a:=⟨Ba,0,none⟩) ha) hna)).trans ha) hna';have HR:=Lib.hid hr;have HD:=Lib.hid h2;have hlt':(j:Int)<(ks.length:Int):=by omega
     have hj0:(0:Int)<=(j:Int):=by omega
     subst hab;clear hcl hfx hd hr h2 ha
     go_wp2_with (go_at_call 108;refine hcall.mono ?_;rintro e w3 ⟨rfl,ob3,hJ3,hF3,ho3⟩)
     go_roundw
     case rel=>
      refine⟨j+1,by go_num,hlt,r1,ob3,pre'++n1,HR.out,by rw[lC];exact HD.out,hJ3,bu7 h4 hF3 h5,λc hc=>?_⟩;rcases ho3 c hc with h|h
      .exact h5 c h
      .exact .inr (Y2 h4.size h)
     case measure=>simp[intOf];omega
  .have hlt':¬((j:Int)<(ks.length:Int)):=by omega
   have HL:=Lib.hid hL;clear hL
   go_wp2
   go_ret
   obtain⟨rest,ob',pre',h1,h2,h3,h4,h5⟩:=HL.out;rw[EU (by omega)]at h1;cases h1;rw[List.append_nil]at h2;exact⟨rfl,ob',h2▸h3,h4,h5⟩
def f106{t:Tree}{rv bv:Value}{By Bt Bv Ba:Nat}{Z:Zone}{W:World}{ab:Int}{f:Int->qQ}{ks pre new:F6}{ob:E8}{v:Value}
    (hk:∀kid new,f kid=some new->∀W(pre:F6) ob,pre.length+new.length<=M->J pre ob W->yF X l t rv bv By Bt Bv Z ob W->W.cell? ⟨Ba,0,none⟩=some (.int .i64 ab)->¬Wr X l ob Ba->Calls prog 108 #[.int .i64 kid,ptr Bv 0,ptr Ba 0] W (qR J X l pre new ob W (.bool false)))
    (hM:pre.length+new.length<=M) (hJ:J pre ob W) (hV:yF X l t rv bv By Bt Bv Z ob W) (ha:W.cell? ⟨Ba,0,none⟩=some (.int .i64 ab)) (hna:¬Wr X l ob Ba) (hs:aE0 X l ob W v ks) (hn:iG f ks=some new):
    Calls prog 106 #[v,.func (.func 108) #[] #[ptr Bv 0,ptr Ba 0]] W (qR J X l pre new ob W (.bool false)):=by
 have cI6:=f190 hk hM hJ hV ha hna hs hn
 go_enter func106,ntmps106
 go_wp2_with (go_at_call 190;refine cI6.mono ?_;rintro e W' ⟨rfl,hp⟩)
 go_ret
 exact⟨rfl,hp⟩
def dn0{Z':Zone}{W:World}{ob:E8}{ks:F6}{x:Value}(h:Rep Z' W (.sl 1 (ks.map F8)) x)(hl:ks.length<=1000000)(hz:∀b o,Z' b o->¬Wr X l ob b):aE0 X l ob W x ks:=by
 generalize hd:ks.map F8=ds at h;cases h with
 |nil _ a cap=>
  obtain rfl:ks=[]:=List.map_eq_nil_iff.1 hd;exact⟨a,cap,rfl,by simp,λj x h=>nomatch h⟩
 |sl _ ds b o cap f hcap hsz hc h=>
  subst hd;refine⟨some ⟨b,o,none⟩,cap,by rw[X0],hl,λj x hx=>⟨b,o,rfl,?_⟩⟩;have h1:(ks.map F8)[j]?=some (F8 x):=by rw[P9,hx];rfl
  obtain⟨z1,z2,_⟩:=hc j 0 _ (I x) h1 rfl;have h3:=h j 0 _ (I x) h1 rfl;rw[yC,pG]at z2;exact⟨z2.trans (congrArg some (vS h3)),hz _ _ z1⟩
def visit{t:Tree}{rv bv:Value}{By Bt Bv:Nat}{Z:Zone}
    (GX:∀pre ob W W',J pre ob W->Below W.heap.size W W'->J pre ob W') (BP:∀pre ob W,J pre ob W->X<W.heap.size/\l<W.heap.size/\∀c,ob=some c->c<W.heap.size) (hJg:∀pre ob W,J pre ob W->Gw W)
    (hR:∀m(pre:F6) ob W x ab,pre.length<M->J pre ob W->YieldAt Fence.wide m prog l #[.int .i64 x,.int .i64 ab] W (qR J X l pre [x] ob W (.bool true)))
    (hks:∀id ks,qI t id=some ks->ks.length<=1000000):∀(N:Nat)(id:Int)(new:F6),uG t N id=some new->∀(ab:Int)(pre:F6)(ob:E8)(W:World),pre.length+new.length<=M->J pre ob W->yF X l t rv bv By Bt Bv Z ob W->
      Calls prog 105 #[.int .i64 id,.int .i64 ab,ptr By 0,ptr Bt 0,ptr Bv 0] W (qR J X l pre new ob W (.bool true))
 |0,_,_,h,_,_,_,_,_,_,_=>nomatch h
 |N+1,id,new,h,ab,pre,ob,W,hM,hJ,hV=>by
  have ih:=visit (rv:=rv) (bv:=bv) (By:=By) (Bt:=Bt) (Bv:=Bv) (Z:=Z) GX BP hJg hR hks N;cases hk:qI t id with
  |none=>simp[uG,hk]at h
  |some ks=>
   cases hp:iG (uG t N) ks with
   |none=>simp[uG,hk,hp]at h
   |some nk=>
    simp only[uG,hk,hp,F9,FB,aQ]at h;subst h;have J1:=GX _ _ _ _ hJ (al W (.cells #[.int .i64 ab] 3));have V1:=hV.step (Fr.of_below (al W (.cells #[.int .i64 ab] 3))) (λc h=>.inl h);have hlt:=BP _ _ _ hJ;have hBa:¬Wr X l ob W.heap.size:=λhw=>by
     rcases hw with h|h|h
     .omega
     .omega
     .have:=hlt.2.2 _ h;omega
    have a1:=(Q5 (o:=0) (bJ W (.cells #[.int .i64 ab] 3)) rfl).1;have hY:=hR (3-1) pre ob _ id ab (by simp at hM;omega) J1;have hfin:∀W2 uD,J (pre++[id]) uD W2->yF X l t rv bv By Bt Bv Z uD W2->W2.cell? ⟨W.heap.size,0,none⟩=some (.int .i64 ab)->¬Wr X l uD W.heap.size->
     Calls prog 107 #[.agg #[rv,bv],.int .i64 id] W2 λe W3=>∃x,e=.returned x/\Fr (Wr X l uD) W2 W3/\Calls prog 106 #[x,.func (.func 108) #[] #[ptr Bv 0,ptr W.heap.size 0]] W3 (qR J X l (pre++[id]) nk uD W3 (.bool false)):=λW2 uD J2 V2 a2 aN4=>by
     have hl2:=BP _ _ _ J2;refine((dz2 hk).2 Z W2 [.agg #[rv,bv],.int .i64 id] (U0.cons V2.rep (U0.cons (.v _) (U0.nil _ _))) (λb o hz=>(V2.z b o hz).1) (λw' hb=>Gs W2 w' (hJg _ _ _ J2) hb)).mono ?_;rintro e W3 ⟨x,Z',rfl,hx,hz1,hz2,hb⟩;have F3:Fr (Wr X l uD) W2 W3:=Fr.of_below hb;have V3:=V2.step F3 (λc h=>.inl h);refine⟨x,rfl,F3,f106 (M:=M) (λkid n1 hf W pre ob hM hJ hV hBa hna=>f108 hV.v hBa (λa=>ih kid n1 hf a pre ob W hM hJ hV)) (by simp at hM⊢;omega) (GX _ _ _ _ J2 hb) V3 ((hb.cell (p:=⟨W.heap.size,0,none⟩) (cell_lt (a:=⟨W.heap.size,0,none⟩) a2)).trans a2) aN4 (dn0 (hx.pure rfl) (hks id ks hk) λb o hz=>?_) hp⟩;rcases(hz2 b o hz).1 with h|h
     .exact(V2.z b o h).2
     .intro hw;rcases hw with h'|h'|h'
      .omega
      .omega
      .have:=hl2.2.2 _ h';omega
    obtain⟨fn,tmps,assign,body,hy,hRr⟩:=hY;have y1:=V1.y;have HF:=Lib.hid hfin;clear hfin;refine(callsIn_wide (n:=3)).1 ?_;refine callsIn_of_wp func105 rfl trivial ?_ rfl;simp only[ntmps105,oZ,sD,List.length_nil,Nat.reduceAdd,Nat.reduceSub,Array.replicate_succ,Array.replicate_zero,List.push_toArray,List.append_toArray,uS,List.cons_append]
    gi_wp2_with fail
    clear hy;refine hRr.mono ?_;rintro e W2 ⟨rfl,uD,J2,F2,ho2⟩;have hs1:W.heap.size<(W.alloc (.cells #[.int .i64 ab] 3)).heap.size:=by simp
    have V2:=V1.step F2 ho2;have a2:=(FK (a:=⟨W.heap.size,0,none⟩) (F2.block _ hs1 hBa)).trans a1;have aN4:¬Wr X l uD W.heap.size:=λhw=>by
     rcases hw with h|h|h
     .omega
     .omega
     .rcases ho2 _ h with h'|h'
      .exact hBa (.inr (.inr h'))
      .omega
    have hcall:=HF.out W2 uD J2 V2 a2 aN4;have t20:=V2.t0;have t21:=V2.t1;have v2:=V2.v;clear y1 a1 hRr
    gi_wp2_with (first|(refine⟨trivial,?_⟩;gi_at_call 107;refine(callsIn_wide.2 hcall).mono ?_;rintro e W3 ⟨x,rfl,F3,cI5⟩)|(refine⟨trivial,?_⟩;gi_at_call 106;refine(callsIn_wide.2 cI5).mono ?_;rintro e W4 ⟨rfl,ob4,J4,F4,ho4⟩))
    go_ret
    have FA:Fr (Wr X l ob) W W2:=(Fr.of_below (al W (.cells #[.int .i64 ab] 3))).trans F2;have hoA:∀c,uD=some c->ob=some c\/W.heap.size<=c:=λc h=>(ho2 c h).imp_right λh=>by omega
    refine⟨rfl,ob4,by simpa using J4,bu7 FA (F3.trans F4) hoA,λc h=>?_⟩;rcases ho4 c h with h|h
    .exact hoA c h
    .exact .inr (Y2 (Y2 FA.size F3.size) h)
end
section
variable{J:F6->E8->World->Prop}{X l M:Nat}
def f104{t:Tree}{rv bv:Value}{Bt Bi:Nat}{Z:Zone}{id:Int}{pre new:F6}{ob:E8}{W:World}
    (GX:∀pre ob W W',J pre ob W->Below W.heap.size W W'->J pre ob W') (BP:∀pre ob W,J pre ob W->X<W.heap.size/\l<W.heap.size/\∀c,ob=some c->c<W.heap.size)
    (hv:∀By Bt Bv Z(pre:F6) ob W,pre.length+new.length<=M->J pre ob W->yF X l t rv bv By Bt Bv Z ob W->Calls prog 105 #[.int .i64 id,.int .i64 0,ptr By 0,ptr Bt 0,ptr Bv 0] W (qR J X l pre new ob W (.bool true)))
    (hM:pre.length+new.length<=M) (hJ:J pre ob W) (hid:id≠0) (t0:W.cell? ⟨Bt,0,none⟩=some rv) (t1:W.cell? ⟨Bt,1,none⟩=some bv) (i0:W.cell? ⟨Bi,0,none⟩=some (.int .i64 id)) (nt:¬Wr X l ob Bt) (hrep:Rep Z W (.agg (gW t)) (.agg #[rv,bv])) (hz:∀b o,Z b o->b<W.heap.size/\¬Wr X l ob b):
    Calls prog 104 #[.func (.yield l) #[] #[],ptr Bt 0,ptr Bi 0] W (qR J X l pre new ob W (.tuple #[])):=by
 have hlt:=BP _ _ _ hJ;have hnw:∀k,W.heap.size<=k->¬Wr X l ob k:=λk hk hw=>by
  rcases hw with h|h|h
  .omega
  .omega
  .have:=hlt.2.2 _ h;omega
 have key:∀W2,Below W.heap.size W W2->W.heap.size+1<W2.heap.size->W2.cell? ⟨W.heap.size,0,none⟩=some (.func (.yield l) #[] #[])->W2.cell? ⟨W.heap.size+1,0,none⟩=some (.func (.func 105) #[] #[ptr W.heap.size 0,ptr Bt 0,ptr (W.heap.size+1) 0])->
  Calls prog 105 #[.int .i64 id,.int .i64 0,ptr W.heap.size 0,ptr Bt 0,ptr (W.heap.size+1) 0] W2 (qR J X l pre new ob W (.bool true)):=λW2 hb hs y v=>by
  refine(hv W.heap.size Bt (W.heap.size+1) Z pre ob W2 hM (GX _ _ _ _ hJ hb) ⟨y,(hb.cell (p:=⟨Bt,0,none⟩) (cell_lt (a:=⟨Bt,0,none⟩) t0)).trans t0,(hb.cell (p:=⟨Bt,1,none⟩) (cell_lt (a:=⟨Bt,0,none⟩) t0)).trans t1,v,hnw _ (N8 _),nt,hnw _ (Nat.le_succ _),hrep.keep λb o h=>⟨h,jM (hb.block b (hz b o h).1)⟩,λb o h=>⟨aH (hz b o h).1 hb.size,(hz b o h).2⟩⟩).mono ?_;rintro e W3 ⟨rfl,ob3,J3,F3,ho3⟩;exact⟨rfl,ob3,J3,(Fr.of_below hb).trans F3,λc h=>(ho3 c h).imp_right (Y2 hb.size)⟩
 have dS2:(id !=0)=true:=by simp[hid]
 have hb2:Below W.heap.size W ((W.alloc (.cells #[.func (.yield l) #[] #[]] 193)).alloc (.cells #[.func (.func 105) #[] #[ptr W.heap.size 0,ptr Bt 0,ptr (W.heap.size+1) 0]] 193)):=Below.and (al W _) (al _ _);have y0:=(hb2.cell (p:=⟨Bi,0,none⟩) (cell_lt (a:=⟨Bi,0,none⟩) i0)).trans i0;have m1:=bJ (W.alloc (.cells #[.func (.yield l) #[] #[]] 193)) (.cells #[.func (.func 105) #[] #[ptr W.heap.size 0,ptr Bt 0,ptr (W.heap.size+1) 0]] 193);have m0:=(al (W.alloc (.cells #[.func (.yield l) #[] #[]] 193)) (.cells #[.func (.func 105) #[] #[ptr W.heap.size 0,ptr Bt 0,ptr (W.heap.size+1) 0]] 193)).block W.heap.size (by simp);rw[bJ W]at m0;rw[World.size_alloc]at m1;have c1:=(Q5 (o:=0) m1 rfl).1;have c0:=(Q5 (o:=0) m0 rfl).1;have hcall:=key _ hb2 (by simp) c0 c1;clear key m1 m0
 go_enter func104,ntmps104
 go_wp2_with (go_at_call 105;refine hcall.mono ?_;rintro e W3 ⟨rfl,hp⟩)
 go_end0
 exact⟨rfl,hp⟩
end
end
end Go.Proofs.YtibiibjbmhckgaaGreatDoor
