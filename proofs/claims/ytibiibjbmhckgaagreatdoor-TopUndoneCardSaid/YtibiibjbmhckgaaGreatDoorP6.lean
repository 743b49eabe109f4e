import Derived.Test.YtibiibjbmhckgaaGreatDoorP5
import Derived.Laws.EntriesVeiled
import Derived.ProofKit
import Derived.OpenShut
import Derived.Test.YtibiibjbmhckgaaGreatDoorCards
import Derived.Test.YtibiibjbmhckgaaGreatDoorTie
import Derived.Stop.LaidErr
import Derived.Lib.LaidU8
import Derived.Deep.DeepWitnessRowRef
set_option linter.unusedVariables false
set_option linter.unusedSimpArgs false
namespace Go
abbrev eU:=@decide_eq_false
abbrev af6:=@bodyPost_ret
abbrev aq0:=@RowKit.run_makeMap
end Go
namespace Go.Proofs.YtibiibjbmhckgaaGreatDoor
section
open Go Go.F6 Go.RowKit Go.Ev Proofs.Tryz
set_option maxRecDepth 100000
set_option maxHeartbeats 4000000
section
variable{J:List Int->Option Nat->World->Prop}{X l M:Nat}
theorem f104{t:Tree}{rv bv:Value}{Bt Bi:Nat}{Z:Zone}{id:Int}{pre new:List Int}{ob:Option Nat}{W:World}
 (DV:∀pre ob W W',J pre ob W->Below W.heap.size W W'->J pre ob W') (yU:∀pre ob W,J pre ob W->X<W.heap.size/\l<W.heap.size/\∀c,ob=some c->c<W.heap.size)
 (hv:∀By Bt Bv Z(pre:List Int) ob W,pre.length+new.length<=M->J pre ob W->vZ X l t rv bv By Bt Bv Z ob W->Calls prog 105 #[.int .i64 id,.int .i64 0,ptr By 0,ptr Bt 0,ptr Bv 0] W (oH J X l pre new ob W (.bool true)))
 (hM:pre.length+new.length<=M) (hJ:J pre ob W) (hid:id≠0) (t0:W.cell? ⟨Bt,0,none⟩=some rv) (t1:W.cell? ⟨Bt,1,none⟩=some bv) (i0:W.cell? ⟨Bi,0,none⟩=some (.int .i64 id)) (nt:¬Wr X l ob Bt) (hrep:Rep Z W (.agg (dO t)) (.agg #[rv,bv])) (hz:∀b o,Z b o->b<W.heap.size/\¬Wr X l ob b):
 Calls prog 104 #[.func (.yield l) #[] #[],ptr Bt 0,ptr Bi 0] W (oH J X l pre new ob W (.tuple #[])):=by
 have hlt:=yU _ _ _ hJ;have hnw:∀k,W.heap.size<=k->¬Wr X l ob k:=λk hk hw=>by
  rcases hw with h|h|h
  .omega
  .omega
  .have:=hlt.2.2 _ h;omega
 have key:∀W2,Below W.heap.size W W2->W.heap.size+1<W2.heap.size->W2.cell? ⟨W.heap.size,0,none⟩=some (.func (.yield l) #[] #[])->W2.cell? ⟨W.heap.size+1,0,none⟩=some (.func (.func 105) #[] #[ptr W.heap.size 0,ptr Bt 0,ptr (W.heap.size+1) 0])->
  Calls prog 105 #[.int .i64 id,.int .i64 0,ptr W.heap.size 0,ptr Bt 0,ptr (W.heap.size+1) 0] W2 (oH J X l pre new ob W (.bool true)):=λW2 hb hs y v=>by
  refine(hv W.heap.size Bt (W.heap.size+1) Z pre ob W2 hM (DV _ _ _ _ hJ hb) ⟨y,(hb.cell (p:=⟨Bt,0,none⟩) (cell_lt (a:=⟨Bt,0,none⟩) t0)).trans t0,(hb.cell (p:=⟨Bt,1,none⟩) (cell_lt (a:=⟨Bt,0,none⟩) t0)).trans t1,v,hnw _ (J6 _),nt,hnw _ (Nat.le_succ _),hrep.keep λb o h=>⟨h,iH (hb.block b (hz b o h).1)⟩,λb o h=>⟨Z5 (hz b o h).1 hb.size,(hz b o h).2⟩⟩).mono ?_;rintro e W3 ⟨rfl,ob3,J3,F3,ho3⟩;exact⟨rfl,ob3,J3,(Fr.of_below hb).trans F3,λc h=>(ho3 c h).imp_right (X4 hb.size)⟩
 have dL0:(id !=0)=true:=by simp[hid]
 have hb2:Below W.heap.size W ((W.alloc (.cells #[.func (.yield l) #[] #[]] 193)).alloc (.cells #[.func (.func 105) #[] #[ptr W.heap.size 0,ptr Bt 0,ptr (W.heap.size+1) 0]] 193)):=Below.and (al W _) (al _ _);have y0:=(hb2.cell (p:=⟨Bi,0,none⟩) (cell_lt (a:=⟨Bi,0,none⟩) i0)).trans i0;have m1:=aW (W.alloc (.cells #[.func (.yield l) #[] #[]] 193)) (.cells #[.func (.func 105) #[] #[ptr W.heap.size 0,ptr Bt 0,ptr (W.heap.size+1) 0]] 193);have m0:=(al (W.alloc (.cells #[.func (.yield l) #[] #[]] 193)) (.cells #[.func (.func 105) #[] #[ptr W.heap.size 0,ptr Bt 0,ptr (W.heap.size+1) 0]] 193)).block W.heap.size (by simp);rw[aW W]at m0;rw[World.size_alloc]at m1;have c1:=(O5 (o:=0) m1 rfl).1;have c0:=(O5 (o:=0) m0 rfl).1;have hcall:=key _ hb2 (by simp) c0 c1;clear key m1 m0
 go_enter func104,ntmps104
 go_wp2_with (go_at_call 105;refine hcall.mono ?_;rintro e W3 ⟨rfl,hp⟩)
 go_end0
 exact⟨rfl,hp⟩
end
theorem ci5{W:World}{v:Value}{l:List Int}{ob:Option Nat}(hO:O9 W 3 1 v l.length (Y7 l) ob)(hl:l.length<=4000){vb:Nat}{x:Int}(hV:W.heap[vb]?=some (.cells #[.int .i64 x] 3 (0,0))):
 ∃v' W' ob',((Builtin.append_ #[26,26] 26 #[v,.slice (some ⟨vb,0,none⟩) 1 1]).run prog W=.ok v' W')/\O9 W' 3 1 v' (l++[x]).length (Y7 (l++[x])) ob'/\Fr (λk=>ob=some k) W W'/\∀c,ob'=some c->ob=some c\/W.heap.size<=c:=by
 have hu:=underlying26;have hty:H8 3=some nT:=rfl;have hsrc:Src prog nT.size 26 (.slice (some ⟨vb,0,none⟩) 1 1) 1 [.int .i64 x] W:=
  Src.ofSlice W hu ⟨vb,0,none⟩ 1 1 [.int .i64 x] rfl (λj u hj=>by
   rw[gY,V7,jY W vb j _ 3 (0,0) hV]
   match j,hj with
   |0,hj=>cases hj;rfl) (λu hu=>by simp at hu;subst hu;rfl)
 have hA:=ay4 YS.ty hu hty (by decide) hsrc;have hzl:∀n,(Builtin.zeroCells (O7 nT).cells n).toList.length=n*1:=bb9 rE;have hcx:Y7 (l++[x])=Y7 l++[Value.int .i64 x]:=by simp[Y7]
 have hll:(l++[x]).length=l.length+1:=by simp
 rw[hcx,hll];have h1:=hO.one;have hlen:=hO.len;have fresh:∀m,l.length+1<=m->m<=maxLen->O9 (W.drew.alloc (.cells ((Y7 l++[Value.int .i64 x]).toArray++Builtin.zeroCells (O7 nT).cells (m-(l.length+1))) 3)) 3 1 (.slice (some ⟨W.heap.size,0,none⟩) (l.length+1) m) (l.length+1) (Y7 l++[Value.int .i64 x]) (some W.heap.size):=λm hm hmx=>
  wU (aW W.drew _) (by simp only[Array.size_append,pU,bQ,hlen];rw[<-iT,hzl];simp;omega) hm hmx
   (λu hu=>by
     rcases iU.1 hu with hu|hu
     .grind
     .simp at hu;subst hu;rfl)
   (by simp only[ax2];rw[xU (by simp[hlen]),xW (by simp[hlen])])
 generalize hC:Y7 l=C at hO fresh h1 hlen;generalize hn:l.length=n at hO fresh h1 hlen hl;cases hO with
 |e a=>
  obtain⟨m,hm,hmx,hr⟩:=hA.grow 26 a 0 0 [] (by cases a<;>rfl) (by omega) (by omega)
  exact⟨_,_,some W.heap.size,hr,by simpa using fresh m hm hmx,((Fr.refl _ W).drew).alloc _,λc hc=>.inr (by injection hc with hc;omega)⟩
 |b b c n arr hh hs hnc hm h1'=>
  subst hn;by_cases hroom:l.length+1<=c
  .have hr:=hA.room 26 b 0 l.length c 3 arr hh hroom (by simp only[show nT.size=1 from rfl,hs,List.length_singleton];omega);refine⟨_,_,some b,hr,?_,(Fr.refl _ W).setRow (.inl rfl),λc hc=>.inl hc⟩;refine wU (rC W b arr _ 3 (0,0) hh) (by simp only[show nT.size=1 from rfl,pU,bQ,U9,kN,iT,hs,List.length_singleton];omega) hroom hm (λu hu=>?_) ?_
   .rcases iU.1 hu with hu|hu
    .grind
    .simp at hu;subst hu;rfl
   .simp only[V7,vY,show nT.size=1 from rfl]
    grind
  .have hrow:=WL (P:=prog) (W:=W.drew) hh 1 l.length 0 l.length c (by rw[hs];omega);obtain⟨m,hm',hmx,hr⟩:=hA.grow 26 (some ⟨b,0,none⟩) l.length c (arr.toList.take (l.length*1)) (by rw[show nT.size=1 from rfl];simpa using hrow) (by omega) (by omega);exact⟨_,_,some W.heap.size,hr,fresh m hm' hmx,((Fr.refl _ W).drew).alloc _,λc hc=>.inr (by injection hc with hc;omega)⟩
def BI(X n0:Nat)(pre:List Int)(ob:Option Nat)(W:World):Prop:=∃v,W.heap[X]?=some (.cells #[v] 26 (0,0))/\O9 W 3 1 v pre.length (Y7 pre) ob/\Gw W/\ob≠some X/\∀c,ob=some c->n0<=c
theorem bq0{W W':World}(h:Gw W)(hb:∀k arr el fr,W.heap[k]?=some (.cells arr el fr)->k=0->W'.heap[k]?=W.heap[k]?):Gw W':=by
 obtain⟨m,hm⟩:=h;refine⟨m,?_⟩;cases ho:W.heap[0]? with
 |none=>simp[World.cell?,ho]at hm
 |some o=>
  cases o with
  |cells arr el fr=>rw[CB (a:=⟨0,0,none⟩) (w:=W) (w':=W') (hb _ _ _ _ ho rfl)];exact hm
  |_=>simp[World.cell?,ho]at hm
theorem BI.putObj{X n0:Nat}{pre:List Int}{ob:Option Nat}{W:World}(h:BI X n0 pre ob W){l:Nat}{o o':Obj}(hl:W.heap[l]?=some o)(ho:o.isCells=false):BI X n0 pre ob (W.putObj l o'):=by
 obtain⟨v,h1,h2,h3,h4,h5⟩:=h;have ne:∀k arr el fr,W.heap[k]?=some (.cells arr el fr)->k≠l:=λk arr el fr hk e=>by subst e;rw[hl]at hk;injection hk with hk;rw[hk]at ho;cases ho
 exact⟨v,(gK (ne _ _ _ _ h1)).trans h1,h2.keep λk hk=>by obtain⟨arr,ha⟩:=h2.heap hk;exact gK (ne _ _ _ _ ha),bq0 h3 λk arr el fr hk _=>gK (ne _ _ _ _ hk),h4,h5⟩
theorem BI.below{X n0:Nat}{pre:List Int}{ob:Option Nat}{W W':World}(h:BI X n0 pre ob W)(hb:Below W.heap.size W W'):BI X n0 pre ob W':=by
 obtain⟨v,h1,h2,h3,h4,h5⟩:=h;exact⟨v,(hb.block X (V4.1 h1).1).trans h1,h2.keep λk hk=>hb.block k (h2.lt hk),Gs W W' h3 hb,h4,h5⟩
theorem BI.lt{X n0:Nat}{pre:List Int}{ob:Option Nat}{W:World}(h:BI X n0 pre ob W):X<W.heap.size/\∀c,ob=some c->c<W.heap.size:=by
 obtain⟨v,h1,h2,_⟩:=h;exact⟨(V4.1 h1).1,λc hc=>h2.lt hc⟩
theorem c62{g:Operand}{ps:Array Tmp}{assign body:Code}{Q:Exit->Act->World->Prop}{a:Act}{w:World}{lb:Array Value}{X n0 M:Nat}{new:List Int}(hg:a.eval g=.func (.func 104) #[] lb)(hps:ps.size=2)(h0:BI X n0 [] none w)
 (a₁:Int->Int->Act)
 (hassign:∀m l x ab W K,K (a₁ x ab) W->assign.wpIn (Fence.wide.inRound l) m prog (Exit.then K (λ_ _ _=>False)) { tmps:=(ps.zip #[Value.int .i64 x,Value.int .i64 ab]).foldl (λt (p,v)=>t.setIfInBounds p v) a.tmps,defers:=[] } W)
 (hbody:∀m l(pre:List Int) ob x ab W,BI X n0 pre ob W->pre.length<M->body.wpIn (Fence.wide.inRound l) m prog (λe _ W'=>e=.normal/\∃ob',KeepsOthers W W'/\BI X n0 (pre++[x]) ob' W'/\Fr (λk=>k=X\/ob=some k) W W'/\∀c,ob'=some c->ob=some c\/W.heap.size<=c) (a₁ x ab) W)
 (hit:∀(J:List Int->Option Nat->World->Prop)(l:Nat)(W:World),(∀pre ob W W',J pre ob W->Below W.heap.size W W'->J pre ob W')->(∀pre ob W,J pre ob W->X<W.heap.size/\l<W.heap.size/\∀c,ob=some c->c<W.heap.size)->(∀pre ob W,J pre ob W->Gw W)->
   (∀m(pre:List Int) ob W x ab,pre.length<M->J pre ob W->YieldAt Fence.wide m prog l #[.int .i64 x,.int .i64 ab] W (oH J X l pre [x] ob W (.bool true)))->J [] none W->Below w.heap.size w W->w.heap.size<=l->Calls prog 104 (#[.func (.yield l) #[] #[]]++lb) W (oH J X l [] new none W (.tuple #[])))
 (hdone:∀(D:Nat)(ob:Option Nat)(W:World),w.heap.size<=D->BI X n0 new ob W->W.heap[D]?=some (.deferred (some []))->Fr (λk=>k=X) w W->Q .normal { a with defers:={ target:=.collected D,args:=#[] }::a.defers } W) (n:Nat):
 (Code.rangeFunc g ps assign body).wpIn Fence.wide n prog Q a w:=by
 refine wpIn_rangeFunc ?_;intro fn hfn;obtain⟨rec,hrec⟩:∃rec:LoopState->Loop,rec=λst=>{ state:=st,pending:=none,fn,tmps:=a.tmps,params:=ps,assign,body,defers:=w.heap.size }:=⟨_,rfl⟩;obtain⟨W1,hW1⟩:∃W1,(w.alloc (.deferred (some []))).alloc (.loop (rec .ready))=W1:=⟨_,rfl⟩;have hL1:W1.heap[w.heap.size+1]?=some (.loop (rec .ready)):=by
  rw[<-hW1];have:=World.alloc_heap_new (w.alloc (.deferred (some []))) (.loop (rec .ready));rwa [World.size_alloc]at this
 have hb1:Below w.heap.size w W1:=by rw[<-hW1];exact Below.and (al w _) (al _ _)
 have hK1:W1.heap[w.heap.size]?=some (.deferred (some [])):=by
  rw[<-hW1];exact(Below.heap_alloc _ _ _ (by simp)).trans (World.alloc_heap_new w _)
 have hz1:W1.heap.size=w.heap.size+2:=by rw[<-hW1];simp
 have hI1:BI X n0 [] none W1:=h0.below hb1
 refine⟨w.heap.size+1,[{ target:=.collected w.heap.size,args:=#[] }],W1,{ target:=.fn (.func 104) lb,args:=#[.func (.yield (w.heap.size+1)) #[] #[]] },W1,104,
  #[.func (.yield (w.heap.size+1)) #[] #[]]++lb,W1,?_,?_,?_,?_,(λh=>nomatch h),?_⟩
 .rw[<-hW1,hrec];exact run_enterLoop_outer _ _ _ _ _
 .simp only[resolve,hg];simp[go_sem]
 .intro f' hf';trivial
 .have eg:=enters_of func104 (by kernel_rfl) rfl;simp[invoke,go_sem,eg]
 .have hcall:=hit (λpre ob W=>BI X n0 pre ob W/\W.heap[w.heap.size+1]?=some (.loop (rec .ready))/\W.heap[w.heap.size]?=some (.deferred (some []))) (w.heap.size+1) W1
   (λpre ob W W' hj hb=>⟨hj.1.below hb,(hb.block _ (V4.1 hj.2.1).1).trans hj.2.1,(hb.block _ (V4.1 hj.2.2).1).trans hj.2.2⟩)
   (λpre ob W hj=>⟨hj.1.lt.1,(V4.1 hj.2.1).1,hj.1.lt.2⟩)
   (λpre ob W hj=>by obtain⟨v,_,_,h3,_⟩:=hj.1;exact h3) ?_ ⟨hI1,hL1,hK1⟩ hb1 (by omega)
  .refine(callsIn_wide.2 hcall).mono ?_;rintro e W2 ⟨rfl,qQ,⟨hI2,hL2,hK2⟩,hF2,_⟩;refine⟨none,_,by have:=run_endLoop (P:=prog) hL2 (by rw[hrec];simp);rw[hrec]at this;exact this,?_⟩;refine hdone w.heap.size qQ _ (J6 _) (hI2.putObj hL2 rfl) ((gK (by omega)).trans hK2) ?_;refine⟨hF2.os.trans hb1.os,hF2.tape.trans hb1.tape,hF2.output.trans hb1.output,by rw[World.putObj_size];exact X4 hb1.size hF2.size,λk hk hn=>?_⟩;rw[gK (by omega),hF2.block k (by omega) (λhw=>by rcases hw with h|h|h;exact hn h;omega;cases h)];exact hb1.block k hk
  .rintro m pre ob W x ab hlen ⟨hi,hl,hk⟩;have hlt:w.heap.size+1<W.heap.size:=(V4.1 hl).1;have hy:=run_yield (P:=prog) (args:=#[.int .i64 x,.int .i64 ab]) hl (by rw[hrec];exact hps.symm);rw[hrec]at hy;refine⟨fn,_,assign,body,hy,roundIn_of_wpIn hfn (hassign _ _ x ab W _ ⟨_,run_beginRound hl (by rw[hrec]),?_⟩)⟩;have hl2:(W.putObj (w.heap.size+1) (.loop { rec .ready with state:=.busy })).heap[w.heap.size+1]?=some (.loop { rec .ready with state:=.busy }):=World.putObj_heap_same hlt;have hk2:(W.putObj (w.heap.size+1) (.loop { rec .ready with state:=.busy })).heap[w.heap.size]?=some (.deferred (some [])):=(gK (by omega)).trans hk;refine wpIn_mono (hbody _ _ pre ob x ab _ (hi.putObj hl rfl) hlen) ?_;rintro e a3 W3 ⟨rfl,ob',hk3,hi3,hf3,ho3⟩;have hl3:=hk3.same _ _ hl2 rfl;have hr:=run_endRound (P:=prog) none hl3;refine⟨_,_,hr,rfl,ob',⟨hi3.putObj hl3 rfl,?_,(gK (by omega)).trans (hk3.same _ _ hk2 rfl)⟩,?_,λc hc=>?_⟩
   .rw[World.putObj_heap_same (V4.1 hl3).1,hrec];rfl
   .refine⟨hf3.os,hf3.tape,hf3.output,by rw[World.putObj_size];have:=hf3.size;rw[World.putObj_size]at this;exact this,λk hk hn=>?_⟩;rw[gK (λe=>hn (.inr (.inl e))),hf3.block k (by rw[World.putObj_size];exact hk) (λhw=>hw.elim (λh=>hn (.inl h)) (λh=>hn (.inr (.inr h)))),gK (λe=>hn (.inr (.inl e)))]
   .have:=ho3 c hc;rwa [World.putObj_size]at this
end
section
open Go Go.F6 Go.RowKit Go.Ev Go.Shelf Proofs.Tryz
set_option maxRecDepth 100000
set_option maxHeartbeats 4000000
attribute [local go_sem] Oper.semAt_some
theorem dz0{F:Fence}{n:Nat}{P:Program}(w:World){ops:Array Oper}{rest:List Oper}{o:Oper}{a:Act}{Q:Exit->Act->World->Prop}
 (hg:o.guard=none) (s x:Operand) (t:TypeId) (hop:o.op=Op.call { callee:=Callee.builtin Builtin.append,args:=#[s,x],argTypes:=#[t,t] }) (vs vx:Value) (hs:a.eval s=vs) (hx:a.eval x=vx) (v':Value) (w':World)
 (hrun:(Builtin.append_ #[t,t] o.type #[vs,vx]).run P w=.ok v' w') (h:wpListIn F n P ops Q rest (a.put o.dst v') w'):wpListIn F n P ops Q (o::rest) a w:=by
 refine wpListIn_plain hg λK hK'=>?_;unfold Oper.wpIn;refine⟨?_,?_⟩
 .simp[Oper.about,hop,resolve,Target.leads,Q5]
 .rw[Oper.semAt_plain F _ _ (by rw[hop];intro c hc';cases hc')];simp[execOp,hop,resolve,invoke,builtin,hs,hx,hrun,Result.andThen];exact hK' _ _ h
theorem dx0{w:World}{rv bv:Value}{id:Int}:Calls prog 54 #[.agg #[rv,bv],.int .i64 id] w λe w'=>e=.returned (.func (.func 104) #[] #[ptr w.heap.size 0,ptr (w.heap.size+1) 0])/\w'=(w.alloc (.cells #[rv,bv] 36)).alloc (.cells #[.int .i64 id] 3):=by
 go_enter func54,ntmps54
 go_wp2
 go_ret
 exact⟨rfl,rfl⟩
theorem ak5{f:FuncId}{args:List CV}{u:Value}(h:Holds prog Gw f args (.v u)){Z:Zone}{w:World}(hg:Gw w){vs:List Value}(hr:O8 Z w args vs)(hz:∀b o,Z b o->b<w.heap.size):Calls prog f vs.toArray w λe w'=>e=.returned u/\Below w.heap.size w w':=
 (h.2 Z w vs hr hz (λw' hb=>Gs w w' hg hb)).mono λ_ _ ⟨x,Z',h1,h2,_,_,h5⟩=>by
   have h3:=h2.pure rfl;cases h3;exact⟨h1,h5⟩
theorem ck9{Z:Zone}{w:World}{t:Tree}{rv bv:Value}{id e9:Int}(hg:Gw w)(hrep:Rep Z w (.agg (dO t)) (.agg #[rv,bv]))(hz:∀b o,Z b o->b<w.heap.size)(hor:UE t id=some e9)(he:e9≠0):
 Calls prog 21 #[.agg #[rv,bv],.int .i64 id] w λe w'=>e=.returned (.tuple #[.slice none 0 0,.int .i64 e9])/\Below w.heap.size w w':=by
 have b0:=al w (.cells #[rv,bv] 36);have h53:=ak5 (b52 hor) (Gs w _ hg b0) (O8.cons (hrep.keep (zH hz b0)) (O8.cons (.v (.int .i64 id)) (O8.nil _ _))) (λb o h=>Z5 (hz b o h) b0.size);have he':(e9 !=0)=true:=by simp[he]
 have c0:=(O5 (o:=0) (aW w (.cells #[rv,bv] 36)) rfl).1;have c1:=(O5 (o:=1) (aW w (.cells #[rv,bv] 36)) rfl).1;refine(callsIn_wide (n:=5)).1 ?_;refine callsIn_of_wp_marks func21 rfl trivial ?_ rfl;simp only[ntmps21,pU,pR,List.length_nil,Nat.reduceAdd,Nat.reduceSub,Array.replicate_succ,Array.replicate_zero,List.push_toArray,List.append_toArray,rO,List.cons_append]
 gi_wp2_with (refine⟨trivial,?_⟩;gi_at_call 53;refine(callsIn_wide.2 h53).mono ?_;rintro e w1 ⟨rfl,hw1⟩)
 exact⟨_,results_tmp2 rfl _ _ _,rfl,Below.and b0 hw1⟩
theorem cl0{Z:Zone}{w:World}{t:Tree}{rv bv:Value}{id:Int}{N:Nat}{new:List Int}(hg:Gw w)(hrep:Rep Z w (.agg (dO t)) (.agg #[rv,bv]))(hz:∀b o,Z b o->b<w.heap.size)(hor:UE t id=some 0)(hid:id≠0)
 (hpre:qU t N id=some new) (hn:new.length<=4000) (hks:∀id ks,nU t id=some ks->ks.length<=1000000):
 Calls prog 21 #[.agg #[rv,bv],.int .i64 id] w λe w'=>∃v ob,e=.returned (.tuple #[v,.int .i64 0])/\O9 w' 3 1 v new.length (Y7 new) ob/\Below w.heap.size w w':=by
 have b0:=al w (.cells #[rv,bv] 36);have hB:=aW w (.cells #[rv,bv] 36);have h53:=ak5 (b52 hor) (Gs w _ hg b0) (O8.cons (hrep.keep (zH hz b0)) (O8.cons (.v (.int .i64 id)) (O8.nil _ _))) (λb o h=>Z5 (hz b o h) b0.size);have hs0:w.heap.size<(w.alloc (.cells #[rv,bv] 36)).heap.size:=by simp
 have c0:=(O5 (o:=0) hB rfl).1;have c1:=(O5 (o:=1) hB rfl).1;refine(callsIn_wide (n:=5)).1 ?_;refine callsIn_of_wp_marks func21 rfl trivial ?_ rfl;simp only[ntmps21,pU,pR,List.length_nil,Nat.reduceAdd,Nat.reduceSub,Array.replicate_succ,Array.replicate_zero,List.push_toArray,List.append_toArray,rO,List.cons_append]
 gi_wp2_with (first|(refine⟨trivial,?_⟩;gi_at_call 53;refine(callsIn_wide.2 h53).mono ?_;rintro e w1 ⟨rfl,hw1⟩;have d0:=(O5 (o:=0) ((hw1.block _ hs0).trans hB) rfl).1;have d1:=(O5 (o:=1) ((hw1.block _ hs0).trans hB) rfl).1;have l1:=Z5 hs0 hw1.size;have e0:=((al w1 (.cells #[.slice none 0 0] 26)).cell (p:=⟨w.heap.size,0,none⟩) l1).trans d0;have e1:=((al w1 (.cells #[.slice none 0 0] 26)).cell (p:=⟨w.heap.size,1,none⟩) l1).trans d1)|(refine⟨trivial,?_⟩;gi_at_call 54;refine(callsIn_wide.2 dx0).mono ?_;rintro e w3 ⟨rfl,hw3⟩;have H3:=Lib.hid hw3;clear hw3))
 have s1:w.heap.size<w1.heap.size:=l1;have b01:Below w.heap.size w w1:=Below.and b0 hw1;have b13:Below w1.heap.size w1 w3:=by rw[H3.out];exact Below.and (al w1 _) (Below.and (al _ _) (al _ _))
 have hz3:w3.heap.size=w1.heap.size+3:=by rw[H3.out];simp
 have x3:w3.heap[w1.heap.size]?=some (.cells #[.slice none 0 0] 26 (0,0)):=by
  rw[H3.out,<-aW w1 (.cells #[.slice none 0 0] 26)];exact(Below.and (al (w1.alloc (.cells #[.slice none 0 0] 26)) (.cells #[rv,bv] 36)) (al _ _)).block _ (by simp)
 have t3:w3.heap[w1.heap.size+1]?=some (.cells #[rv,bv] 36 (0,0)):=by
  have:=aW (w1.alloc (.cells #[.slice none 0 0] 26)) (.cells #[rv,bv] 36);rw[World.size_alloc]at this;rw[H3.out,<-this];exact(al _ _).block _ (by simp)
 have i3:w3.heap[w1.heap.size+2]?=some (.cells #[.int .i64 id] 3 (0,0)):=by
  have:=aW ((w1.alloc (.cells #[.slice none 0 0] 26)).alloc (.cells #[rv,bv] 36)) (.cells #[.int .i64 id] 3);rw[World.size_alloc,World.size_alloc]at this;rw[H3.out];exact this
 have g3:Gw w3:=Gs w w3 hg (Below.and b01 b13);clear c0 c1 d0 d1 e0 e1;refine c62 (X:=w1.heap.size) (n0:=w.heap.size) (M:=4000) (new:=new) rfl rfl ⟨.slice none 0 0,x3,.e none,g3,by simp,λc h=>nomatch h⟩
  (λx ab=>⟨#[.agg #[rv,bv],.int .i64 id,.pointer (some ⟨w.heap.size,0,none⟩),undef,.slice none 0 0,.int .i64 0,.int .i64 0,.pointer (some ⟨w1.heap.size,0,none⟩),.int .i64 x,.agg #[rv,bv],.int .i64 id,.int .i64 0,.int .i64 0,.bool false,undef,.agg #[rv,bv],.int .i64 id,.func (.func 104) #[] #[ptr (w1.heap.size+1) 0,ptr (w1.heap.size+1+1) 0],.int .i64 x,.int .i64 ab,undef,undef,undef,undef,undef],[]⟩) ?assign ?body ?it ?done 5
 case assign=>
  intro m l x ab W K hK
  gi_wp2
  exact hK
 case body=>
  intro m l pre ob x ab W hI hlen;obtain⟨v,h1,h2,h3,h4,h5⟩:=hI;obtain⟨va,vc,rfl,_⟩:=h2.sl;have c:=(O5 (o:=0) h1 rfl).1;have sD:=(V4.1 h1).1;have hal:=al W (.cells #[.int .i64 x] 3);obtain⟨v',W2,ob',hr,hO2,hF,ho⟩:=ci5 (h2.keep λk hk=>hal.block k (h2.lt hk)) (by omega) (aW W (.cells #[.int .i64 x] 3));obtain⟨va',vc',rfl,_⟩:=hO2.sl;have WW:Fr (λk=>ob=some k) W W2:=(Fr.of_below hal).trans hF;have x2:=(WW.block _ sD h4).trans h1;have c2:=(O5 (o:=0) x2 rfl).1;have f2:=(O5 (o:=0) x2 rfl).2;have hoW:∀c,ob'=some c->ob=some c\/W.heap.size<=c:=λc hc=>(ho c hc).imp_right (X4 hal.size);have HR:=Lib.hid hoW
  gi_wp2_with (gi_at_builtin;refine dz0 _ rfl _ _ 26 rfl _ _ rfl rfl _ _ hr ?_)
  refine⟨⟨by rw[aa2];exact WW.size,λk o hk ho'=>?_⟩,ob',⟨_,LV W2 w1.heap.size 0 _ x2,?_,?_,?_,?_⟩,?_,HR.out⟩
  .have hkX:k≠w1.heap.size:=λe=>by rw[e,h1]at hk;injection hk with hk;rw[<-hk]at ho';cases ho'
   have hko:ob≠some k:=λe=>by obtain⟨arr,ha⟩:=h2.heap e;rw[ha]at hk;injection hk with hk;rw[<-hk]at ho';cases ho'
   exact(kG W2 _ _ k _ hkX).trans ((WW.block k (V4.1 hk).1 hko).trans hk)
  .have hne:∀k,ob'=some k->k≠w1.heap.size:=λk hk e=>by
    subst e;rcases HR.out _ hk with h|h
    .exact h4 h
    .omega
   have key:=hO2.keep (w':=W2.setCell ⟨w1.heap.size,0,none⟩ (.slice va' (pre.length+1) vc')) λk hk=>kG W2 _ _ k _ (hne k hk);have hlx:(pre++[x]).length=pre.length+1:=by simp
   rw[hlx]at key⊢;exact key
  .exact bq0 h3 λk arr el fr hk hkm=>by
    have hk0:k<w.heap.size:=by
     obtain⟨q,hq⟩:=hg;rw[hkm];exact cell_lt (a:=⟨0,0,none⟩) hq
    refine(kG W2 _ _ k _ (by omega)).trans (WW.block k (V4.1 hk).1 λe=>?_);have:=h5 k e;omega
  .intro e;rcases HR.out _ e with h|h
   .exact h4 h
   .omega
  .intro c hc;rcases HR.out _ hc with h|h
   .exact h5 c h
   .omega
  .exact Fr.TA (WW.mono λk hk=>.inr hk) (.inl (.inl rfl))
 case it=>
  intro J l W DV yU hJg hR hJ0 hb hl;have hc:∀k arr el,w3.heap[k]?=some (Obj.cells arr el (0,0))->W.heap[k]?=some (Obj.cells arr el (0,0)):=λk arr el h=>(hb.block k (V4.1 h).1).trans h;have hbW:=Below.and (Below.and b01 b13) hb;have hX:=yU _ _ _ hJ0;refine f104 (M:=4000) (t:=t) (rv:=rv) (bv:=bv) (Z:=Z) (id:=id) DV yU (λBy Bt Bv Z' pre ob W hM hJ hV=>visit (M:=4000) DV yU hJg hR hks N id new hpre 0 pre ob W hM hJ hV) (by simpa using hn) hJ0 hid (O5 (o:=0) (hc _ _ _ t3) rfl).1 (O5 (o:=1) (hc _ _ _ t3) rfl).1 (O5 (o:=0) (hc _ _ _ i3) rfl).1 (λhw=>?_) (hrep.keep (zH hz hbW)) (λb o h=>⟨Z5 (hz b o h) hbW.size,λhw=>?_⟩)
  .rcases hw with h|h|h
   .omega
   .omega
   .cases h
  .have:=hz b o h;rcases hw with h|h|h
   .omega
   .omega
   .cases h
 case done=>
  intro D ob W hD hI hK hF;obtain⟨v,h1,h2,h3,h4,h5⟩:=hI;obtain⟨va,vc,rfl,_⟩:=h2.sl;have c:=(O5 (o:=0) h1 rfl).1;have sD:=(V4.1 h1).1;have HF:=Lib.hid hF;clear hF
  gi_wp2
  refine⟨by simp,.inl ⟨_,_,rfl,run_takeDeferred hK,?_⟩⟩;refine⟨_,results_tmp2 rfl _ _ _,_,ob,rfl,h2.keep λk hk=>gK (λe=>?_),?_⟩
  .subst e;obtain⟨arr,ha⟩:=h2.heap hk;rw[hK]at ha;cases ha
  .have hBW:Below w.heap.size w W:=(HF.out.mono λk hk=>hk).base (Below.and b01 b13) λk hk=>by rw[hk];exact b01.size
   exact⟨hBW.os,hBW.tape,hBW.output,by rw[World.putObj_size];exact hBW.size,λk hk=>(gK (by omega)).trans (hBW.block k hk)⟩
end
section
open Go Go.F6 Proofs.Tryz
set_option maxRecDepth 10000
set_option maxHeartbeats 400000
abbrev bm1(y:Int):CV:=I y
def WC(b:Branch)(id:Int):Option (Int):=Option.bind (wF b.Unit.ID id) λy1=>some (y1)
theorem cx0{b:Branch}{id:Int}{r:Int}(hF:WC b id=some r):Holds prog Gw 130 [.agg (G8 b),I id] (bm1 r):=by
 refine Q9 L8 mixed func130 (by decide) rfl (H6 rfl) ?_;refine l9 ?_;refine D7 hF λy1 h2 hF=>?_;refine l9 ⟨_,aA9 h2,rfl,?_⟩;exact l9 ⟨rfl,congrArg (Option.map bm1) hF⟩
end
section
open Go Go.F6 Go.RowKit Proofs.Tryz
set_option maxRecDepth 100000
set_option maxHeartbeats 4000000
attribute [local go_sem ↓] Go.wp_at_zero Go.wp_at_succ
def xI(w:World)(x:Nat)(o:Opn)(r:Bool):Prop:=o.Before=0\/(o.Before≠0/\∃(pb po:Nat) (hv:Value),At w 75 #[ptr x 0,.int .i64 o.Parent] (ptr pb po)/\pb<w.heap.size/\w.cell? ⟨pb,po,none⟩=some hv/\At w 10 #[hv,.int .i64 o.Before] (.bool r))
theorem cr4{w:World}{x:Nat}{o:Opn}{i:Int}(h72:At w 72 #[ptr x 0,.int .i64 o.Unit] (.tuple #[.int .i64 i,.bool false]))(hp:E8 w x o.Parent)(Y5:At w 74 #[ptr x 0,.int .i64 o.Parent,.int .i64 o.Level] (.int .i64 0))(hb0:o.Before≠0)(hb:xI w x o false):
 Calls prog 32 #[ptr x 0,oval o] w λe' w'=>e'=.returned (.int .i64 7)/\Below w.heap.size w w':=by
 unfold E8 at hp;unfold xI at hb;rcases hp with hp|⟨hp,qb,qo,U8⟩<;>rcases hb with hb|⟨hb,pb,po,hv,fZ,hpb,hc,h10⟩
 all_goals
  try exact absurd hb hb0
 all_goals
  have bx:=iZ w o;have k3:=bx.k3
  first
   |(have hp':(o.Parent !=0)=false:=by simp[hp])
   |(have hp':(o.Parent !=0)=true:=by simp[hp])
  first
   |(have hb':(o.Before !=0)=false:=by simp[hb])
   |(have hb':(o.Before !=0)=true:=by simp[hb])
  clear hp hb hb0
  go_enter func32,ntmps32
  go_wp2_with (first|(go_at_call 72;refine(h72 _ (al w _)).mono ?_;rintro e w1 ⟨rfl,hw1⟩;have k4:=(bx.below hw1).k4;have k6:=(bx.below hw1).k6)|(go_at_call 73;refine(U8 _ (Below.and (al w _) hw1)).mono ?_;rintro e wp ⟨rfl,hwp⟩;have ED:=(bx.below (Below.and hw1 hwp)).k4;have KE:=(bx.below (Below.and hw1 hwp)).k6)|(go_at_call 74;refine(Y5 _ (Below.and (al w _) (Below.and hw1 hwp))).mono ?_;rintro e w2 ⟨rfl,hw2⟩)|(go_at_call 74;refine(Y5 _ (Below.and (al w _) hw1)).mono ?_;rintro e w2 ⟨rfl,hw2⟩))
  first
   |(have V5:=bx.below (Below.and hw1 (Below.and hwp hw2))
     have hS:=Below.and (al w _) (Below.and hw1 (Below.and hwp hw2))
     clear k3 k4 k6 hw1 hw2 hwp ED KE U8 h72 Y5 bx)
   |(have V5:=bx.below (Below.and hw1 hw2)
     have hS:=Below.and (al w _) (Below.and hw1 hw2)
     clear k3 k4 k6 hw1 hw2 h72 Y5 bx)
  have g4:=V5.k4;have g5:=V5.k5
  first
   |(have hc2:=(hS.cell (p:=⟨pb,po,none⟩) hpb).trans hc
     go_region_held3 (λw'=>w'.cell? ⟨w.heap.size,4,none⟩=some (.int .i64 o.Parent)/\w'.cell? ⟨w.heap.size,5,none⟩=some (.int .i64 o.Before)/\w'.cell? ⟨pb,po,none⟩=some hv) (go_keep) (first|(go_at_call 75;refine(fZ _ (Below.and hS (dr _))).mono ?_;rintro e w3 ⟨rfl,hw3⟩;have aS:=V5.below (Below.and (dr _) hw3);have JI:=aS.k4;have JK:=aS.k5;have JM:=((Below.and hS (Below.and (dr _) hw3)).cell (p:=⟨pb,po,none⟩) hpb).trans hc)|(go_at_call 10;refine(h10 _ (Below.and hS (Below.and (dr _) hw3))).mono ?_;rintro e w4 ⟨rfl,hw4⟩;have bY:=aS.below hw4;have JJ:=bY.k4;have JL:=bY.k5;have JO:=((Below.and hS (Below.and (dr _) (Below.and hw3 hw4))).cell (p:=⟨pb,po,none⟩) hpb).trans hc))
     have hT:=Below.and hS (Below.and (dr w2) (Below.and hw3 hw4))
     clear hc2 g4 g5 JI JK JM JJ JL JO aS V5 hw3 hw4 hS fZ h10)
   |(go_quiet (fail)
     rename_i nq;have bY:=V5.below (dn w2 nq);have hT:=Below.and hS (dn w2 nq)
     clear g4 g5 hS V5)
  (go_wp2;go_ret;exact⟨rfl,hT⟩)
theorem cr5{w:World}{x:Nat}{o:Opn}{i:Int}(h72:At w 72 #[ptr x 0,.int .i64 o.Unit] (.tuple #[.int .i64 i,.bool false]))(hp:E8 w x o.Parent)(Y5:At w 74 #[ptr x 0,.int .i64 o.Parent,.int .i64 o.Level] (.int .i64 0))(hb:xI w x o true)(kC:At w 76 #[ptr x 0,.string ⟨⟨o.Mark⟩⟩,.int .i64 0] (.bool true)):
 Calls prog 32 #[ptr x 0,oval o] w λe' w'=>e'=.returned (.int .i64 19)/\Below w.heap.size w w':=by
 unfold E8 at hp;unfold xI at hb;rcases hp with hp|⟨hp,qb,qo,U8⟩<;>rcases hb with hb|⟨hb,pb,po,hv,fZ,hpb,hc,h10⟩
 all_goals
  have bx:=iZ w o;have k3:=bx.k3
  first
   |(have hp':(o.Parent !=0)=false:=by simp[hp])
   |(have hp':(o.Parent !=0)=true:=by simp[hp])
  first
   |(have hb':(o.Before !=0)=false:=by simp[hb])
   |(have hb':(o.Before !=0)=true:=by simp[hb])
  clear hp hb
  go_enter func32,ntmps32
  go_wp2_with (first|(go_at_call 72;refine(h72 _ (al w _)).mono ?_;rintro e w1 ⟨rfl,hw1⟩;have k4:=(bx.below hw1).k4;have k6:=(bx.below hw1).k6)|(go_at_call 73;refine(U8 _ (Below.and (al w _) hw1)).mono ?_;rintro e wp ⟨rfl,hwp⟩;have ED:=(bx.below (Below.and hw1 hwp)).k4;have KE:=(bx.below (Below.and hw1 hwp)).k6)|(go_at_call 74;refine(Y5 _ (Below.and (al w _) (Below.and hw1 hwp))).mono ?_;rintro e w2 ⟨rfl,hw2⟩)|(go_at_call 74;refine(Y5 _ (Below.and (al w _) hw1)).mono ?_;rintro e w2 ⟨rfl,hw2⟩))
  first
   |(have V5:=bx.below (Below.and hw1 (Below.and hwp hw2))
     have hS:=Below.and (al w _) (Below.and hw1 (Below.and hwp hw2))
     clear k3 k4 k6 hw1 hw2 hwp ED KE U8 h72 Y5 bx)
   |(have V5:=bx.below (Below.and hw1 hw2)
     have hS:=Below.and (al w _) (Below.and hw1 hw2)
     clear k3 k4 k6 hw1 hw2 h72 Y5 bx)
  have g4:=V5.k4;have g5:=V5.k5
  first
   |(have hc2:=(hS.cell (p:=⟨pb,po,none⟩) hpb).trans hc
     go_region_held3 (λw'=>w'.cell? ⟨w.heap.size,4,none⟩=some (.int .i64 o.Parent)/\w'.cell? ⟨w.heap.size,5,none⟩=some (.int .i64 o.Before)/\w'.cell? ⟨pb,po,none⟩=some hv) (go_keep) (first|(go_at_call 75;refine(fZ _ (Below.and hS (dr _))).mono ?_;rintro e w3 ⟨rfl,hw3⟩;have aS:=V5.below (Below.and (dr _) hw3);have JI:=aS.k4;have JK:=aS.k5;have JM:=((Below.and hS (Below.and (dr _) hw3)).cell (p:=⟨pb,po,none⟩) hpb).trans hc)|(go_at_call 10;refine(h10 _ (Below.and hS (Below.and (dr _) hw3))).mono ?_;rintro e w4 ⟨rfl,hw4⟩;have bY:=aS.below hw4;have JJ:=bY.k4;have JL:=bY.k5;have JO:=((Below.and hS (Below.and (dr _) (Below.and hw3 hw4))).cell (p:=⟨pb,po,none⟩) hpb).trans hc))
     have hT:=Below.and hS (Below.and (dr w2) (Below.and hw3 hw4))
     clear hc2 g4 g5 JI JK JM JJ JL JO aS V5 hw3 hw4 hS fZ h10)
   |(go_quiet (fail)
     rename_i nq;have bY:=V5.below (dn w2 nq);have hT:=Below.and hS (dn w2 nq)
     clear g4 g5 hS V5)
  have m8:=bY.k8
  go_wp2_with (go_at_call 76;refine(kC _ hT).mono ?_;rintro e w5 ⟨rfl,hw5⟩)
  go_ret
  exact⟨rfl,Below.and hT hw5⟩
theorem cr6{w:World}{x:Nat}{o:Opn}{i:Int}(h72:At w 72 #[ptr x 0,.int .i64 o.Unit] (.tuple #[.int .i64 i,.bool false]))(hp:E8 w x o.Parent)(Y5:At w 74 #[ptr x 0,.int .i64 o.Parent,.int .i64 o.Level] (.int .i64 0))(hb:xI w x o true)(kC:At w 76 #[ptr x 0,.string ⟨⟨o.Mark⟩⟩,.int .i64 0] (.bool false)){ad:Option Addr}{n cp:Nat}(hx:x<w.heap.size)(hl:w.cell? ⟨x,1,none⟩=some (.slice ad n cp))(hn:256<=n):
 Calls prog 32 #[ptr x 0,oval o] w λe' w'=>e'=.returned (.int .i64 8)/\Below w.heap.size w w':=by
 have hn':(n:Int)>=256:=by omega
 unfold E8 at hp;unfold xI at hb;rcases hp with hp|⟨hp,qb,qo,U8⟩<;>rcases hb with hb|⟨hb,pb,po,hv,fZ,hpb,hc,h10⟩
 all_goals
  have bx:=iZ w o;have k3:=bx.k3
  first
   |(have hp':(o.Parent !=0)=false:=by simp[hp])
   |(have hp':(o.Parent !=0)=true:=by simp[hp])
  first
   |(have hb':(o.Before !=0)=false:=by simp[hb])
   |(have hb':(o.Before !=0)=true:=by simp[hb])
  clear hp hb
  go_enter func32,ntmps32
  go_wp2_with (first|(go_at_call 72;refine(h72 _ (al w _)).mono ?_;rintro e w1 ⟨rfl,hw1⟩;have k4:=(bx.below hw1).k4;have k6:=(bx.below hw1).k6)|(go_at_call 73;refine(U8 _ (Below.and (al w _) hw1)).mono ?_;rintro e wp ⟨rfl,hwp⟩;have ED:=(bx.below (Below.and hw1 hwp)).k4;have KE:=(bx.below (Below.and hw1 hwp)).k6)|(go_at_call 74;refine(Y5 _ (Below.and (al w _) (Below.and hw1 hwp))).mono ?_;rintro e w2 ⟨rfl,hw2⟩)|(go_at_call 74;refine(Y5 _ (Below.and (al w _) hw1)).mono ?_;rintro e w2 ⟨rfl,hw2⟩))
  first
   |(have V5:=bx.below (Below.and hw1 (Below.and hwp hw2))
     have hS:=Below.and (al w _) (Below.and hw1 (Below.and hwp hw2))
     clear k3 k4 k6 hw1 hw2 hwp ED KE U8 h72 Y5 bx)
   |(have V5:=bx.below (Below.and hw1 hw2)
     have hS:=Below.and (al w _) (Below.and hw1 hw2)
     clear k3 k4 k6 hw1 hw2 h72 Y5 bx)
  have g4:=V5.k4;have g5:=V5.k5
  first
   |(have hc2:=(hS.cell (p:=⟨pb,po,none⟩) hpb).trans hc
     go_region_held3 (λw'=>w'.cell? ⟨w.heap.size,4,none⟩=some (.int .i64 o.Parent)/\w'.cell? ⟨w.heap.size,5,none⟩=some (.int .i64 o.Before)/\w'.cell? ⟨pb,po,none⟩=some hv) (go_keep) (first|(go_at_call 75;refine(fZ _ (Below.and hS (dr _))).mono ?_;rintro e w3 ⟨rfl,hw3⟩;have aS:=V5.below (Below.and (dr _) hw3);have JI:=aS.k4;have JK:=aS.k5;have JM:=((Below.and hS (Below.and (dr _) hw3)).cell (p:=⟨pb,po,none⟩) hpb).trans hc)|(go_at_call 10;refine(h10 _ (Below.and hS (Below.and (dr _) hw3))).mono ?_;rintro e w4 ⟨rfl,hw4⟩;have bY:=aS.below hw4;have JJ:=bY.k4;have JL:=bY.k5;have JO:=((Below.and hS (Below.and (dr _) (Below.and hw3 hw4))).cell (p:=⟨pb,po,none⟩) hpb).trans hc))
     have hT:=Below.and hS (Below.and (dr w2) (Below.and hw3 hw4))
     clear hc2 g4 g5 JI JK JM JJ JL JO aS V5 hw3 hw4 hS fZ h10)
   |(go_quiet (fail)
     rename_i nq;have bY:=V5.below (dn w2 nq);have hT:=Below.and hS (dn w2 nq)
     clear g4 g5 hS V5)
  have m8:=bY.k8
  go_wp2_with (go_at_call 76;refine(kC _ hT).mono ?_;rintro e w5 ⟨rfl,hw5⟩;have c1:=((Below.and hT hw5).cell (p:=⟨x,1,none⟩) hx).trans hl)
  go_ret
  exact⟨rfl,Below.and hT hw5⟩
end
section
open Go Go.F6 Go.RowKit Proofs.Tryz
set_option maxRecDepth 100000
set_option maxHeartbeats 4000000
attribute [local go_sem ↓] Go.wp_at_zero Go.wp_at_succ
theorem cr7{w0:World}{L:Lay}{Q Q':World->Prop}{z:Int}{a:Nat}{w:World}{o:Opn}(h72:At w 72 #[ptr L.x 0,.int .i64 o.Unit] (.tuple #[.int .i64 a,.bool false]))(hp:E8 w L.x o.Parent)(Y5:At w 74 #[ptr L.x 0,.int .i64 o.Parent,.int .i64 o.Level] (.int .i64 0))(hb:xI w L.x o true)(kC:At w 76 #[ptr L.x 0,.string ⟨⟨o.Mark⟩⟩,.int .i64 0] (.bool false))(hE:Ed w0 w L)(hn:L.rows.length<256)(ha:a<=L.rows.length)(hins:NP 77 52 6)
 (hput:∀(W:World)(v':Value)(o':Option Nat),Ed w0 W { L with bv:=v',bo:=o',rows:=L.rows.take a++[newRow o]++L.rows.drop a }->Calls prog 78 #[ptr L.x 0,.int .i64 o.Unit,.int .i64 o.Parent,.int .i64 o.Before] W λe W'=>e=.returned (.tuple #[])/\Q W')
 (hlim:∀W,Q W->Calls prog 79 #[ptr L.x 0] W λe W'=>e=.returned (.int .i64 z)/\Q' W'):
 Calls prog 32 #[ptr L.x 0,oval o] w λe' w'=>e'=.returned (.int .i64 z)/\Q' w':=by
 obtain⟨ad,cp,hbv,hcp⟩:=hE.hb.sl;have hx:=hE.bD (p:=.x) rfl;have hl:=hE.c1;rw[hbv]at hl;have hn':¬((L.rows.length:Int)>=256):=by omega
 have hI':∀W:World,Below w.heap.size w W->Calls prog 77 #[.slice ad L.rows.length cp,.int .i64 a,.slice (some ⟨W.heap.size,0,none⟩) 1 1] (W.drew.alloc (.cells #[.int .i64 o.Unit,.int .i64 o.Parent,.int .i64 o.Level,.string ⟨⟨o.Title⟩⟩,.string ⟨⟨o.Mark⟩⟩,.slice none 0 0] 52)) λe W'=>
  ∃ad' cp' o',e=.returned (.slice ad' (L.rows.length+1) cp')/\(∀c k,w.heap.size<=c->c<W.heap.size->W'.cell? ⟨c,k,none⟩=W.cell? ⟨c,k,none⟩)/\W'.cell? ⟨L.x,1,none⟩=some (.slice ad L.rows.length cp)/\W'.frozen? ⟨L.x,1,none⟩=false/\
  Ed w0 (W'.setCell ⟨L.x,1,none⟩ (.slice ad' (L.rows.length+1) cp')) { L with bv:=.slice ad' (L.rows.length+1) cp',bo:=o',rows:=L.rows.take a++[newRow o]++L.rows.drop a }:=λW hW=>by
  have hb:Below w.heap.size w (W.drew.alloc (.cells #[.int .i64 o.Unit,.int .i64 o.Parent,.int .i64 o.Level,.string ⟨⟨o.Title⟩⟩,.string ⟨⟨o.Mark⟩⟩,.slice none 0 0] 52)):=Below.and hW (Below.and (dr W) (al W.drew _));have hE':=hE.below hb;rw[<-hbv];refine(hins hE'.hb ha (by omega) (aW W.drew _) (by simp) (λv hv=>?_) (λh=>by have:=hE.hb.lt h;have:=hW.size;have e:W.drew.heap.size=W.heap.size:=rfl;omega)).mono ?_
  .simp at hv;rcases hv with rfl|rfl|rfl|rfl|rfl|rfl<;>rfl
  .rintro e W' ⟨v',o',rfl,hO,ho',hf⟩;obtain⟨ad',cp',rfl,dK7⟩:=hO.sl;have hkx:W'.heap[L.x]?=_:=(hf.block L.x (hE'.bD (p:=.x) rfl) (λh=>by have:=hE.nd .b .x L.x h rfl;cases this)).trans hE'.hx;have hsz:W.heap.size<=(W.drew.alloc (.cells #[.int .i64 o.Unit,.int .i64 o.Parent,.int .i64 o.Level,.string ⟨⟨o.Title⟩⟩,.string ⟨⟨o.Mark⟩⟩,.slice none 0 0] 52)).heap.size:=(Below.and (dr W) (al W.drew _)).size;refine⟨ad',cp',o',rfl,λc k h1 h2=>?_,(O5 hkx rfl).1,(O5 hkx rfl).2,?_⟩
   .refine CB (a:=⟨c,k,none⟩) ((hf.block c (Z5 h2 hsz) (λh=>by have:=hE.hb.lt h;omega)).trans ((Below.and (dr W) (al W.drew _)).block c h2))
   .refine hE'.setB (rows':=L.rows.take a++[newRow o]++L.rows.drop a) (by rw[cL3 ha,aS3,aS3,bK1,bK0];exact hO) (λc hc=>?_) hf (KA a) (λi r hr=>?_) (cL2 a)
    .rcases ho' with rfl|⟨b',rfl,hsz⟩
     .exact .inl hc
     .injection hc with hc;subst hc;exact .inr hsz
    .rcases cL0 ha hr with⟨j,h1,h2⟩|⟨h1,rfl⟩
     .exact .inl ⟨j,h1,h2⟩
     .exact .inr ⟨h1,rfl,rfl,rfl⟩
 have H:=Lib.hid hbv;clear hbv;unfold E8 at hp;unfold xI at hb;rcases hp with hp|⟨hp,qb,qo,U8⟩<;>rcases hb with hb|⟨hb,pb,po,hv,fZ,hpb,hc,h10⟩
 all_goals
  have bx:=iZ w o;have k3:=bx.k3
  first
   |(have hp':(o.Parent !=0)=false:=by simp[hp])
   |(have hp':(o.Parent !=0)=true:=by simp[hp])
  first
   |(have hb':(o.Before !=0)=false:=by simp[hb])
   |(have hb':(o.Before !=0)=true:=by simp[hb])
  clear hp hb
  go_enter func32,ntmps32
  go_wp2_with (first|(go_at_call 72;refine(h72 _ (al w _)).mono ?_;rintro e w1 ⟨rfl,hw1⟩;have k4:=(bx.below hw1).k4;have k6:=(bx.below hw1).k6)|(go_at_call 73;refine(U8 _ (Below.and (al w _) hw1)).mono ?_;rintro e wp ⟨rfl,hwp⟩;have ED:=(bx.below (Below.and hw1 hwp)).k4;have KE:=(bx.below (Below.and hw1 hwp)).k6)|(go_at_call 74;refine(Y5 _ (Below.and (al w _) (Below.and hw1 hwp))).mono ?_;rintro e w2 ⟨rfl,hw2⟩)|(go_at_call 74;refine(Y5 _ (Below.and (al w _) hw1)).mono ?_;rintro e w2 ⟨rfl,hw2⟩))
  first
   |(have V5:=bx.below (Below.and hw1 (Below.and hwp hw2))
     have hS:=Below.and (al w _) (Below.and hw1 (Below.and hwp hw2))
     clear k3 k4 k6 hw1 hw2 hwp ED KE U8 h72 Y5 bx)
   |(have V5:=bx.below (Below.and hw1 hw2)
     have hS:=Below.and (al w _) (Below.and hw1 hw2)
     clear k3 k4 k6 hw1 hw2 h72 Y5 bx)
  have g4:=V5.k4;have g5:=V5.k5
  first
   |(have hc2:=(hS.cell (p:=⟨pb,po,none⟩) hpb).trans hc
     go_region_held3 (λw'=>w'.cell? ⟨w.heap.size,4,none⟩=some (.int .i64 o.Parent)/\w'.cell? ⟨w.heap.size,5,none⟩=some (.int .i64 o.Before)/\w'.cell? ⟨pb,po,none⟩=some hv) (go_keep) (first|(go_at_call 75;refine(fZ _ (Below.and hS (dr _))).mono ?_;rintro e w3 ⟨rfl,hw3⟩;have aS:=V5.below (Below.and (dr _) hw3);have JI:=aS.k4;have JK:=aS.k5;have JM:=((Below.and hS (Below.and (dr _) hw3)).cell (p:=⟨pb,po,none⟩) hpb).trans hc)|(go_at_call 10;refine(h10 _ (Below.and hS (Below.and (dr _) hw3))).mono ?_;rintro e w4 ⟨rfl,hw4⟩;have bY:=aS.below hw4;have JJ:=bY.k4;have JL:=bY.k5;have JO:=((Below.and hS (Below.and (dr _) (Below.and hw3 hw4))).cell (p:=⟨pb,po,none⟩) hpb).trans hc))
     have hT:=Below.and hS (Below.and (dr w2) (Below.and hw3 hw4))
     clear hc2 g4 g5 JI JK JM JJ JL JO aS V5 hw3 hw4 hS fZ h10)
   |(go_quiet (fail)
     rename_i nq;have bY:=V5.below (dn w2 nq);have hT:=Below.and hS (dn w2 nq)
     clear g4 g5 hS V5)
  have m8:=bY.k8
  go_wp2_with (go_at_call 76;refine(kC _ hT).mono ?_;rintro e w5 ⟨rfl,hw5⟩;have c1:=((Below.and hT hw5).cell (p:=⟨L.x,1,none⟩) hx).trans hl;have fO:=bY.below hw5;have q3:=fO.k3;have q4:=fO.k4;have q6:=fO.k6;have q7:=fO.k7;have q8:=fO.k8)
  have gU:Below w.heap.size w (w5.alloc (.cells #[.int .i64 o.Unit,.int .i64 o.Parent,.int .i64 o.Level,.string ⟨⟨o.Title⟩⟩,.string ⟨⟨o.Mark⟩⟩] 50)):=Below.and hT (Below.and hw5 (al w5 _));have hu:=aW w5 (.cells #[.int .i64 o.Unit,.int .i64 o.Parent,.int .i64 o.Level,.string ⟨⟨o.Title⟩⟩,.string ⟨⟨o.Mark⟩⟩] 50);have kR:=fO.below (al w5 (.cells #[.int .i64 o.Unit,.int .i64 o.Parent,.int .i64 o.Level,.string ⟨⟨o.Title⟩⟩,.string ⟨⟨o.Mark⟩⟩] 50));have hx5:=(Below.and hT hw5).size;clear m8 q3 q4 q6 q7 q8 bY fO c1 hw5 hT kC;generalize w5.alloc (.cells #[.int .i64 o.Unit,.int .i64 o.Parent,.int .i64 o.Level,.string ⟨⟨o.Title⟩⟩,.string ⟨⟨o.Mark⟩⟩] 50)=W5 at gU hu kR⊢;generalize w5.heap.size=u at hu hx5⊢;have c1:=(gU.cell (p:=⟨L.x,1,none⟩) hx).trans hl;have u0:=(O5 (o:=0) hu rfl).1;have u1:=(O5 (o:=1) hu rfl).1;have u2:=(O5 (o:=2) hu rfl).1;have u3:=(O5 (o:=3) hu rfl).1;have u4:=(O5 (o:=4) hu rfl).1;have hu5:u<W5.heap.size:=(V4.1 hu).1;have hx6:L.x<W5.heap.size:=Z5 hx gU.size;have hI:=hI' W5 gU;have hb6:=kR.lt;have hxo:w.heap.size≠L.x:=by omega
  go_region_with
   (first|(go_at_call 77;refine hI.mono ?_;rintro e w7 ⟨ad',cp',o',rfl,hold,c7,f7,hE7⟩;have v3:=(OJ w7 1 (.slice ad' (L.rows.length+1) cp') hxo 3).trans ((hold _ 3 (J6 _) hb6).trans kR.k3);have v4:=(OJ w7 1 (.slice ad' (L.rows.length+1) cp') hxo 4).trans ((hold _ 4 (J6 _) hb6).trans kR.k4);have v5:=(OJ w7 1 (.slice ad' (L.rows.length+1) cp') hxo 5).trans ((hold _ 5 (J6 _) hb6).trans kR.k5);clear hold))
  all_goals
   go_wp2_with (first|(go_at_call 78;refine(hput _ _ _ hE7).mono ?_;rintro e w8 ⟨rfl,hQ⟩)|(go_at_call 79;refine(hlim _ hQ).mono ?_;rintro e w9 ⟨rfl,hQ'⟩))
   go_ret
   exact⟨rfl,hQ'⟩
end
section
open Go Go.F6 Go.RowKit Proofs.Tryz
set_option maxRecDepth 100000
set_option maxHeartbeats 4000000
attribute [local go_sem ↓] Go.wp_at_zero Go.wp_at_succ
theorem Bx.hold{w w':World}{p:Nat}{o:Opn}(h:Bx w p o)(hw:∀k,w'.cell? ⟨p,k,none⟩=w.cell? ⟨p,k,none⟩):Bx w' p o:=
 ⟨(hw 3).trans h.k3,(hw 4).trans h.k4,(hw 5).trans h.k5,(hw 6).trans h.k6,(hw 7).trans h.k7,(hw 8).trans h.k8⟩
theorem cS4{w:World}{x:Nat}{o:Opn}(U8:At w 73 #[ptr x 0,.int .i64 o.Unit] (.pointer none)):
 Calls prog 33 #[ptr x 0,oval o] w λe w'=>e=.returned (.int .i64 7)/\Below w.heap.size w w':=by
 have k3:=(iZ w o).k3
 go_enter func33,ntmps33
 go_wp2_with (go_at_call 73;refine(U8 _ (al w _)).mono ?_;rintro e w1 ⟨rfl,hw1⟩)
 go_ret
 exact⟨rfl,Below.and (al w _) hw1⟩
theorem cS5{w:World}{x b p:Nat}{o:Opn}(U8:At w 73 #[ptr x 0,.int .i64 o.Unit] (ptr b p))(hp:o.Parent≠0)(lM:At w 73 #[ptr x 0,.int .i64 o.Parent] (.pointer none)):
 Calls prog 33 #[ptr x 0,oval o] w λe w'=>e=.returned (.int .i64 7)/\Below w.heap.size w w':=by
 have bx:=iZ w o;have k3:=bx.k3;have hp':(o.Parent !=0)=true:=by simp[hp]
 clear hp
 go_enter func33,ntmps33
 go_wp2_with fail
 refine(U8 _ (al w _)).mono ?_;rintro e w1 ⟨rfl,hw1⟩;have k4:=(bx.below hw1).k4;clear U8
 go_wp2_with (go_at_call 73;refine(lM _ (Below.and (al w _) hw1)).mono ?_;rintro e w2 ⟨rfl,hw2⟩)
 go_ret
 exact⟨rfl,Below.and (Below.and (al w _) hw1) hw2⟩
theorem cS6{w:World}{x:Nat}{o:Opn}{b k:Nat}{rv bv:Value}(hx:x<w.heap.size)(hc0:w.cell? ⟨x,0,none⟩=some rv)(hc1:w.cell? ⟨x,1,none⟩=some bv)(U8:At w 73 #[ptr x 0,.int .i64 o.Unit] (ptr b (k*6)))(hp:E8 w x o.Parent)(h21:∀W,Below w.heap.size w W->Calls prog 21 #[.agg #[rv,bv],.int .i64 o.Unit] W λe W'=>∃v e9,e=.returned (.tuple #[v,.int .i64 e9])/\Below W.heap.size W W'/\At W' 10 #[v,.int .i64 o.Parent] (.bool true)):
 Calls prog 33 #[ptr x 0,oval o] w λe' w'=>e'=.returned (.int .i64 17)/\Below w.heap.size w w':=by
 unfold E8 at hp;rcases hp with hp|⟨hp,qb,qo,lM⟩
 all_goals
  have bx:=iZ w o;have k3:=bx.k3
  first
   |(have hp':(o.Parent !=0)=false:=by simp[hp])
   |(have hp':(o.Parent !=0)=true:=by simp[hp])
  clear hp
  go_enter func33,ntmps33
  go_wp2_with fail
  refine(U8 _ (al w _)).mono ?_;rintro e w1 ⟨rfl,hw1⟩;have k4:=(bx.below hw1).k4;clear U8
  first
   |(have g0:=lM
     go_wp2_with (go_at_call 73;refine(lM _ (Below.and (al w _) hw1)).mono ?_;rintro e w2 ⟨rfl,hw2⟩)
     have hS:=Below.and (al w _) (Below.and hw1 hw2);have V5:=bx.below (Below.and hw1 hw2)
     clear g0 hw2 lM)
   |(go_wp2_with fail
     have hS:=Below.and (al w _) hw1;have V5:=bx.below hw1;obtain⟨w2,hw2⟩:∃w2,w2=w1:=⟨_,rfl⟩;rw[<-hw2]at hS V5⊢
     clear hw2)
  clear k3 k4 hw1 bx;have g3:=V5.k3;have d0:=(hS.cell (p:=⟨x,0,none⟩) hx).trans hc0;have d1:=(hS.cell (p:=⟨x,1,none⟩) hx).trans hc1
  go_region_held3 (λw'=>w'.cell? ⟨w.heap.size,3,none⟩=some (.int .i64 o.Unit)/\w'.cell? ⟨x,0,none⟩=some rv/\w'.cell? ⟨x,1,none⟩=some bv) (go_keep)
   (first|(go_at_call 21;refine(h21 _ (Below.and hS (dr _))).mono ?_;rintro e w3 ⟨v,e9,rfl,hw3,h10⟩;have aS:=V5.below (Below.and (dr _) hw3);have JH:=aS.k3;have IV:=((Below.and hS (Below.and (dr _) hw3)).cell (p:=⟨x,0,none⟩) hx).trans hc0;have d13:=((Below.and hS (Below.and (dr _) hw3)).cell (p:=⟨x,1,none⟩) hx).trans hc1))
  have hT:=Below.and hS (Below.and (dr w2) hw3);clear g3 d0 d1 JH IV d13 V5 h21 hw3 hS;have m4:=aS.k4
  go_wp2_with (go_at_call 10;refine h10.here.mono ?_;rintro e w4 ⟨rfl,hw4⟩)
  go_ret
  exact⟨rfl,Below.and hT hw4⟩
theorem cS7{w:World}{x:Nat}{o:Opn}{b k:Nat}{rv bv:Value}(hx:x<w.heap.size)(hc0:w.cell? ⟨x,0,none⟩=some rv)(hc1:w.cell? ⟨x,1,none⟩=some bv)(U8:At w 73 #[ptr x 0,.int .i64 o.Unit] (ptr b (k*6)))(hp:E8 w x o.Parent)(h21:∀W,Below w.heap.size w W->Calls prog 21 #[.agg #[rv,bv],.int .i64 o.Unit] W λe W'=>∃v e9,e=.returned (.tuple #[v,.int .i64 e9])/\Below W.heap.size W W'/\At W' 10 #[v,.int .i64 o.Parent] (.bool false))(hb:b<w.heap.size){uT z:Int}(oO:w.cell? ⟨b,k*6+2,none⟩=some (.int .i64 uT))(Y5:At w 74 #[ptr x 0,.int .i64 o.Parent,.int .i64 uT] (.int .i64 z))(hz:z≠0):
 Calls prog 33 #[ptr x 0,oval o] w λe' w'=>e'=.returned (.int .i64 z)/\Below w.heap.size w w':=by
 unfold E8 at hp;rcases hp with hp|⟨hp,qb,qo,lM⟩
 all_goals
  have bx:=iZ w o;have k3:=bx.k3
  first
   |(have hp':(o.Parent !=0)=false:=by simp[hp])
   |(have hp':(o.Parent !=0)=true:=by simp[hp])
  clear hp;have hz':(z !=0)=true:=by simp[hz]
  clear hz
  go_enter func33,ntmps33
  go_wp2_with fail
  refine(U8 _ (al w _)).mono ?_;rintro e w1 ⟨rfl,hw1⟩;have k4:=(bx.below hw1).k4;clear U8
  first
   |(have g0:=lM
     go_wp2_with (go_at_call 73;refine(lM _ (Below.and (al w _) hw1)).mono ?_;rintro e w2 ⟨rfl,hw2⟩)
     have hS:=Below.and (al w _) (Below.and hw1 hw2);have V5:=bx.below (Below.and hw1 hw2)
     clear g0 hw2 lM)
   |(go_wp2_with fail
     have hS:=Below.and (al w _) hw1;have V5:=bx.below hw1;obtain⟨w2,hw2⟩:∃w2,w2=w1:=⟨_,rfl⟩;rw[<-hw2]at hS V5⊢
     clear hw2)
  clear k3 k4 hw1 bx;have g3:=V5.k3;have d0:=(hS.cell (p:=⟨x,0,none⟩) hx).trans hc0;have d1:=(hS.cell (p:=⟨x,1,none⟩) hx).trans hc1
  go_region_held3 (λw'=>w'.cell? ⟨w.heap.size,3,none⟩=some (.int .i64 o.Unit)/\w'.cell? ⟨x,0,none⟩=some rv/\w'.cell? ⟨x,1,none⟩=some bv) (go_keep)
   (first|(go_at_call 21;refine(h21 _ (Below.and hS (dr _))).mono ?_;rintro e w3 ⟨v,e9,rfl,hw3,h10⟩;have aS:=V5.below (Below.and (dr _) hw3);have JH:=aS.k3;have IV:=((Below.and hS (Below.and (dr _) hw3)).cell (p:=⟨x,0,none⟩) hx).trans hc0;have d13:=((Below.and hS (Below.and (dr _) hw3)).cell (p:=⟨x,1,none⟩) hx).trans hc1))
  have hT:=Below.and hS (Below.and (dr w2) hw3);clear g3 d0 d1 JH IV d13 V5 h21 hw3 hS;have m4:=aS.k4
  go_wp2_with (go_at_call 10;refine h10.here.mono ?_;rintro e w4 ⟨rfl,hw4⟩)
  have hT2:=Below.and hT hw4;have bY:=aS.below hw4;have n4:=bY.k4;have l4:=(hT2.cell (p:=⟨b,k*6+2,none⟩) hb).trans oO;clear m4 hT aS hw4 h10
  go_region_held3 (λw'=>w'.cell? ⟨w.heap.size,4,none⟩=some (.int .i64 o.Parent)/\w'.cell? ⟨b,k*6+2,none⟩=some (.int .i64 uT)) (go_keep)
   (first|(go_at_call 74;refine(Y5 _ (Below.and hT2 (dr _))).mono ?_;rintro e w5 ⟨rfl,hw5⟩;have fO:=bY.below (Below.and (dr _) hw5);have n5:=fO.k4;have l5:=((Below.and hT2 (Below.and (dr _) hw5)).cell (p:=⟨b,k*6+2,none⟩) hb).trans oO))
  have gU:=Below.and hT2 (Below.and (dr w4) hw5);clear n4 l4 n5 l5 bY hT2 hw5 Y5
  go_wp2_with fail
  go_ret
  exact⟨rfl,gU⟩
theorem bA5{w:World}{x:Nat}{o:Opn}{b k:Nat}{rv bv:Value}(hx:x<w.heap.size)(hc0:w.cell? ⟨x,0,none⟩=some rv)(hc1:w.cell? ⟨x,1,none⟩=some bv)(U8:At w 73 #[ptr x 0,.int .i64 o.Unit] (ptr b (k*6)))(hp:E8 w x o.Parent)(h21:∀W,Below w.heap.size w W->Calls prog 21 #[.agg #[rv,bv],.int .i64 o.Unit] W λe W'=>∃v e9,e=.returned (.tuple #[v,.int .i64 e9])/\Below W.heap.size W W'/\At W' 10 #[v,.int .i64 o.Parent] (.bool false))(hb:b<w.heap.size){uT:Int}(oO:w.cell? ⟨b,k*6+2,none⟩=some (.int .i64 uT))(Y5:At w 74 #[ptr x 0,.int .i64 o.Parent,.int .i64 uT] (.int .i64 0))(hb0:o.Before≠0)(hb:o.Before=o.Unit\/(o.Before≠o.Unit/\∃(pb po:Nat) (hv:Value),At w 75 #[ptr x 0,.int .i64 o.Parent] (ptr pb po)/\pb<w.heap.size/\w.cell? ⟨pb,po,none⟩=some hv/\At w 10 #[hv,.int .i64 o.Before] (.bool false))):
 Calls prog 33 #[ptr x 0,oval o] w λe' w'=>e'=.returned (.int .i64 7)/\Below w.heap.size w w':=by
 unfold E8 at hp;rcases hp with hp|⟨hp,qb,qo,lM⟩<;>rcases hb with hbu|⟨hbu,pb,po,hv,fZ,hpb,hc,aF1⟩
 all_goals
  have bx:=iZ w o;have k3:=bx.k3
  first
   |(have hp':(o.Parent !=0)=false:=by simp[hp])
   |(have hp':(o.Parent !=0)=true:=by simp[hp])
  clear hp;have hb':(o.Before !=0)=true:=by simp[hb0]
  first
   |(have hu':(o.Before==o.Unit)=true:=by simp[hbu])
   |(have hu':(o.Before==o.Unit)=false:=by simp[hbu])
  clear hb0 hbu
  go_enter func33,ntmps33
  go_wp2_with fail
  refine(U8 _ (al w _)).mono ?_;rintro e w1 ⟨rfl,hw1⟩;have k4:=(bx.below hw1).k4;clear U8
  first
   |(have g0:=lM
     go_wp2_with (go_at_call 73;refine(lM _ (Below.and (al w _) hw1)).mono ?_;rintro e w2 ⟨rfl,hw2⟩)
     have hS:=Below.and (al w _) (Below.and hw1 hw2);have V5:=bx.below (Below.and hw1 hw2)
     clear g0 hw2 lM)
   |(go_wp2_with fail
     have hS:=Below.and (al w _) hw1;have V5:=bx.below hw1;obtain⟨w2,hw2⟩:∃w2,w2=w1:=⟨_,rfl⟩;rw[<-hw2]at hS V5⊢
     clear hw2)
  clear k3 k4 hw1 bx;have g3:=V5.k3;have d0:=(hS.cell (p:=⟨x,0,none⟩) hx).trans hc0;have d1:=(hS.cell (p:=⟨x,1,none⟩) hx).trans hc1
  go_region_held3 (λw'=>w'.cell? ⟨w.heap.size,3,none⟩=some (.int .i64 o.Unit)/\w'.cell? ⟨x,0,none⟩=some rv/\w'.cell? ⟨x,1,none⟩=some bv) (go_keep)
   (first|(go_at_call 21;refine(h21 _ (Below.and hS (dr _))).mono ?_;rintro e w3 ⟨v,e9,rfl,hw3,h10⟩;have aS:=V5.below (Below.and (dr _) hw3);have JH:=aS.k3;have IV:=((Below.and hS (Below.and (dr _) hw3)).cell (p:=⟨x,0,none⟩) hx).trans hc0;have d13:=((Below.and hS (Below.and (dr _) hw3)).cell (p:=⟨x,1,none⟩) hx).trans hc1))
  have hT:=Below.and hS (Below.and (dr w2) hw3);clear g3 d0 d1 JH IV d13 V5 h21 hw3 hS;have m4:=aS.k4
  go_wp2_with (go_at_call 10;refine h10.here.mono ?_;rintro e w4 ⟨rfl,hw4⟩)
  have hT2:=Below.and hT hw4;have bY:=aS.below hw4;have n4:=bY.k4;have l4:=(hT2.cell (p:=⟨b,k*6+2,none⟩) hb).trans oO;clear m4 hT aS hw4 h10
  go_region_held3 (λw'=>w'.cell? ⟨w.heap.size,4,none⟩=some (.int .i64 o.Parent)/\w'.cell? ⟨b,k*6+2,none⟩=some (.int .i64 uT)) (go_keep)
   (first|(go_at_call 74;refine(Y5 _ (Below.and hT2 (dr _))).mono ?_;rintro e w5 ⟨rfl,hw5⟩;have fO:=bY.below (Below.and (dr _) hw5);have n5:=fO.k4;have l5:=((Below.and hT2 (Below.and (dr _) hw5)).cell (p:=⟨b,k*6+2,none⟩) hb).trans oO))
  have gU:=Below.and hT2 (Below.and (dr w4) hw5);clear n4 l4 n5 l5 bY hT2 hw5 Y5
  go_wp2_with fail
  have r5:=fO.k5;have r3:=fO.k3;have r4:=fO.k4
  first
   |(have hc2:=(gU.cell (p:=⟨pb,po,none⟩) hpb).trans hc
     go_region_held3 (λw'=>w'.cell? ⟨w.heap.size,3,none⟩=some (.int .i64 o.Unit)/\w'.cell? ⟨w.heap.size,4,none⟩=some (.int .i64 o.Parent)/\w'.cell? ⟨w.heap.size,5,none⟩=some (.int .i64 o.Before)/\w'.cell? ⟨pb,po,none⟩=some hv) (go_keep)
      (first|(go_at_call 75;refine(fZ _ (Below.and gU (dr _))).mono ?_;rintro e w6 ⟨rfl,hw6⟩;have kR:=fO.below (Below.and (dr _) hw6);have g36:=kR.k3;have g46:=kR.k4;have g56:=kR.k5;have gc6:=((Below.and gU (Below.and (dr _) hw6)).cell (p:=⟨pb,po,none⟩) hpb).trans hc)|(go_at_call 10;refine(aF1 _ (Below.and gU (Below.and (dr _) hw6))).mono ?_;rintro e w7 ⟨rfl,hw7⟩;have pY:=kR.below hw7;have g37:=pY.k3;have g47:=pY.k4;have g57:=pY.k5;have gc7:=((Below.and gU (Below.and (dr _) (Below.and hw6 hw7))).cell (p:=⟨pb,po,none⟩) hpb).trans hc))
     all_goals (have WX:=Below.and gU (Below.and (dr w5) (Below.and hw6 hw7))))
   |(go_quiet (fail)
     rename_i nq;have kR:=fO.below (dn w5 nq);have WX:=Below.and gU (dn w5 nq)
     clear r5 r3 r4 fO gU)
  all_goals (go_wp2;go_ret;exact⟨rfl,WX⟩)
end
section
open Go Go.F6 Go.RowKit Proofs.Tryz
set_option maxRecDepth 100000
set_option maxHeartbeats 4000000
attribute [local go_sem ↓] Go.wp_at_zero Go.wp_at_succ
theorem bA6{w:World}{x:Nat}{o:Opn}{b k:Nat}{rv bv:Value}(hx:x<w.heap.size)(hc0:w.cell? ⟨x,0,none⟩=some rv)(hc1:w.cell? ⟨x,1,none⟩=some bv)(U8:At w 73 #[ptr x 0,.int .i64 o.Unit] (ptr b (k*6)))(hp:E8 w x o.Parent)(h21:∀W,Below w.heap.size w W->Calls prog 21 #[.agg #[rv,bv],.int .i64 o.Unit] W λe W'=>∃v e9,e=.returned (.tuple #[v,.int .i64 e9])/\Below W.heap.size W W'/\At W' 10 #[v,.int .i64 o.Parent] (.bool false))(hb:b<w.heap.size){uT:Int}(oO:w.cell? ⟨b,k*6+2,none⟩=some (.int .i64 uT))(Y5:At w 74 #[ptr x 0,.int .i64 o.Parent,.int .i64 uT] (.int .i64 0))(hb:o.Before=0\/(o.Before≠0/\o.Before≠o.Unit/\∃(pb po:Nat) (hv:Value),At w 75 #[ptr x 0,.int .i64 o.Parent] (ptr pb po)/\pb<w.heap.size/\w.cell? ⟨pb,po,none⟩=some hv/\At w 10 #[hv,.int .i64 o.Before] (.bool true))){w0:World}{R:Lay->Prop}{Q Q':World->Prop}{z:Int}
 (htake:∀W,Below w.heap.size w W->Calls prog 80 #[ptr x 0,.int .i64 o.Unit] W λe W'=>e=.returned (.tuple #[])/\(∀c j,w.heap.size<=c->c<W.heap.size->W'.cell? ⟨c,j,none⟩=W.cell? ⟨c,j,none⟩)/\∃L2 r2,Ed w0 W' L2/\L2.bo=some b/\R L2/\L2.rows[k]?=some r2)
 (hput:∀W L2 r2,R L2->L2.rows[k]?=some r2->Ed w0 W { L2 with rows:=L2.rows.set k ⟨{ r2.b with Unit:={ r2.b.Unit with Parent:=o.Parent } },r2.k,r2.o⟩ }->Calls prog 78 #[ptr x 0,.int .i64 o.Unit,.int .i64 o.Parent,.int .i64 o.Before] W λe W'=>e=.returned (.tuple #[])/\Q W')
 (hlim:∀W,Q W->Calls prog 79 #[ptr x 0] W λe W'=>e=.returned (.int .i64 z)/\Q' W'):
 Calls prog 33 #[ptr x 0,oval o] w λe' w'=>e'=.returned (.int .i64 z)/\Q' w':=by
 unfold E8 at hp;rcases hp with hp|⟨hp,qb,qo,lM⟩<;>rcases hb with hb0|⟨hb0,hbu,pb,po,hv,fZ,hpb,hc,aF1⟩
 all_goals
  have bx:=iZ w o;have k3:=bx.k3
  first
   |(have hp':(o.Parent !=0)=false:=by simp[hp])
   |(have hp':(o.Parent !=0)=true:=by simp[hp])
  clear hp
  first
   |(have hu':(o.Before==o.Unit)=false:=by simp[hbu]
     have hb':(o.Before !=0)=true:=by simp[hb0]
     clear hbu)
   |(have hb':(o.Before !=0)=false:=by simp[hb0])
  clear hb0
  go_enter func33,ntmps33
  go_wp2_with fail
  refine(U8 _ (al w _)).mono ?_;rintro e w1 ⟨rfl,hw1⟩;have k4:=(bx.below hw1).k4;clear U8
  first
   |(have g0:=lM
     go_wp2_with (go_at_call 73;refine(lM _ (Below.and (al w _) hw1)).mono ?_;rintro e w2 ⟨rfl,hw2⟩)
     have hS:=Below.and (al w _) (Below.and hw1 hw2);have V5:=bx.below (Below.and hw1 hw2)
     clear g0 hw2 lM)
   |(go_wp2_with fail
     have hS:=Below.and (al w _) hw1;have V5:=bx.below hw1;obtain⟨w2,hw2⟩:∃w2,w2=w1:=⟨_,rfl⟩;rw[<-hw2]at hS V5⊢
     clear hw2)
  clear k3 k4 hw1 bx;have g3:=V5.k3;have d0:=(hS.cell (p:=⟨x,0,none⟩) hx).trans hc0;have d1:=(hS.cell (p:=⟨x,1,none⟩) hx).trans hc1
  go_region_held3 (λw'=>w'.cell? ⟨w.heap.size,3,none⟩=some (.int .i64 o.Unit)/\w'.cell? ⟨x,0,none⟩=some rv/\w'.cell? ⟨x,1,none⟩=some bv) (go_keep)
   (first|(go_at_call 21;refine(h21 _ (Below.and hS (dr _))).mono ?_;rintro e w3 ⟨v,e9,rfl,hw3,h10⟩;have aS:=V5.below (Below.and (dr _) hw3);have JH:=aS.k3;have IV:=((Below.and hS (Below.and (dr _) hw3)).cell (p:=⟨x,0,none⟩) hx).trans hc0;have d13:=((Below.and hS (Below.and (dr _) hw3)).cell (p:=⟨x,1,none⟩) hx).trans hc1))
  have hT:=Below.and hS (Below.and (dr w2) hw3);clear g3 d0 d1 JH IV d13 V5 h21 hw3 hS;have m4:=aS.k4
  go_wp2_with (go_at_call 10;refine h10.here.mono ?_;rintro e w4 ⟨rfl,hw4⟩)
  have hT2:=Below.and hT hw4;have bY:=aS.below hw4;have n4:=bY.k4;have l4:=(hT2.cell (p:=⟨b,k*6+2,none⟩) hb).trans oO;clear m4 hT aS hw4 h10
  go_region_held3 (λw'=>w'.cell? ⟨w.heap.size,4,none⟩=some (.int .i64 o.Parent)/\w'.cell? ⟨b,k*6+2,none⟩=some (.int .i64 uT)) (go_keep)
   (first|(go_at_call 74;refine(Y5 _ (Below.and hT2 (dr _))).mono ?_;rintro e w5 ⟨rfl,hw5⟩;have fO:=bY.below (Below.and (dr _) hw5);have n5:=fO.k4;have l5:=((Below.and hT2 (Below.and (dr _) hw5)).cell (p:=⟨b,k*6+2,none⟩) hb).trans oO))
  have gU:=Below.and hT2 (Below.and (dr w4) hw5);clear n4 l4 n5 l5 bY hT2 hw5 Y5
  go_wp2_with fail
  have r5:=fO.k5;have r3:=fO.k3;have r4:=fO.k4
  first
   |(have hc2:=(gU.cell (p:=⟨pb,po,none⟩) hpb).trans hc
     go_region_held3 (λw'=>w'.cell? ⟨w.heap.size,3,none⟩=some (.int .i64 o.Unit)/\w'.cell? ⟨w.heap.size,4,none⟩=some (.int .i64 o.Parent)/\w'.cell? ⟨w.heap.size,5,none⟩=some (.int .i64 o.Before)/\w'.cell? ⟨pb,po,none⟩=some hv) (go_keep)
      (first|(go_at_call 75;refine(fZ _ (Below.and gU (dr _))).mono ?_;rintro e w6 ⟨rfl,hw6⟩;have kR:=fO.below (Below.and (dr _) hw6);have g36:=kR.k3;have g46:=kR.k4;have g56:=kR.k5;have gc6:=((Below.and gU (Below.and (dr _) hw6)).cell (p:=⟨pb,po,none⟩) hpb).trans hc)|(go_at_call 10;refine(aF1 _ (Below.and gU (Below.and (dr _) hw6))).mono ?_;rintro e w7 ⟨rfl,hw7⟩;have pY:=kR.below hw7;have g37:=pY.k3;have g47:=pY.k4;have g57:=pY.k5;have gc7:=((Below.and gU (Below.and (dr _) (Below.and hw6 hw7))).cell (p:=⟨pb,po,none⟩) hpb).trans hc))
     all_goals (have WX:=Below.and gU (Below.and (dr w5) (Below.and hw6 hw7))))
   |(go_quiet (fail)
     rename_i nq;have kR:=fO.below (dn w5 nq);have WX:=Below.and gU (dn w5 nq)
     clear r5 r3 r4 fO gU)
  all_goals
   have hbx:w.heap.size≠b:=by have:=hb;omega
   first|have pY:=pY|have pY:=kR
   have s3:=pY.k3
   go_wp2_with (first|(go_at_call 80;refine(htake _ WX).mono ?_;rintro e w8 ⟨rfl,hold,L2,r2,hE2,hb2,hR2,hr2⟩;have bx8:=Bx.hold pY (λj=>hold _ j (J6 _) pY.lt);have t4:=bx8.k4;have c8:=hE2.cell hr2 hb2 (j:=1) (by omega) rfl;have f8:=hE2.PO hb2 (k*6+1);have PS:=hE2.aU4 hr2 hb2 (j:=1) (u:=.int .i64 o.Parent) (b':={ r2.b with Unit:={ r2.b.Unit with Parent:=o.Parent } }) rfl (by omega) rfl rfl;have v3:=(OJ w8 (k*6+1) (.int .i64 o.Parent) hbx 3).trans bx8.k3;have v4:=(OJ w8 (k*6+1) (.int .i64 o.Parent) hbx 4).trans bx8.k4;have v5:=(OJ w8 (k*6+1) (.int .i64 o.Parent) hbx 5).trans bx8.k5;clear hold)|(go_at_call 78;refine(hput _ L2 r2 hR2 hr2 PS).mono ?_;rintro e w9 ⟨rfl,hQ⟩)|(go_at_call 79;refine(hlim _ hQ).mono ?_;rintro e w10 ⟨rfl,hQ'⟩))
   go_ret
   exact⟨rfl,hQ'⟩
end
section
open Go Go.F6 Go.RowKit Go.Ev Proofs.Tryz
def jO(bs:List Branch)(id:Int):Option (Nat×Bool):=(aa8 bs id (λz0 z1=>WC z0 z1)).bind λp=>bif decide (0<=p.1/\p.1<=(bs.length:Int)/\(p.2=true->p.1<(bs.length:Int)))then some (p.1.toNat,p.2)else none
def eList(t:Tree):Option Nat->List Int
 |none=>t.O1
 |some k=>((t.Branches[k]?).map Branch.Kids).getD []
def CX(t:Tree)(p:Option Nat)(l:List Int):Tree:=
 match p with
 |none=>{ t with O1:=l }
 |some k=>match t.Branches[k]? with
  |some b=>{ t with Branches:=t.Branches.set k { b with Kids:=l } }
  |none=>t
def uH(t:Tree)(id:Int):Option (Option Nat):=bif id==0 then some none else(jO t.Branches id).bind λp=>bif p.2 then some (some p.1)else none
def CW(t:Tree)(id parent before:Int):Option Tree:=(uH t parent).bind λp=>(aa7 (eList t p) before).bind λj=>
 bif decide ((eList t p).length<=4000/\ -1<=j/\j<=((eList t p).length:Int))then(let a:=if j<0 then(eList t p).length else j.toNat;some (CX t p ((eList t p).take a++[id]++(eList t p).drop a)))else none
def IX(t:Tree)(id:Int):Option Tree:=(jO t.Branches id).bind λq=>bif q.2 then(t.Branches[q.1]?).bind λb=>(uH t b.Unit.Parent).bind λp=>
 bif decide (0<(eList t p).length/\(eList t p).length<=4000)then some (CX t p ((eList t p).filter λx=> !(x==id)))else none else none
def OY(t:Tree)(parent level:Int):Option Int:=bif parent==0 then some (bif level==1 then 0 else 18)else(jO t.Branches parent).bind λq=>bif q.2 then(t.Branches[q.1]?).bind λb=>(TU b.Unit.Level level).bind λf=>some (bif !(level==1)&&f then 0 else 18)else none
def OZ(t:Tree)(mark:Str)(but:Int):Option Bool:=(ab3 t mark).bind λr=>some (r.2&& !(r.1==but))
def IW(t:Tree):Option Int:=(FC t).bind λr=>some (bif r.2==15 then 15 else 0)
theorem IY{w0 w:World}{L:Lay}(hE:Ed w0 w L)(hg:Gw w0):Gw w:=Gs w0 w hg hE.base
theorem yK{w0 w:World}{L:Lay}(hE:Ed w0 w L)(hg:Gw w0){id:Int}{k:Nat}{ok:Bool}(h:jO L.tree.Branches id=some (k,ok)):UR w L.bv id k ok/\k<=L.rows.length/\(ok=true->∃r,L.rows[k]?=some r):=by
 unfold jO at h;cases hs:aa8 L.tree.Branches id (λz0 z1=>WC z0 z1)with
 |none=>grind
 |some p=>
  obtain⟨i,o⟩:=p;rw[hs,G5]at h;refine kU h λhd h=>?_;have hd:=gB hd;injection h with h
  injection h with h1 h2
  simp only[Lay.tree,U7]at hd;subst h1;subst h2;have hi:((i.toNat:Nat):Int)=i:=Int.toNat_of_nonneg hd.1;refine⟨λw1 h1=>?_,by omega,λho=>⟨_,I9 (show i.toNat<L.rows.length by have:=hd.2.2 ho;omega)⟩⟩;rw[hi];have hE1:=hE.below h1;exact aH9 (bR8 (λ_ _ _ h=>cx0 h) hs) (IY hE1 hg) (O8.cons hE1.bL2 (O8.cons (.v (.int .i64 id)) (O8.cons (.fn 130 [] [] rfl (λi c x h=>nomatch h)) (O8.nil _ _))))
structure bd1(w0 w:World)(L:Lay)(p:Option Nat)(pb po:Nat)(hv:Value)(o:Option Nat):Prop where
 row:∃arr el,w.heap[pb]?=some (.cells arr el (0,0))/\arr[po]?=some hv
 own:O9 w 3 1 hv (eList L.tree p).length (Y7 (eList L.tree p)) o
 ne:o≠some pb
 isB:∃q,L.at q=some pb
 isO:∀c,o=some c->∃q,L.at q=some c
 set:∀w1 v' l' o',O9 w1 3 1 v' l'.length (Y7 l') o'->(∀c,o'=some c->o=some c\/w.heap.size<=c)->Fr (λk=>o=some k) w w1->∃L',Ed w0 (w1.setCell ⟨pb,po,none⟩ v') L'/\L'.x=L.x/\L'.bo=L.bo/\L'.tree=CX L.tree p l'
theorem AU{L:Lay}{k:Nat}{r:Row}(h:L.rows[k]?=some r):L.tree.Branches[k]?=some r.b:=by simp[Lay.tree,h]
theorem ao1{w0 w:World}{L:Lay}(hE:Ed w0 w L)(hg:Gw w0){id:Int}{p:Option Nat}(h:uH L.tree id=some p):∃pb po hv o,bd1 w0 w L p pb po hv o/\At w 75 #[ptr L.x 0,.int .i64 id] (ptr pb po):=by
 unfold uH at h;cases hid:(id==0)with
 |true=>
  rw[hid]at h;cases h;have:=kS hid;subst this;refine⟨L.x,0,L.rv,L.ro,⟨⟨_,_,hE.hx,rfl⟩,hE.hr,λh=>?_,⟨.x,rfl⟩,λc hc=>⟨.r,hc⟩,λw1 v' l' o' h1 h2 h3=>⟨_,hE.df9 h1 h2 h3,rfl,rfl,rfl⟩⟩,cu2 w L⟩;have:=hE.nd .r .x L.x h rfl;cases this
 |false=>
  rw[hid]at h;cases hq:jO L.tree.Branches id with
  |none=>grind
  |some q=>
   obtain⟨k,ok⟩:=q;rw[hq]at h;cases ok with
   |false=>cases h
   |true=>
    cases h;obtain⟨hf,_,hr⟩:=yK hE hg hq;obtain⟨r,hr⟩:=hr rfl;obtain⟨b,c,P8,hbv,hc⟩:=hE.pX hr;have hB:=hE.hb;rw[P8]at hB;obtain⟨arr,ha⟩:=hE.hb.heap P8;have hcell:=hE.cell hr P8 (j:=5) (u:=r.k) (by omega) rfl;rw[jY w b _ arr 52 (0,0) ha]at hcell;have hl:eList L.tree (some k)=r.b.Kids:=by simp[eList,AU hr]
    refine⟨b,k*6+5,r.k,r.o,⟨⟨arr,52,ha,hcell⟩,by rw[hl];exact hE.hk k r hr,λh=>?_,⟨.b,P8⟩,λc hc=>⟨.k k,by simp[Lay.at,hr,hc]⟩,λw1 v' l' o' h1 h2 h3=>⟨_,hE.df8 hr P8 h1 h2 h3,rfl,rfl,?_⟩⟩,cu1 hE (by intro e;rw[e]at hid;cases hid) hr P8 hf⟩
    .have:=hE.nd (.k k) .b b (by simp[Lay.at,hr,h]) P8;cases this
    .simp only[CX,AU hr];simp only[Lay.tree,List.map_set]
theorem aJ8{w:World}{v:Value}{l:List Int}{o:Option Nat}(h:O9 w 3 1 v l.length (Y7 l) o){w1:World}(hb:Below w.heap.size w w1):Rep (iY w1) w1 (.sl 1 (l.map F5)) v:=aS8 (h.keep λk hk=>hb.block k (h.lt hk))
def Left(w0 w:World)(L:Lay)(t':Tree)(w':World):Prop:=(∃L',Ed w0 w' L'/\L'.x=L.x/\L'.bo=L.bo/\L'.tree=t')/\∀c,c<w.heap.size->(∀q,L.at q≠some c)->w'.heap[c]?=w.heap[c]?
theorem bJ5{w0 w:World}{L:Lay}(hE:Ed w0 w L)(hg:Gw w0){id parent before:Int}{t':Tree}(h:CW L.tree id parent before=some t'):
 Calls prog 78 #[ptr L.x 0,.int .i64 id,.int .i64 parent,.int .i64 before] w λe w'=>e=.returned (.tuple #[])/\Left w0 w L t' w':=by
 unfold CW at h;cases hp:uH L.tree parent with
 |none=>grind
 |some p=>
  rw[hp,G5]at h;cases hj:aa7 (eList L.tree p) before with
  |none=>grind
  |some j=>
   rw[hj,G5]at h;refine kU h λhd h=>?_;have hd:=gB hd;obtain⟨pb,po,hv,o,P,fZ⟩:=ao1 hE hg hp;obtain⟨arr,el,hr,hc⟩:=P.row;have hidx:∀w1,Below w.heap.size w w1->Calls prog 31 #[hv,.int .i64 before] w1 λe w'=>e=.returned (.int .i64 j)/\Below w1.heap.size w1 w':=λw1 hb=>
    XC (bR5 hj) (IY (hE.below hb) hg) (O8.cons (aJ8 P.own hb) (O8.cons (.v (.int .i64 before)) (O8.nil _ _)))
   have key:=λa ha=>cu7 (id:=id) (before:=before) (a:=a) cK9 fZ.here hr hc P.own P.ne hd.1 hidx ha;obtain⟨a,ha,hae⟩:∃a:Nat,((j=a/\a<=(eList L.tree p).length)\/(j= -1/\a=(eList L.tree p).length))/\a=if j<0 then(eList L.tree p).length else j.toNat:=by grind
   refine(key a ha).mono ?_;rintro e w' ⟨rfl,v',o',w1,h1,h2,h3,rfl⟩;have hlen:((eList L.tree p).take a++[id]++(eList L.tree p).drop a).length=(eList L.tree p).length+1:=by grind
   rw[<-hlen]at h1;obtain⟨L',hE',hx',hb',ht'⟩:=P.set w1 v' _ o' h1 h2 h3;injection h with h
   subst h;refine⟨rfl,⟨L',hE',hx',hb',by rw[ht',hae]⟩,λc hc hn=>?_⟩;obtain⟨q,hq⟩:=P.isB;exact(kG w1 pb po c v' (λe=>hn q (e▸hq))).trans (h3.block c hc λe=>by obtain⟨q,hq⟩:=P.isO c e;exact hn q hq)
theorem bU2{w0 w:World}{L:Lay}(hE:Ed w0 w L)(hg:Gw w0){id:Int}{t':Tree}(h:IX L.tree id=some t'):
 Calls prog 80 #[ptr L.x 0,.int .i64 id] w λe w'=>e=.returned (.tuple #[])/\Left w0 w L t' w':=by
 unfold IX at h;cases hq:jO L.tree.Branches id with
 |none=>grind
 |some q=>
  obtain⟨k,ok⟩:=q;rw[hq,G5]at h;cases ok with
  |false=>cases h
  |true=>
   obtain⟨hf,_,hr⟩:=yK hE hg hq;obtain⟨r,hr⟩:=hr rfl;simp only[H7]at h;rw[AU hr,G5]at h;cases hp:uH L.tree r.b.Unit.Parent with
   |none=>grind
   |some p=>
    rw[hp,G5]at h;refine kU h λhd h=>?_;have hd:=gB hd;injection h with h
    subst h;obtain⟨pb,po,hv,o,P,fZ⟩:=ao1 hE hg hp;obtain⟨arr,el,hrow,hc⟩:=P.row;obtain⟨b,c,P8,hbv,_⟩:=hE.pX hr;obtain⟨g,cp,rfl,rfl,_⟩:=P.own.form hd.1;refine(cv1 (WB hE hr P8 hf) (hE.bD (p:=.b) P8) (hE.cell hr P8 (j:=1) (by omega) rfl) fZ hrow hc P.own (λe=>P.ne (by rw[e])) hd.2).mono ?_;rintro e w' ⟨rfl,v',w1,h1,h2,rfl⟩;obtain⟨L',hE',hx',hb',ht'⟩:=P.set w1 v' _ _ h1 (λc hc=>.inl hc) h2;refine⟨rfl,⟨L',hE',hx',hb',ht'⟩,λc hc hn=>?_⟩;obtain⟨q,hq⟩:=P.isB;exact(kG w1 pb po c v' (λe=>hn q (e▸hq))).trans (h2.block c hc λe=>by obtain⟨q,hq⟩:=P.isO c e;exact hn q hq)
theorem bT3{w0 w:World}{L:Lay}(hE:Ed w0 w L)(hg:Gw w0){parent level s:Int}(h:OY L.tree parent level=some s):At w 74 #[ptr L.x 0,.int .i64 parent,.int .i64 level] (.int .i64 s):=by
 unfold OY at h;cases hid:(parent==0)with
 |true=>
  rw[hid]at h;have:=kS hid;subst this;injection h with h
  subst h;exact cu8 w L level
 |false=>
  rw[hid]at h;cases hq:jO L.tree.Branches parent with
  |none=>grind
  |some q=>
   obtain⟨k,ok⟩:=q;rw[hq]at h;cases ok with
   |false=>cases h
   |true=>
    obtain⟨hf,_,hr⟩:=yK hE hg hq;obtain⟨r,hr⟩:=hr rfl;simp only[H7,G6,G5]at h;rw[AU hr,G5]at h;cases hfit:TU r.b.Unit.Level level with
    |none=>grind
    |some f=>
     rw[hfit]at h;injection h with h
     subst h;obtain⟨b,c,P8,_⟩:=hE.pX hr;intro w1 h1;exact cv0 (hE.below h1) (by intro e;rw[e]at hid;cases hid) hr P8 (hf w1 h1) (λW hW=>XC (bU0 hfit) (IY ((hE.below h1).below hW) hg) (O8.cons (.v _) (O8.cons (.v _) (O8.nil _ _))))
theorem b86{w0 w:World}{L:Lay}(hE:Ed w0 w L)(hg:Gw w0){mark:Str}{but:Int}{u:Bool}(h:OZ L.tree mark but=some u):At w 76 #[ptr L.x 0,.string ⟨⟨mark⟩⟩,.int .i64 but] (.bool u):=by
 unfold OZ at h;cases hm:ab3 L.tree mark with
 |none=>grind
 |some r=>
  rw[hm]at h;injection h with h
  subst h;exact cv2 hE λw1 h1=>aH9 (dn8 hm) (IY (hE.below h1) hg) (O8.cons (hE.below h1).rep (O8.cons (.v _) (O8.nil _ _)))
theorem by9{w0 w:World}{L:Lay}(hE:Ed w0 w L)(hg:Gw w0){z:Int}(h:IW L.tree=some z):At w 79 #[ptr L.x 0] (.int .i64 z):=by
 unfold IW at h;cases hm:FC L.tree with
 |none=>grind
 |some r=>
  rw[hm]at h;injection h with h
  subst h;exact cu5 hE λw1 h1=>aH9 (aX2 hm) (IY (hE.below h1) hg) (O8.cons (hE.below h1).rep (O8.nil _ _))
theorem bq7{w0 w:World}{L:Lay}(hE:Ed w0 w L)(hg:Gw w0){p:Option Nat}{pb po:Nat}{hv:Value}{o:Option Nat}(P:bd1 w0 w L p pb po hv o){x:Int}{c:Bool}(h:sU (eList L.tree p) x=some c):At w 10 #[hv,.int .i64 x] (.bool c):=λ_ hb=>
 XC (aq7 h) (IY (hE.below hb) hg) (O8.cons (aJ8 P.own hb) (O8.cons (.v (.int .i64 x)) (O8.nil _ _)))
abbrev E0:Tree:=⟨[],[]⟩
def VW(t:Tree)(o:Opn):Option (Tree×Int):=
 (jO t.Branches o.Unit).bind λf=>bif f.2 then some (E0,6)else
 (bif o.Parent==0 then some true else(jO t.Branches o.Parent).bind λq=>some q.2).bind λpar=>bif !par then some (E0,7)else
 (OY t o.Parent o.Level).bind λs=>bif !(s==0)then some (E0,s)else
 (bif o.Before==0 then some true else(uH t o.Parent).bind λp=>sU (eList t p) o.Before).bind λhas=>bif !has then some (E0,7)else
 (OZ t o.Mark 0).bind λu=>bif u then some (E0,19)else
 bif decide (256<=t.Branches.length)then some (E0,8)else
 (CW { t with Branches:=t.Branches.take f.1++[⟨⟨o.Unit,o.Parent,o.Level,o.Title,o.Mark⟩,[]⟩]++t.Branches.drop f.1 } o.Unit o.Parent o.Before).bind λt3=>(IW t3).bind λz=>some (t3,z)
def Sz(t:Tree):Bool:=decide (t.O1.length<=4000)&&(decide (t.Branches.length<=4000)&&t.Branches.all λb=>decide (b.Kids.length<=4000))
def VU(t:Tree)(id:Int):Option (List Int):=bif id==0 then none else(UE t id).bind λe9=>bif e9==0 then(qU t 1000 id).bind λl=>bif decide (l.length<=4000)then some l else none else some []
def VY(t:Tree)(o:Opn):Option (Tree×Int):=
 (jO t.Branches o.Unit).bind λf=>bif !f.2 then some (E0,7)else
 (bif o.Parent==0 then some true else(jO t.Branches o.Parent).bind λq=>some q.2).bind λpar=>bif !par then some (E0,7)else
 (VU t o.Unit).bind λl=>(sU l o.Parent).bind λc=>bif c then some (E0,17)else
 (t.Branches[f.1]?).bind λb=>(OY t o.Parent b.Unit.Level).bind λs=>bif !(s==0)then some (E0,s)else
 (bif o.Before==0 then some true else bif o.Before==o.Unit then some false else(uH t o.Parent).bind λp=>sU (eList t p) o.Before).bind λhas=>bif !has then some (E0,7)else
 (IX t o.Unit).bind λt2=>(t2.Branches[f.1]?).bind λb2=>(CW { t2 with Branches:=t2.Branches.set f.1 { b2 with Unit:={ b2.Unit with Parent:=o.Parent } } } o.Unit o.Parent o.Before).bind λt3=>(IW t3).bind λz=>some (t3,z)
def WA(t:Tree)(o:Opn):Option (Tree×Int):=
 (jO t.Branches o.Unit).bind λf=>bif !f.2 then some (E0,7)else(t.Branches[f.1]?).bind λb=>some ({ t with Branches:=t.Branches.set f.1 { b with Unit:={ b.Unit with Title:=o.Title } } },0)
def VX(t:Tree)(o:Opn):Option (Tree×Int):=
 (jO t.Branches o.Unit).bind λf=>bif !f.2 then some (E0,7)else(OZ t o.Mark o.Unit).bind λu=>bif u then some (E0,19)else(t.Branches[f.1]?).bind λb=>some ({ t with Branches:=t.Branches.set f.1 { b with Unit:={ b.Unit with Mark:=o.Mark } } },0)
def VZ(t:Tree)(o:Opn):Option (Tree×Int):=
 (jO t.Branches o.Unit).bind λf=>bif !f.2 then some (E0,7)else(t.Branches[f.1]?).bind λb=>bif !b.Kids.isEmpty then some (E0,11)else
 (IX t o.Unit).bind λt2=>bif decide (f.1<t2.Branches.length/\t2.Branches.length<=4000)then some ({ t2 with Branches:=t2.Branches.take f.1++t2.Branches.drop (f.1+1) },0)else none
def tJ(w0:World)(x:Nat)(r:Tree×Int)(e:Ending)(w':World):Prop:=e=.returned (.int .i64 r.2)/\Below w0.heap.size w0 w'/\(r.2=0->∃L',Ed w0 w' L'/\L'.x=x/\L'.tree=r.1)
theorem lU{w0 w:World}{L:Lay}(hE:Ed w0 w L){x:Nat}{f:FuncId}{args:Array Value}{t:Tree}{z:Int}(hz:z≠0)(h:Calls prog f args w λe w'=>e=.returned (.int .i64 z)/\Below w.heap.size w w'):Calls prog f args w (tJ w0 x (t,z)):=
 h.mono λ_ _ ⟨h1,h2⟩=>⟨h1,hE.base.trans (h2.mono hE.base.size),λh=>absurd h hz⟩
theorem aX{α β:Type}{o:Option α}{f:α->Option β}{r:β}(h:o.bind f=some r):∃x,o=some x/\f x=some r:=by
 cases o with
 |none=>exact nomatch h
 |some x=>exact⟨x,rfl,h⟩
theorem QL{s:Int}(h:(!(s==0))=true):s≠0:=by intro e;subst e;cases h
theorem eq0{s:Int}(h:(!(s==0))=false):s=0:=by
 cases hs:(s==0)with
 |true=>exact kS hs
 |false=>rw[hs]at h;cases h
theorem lT{a b:Int}(h:(a==b)=false):a≠b:=λe=>by rw[e]at h;simp at h
theorem an7{w0 w:World}{L:Lay}(hE:Ed w0 w L)(hg:Gw w0){p:Int}{par:Bool}(hp:p≠0)(h:(jO L.tree.Branches p).bind (λq=>some q.2)=some par):
 (par=false->At w 73 #[ptr L.x 0,.int .i64 p] (.pointer none))/\(par=true->∃b o,At w 73 #[ptr L.x 0,.int .i64 p] (ptr b o)):=by
 obtain⟨q,hq,h⟩:=aX h;obtain⟨k,ok⟩:=q;injection h with h
 subst h;obtain⟨hf,_,hr⟩:=yK hE hg hq;refine⟨λe=>?_,λe=>?_⟩
 .have e:ok=false:=e;subst e;exact ah9 hE hf
 .have e:ok=true:=e;subst e;obtain⟨r,hr⟩:=hr rfl;obtain⟨b,c,P8,_⟩:=hE.pX hr;exact⟨b,k*6,WB hE hr P8 hf⟩
theorem du1{L:Lay}{a:Nat}{o:Opn}{v:Value}{ob:Option Nat}:Lay.tree { L with bv:=v,bo:=ob,rows:=L.rows.take a++[newRow o]++L.rows.drop a }={ L.tree with Branches:=L.tree.Branches.take a++[⟨⟨o.Unit,o.Parent,o.Level,o.Title,o.Mark⟩,[]⟩]++L.tree.Branches.drop a }:=by
 simp[Lay.tree,newRow,List.map_take,List.map_drop]
theorem cr8{w0 w:World}{L:Lay}(hE:Ed w0 w L)(hg:Gw w0){o:Opn}{r:Tree×Int}(h:VW L.tree o=some r):Calls prog 32 #[ptr L.x 0,oval o] w (tJ w0 L.x r):=by
 unfold VW at h;obtain⟨f,hf,h⟩:=aX h;obtain⟨a,fo⟩:=f;obtain⟨hF,ha,_⟩:=yK hE hg hf;have h72:=bl6 hE hF;cases fo with
 |true=>cases h;exact lU hE (by decide) (cr0 h72)
 |false=>
  simp only[G6]at h;obtain⟨par,hpar,h⟩:=aX h;have hx:=hE.bD (p:=.x) rfl;obtain⟨ad,cp,hbv,_⟩:=hE.hb.sl;have hl:=hE.c1;rw[hbv]at hl;have hlen:L.tree.Branches.length=L.rows.length:=by simp[Lay.tree]
  have fin:∀(h:(CW { L.tree with Branches:=L.tree.Branches.take a++[⟨⟨o.Unit,o.Parent,o.Level,o.Title,o.Mark⟩,[]⟩]++L.tree.Branches.drop a } o.Unit o.Parent o.Before).bind (λt3=>(IW t3).bind λz=>some (t3,z))=some r),
   (∀(W:World)(v':Value)(o':Option Nat),Ed w0 W { L with bv:=v',bo:=o',rows:=L.rows.take a++[newRow o]++L.rows.drop a }->Calls prog 78 #[ptr L.x 0,.int .i64 o.Unit,.int .i64 o.Parent,.int .i64 o.Before] W λe W'=>e=.returned (.tuple #[])/\∃L3,Ed w0 W' L3/\L3.x=L.x/\L3.tree=r.1)/\
   (∀W,(∃L3,Ed w0 W L3/\L3.x=L.x/\L3.tree=r.1)->Calls prog 79 #[ptr L.x 0] W λe W'=>e=.returned (.int .i64 r.2)/\(Below w0.heap.size w0 W'/\(r.2=0->∃L',Ed w0 W' L'/\L'.x=L.x/\L'.tree=r.1))):=λh=>by
   obtain⟨t3,h3,h⟩:=aX h;obtain⟨z,hz,h⟩:=aX h;cases h;refine⟨λW v' o' hE'=>?_,λW hQ=>?_⟩
   .refine(bJ5 hE' hg (by rw[du1];exact h3)).mono ?_;rintro e W' ⟨rfl,⟨L',h1,h2,_,h4⟩,_⟩;exact⟨rfl,L',h1,h2,h4⟩
   .obtain⟨L3,h1,h2,h4⟩:=hQ;rw[<-h2];refine(by9 h1 hg (by rw[h4];exact hz)).here.mono ?_;rintro e W' ⟨rfl,hb⟩;exact⟨rfl,h1.base.trans (hb.mono h1.base.size),λ_=>⟨L3,h1.below hb,rfl,h4⟩⟩
  have okk:∀{f:FuncId}{args:Array Value},(Calls prog f args w λe' w'=>e'=.returned (.int .i64 r.2)/\(Below w0.heap.size w0 w'/\(r.2=0->∃L',Ed w0 w' L'/\L'.x=L.x/\L'.tree=r.1)))->Calls prog f args w (tJ w0 L.x r):=λh=>h;cases par with
  |false=>
   cases hp0:(o.Parent==0)with
   |true=>rw[hp0]at hpar;cases hpar
   |false=>
    rw[hp0]at hpar;cases h;exact lU hE (by decide) (cr1 h72 (lT hp0) ((an7 hE hg (lT hp0) hpar).1 rfl))
  |true=>
   have hP:E8 w L.x o.Parent:=by
    cases hp0:(o.Parent==0)with
    |true=>exact .inl (kS hp0)
    |false=>rw[hp0]at hpar;exact .inr ⟨lT hp0,(an7 hE hg (lT hp0) hpar).2 rfl⟩
   simp only[fC,G6]at h;obtain⟨s,hs,h⟩:=aX h;have Y5:=bT3 hE hg hs;cases hs0:(!(s==0))with
   |true=>rw[hs0]at h;cases h;exact lU hE (QL hs0) (cr2 h72 hP Y5 (QL hs0))
   |false=>
    rw[hs0]at h;have:=eq0 hs0;subst this;simp only[G6]at h;obtain⟨has,hh,h⟩:=aX h;have hB:xI w L.x o has:=by
     cases hb0:(o.Before==0)with
     |true=>exact .inl (kS hb0)
     |false=>
      rw[hb0]at hh;obtain⟨p,hpl,hh⟩:=aX hh;obtain⟨pb,po,hv,oo,P,fZ⟩:=ao1 hE hg hpl;obtain⟨arr,el,hrow,hc⟩:=P.row;exact .inr ⟨lT hb0,pb,po,hv,fZ,(V4.1 hrow).1,(O5 hrow hc).1,bq7 hE hg P hh⟩
    cases has with
    |false=>
     have hb0:o.Before≠0:=λe=>by rw[e]at hh;cases hh
     cases h;exact lU hE (by decide) (cr4 h72 hP Y5 hb0 hB)
    |true=>
     simp only[fC,G6]at h;obtain⟨u,hu,h⟩:=aX h;have kC:=b86 hE hg hu;cases u with
     |true=>cases h;exact lU hE (by decide) (cr5 h72 hP Y5 hB kC)
     |false=>
      simp only[G6]at h;by_cases hn:256<=L.tree.Branches.length
      .rw[Y9 hn]at h;cases h;exact lU hE (by decide) (cr6 h72 hP Y5 hB kC hx hl (by omega))
      .rw[eU hn]at h;obtain⟨f1,f2⟩:=fin h;exact okk (cr7 h72 hP Y5 hB kC hE (by omega) ha cK7 f1 f2)
theorem bT7{t:Tree}(h:Sz t=true):t.O1.length<=4000/\t.Branches.length<=4000/\∀b∈t.Branches,b.Kids.length<=4000:=by
 unfold Sz at h;simp only[X3,yJ,nZ]at h;exact⟨h.1,h.2.1,h.2.2⟩
theorem cN8{t:Tree}(h:Sz t=true):∀id ks,nU t id=some ks->ks.length<=1000000:=λid ks hk=>by
 obtain⟨h1,h2,h3⟩:=bT7 h;unfold nU at hk;cases hid:(id==0)with
 |true=>rw[hid]at hk;cases hk;omega
 |false=>
  rw[hid]at hk;obtain⟨y,_,hk⟩:=aX hk;obtain⟨b,hb,hk⟩:=aX hk;cases hk;have:=h3 b (iC (aK4 hb));omega
theorem cl1{w0 w:World}{L:Lay}(hE:Ed w0 w L)(hg:Gw w0)(hsz:Sz L.tree=true){id par:Int}{l:List Int}{c:Bool}(h:VU L.tree id=some l)(hc:sU l par=some c):∀W,Below w.heap.size w W->Calls prog 21 #[.agg #[L.rv,L.bv],.int .i64 id] W λe W'=>∃v e9,e=.returned (.tuple #[v,.int .i64 e9])/\Below W.heap.size W W'/\At W' 10 #[v,.int .i64 par] (.bool c):=λW hW=>by
 have hE1:=hE.below hW;have hg1:=IY hE1 hg;unfold VU at h;cases hid:(id==0)with
 |true=>rw[hid]at h;cases h
 |false=>
  rw[hid]at h;simp only[G6]at h;obtain⟨e9,he,h⟩:=aX h;cases h9:(e9==0)with
  |true=>
   rw[h9]at h;have:=kS h9;subst this;simp only[H7]at h;obtain⟨l',hl,h⟩:=aX h;refine kU h λhd h=>?_;injection h with h
   subst h;refine(cl0 hg1 hE1.rep (λb o h=>h) he (lT hid) hl (gB hd) (cN8 hsz)).mono ?_;rintro e W' ⟨v,ob,rfl,hO,hb⟩;refine⟨v,0,rfl,hb,λw1 hw1=>XC (aq7 hc) (Gs _ _ (Gs _ _ hg1 hb) hw1) (O8.cons (aJ8 hO hw1) (O8.cons (.v _) (O8.nil _ _)))⟩
  |false=>
   rw[h9]at h;injection h with h
   subst h;refine(ck9 hg1 hE1.rep (λb o h=>h) he (lT h9)).mono ?_;rintro e W' ⟨rfl,hb⟩;exact⟨_,e9,rfl,hb,λw1 hw1=>XC (aq7 hc) (Gs _ _ (Gs _ _ hg1 hb) hw1) (O8.cons (.nil 1 none 0) (O8.cons (.v _) (O8.nil _ _)))⟩
theorem aU5{L:Lay}{k:Nat}{r:Row}{b':Branch}:Lay.tree { L with rows:=L.rows.set k ⟨b',r.k,r.o⟩ }={ L.tree with Branches:=L.tree.Branches.set k b' }:=by simp[Lay.tree,List.map_set]
theorem c90{w0 w:World}{L:Lay}(hE:Ed w0 w L)(hg:Gw w0){o:Opn}{r:Tree×Int}(h:WA L.tree o=some r):Calls prog 34 #[ptr L.x 0,oval o] w (tJ w0 L.x r):=by
 unfold WA at h;obtain⟨f,hf,h⟩:=aX h;obtain⟨a,fo⟩:=f;obtain⟨hF,_,hr⟩:=yK hE hg hf;cases fo with
 |false=>cases h;exact lU hE (by decide) (c88 (ah9 hE hF))
 |true=>
  obtain⟨q,hr⟩:=hr rfl;obtain⟨b,c,P8,_⟩:=hE.pX hr;simp only[fC,G6]at h;rw[AU hr]at h;cases h;refine(c89 hE hr P8 (WB hE hr P8 hF)).mono ?_;rintro e w' ⟨rfl,hE'⟩;exact⟨rfl,hE'.base,λ_=>⟨_,hE',rfl,aU5⟩⟩
theorem cR8{w0 w:World}{L:Lay}(hE:Ed w0 w L)(hg:Gw w0){o:Opn}{r:Tree×Int}(h:VX L.tree o=some r):Calls prog 35 #[ptr L.x 0,oval o] w (tJ w0 L.x r):=by
 unfold VX at h;obtain⟨f,hf,h⟩:=aX h;obtain⟨a,fo⟩:=f;obtain⟨hF,_,hr⟩:=yK hE hg hf;cases fo with
 |false=>cases h;exact lU hE (by decide) (cR6 (ah9 hE hF))
 |true=>
  obtain⟨q,hr⟩:=hr rfl;obtain⟨b,c,P8,_⟩:=hE.pX hr;simp only[fC,G6]at h;obtain⟨u,hu,h⟩:=aX h;have kC:=b86 hE hg hu;have U8:=WB hE hr P8 hF;cases u with
  |true=>cases h;exact lU hE (by decide) (cS0 U8 kC)
  |false=>
   simp only[G6]at h;rw[AU hr]at h;cases h;refine(cR7 hE hr P8 U8 kC).mono ?_;rintro e w' ⟨rfl,hE'⟩;exact⟨rfl,hE'.base,λ_=>⟨_,hE',rfl,aU5⟩⟩
theorem c83{w0 w:World}{L:Lay}(hE:Ed w0 w L)(hg:Gw w0){o:Opn}{r:Tree×Int}(h:VZ L.tree o=some r):Calls prog 36 #[ptr L.x 0,oval o] w (tJ w0 L.x r):=by
 unfold VZ at h;obtain⟨f,hf,h⟩:=aX h;obtain⟨a,fo⟩:=f;obtain⟨hF,_,hr⟩:=yK hE hg hf;have h72:=bl6 hE hF;cases fo with
 |false=>cases h;exact lU hE (by decide) (c81 h72)
 |true=>
  obtain⟨q,hr⟩:=hr rfl;simp only[fC,G6]at h;rw[AU hr,G5]at h;cases hk:q.b.Kids.isEmpty with
  |false=>rw[hk]at h;cases h;exact lU hE (by decide) (c79 hE hr (by intro e;rw[e]at hk;cases hk) h72)
  |true=>
   rw[hk]at h;simp only[fC,G6]at h;obtain⟨t2,h2,h⟩:=aX h;refine kU h λhd h=>?_;have hd:=gB hd;cases h;have hlen:∀L2:Lay,L2.tree=t2->L2.rows.length=t2.Branches.length:=λL2 e=>by rw[<-e];simp[Lay.tree]
   refine(c82 (R:=λL2=>L2.tree=t2) hE hr (List.isEmpty_iff.1 hk) h72 (λW hW=>?_) (λL2 e=>by rw[hlen L2 e];exact hd)).mono ?_
   .refine(bU2 (hE.below hW) hg h2).mono ?_;rintro e W' ⟨rfl,⟨L',q1,q2,_,q4⟩,_⟩;exact⟨rfl,L',q1,q2,q4⟩
   .rintro e w' ⟨rfl,L2,L3,e2,PS,hx3,hr3,hw3⟩;refine⟨rfl,PS.base,λ_=>⟨L3,PS,hx3,?_⟩⟩;simp only[Lay.tree,hr3,hw3,<-e2,List.map_append,List.map_take,List.map_drop]
theorem cS8{w0 w:World}{L:Lay}(hE:Ed w0 w L)(hg:Gw w0)(hsz:Sz L.tree=true){o:Opn}{r:Tree×Int}(h:VY L.tree o=some r):Calls prog 33 #[ptr L.x 0,oval o] w (tJ w0 L.x r):=by
 unfold VY at h;obtain⟨f,hf,h⟩:=aX h;obtain⟨a,fo⟩:=f;obtain⟨hF,_,hr⟩:=yK hE hg hf;cases fo with
 |false=>cases h;exact lU hE (by decide) (cS4 (ah9 hE hF))
 |true=>
  obtain⟨q,hr⟩:=hr rfl;obtain⟨b,cb,P8,_⟩:=hE.pX hr;have U8:=WB hE hr P8 hF;have hx:=hE.bD (p:=.x) rfl;have hbl:=hE.bD (p:=.b) P8;have c0:=hE.c0;have c1:=hE.c1;have oO:=hE.cell hr P8 (j:=2) (by omega) rfl;simp only[fC,G6]at h;obtain⟨par,hpar,h⟩:=aX h;have fin:∀(h:(IX L.tree o.Unit).bind (λt2=>(t2.Branches[a]?).bind λb2=>(CW { t2 with Branches:=t2.Branches.set a { b2 with Unit:={ b2.Unit with Parent:=o.Parent } } } o.Unit o.Parent o.Before).bind λt3=>(IW t3).bind λz=>some (t3,z))=some r),∃t2,
   (∀W,Below w.heap.size w W->Calls prog 80 #[ptr L.x 0,.int .i64 o.Unit] W λe W'=>e=.returned (.tuple #[])/\(∀c j,w.heap.size<=c->c<W.heap.size->W'.cell? ⟨c,j,none⟩=W.cell? ⟨c,j,none⟩)/\∃L2 r2,Ed w0 W' L2/\L2.bo=some b/\(L2.tree=t2/\L2.x=L.x)/\L2.rows[a]?=some r2)/\
   (∀W(L2:Lay)(r2:Row),(L2.tree=t2/\L2.x=L.x)->L2.rows[a]?=some r2->Ed w0 W { L2 with rows:=L2.rows.set a ⟨{ r2.b with Unit:={ r2.b.Unit with Parent:=o.Parent } },r2.k,r2.o⟩ }->Calls prog 78 #[ptr L.x 0,.int .i64 o.Unit,.int .i64 o.Parent,.int .i64 o.Before] W λe W'=>e=.returned (.tuple #[])/\∃L3,Ed w0 W' L3/\L3.x=L.x/\L3.tree=r.1)/\
   (∀W,(∃L3,Ed w0 W L3/\L3.x=L.x/\L3.tree=r.1)->Calls prog 79 #[ptr L.x 0] W λe W'=>e=.returned (.int .i64 r.2)/\(Below w0.heap.size w0 W'/\(r.2=0->∃L',Ed w0 W' L'/\L'.x=L.x/\L'.tree=r.1))):=λh=>by
   obtain⟨t2,h2,h⟩:=aX h;obtain⟨b2,hb2,h⟩:=aX h;obtain⟨t3,h3,h⟩:=aX h;obtain⟨z,hz,h⟩:=aX h;cases h;refine⟨t2,λW hW=>?_,λW L2 r2 e2 hr2 hE'=>?_,λW hQ=>?_⟩
   .refine(bU2 (hE.below hW) hg h2).mono ?_;rintro e W' ⟨rfl,⟨L',q1,q2,q3,q4⟩,hk⟩;have hrow:∃r2,L'.rows[a]?=some r2:=by
     rw[<-q4]at hb2;simp only[Lay.tree,O6]at hb2;cases hx:L'.rows[a]? with
     |none=>rw[hx]at hb2;cases hb2
     |some r2=>exact⟨r2,rfl⟩
    obtain⟨r2,hr2⟩:=hrow;refine⟨rfl,λc j h1 h2=>CB (a:=⟨c,j,none⟩) (hk c h2 λq hq=>?_),L',r2,q1,q3.trans P8,⟨q4,q2⟩,hr2⟩;have:=hE.bD (p:=q) hq;omega
   .rw[<-e2.2];refine(bJ5 hE' hg (t':=t3) ?_).mono ?_
    .rw[aU5,e2.1];have hb2':t2.Branches[a]?=some r2.b:=by rw[<-e2.1];exact AU hr2
     rw[hb2]at hb2';injection hb2' with hb2'
     rw[<-hb2'];exact h3
    .rintro e W' ⟨rfl,⟨L',q1,q2,_,q4⟩,_⟩;exact⟨rfl,L',q1,q2,q4⟩
   .obtain⟨L3,q1,q2,q4⟩:=hQ;rw[<-q2];refine(by9 q1 hg (by rw[q4];exact hz)).here.mono ?_;rintro e W' ⟨rfl,hb⟩;exact⟨rfl,q1.base.trans (hb.mono q1.base.size),λ_=>⟨L3,q1.below hb,rfl,q4⟩⟩
  have okk:∀{f:FuncId}{args:Array Value},(Calls prog f args w λe' w'=>e'=.returned (.int .i64 r.2)/\(Below w0.heap.size w0 w'/\(r.2=0->∃L',Ed w0 w' L'/\L'.x=L.x/\L'.tree=r.1)))->Calls prog f args w (tJ w0 L.x r):=λh=>h;cases par with
  |false=>
   cases hp0:(o.Parent==0)with
   |true=>rw[hp0]at hpar;cases hpar
   |false=>
    rw[hp0]at hpar;cases h;exact lU hE (by decide) (cS5 U8 (lT hp0) ((an7 hE hg (lT hp0) hpar).1 rfl))
  |true=>
   have hP:E8 w L.x o.Parent:=by
    cases hp0:(o.Parent==0)with
    |true=>exact .inl (kS hp0)
    |false=>rw[hp0]at hpar;exact .inr ⟨lT hp0,(an7 hE hg (lT hp0) hpar).2 rfl⟩
   simp only[fC,G6]at h;obtain⟨l,hl,h⟩:=aX h;obtain⟨c,hc,h⟩:=aX h;have h21:=cl1 hE hg hsz hl hc;cases c with
   |true=>cases h;exact lU hE (by decide) (cS6 hx c0 c1 U8 hP h21)
   |false=>
    simp only[G6]at h;rw[AU hr,G5]at h;obtain⟨s,hs,h⟩:=aX h;have Y5:=bT3 hE hg hs;cases hs0:(!(s==0))with
    |true=>rw[hs0]at h;cases h;exact lU hE (QL hs0) (cS7 hx c0 c1 U8 hP h21 hbl oO Y5 (QL hs0))
    |false=>
     rw[hs0]at h;have:=eq0 hs0;subst this;simp only[G6]at h;obtain⟨has,hh,h⟩:=aX h;cases hb0:(o.Before==0)with
     |true=>
      rw[hb0]at hh;cases hh;simp only[fC,G6]at h;obtain⟨t2,f0,f1,f2⟩:=fin h;exact okk (bA6 hx c0 c1 U8 hP h21 hbl oO Y5 (.inl (kS hb0)) f0 f1 f2)
     |false=>
      have hb:=lT hb0;rw[hb0]at hh;simp only[G6]at hh;cases hu0:(o.Before==o.Unit)with
      |true=>
       rw[hu0]at hh;cases hh;cases h;exact lU hE (by decide) (bA5 hx c0 c1 U8 hP h21 hbl oO Y5 hb (.inl (kS hu0)))
      |false=>
       rw[hu0]at hh;obtain⟨p,hpl,hh⟩:=aX hh;obtain⟨pb,po,hv,oo,P,fZ⟩:=ao1 hE hg hpl;obtain⟨arr,el,hrow,hc'⟩:=P.row;have ex:∃(pb po:Nat) (hv:Value),At w 75 #[ptr L.x 0,.int .i64 o.Parent] (ptr pb po)/\pb<w.heap.size/\w.cell? ⟨pb,po,none⟩=some hv/\At w 10 #[hv,.int .i64 o.Before] (.bool has):=⟨pb,po,hv,fZ,(V4.1 hrow).1,(O5 hrow hc').1,bq7 hE hg P hh⟩;cases has with
       |false=>cases h;exact lU hE (by decide) (bA5 hx c0 c1 U8 hP h21 hbl oO Y5 hb (.inr ⟨lT hu0,ex⟩))
       |true=>
        simp only[fC,G6]at h;obtain⟨t2,f0,f1,f2⟩:=fin h;exact okk (bA6 hx c0 c1 U8 hP h21 hbl oO Y5 (.inr ⟨hb,lT hu0,ex⟩) f0 f1 f2)
end
section
open Go Go.F6 Go.RowKit Go.Ev Proofs.Tryz
set_option maxRecDepth 100000
set_option maxHeartbeats 4000000
theorem bL4{Z:Zone}{w:World}{v:Value}{l:List Int}{o:Option Nat}(h:O9 w 3 1 v l.length (Y7 l) o)(hZ:∀b,o=some b->∀k,Z b k):Rep Z w (.sl 1 (l.map F5)) v:=by
 cases l with
 |nil=>
  cases h with
  |e a=>exact .nil _ _ _
  |b b c n arr hh hs hn hm h1=>exact .nil _ _ _
 |cons n l=>
  obtain⟨b,c,rfl,rfl,hc⟩:=h.form (by simp);have hlt:=hZ b rfl;refine cast (by rw[U7]) (Rep.sl (Z:=Z) (w:=w) 1 ((n::l).map F5) b 0 c (λi _=>.int .i64 ((n::l)[i]?.getD 0)) (by simpa using hc) (λi d hd=>?_) (λi j d e hd he=>?_) (λi j d e hd he=>?_))
  .rw[O6]at hd;cases hi:(n::l)[i]? with
   |none=>rw[hi]at hd;cases hd
   |some m=>rw[hi]at hd;cases hd;rfl
  .rw[O6]at hd;cases hi:(n::l)[i]? with
   |none=>rw[hi]at hd;cases hd
   |some m=>
    rw[hi]at hd;cases hd
    match j,he with
    |0,he=>
     cases he;refine⟨hlt _,?_,rfl⟩;refine h.cell ?_;simp only[Y7,O6,V7,vY,oD,hi];rfl
  .rw[O6]at hd;cases hi:(n::l)[i]? with
   |none=>rw[hi]at hd;cases hd
   |some m=>
    rw[hi]at hd;cases hd
    match j,he with
    |0,he=>cases he;exact .v _
theorem Ed.c95{Z:Zone}{w0 w:World}{L:Lay}(h:Ed w0 w L)(hZ:∀q b,L.at q=some b->∀k,Z b k):Rep Z w (.sl 6 ((L.rows.map Row.b).map G8)) L.bv:=by
 cases hr:L.rows with
 |nil=>
  have hb:=h.hb;rw[hr]at hb;generalize rcs []=C at hb;generalize L.bo=o at hb;generalize L.bv=v at hb;cases hb with
  |e a=>exact .nil _ _ _
  |b b c n arr hh hs hn hm h1=>exact .nil _ _ _
 |cons r0 rs=>
  obtain⟨b,c,P8,hbv,hc⟩:=h.pX (i:=0) (r:=r0) (by rw[hr];rfl);have hlt:=hZ .b b P8;rw[hbv,<-hr];have hg:∀(i j:Nat)(d:List CV)(e:CV),((L.rows.map Row.b).map G8)[i]?=some d->d[j]?=some e->∃r,L.rows[i]?=some r/\d=G8 r.b/\j<6:=λi j d e hd he=>by
   rw[O6,O6]at hd;cases hi:L.rows[i]? with
   |none=>rw[hi]at hd;cases hd
   |some r=>
    rw[hi]at hd;cases hd;exact⟨r,rfl,rfl,(O4.1 he).1⟩
  refine cast (by simp) (Rep.sl (Z:=Z) (w:=w) 6 ((L.rows.map Row.b).map G8) b 0 c (λi j=>((L.rows[i]?).bind λr=>r.cs[j]?).getD undef) (by simpa using hc) (λi d hd=>?_) (λi j d e hd he=>?_) (λi j d e hd he=>?_))
  .rw[O6,O6]at hd;cases hi:L.rows[i]? with
   |none=>rw[hi]at hd;cases hd
   |some r=>rw[hi]at hd;cases hd;rfl
  .obtain⟨r,hi,rfl,hj⟩:=hg i j d e hd he;obtain⟨u,hu⟩:∃u,r.cs[j]?=some u:=⟨_,I9 (show j<r.cs.length from hj)⟩;refine⟨hlt _,?_,?_⟩
   .rw[V7,h.cell hi P8 hj hu];simp[hi,hu]
   .match j,he with
    |0,he=>cases he;rfl
    |1,he=>cases he;rfl
    |2,he=>cases he;rfl
    |3,he=>cases he;rfl
    |4,he=>cases he;rfl
    |5,he=>cases he;rfl
  .obtain⟨r,hi,rfl,hj⟩:=hg i j d e hd he;simp only[hi,G5]
   match j,he with
   |0,he=>cases he;exact .v _
   |1,he=>cases he;exact .v _
   |2,he=>cases he;exact .v _
   |3,he=>cases he;exact .v _
   |4,he=>cases he;exact .v _
   |5,he=>cases he;exact bL4 (h.hk i r hi) λb hb=>hZ (.k i) b (by simp[Lay.at,hi,hb])
theorem Ed.c94{Z:Zone}{w0 w:World}{L:Lay}(h:Ed w0 w L)(hZ:∀q b,L.at q=some b->∀k,Z b k):Rep Z w (.agg (dO L.tree)) (.agg #[L.rv,L.bv]):=
 .agg _ [L.rv,L.bv] rfl (λi c x h1 h2=>by
  match i,h1,h2 with
  |0,h1,h2=>cases h1;cases h2;exact bL4 h.hr λb hb=>hZ .r b hb
  |1,h1,h2=>cases h1;cases h2;exact h.c95 hZ) (λi c h1=>by
  match i,h1 with
  |0,h1=>cases h1;rfl
  |1,h1=>cases h1;rfl)
def ent(k:Int)(f:Nat)(c:Nat):MapEntry:={ key:=.int .i64 k,val:=.func (.func f) #[] #[],born:=c }
theorem ZP{W:World}{b clock:Nat}{arr:Array MapEntry}{k:Int}{f:Nat}(h:W.heap[b]?=some (.map arr clock))(hf:Instr.findNow (.int .i64) (.int .i64 k) arr.toList 0=some none):
 (Instr.mapUpdate 93 (.map (some b)) (.int .i64 k) (.func (.func f) #[] #[])).run prog W=.ok () (W.putObj b (.map (arr.push (ent k f clock)) (clock+1))):=by
 have hc:(Instr.checkKey false 10000 3 (.int .i64 k)).run prog W=.ok () W:=MapKept.run_checkKey underlying3 ((uS .i64).key k) false 9999;simp only[Instr.mapUpdate,I7,L6 underlying93,N9,oC h,hc,MapKept.run_findKey underlying3 hf,GU _ h];rfl
def QD:Array MapEntry:=#[ent 1 32 0,ent 2 33 1,ent 3 34 2,ent 4 35 3,ent 5 36 4]
theorem cR2(W:World)(b:Nat)(h:W.heap[b]?=some (.map #[] 0)):∃P1 P2 P3 P4 P5:World,
 (Instr.mapUpdate 93 (.map (some b)) (.int .i64 1) (.func (.func 32) #[] #[])).run prog W=.ok () P1/\(Instr.mapUpdate 93 (.map (some b)) (.int .i64 2) (.func (.func 33) #[] #[])).run prog P1=.ok () P2/\
 (Instr.mapUpdate 93 (.map (some b)) (.int .i64 3) (.func (.func 34) #[] #[])).run prog P2=.ok () P3/\(Instr.mapUpdate 93 (.map (some b)) (.int .i64 4) (.func (.func 35) #[] #[])).run prog P3=.ok () P4/\
 (Instr.mapUpdate 93 (.map (some b)) (.int .i64 5) (.func (.func 36) #[] #[])).run prog P4=.ok () P5/\P5.heap[b]?=some (.map QD 5)/\(∀k,k≠b->P5.heap[k]?=W.heap[k]?)/\P5.heap.size=W.heap.size/\P5.os=W.os/\P5.tape=W.tape/\P5.output=W.output:=by
 have hb:b<W.heap.size:=(V4.1 h).1;have s:∀(V:World)(o:Obj),b<V.heap.size->(V.putObj b o).heap[b]?=some o:=λV o h=>World.putObj_heap_same h;have h1:=ZP (k:=1) (f:=32) h rfl;have g1:=s W (.map (#[].push (ent 1 32 0)) 1) hb;have h2:=ZP (k:=2) (f:=33) g1 rfl;have g2:=s (W.putObj b (.map (#[].push (ent 1 32 0)) 1)) (.map ((#[].push (ent 1 32 0)).push (ent 2 33 1)) 2) (by simpa using hb);have h3:=ZP (k:=3) (f:=34) g2 rfl;have g3:=s ((W.putObj b (.map (#[].push (ent 1 32 0)) 1)).putObj b (.map ((#[].push (ent 1 32 0)).push (ent 2 33 1)) 2)) (.map (((#[].push (ent 1 32 0)).push (ent 2 33 1)).push (ent 3 34 2)) 3) (by simpa using hb);have h4:=ZP (k:=4) (f:=35) g3 rfl;have g4:=s (((W.putObj b (.map (#[].push (ent 1 32 0)) 1)).putObj b (.map ((#[].push (ent 1 32 0)).push (ent 2 33 1)) 2)).putObj b (.map (((#[].push (ent 1 32 0)).push (ent 2 33 1)).push (ent 3 34 2)) 3)) (.map ((((#[].push (ent 1 32 0)).push (ent 2 33 1)).push (ent 3 34 2)).push (ent 4 35 3)) 4) (by simpa using hb);have h5:=ZP (k:=5) (f:=36) g4 rfl;refine⟨_,_,_,_,_,h1,h2,h3,h4,h5,World.putObj_heap_same (by simpa using hb),λk hk=>?_,by simp,rfl,rfl,rfl⟩;rw[gK hk,gK hk,gK hk,gK hk,gK hk]
theorem YB{W:World}{b:Nat}(h:W.heap[b]?=some (.map QD 5))(n:Int):(Instr.lookup 93 (.map (some b)) (.int .i64 n) true).run prog W=
 .ok (.tuple #[if n=1 then .func (.func 32) #[] #[]else if n=2 then .func (.func 33) #[] #[]else if n=3 then .func (.func 34) #[] #[]else if n=4 then .func (.func 35) #[] #[]else if n=5 then .func (.func 36) #[] #[]else .nilFunc,.bool (decide (1<=n/\n<=5))]) W:=by
 have hc:∀q,(Instr.checkKey q 10000 3 (.int .i64 n)).run prog W=.ok () W:=λq=>MapKept.run_checkKey underlying3 ((uS .i64).key n) q 9999;have hit:∀(k:Nat)(v:Value),Instr.findNow (.int .i64) (.int .i64 n) QD.toList 0=some (some (k,v))->(Instr.lookup 93 (.map (some b)) (.int .i64 n) true).run prog W=.ok (.tuple #[v,.bool true]) W:=λk v hf=>by
  simp only[Instr.lookup,I7,L6 underlying93,N9,Q5,oC h,hc,MapKept.run_findKey underlying3 hf,if_true]
 by_cases h1:n=1
 .subst h1;exact hit 0 _ rfl
 by_cases h2:n=2
 .subst h2;exact hit 1 _ rfl
 by_cases h3:n=3
 .subst h3;exact hit 2 _ rfl
 by_cases h4:n=4
 .subst h4;exact hit 3 _ rfl
 by_cases h5:n=5
 .subst h5;exact hit 4 _ rfl
 have hf:Instr.findNow (.int .i64) (.int .i64 n) QD.toList 0=some none:=by
  have e1:(n==1)=false:=CJ.2 h1;have e2:(n==2)=false:=CJ.2 h2;have e3:(n==3)=false:=CJ.2 h3;have e4:(n==4)=false:=CJ.2 h4;have e5:(n==5)=false:=CJ.2 h5;simp[QD,ent,Instr.findNow,Instr.sameNow,e1,e2,e3,e4,e5]
 rw[F9 h1,F9 h2,F9 h3,F9 h4,F9 h5,show decide (1<=n/\n<=5)=false from eU (by omega)];simp only[Instr.lookup,I7,L6 underlying93,N9,Q5,oC h,hc,MapKept.run_findKey underlying3 hf,zeroValue90,if_true]
structure AB(w W:World)(rv bv:Value)(o:Opn):Prop where
 b:Below w.heap.size w W
 t:W.heap[w.heap.size]?=some (.cells #[rv,bv] 36 (0,0))
 o:W.heap[w.heap.size+1]?=some (.cells (zN o) 33 (0,0))
 r:W.heap[w.heap.size+2]?=some (.cells #[.slice none 0 0,.slice none 0 0] 36 (0,0))
 s:w.heap.size+4<=W.heap.size
theorem AB.below{w W W':World}{rv bv:Value}{o:Opn}(h:AB w W rv bv o)(hb:Below W.heap.size W W'):AB w W' rv bv o:=
 ⟨Below.and h.b (hb.mono (by omega)) |>λ_=>h.b.trans (hb.mono h.b.size),(hb.block _ (by have:=h.s;omega)).trans h.t,(hb.block _ (by have:=h.s;omega)).trans h.o,(hb.block _ (by have:=h.s;omega)).trans h.r,X4 h.s hb.size⟩
theorem VA(w:World)(rv bv:Value)(o:Opn):∃P1 P2 P3 P4 P5:World,(Instr.mapUpdate 93 (.map (some (w.heap.size+3))) (.int .i64 1) (.func (.func 32) #[] #[])).run prog ((((w.alloc (.cells #[rv,bv] 36)).alloc (.cells (zN o) 33)).alloc (.cells #[.slice none 0 0,.slice none 0 0] 36)).alloc (.map #[] 0))=.ok () P1/\
 (Instr.mapUpdate 93 (.map (some (w.heap.size+3))) (.int .i64 2) (.func (.func 33) #[] #[])).run prog P1=.ok () P2/\
 (Instr.mapUpdate 93 (.map (some (w.heap.size+3))) (.int .i64 3) (.func (.func 34) #[] #[])).run prog P2=.ok () P3/\(Instr.mapUpdate 93 (.map (some (w.heap.size+3))) (.int .i64 4) (.func (.func 35) #[] #[])).run prog P3=.ok () P4/\
 (Instr.mapUpdate 93 (.map (some (w.heap.size+3))) (.int .i64 5) (.func (.func 36) #[] #[])).run prog P4=.ok () P5/\P5.heap[w.heap.size+3]?=some (.map QD 5)/\AB w P5 rv bv o:=by
 obtain⟨W1,hW1⟩:∃W1,W1=w.alloc (.cells #[rv,bv] 36):=⟨_,rfl⟩;obtain⟨W2,hW2⟩:∃W2,W2=W1.alloc (.cells (zN o) 33):=⟨_,rfl⟩;obtain⟨W3,hW3⟩:∃W3,W3=W2.alloc (.cells #[.slice none 0 0,.slice none 0 0] 36):=⟨_,rfl⟩;rw[<-hW1,<-hW2,<-hW3];have s1:W1.heap.size=w.heap.size+1:=by rw[hW1];simp
 have s2:W2.heap.size=w.heap.size+2:=by rw[hW2];simp[s1]
 have s3:W3.heap.size=w.heap.size+3:=by rw[hW3];simp[s2]
 have h1:W1.heap[w.heap.size]?=some (.cells #[rv,bv] 36 (0,0)):=by rw[hW1];exact aW w _
 have h2:W2.heap[w.heap.size+1]?=some (.cells (zN o) 33 (0,0)):=by rw[<-s1,hW2];exact aW W1 _
 have h3:W3.heap[w.heap.size+2]?=some (.cells #[.slice none 0 0,.slice none 0 0] 36 (0,0)):=by rw[<-s2,hW3];exact aW W2 _
 have hm:(W3.alloc (.map #[] 0)).heap[w.heap.size+3]?=some (.map #[] 0):=by rw[<-s3];exact aW W3 _
 have b1:Below w.heap.size w W1:=hW1▸al w _;have b2:Below W1.heap.size W1 W2:=hW2▸al W1 _;have b3:Below W2.heap.size W2 W3:=hW3▸al W2 _;obtain⟨P1,P2,P3,P4,P5,q1,q2,q3,q4,q5,q6,q7,q8,q9,q10,q11⟩:=cR2 _ _ hm;have bm:=al W3 (.map #[] 0);have hk:∀k,k<w.heap.size+3->P5.heap[k]?=W3.heap[k]?:=λk hk=>(q7 k (by omega)).trans (bm.block k (by omega));have hb:Below w.heap.size w W3:=Below.and b1 (Below.and b2 b3);refine⟨P1,P2,P3,P4,P5,q1,q2,q3,q4,q5,q6,⟨q9.trans hb.os,q10.trans hb.tape,q11.trans hb.output,by rw[q8];exact X4 hb.size bm.size,λk h=>(hk k (by omega)).trans (hb.block k h)⟩,(hk _ (by omega)).trans (((Below.and b2 b3).block _ (by omega)).trans h1),(hk _ (by omega)).trans ((b3.block _ (by omega)).trans h2),(hk _ (by omega)).trans h3,by rw[q8];simp[s3]⟩
structure AC(w W:World)(rv bv:Value)(o:Opn):Prop where
 t0:W.cell? ⟨w.heap.size,0,none⟩=some rv
 t1:W.cell? ⟨w.heap.size,1,none⟩=some bv
 o0:W.cell? ⟨w.heap.size+1,0,none⟩=some (.int .i64 o.ID)
 o1:W.cell? ⟨w.heap.size+1,1,none⟩=some (.int .i64 o.Day)
 o2:W.cell? ⟨w.heap.size+1,2,none⟩=some (.int .i64 o.Kind)
 o3:W.cell? ⟨w.heap.size+1,3,none⟩=some (.int .i64 o.Unit)
 o4:W.cell? ⟨w.heap.size+1,4,none⟩=some (.int .i64 o.Parent)
 o5:W.cell? ⟨w.heap.size+1,5,none⟩=some (.int .i64 o.Before)
 o6:W.cell? ⟨w.heap.size+1,6,none⟩=some (.int .i64 o.Level)
 o7:W.cell? ⟨w.heap.size+1,7,none⟩=some (.string ⟨⟨o.Title⟩⟩)
 o8:W.cell? ⟨w.heap.size+1,8,none⟩=some (.string ⟨⟨o.Mark⟩⟩)
 o9:W.cell? ⟨w.heap.size+1,9,none⟩=some (.int .i64 o.Origin.aK)
 oa:W.cell? ⟨w.heap.size+1,10,none⟩=some (.int .i64 o.Origin.U3)
 ob:W.cell? ⟨w.heap.size+1,11,none⟩=some (.int .i64 o.Origin.Number)
 r0:W.cell? ⟨w.heap.size+2,0,none⟩=some (.slice none 0 0)
 r1:W.cell? ⟨w.heap.size+2,1,none⟩=some (.slice none 0 0)
 f0:W.frozen? ⟨w.heap.size+2,0,none⟩=false
 f1:W.frozen? ⟨w.heap.size+2,1,none⟩=false
theorem AB.c{w W:World}{rv bv:Value}{o:Opn}(h:AB w W rv bv o):AC w W rv bv o:=
 ⟨(O5 h.t rfl).1,(O5 h.t rfl).1,(O5 h.o rfl).1,(O5 h.o rfl).1,(O5 h.o rfl).1,(O5 h.o rfl).1,(O5 h.o rfl).1,(O5 h.o rfl).1,(O5 h.o rfl).1,(O5 h.o rfl).1,(O5 h.o rfl).1,(O5 h.o rfl).1,(O5 h.o rfl).1,(O5 h.o rfl).1,(O5 h.r rfl).1,(O5 h.r rfl).1,(O5 (o:=0) h.r rfl).2,(O5 (o:=1) h.r rfl).2⟩
theorem AB.res{w W:World}{rv bv:Value}{o:Opn}(h:AB w W rv bv o)(x y:Value):Below w.heap.size w ((W.setCell ⟨w.heap.size+2,0,none⟩ x).setCell ⟨w.heap.size+2,1,none⟩ y):=
 Below.uX (Below.uX h.b (by omega)) (by omega)
theorem ci8{w:World}{rv bv:Value}{o:Opn}(hk:¬(1<=o.Kind/\o.Kind<=5)):
 Calls prog 11 #[.agg #[rv,bv],oval o] w λe w'=>e=.returned (.tuple #[.agg #[.slice none 0 0,.slice none 0 0],.int .i64 1])/\Below w.heap.size w w':=by
 obtain⟨P1,P2,P3,P4,P5,q1,q2,q3,q4,q5,q6,A⟩:=VA w rv bv o;have hl:=YB q6 o.Kind;rw[show decide (1<=o.Kind/\o.Kind<=5)=false from eU hk,F9 (by omega),F9 (by omega),F9 (by omega),F9 (by omega),F9 (by omega)]at hl;have k2:=A.c.o2;have r0:=A.c.r0;have r1:=A.c.r1;have f0:=A.c.f0;have f1:=A.c.f1;have hmm:=@aq0 prog;have HA:=Lib.hid A;clear A q6
 go_enter func11,ntmps11
 go_wp2
 have s0:=(O5 (o:=0) (pI (rv:=.slice none 0 0) (bv:=.slice none 0 0) HA.out.r) rfl).1;have s1:=(O5 (o:=1) (pI (rv:=.slice none 0 0) (bv:=.slice none 0 0) HA.out.r) rfl).1;exact af6 (v:=.tuple #[.agg #[.slice none 0 0,.slice none 0 0],.int .i64 1]) (by simp[results,Tryz.results11,go_sem,s0,s1]) rfl ⟨rfl,HA.out.res _ _⟩
def AP(w:World)(r:Tree×Int)(e:Ending)(w':World):Prop:=∃rv' bv',e=.returned (.tuple #[.agg #[rv',bv'],.int .i64 r.2])/\Below w.heap.size w w'/\Rep (λb _=>w.heap.size<=b/\b<w'.heap.size) w' (.agg (dO r.1)) (.agg #[rv',bv'])
def KF(o:Opn)(F:FuncId):Prop:=(o.Kind=1/\F=32)\/(o.Kind=2/\F=33)\/(o.Kind=3/\F=34)\/(o.Kind=4/\F=35)\/(o.Kind=5/\F=36)
theorem ae3{w w':World}{z:Int}{e:Ending}(h1:e=.returned (.tuple #[.agg #[.slice none 0 0,.slice none 0 0],.int .i64 z]))(h2:Below w.heap.size w w'):AP w (E0,z) e w':=
 ⟨_,_,h1,h2,.agg _ [.slice none 0 0,.slice none 0 0] rfl (λi c x q1 q2=>by
   match i,q1,q2 with
   |0,q1,q2=>cases q1;cases q2;exact .nil _ _ _
   |1,q1,q2=>cases q1;cases q2;exact .nil _ _ _) (λi c q1=>by
   match i,q1 with
   |0,q1=>cases q1;rfl
   |1,q1=>cases q1;rfl)⟩
theorem ci9{w:World}{rv bv:Value}{o:Opn}{F:FuncId}(hk:KF o F)(h37:∀W,Below w.heap.size w W->Calls prog 37 #[oval o] W λe W'=>e=.returned (.bool false)/\Below W.heap.size W W'):
 Calls prog 11 #[.agg #[rv,bv],oval o] w (AP w (E0,1)):=by
 unfold KF at hk;obtain⟨P1,P2,P3,P4,P5,q1,q2,q3,q4,q5,q6,A⟩:=VA w rv bv o;have hl:=YB q6 o.Kind;have hmm:=@aq0 prog;obtain⟨t0,t1,o0,o1,o2,o3,o4,o5,o6,o7,o8,o9,oa,ob,r0,r1,f0,f1⟩:=A.c;clear q6;rcases hk with⟨hk,rfl⟩|⟨hk,rfl⟩|⟨hk,rfl⟩|⟨hk,rfl⟩|⟨hk,rfl⟩
 all_goals
  conv at hl=>rhs;simp only[hk,I4,reduceIte,Int.reduceEq,Int.reduceLE,and_self,nG]
  have HK:=Lib.hid hk;clear hk
  go_enter func11,ntmps11
  go_wp2_with (go_at_call 37;refine(h37 _ A.b).mono ?_;rintro e w6 ⟨rfl,hw6⟩;have A6:=A.below hw6;obtain⟨t06,t16,o06,o16,o26,o36,o46,o56,o66,o76,o86,o96,oa6,ob6,r06,r16,f06,f16⟩:=A6.c)
  have s0:=(O5 (o:=0) (pI (rv:=.slice none 0 0) (bv:=.slice none 0 0) A6.r) rfl).1;have s1:=(O5 (o:=1) (pI (rv:=.slice none 0 0) (bv:=.slice none 0 0) A6.r) rfl).1;exact af6 (v:=.tuple #[.agg #[.slice none 0 0,.slice none 0 0],.int .i64 1]) (by simp[results,Tryz.results11,go_sem,s0,s1]) rfl (ae3 rfl (A6.res _ _))
theorem cj0{w:World}{rv bv:Value}{o:Opn}{F:FuncId}(hk:KF o F)(h37:∀W,Below w.heap.size w W->Calls prog 37 #[oval o] W λe W'=>e=.returned (.bool true)/\Below W.heap.size W W')(h38:∀W,Below w.heap.size w W->Calls prog 38 #[.agg #[rv,bv]] W λe W'=>e=.returned (.bool false)/\Below W.heap.size W W'):
 Calls prog 11 #[.agg #[rv,bv],oval o] w (AP w (E0,1)):=by
 unfold KF at hk;obtain⟨P1,P2,P3,P4,P5,q1,q2,q3,q4,q5,q6,A⟩:=VA w rv bv o;have hl:=YB q6 o.Kind;have hmm:=@aq0 prog;obtain⟨t0,t1,o0,o1,o2,o3,o4,o5,o6,o7,o8,o9,oa,ob,r0,r1,f0,f1⟩:=A.c;clear q6;rcases hk with⟨hk,rfl⟩|⟨hk,rfl⟩|⟨hk,rfl⟩|⟨hk,rfl⟩|⟨hk,rfl⟩
 all_goals
  conv at hl=>rhs;simp only[hk,I4,reduceIte,Int.reduceEq,Int.reduceLE,and_self,nG]
  have HK:=Lib.hid hk;clear hk
  go_enter func11,ntmps11
  go_wp2_with (first|(go_at_call 37;refine(h37 _ A.b).mono ?_;rintro e w6 ⟨rfl,hw6⟩;have A6:=A.below hw6;obtain⟨t06,t16,o06,o16,o26,o36,o46,o56,o66,o76,o86,o96,oa6,ob6,r06,r16,f06,f16⟩:=A6.c)|(go_at_call 38;refine(h38 _ A6.b).mono ?_;rintro e w7 ⟨rfl,hw7⟩;have A7:=A6.below hw7;obtain⟨t07,t17,o07,o17,o27,o37,o47,o57,o67,o77,o87,o97,oa7,ob7,r07,r17,f07,f17⟩:=A7.c))
  have s0:=(O5 (o:=0) (pI (rv:=.slice none 0 0) (bv:=.slice none 0 0) A7.r) rfl).1;have s1:=(O5 (o:=1) (pI (rv:=.slice none 0 0) (bv:=.slice none 0 0) A7.r) rfl).1;exact af6 (v:=.tuple #[.agg #[.slice none 0 0,.slice none 0 0],.int .i64 1]) (by simp[results,Tryz.results11,go_sem,s0,s1]) rfl (ae3 rfl (A7.res _ _))
theorem cj1{w:World}{rv bv:Value}{o:Opn}{F:FuncId}(hk:KF o F){t:Tree}{r:Tree×Int}(h37:∀W,Below w.heap.size w W->Calls prog 37 #[oval o] W λe W'=>e=.returned (.bool true)/\Below W.heap.size W W')(h38:∀W,Below w.heap.size w W->Calls prog 38 #[.agg #[rv,bv]] W λe W'=>e=.returned (.bool true)/\Below W.heap.size W W')(hed:∀W,Below w.heap.size w W->Calls prog 39 #[.agg #[rv,bv]] W λe W'=>∃L,e=.returned (ptr L.x 0)/\Ed W W' L/\L.tree=t)(hdo:∀W W' L,Ed W W' L->Below w.heap.size w W->L.tree=t->Calls prog F #[ptr L.x 0,oval o] W' (tJ W L.x r))(hr:r.2≠0):
 Calls prog 11 #[.agg #[rv,bv],oval o] w (AP w (E0,r.2)):=by
 unfold KF at hk;obtain⟨P1,P2,P3,P4,P5,q1,q2,q3,q4,q5,q6,A⟩:=VA w rv bv o;have hl:=YB q6 o.Kind;have hmm:=@aq0 prog;obtain⟨t0,t1,o0,o1,o2,o3,o4,o5,o6,o7,o8,o9,oa,ob,r0,r1,f0,f1⟩:=A.c;clear q6;have hr':(r.2 !=0)=true:=by simp[hr]
 clear hr;rcases hk with⟨hk,rfl⟩|⟨hk,rfl⟩|⟨hk,rfl⟩|⟨hk,rfl⟩|⟨hk,rfl⟩
 all_goals
  conv at hl=>rhs;simp only[hk,I4,reduceIte,Int.reduceEq,Int.reduceLE,and_self,nG]
  have HK:=Lib.hid hk;clear hk
  go_enter func11,ntmps11
  go_wp2_with (first|(go_at_call 37;refine(h37 _ A.b).mono ?_;rintro e w6 ⟨rfl,hw6⟩;have A6:=A.below hw6;obtain⟨t06,t16,o06,o16,o26,o36,o46,o56,o66,o76,o86,o96,oa6,ob6,r06,r16,f06,f16⟩:=A6.c)|(go_at_call 38;refine(h38 _ A6.b).mono ?_;rintro e w7 ⟨rfl,hw7⟩;have A7:=A6.below hw7;obtain⟨t07,t17,o07,o17,o27,o37,o47,o57,o67,o77,o87,o97,oa7,ob7,r07,r17,f07,f17⟩:=A7.c)|(go_at_call 39;refine(hed _ A7.b).mono ?_;rintro e w8 ⟨L,rfl,hE,ht⟩;have A8:=A7.below hE.base;have aG9:=hdo _ _ _ hE A7.b ht;obtain⟨t08,t18,o08,o18,o28,o38,o48,o58,o68,o78,o88,o98,oa8,ob8,r08,r18,f08,f18⟩:=A8.c)|((first|go_at_call 32|go_at_call 33|go_at_call 34|go_at_call 35|go_at_call 36);refine aG9.mono ?_;rintro e w9 ⟨rfl,hb9,hr9⟩;have A9:=A7.below hb9;obtain⟨t09,t19,o09,o19,o29,o39,o49,o59,o69,o79,o89,o99,oa9,ob9,r09,r19,f09,f19⟩:=A9.c))
  have s0:=(O5 (o:=0) (pI (rv:=.slice none 0 0) (bv:=.slice none 0 0) A9.r) rfl).1;have s1:=(O5 (o:=1) (pI (rv:=.slice none 0 0) (bv:=.slice none 0 0) A9.r) rfl).1;exact af6 (v:=.tuple #[.agg #[.slice none 0 0,.slice none 0 0],.int .i64 r.2]) (by simp[results,Tryz.results11,go_sem,s0,s1]) rfl (ae3 rfl (A9.res _ _))
theorem cj3{w:World}{rv bv:Value}{o:Opn}{F:FuncId}(hk:KF o F){t:Tree}{r:Tree×Int}(h37:∀W,Below w.heap.size w W->Calls prog 37 #[oval o] W λe W'=>e=.returned (.bool true)/\Below W.heap.size W W')(h38:∀W,Below w.heap.size w W->Calls prog 38 #[.agg #[rv,bv]] W λe W'=>e=.returned (.bool true)/\Below W.heap.size W W')(hed:∀W,Below w.heap.size w W->Calls prog 39 #[.agg #[rv,bv]] W λe W'=>∃L,e=.returned (ptr L.x 0)/\Ed W W' L/\L.tree=t)(hdo:∀W W' L,Ed W W' L->Below w.heap.size w W->L.tree=t->Calls prog F #[ptr L.x 0,oval o] W' (tJ W L.x r))(hr:r.2=0):
 Calls prog 11 #[.agg #[rv,bv],oval o] w (AP w r):=by
 unfold KF at hk;obtain⟨P1,P2,P3,P4,P5,q1,q2,q3,q4,q5,q6,A⟩:=VA w rv bv o;have hl:=YB q6 o.Kind;have hmm:=@aq0 prog;obtain⟨t0,t1,o0,o1,o2,o3,o4,o5,o6,o7,o8,o9,oa,ob,r0,r1,f0,f1⟩:=A.c;clear q6;have hr':(r.2 !=0)=false:=by simp[hr]
 have hz:r.2=0:=hr;have HZ:=Lib.hid hr;clear hr;rcases hk with⟨hk,rfl⟩|⟨hk,rfl⟩|⟨hk,rfl⟩|⟨hk,rfl⟩|⟨hk,rfl⟩
 all_goals
  conv at hl=>rhs;simp only[hk,I4,reduceIte,Int.reduceEq,Int.reduceLE,and_self,nG]
  have HK:=Lib.hid hk;clear hk
  go_enter func11,ntmps11
  go_wp2_with (first|(go_at_call 37;refine(h37 _ A.b).mono ?_;rintro e w6 ⟨rfl,hw6⟩;have A6:=A.below hw6;obtain⟨t06,t16,o06,o16,o26,o36,o46,o56,o66,o76,o86,o96,oa6,ob6,r06,r16,f06,f16⟩:=A6.c)|(go_at_call 38;refine(h38 _ A6.b).mono ?_;rintro e w7 ⟨rfl,hw7⟩;have A7:=A6.below hw7;obtain⟨t07,t17,o07,o17,o27,o37,o47,o57,o67,o77,o87,o97,oa7,ob7,r07,r17,f07,f17⟩:=A7.c)|(go_at_call 39;refine(hed _ A7.b).mono ?_;rintro e w8 ⟨L,rfl,hE,ht⟩;have A8:=A7.below hE.base;have aG9:=hdo _ _ _ hE A7.b ht;obtain⟨t08,t18,o08,o18,o28,o38,o48,o58,o68,o78,o88,o98,oa8,ob8,r08,r18,f08,f18⟩:=A8.c)|((first|go_at_call 32|go_at_call 33|go_at_call 34|go_at_call 35|go_at_call 36);refine aG9.mono ?_;rintro e w9 ⟨rfl,hb9,hr9⟩;have A9:=A7.below hb9;obtain⟨t09,t19,o09,o19,o29,o39,o49,o59,o69,o79,o89,o99,oa9,ob9,r09,r19,f09,f19⟩:=A9.c;obtain⟨L9,JR,hx9,ht9⟩:=hr9 hz;obtain⟨va,vc,hva,_⟩:=JR.hr.sl;obtain⟨ba,bc,hba,_⟩:=JR.hb.sl;have y0:=JR.c0;have y1:=JR.c1;rw[hx9,hva]at y0;rw[hx9,hba]at y1;have HV:=Lib.hid hva;have HB:=Lib.hid hba;clear hva hba))
  have s0:=(O5 (o:=0) (pI (rv:=.slice va L9.roots.length vc) (bv:=.slice ba L9.rows.length bc) A9.r) rfl).1;have s1:=(O5 (o:=1) (pI (rv:=.slice va L9.roots.length vc) (bv:=.slice ba L9.rows.length bc) A9.r) rfl).1;refine af6 (v:=.tuple #[.agg #[.slice va L9.roots.length vc,.slice ba L9.rows.length bc],.int .i64 0]) (by simp[results,Tryz.results11,go_sem,s0,s1]) rfl ⟨_,_,by rw[HZ.out],A9.res _ _,?_⟩;have hR:=JR.c94 (Z:=λb _=>w7.heap.size<=b/\b<w9.heap.size) λq b hq _=>⟨JR.lo q b hq,JR.bD hq⟩;rw[HV.out,HB.out,ht9]at hR;have hs7:=A7.s;have hb7:=A7.b.size;exact hR.keep λb o hb=>⟨⟨by omega,by rw[aa2,aa2];exact hb.2⟩,iH (aa1 (by omega))⟩
end
section
open Go Go.F6 Go.RowKit Go.Ev Proofs.Tryz
def oW(t:Tree)(o:Opn):Option (Tree×Int):=
 bif decide (1<=o.Kind/\o.Kind<=5)then(ET o).bind λfo=>bif !fo then some (E0,1)else(bN6 t).bind λri=>bif !ri then some (E0,1)else
  bif Sz t then(bif o.Kind==1 then VW t o else bif o.Kind==2 then VY t o else bif o.Kind==3 then WA t o else bif o.Kind==4 then VX t o else VZ t o).bind λr=>bif r.2==0 then some r else some (E0,r.2)
  else none
 else some (E0,1)
theorem c97{Z:Zone}{w:World}{xs:List Value}{v:Value}(h:Rep Z w (.agg (xs.map CV.v)) v):v=.agg xs.toArray:=by
 generalize hc:xs.map CV.v=cs at h;cases h with
 |agg cs vs hl h ha=>
  subst hc;congr 2;apply mY;intro i;rw[U7]at hl;cases hx:xs[i]? with
  |none=>rw[ad7]at hx⊢;omega
  |some x=>
   have hi:=(O4.1 hx).1;obtain⟨y,hy⟩:∃y,vs[i]?=some y:=⟨_,I9 (by omega)⟩;rw[hy];exact congrArg some (sN (h i (.v x) y (by rw[O6,hx];rfl) hy))
theorem c60{Z:Zone}{w:World}{t:Tree}{o:Opn}{rv bv:Value}{r:Tree×Int}(hg:Gw w)(hz:∀b o,Z b o->b<w.heap.size)(hrep:Rep Z w (.agg (dO t)) (.agg #[rv,bv]))(ho:Rep Z w (.agg (F7 o)) (oval o))(h:oW t o=some r):
 Calls prog 11 #[.agg #[rv,bv],oval o] w (AP w r):=by
 unfold oW at h;by_cases hk:1<=o.Kind/\o.Kind<=5
 .rw[Y9 hk]at h;simp only[H7]at h;obtain⟨fo,hfo,h⟩:=aX h;have h37:∀W,Below w.heap.size w W->Calls prog 37 #[oval o] W λe W'=>e=.returned (.bool fo)/\Below W.heap.size W W':=λW hW=>
   ak5 (bM4 hfo) (Gs w W hg hW) (O8.cons (ho.keep (zH hz hW)) (O8.nil _ _)) λb o hb=>Z5 (hz b o hb) hW.size
  obtain⟨F,hF⟩:∃F,KF o F:=by
   have five:o.Kind=1\/o.Kind=2\/o.Kind=3\/o.Kind=4\/o.Kind=5:=by omega
   unfold KF;rcases five with h|h|h|h|h
   .exact⟨32,.inl ⟨h,rfl⟩⟩
   .exact⟨33,.inr (.inl ⟨h,rfl⟩)⟩
   .exact⟨34,.inr (.inr (.inl ⟨h,rfl⟩))⟩
   .exact⟨35,.inr (.inr (.inr (.inl ⟨h,rfl⟩)))⟩
   .exact⟨36,.inr (.inr (.inr (.inr ⟨h,rfl⟩)))⟩
  cases fo with
  |false=>cases h;exact ci9 hF h37
  |true=>
   simp only[fC,G6]at h;obtain⟨ri,hri,h⟩:=aX h;have h38:∀W,Below w.heap.size w W->Calls prog 38 #[.agg #[rv,bv]] W λe W'=>e=.returned (.bool ri)/\Below W.heap.size W W':=λW hW=>
    ak5 (db3 hri) (Gs w W hg hW) (O8.cons (hrep.keep (zH hz hW)) (O8.nil _ _)) λb o hb=>Z5 (hz b o hb) hW.size
   cases ri with
   |false=>cases h;exact cj0 hF h37 h38
   |true=>
    simp only[fC,G6]at h;refine kU h λhsz h=>?_;obtain⟨s1,s2,s3⟩:=bT7 hsz;have hed:∀W,Below w.heap.size w W->Calls prog 39 #[.agg #[rv,bv]] W λe W'=>∃L,e=.returned (ptr L.x 0)/\Ed W W' L/\L.tree=t:=λW hW=>by
     have hr:=hrep.keep (zH hz hW);have hzW:∀b o,Z b o->b<W.heap.size:=λb o hb=>Z5 (hz b o hb) hW.size;cases hr with
     |agg cs vs hl hh ha=>
      exact cu0 hzW (hh 0 _ rv rfl rfl) (hh 1 _ bv rfl rfl) s1 s2 s3
    obtain⟨q,hq,h⟩:=aX h;have hdo:∀W W' L,Ed W W' L->Below w.heap.size w W->L.tree=t->Calls prog F #[ptr L.x 0,oval o] W' (tJ W L.x q):=λW W' L hE hW ht=>by
     have hgw:=Gs w W hg hW;unfold KF at hF;subst ht;rcases hF with⟨hk,rfl⟩|⟨hk,rfl⟩|⟨hk,rfl⟩|⟨hk,rfl⟩|⟨hk,rfl⟩
     all_goals rw[hk]at hq
     .exact cr8 hE hgw hq
     .exact cS8 hE hgw hsz hq
     .exact c90 hE hgw hq
     .exact cR8 hE hgw hq
     .exact c83 hE hgw hq
    cases hz0:(q.2==0)with
    |true=>rw[hz0]at h;cases h;exact cj3 hF h37 h38 hed hdo (kS hz0)
    |false=>rw[hz0]at h;cases h;exact cj1 hF h37 h38 hed hdo (lT hz0)
 .rw[eU hk]at h;cases h;exact(ci8 hk).mono λe w' ⟨h1,h2⟩=>ae3 h1 h2
theorem aS1{t:Tree}{o:Opn}{r:Tree×Int}(h:oW t o=some r):Holds prog Gw 11 [.agg (dO t),.agg (F7 o)] (.P7 [.agg (dO r.1),I r.2]):=by
 refine bs6 ⟨_,func11,by decide,rfl⟩ λZ w vs h1 h2 h3=>?_
 match vs,h1 with
 |[tv,ov],h1=>
  have ht:=h1.head;have ho:=h1.tail.head;have eo:=c97 (xs:=(zN o).toList) ho;subst eo;have key:∃rv bv,tv=.agg #[rv,bv]:=by
   cases ht with
   |agg cs vs hl hh ha=>
    match vs,hl with
    |[a,c],_=>exact⟨a,c,rfl⟩
  obtain⟨rv,bv,rfl⟩:=key;refine(c60 h3 h2 ht ho h).mono ?_;rintro e w' ⟨rv',bv',rfl,hb,hr⟩;refine⟨_,λb o=>Z b o\/(w.heap.size<=b/\b<w'.heap.size),rfl,?_,λ_ _ hz=>.inl hz,λb o hz=>?_,hb⟩
  .refine .P7 _ [.agg #[rv',bv'],.int .i64 r.2] rfl (λi c x q1 q2=>?_)
   match i,q1,q2 with
   |0,q1,q2=>cases q1;cases q2;exact hr.keep λb o hz=>⟨.inr hz,rfl,λ_ _ h=>h⟩
   |1,q1,q2=>cases q1;cases q2;exact .v _
  .rcases hz with hz|hz
   .exact⟨.inl hz,Z5 (h2 b o hz) hb.size⟩
   .exact⟨.inr hz.1,hz.2⟩
end
section
open Go Go.F6 Proofs.Tryz
set_option maxRecDepth 10000
set_option maxHeartbeats 400000
abbrev bI3(y:Bool):CV:=B y
def YP(x:Came)(c0:Came):Option (Bool):=some ((x.Origin.U3==c0.Origin.U3))
theorem bI4{x:Came}{c0:Came}{r:Bool}(hF:YP x c0=some r):Holds prog Gw 276 [.agg (J7 x),.pi (J7 c0) 0] (bI3 r):=by
 refine Q9 L8 mixed func276 (by decide) rfl (H6 rfl) ?_;refine l9 ?_;exact l9 ⟨rfl,congrArg (Option.map bI3) hF⟩
abbrev aR1(y:Bool):CV:=B y
def an9(x:Came)(c0:Came)(c1:Came):Option (Bool):=Option.bind (YP x c0) λy1=>bif y1 then some ((x.Origin.Number==c1.Origin.Number))else some (false)
theorem c30{x:Came}{c0:Came}{c1:Came}{r:Bool}(hF:an9 x c0 c1=some r):Holds prog Gw 277 [.agg (J7 x),.pi [.fn 276 [.pi (J7 c0) 0]] 0,.pi (J7 c1) 0] (aR1 r):=by
 refine Q9 L8 mixed func277 (by decide) rfl (H6 rfl) ?_;refine l9 ?_;refine J9 ?_;refine D7 hF λy1 h2 hF=>?_;refine l9 ⟨_,bI4 h2,rfl,?_⟩;refine C9 (λh3=>?_) (λh3=>?_)
 .have hF:=D6 h3 hF;exact l9 ⟨rfl,congrArg (Option.map aR1) hF⟩
 .have hF:=D5 h3 hF;exact l9 ⟨rfl,congrArg (Option.map aR1) hF⟩
abbrev aR2(y:Bool):CV:=B y
def ao0(x:Came)(c0:Came)(c1:Came):Option (Bool):=Option.bind (YP x c0) λy1=>bif y1 then some ((x.Origin.aK !=c1.Origin.aK))else some (false)
theorem c33{x:Came}{c0:Came}{c1:Came}{r:Bool}(hF:ao0 x c0 c1=some r):Holds prog Gw 278 [.agg (J7 x),.pi [.fn 276 [.pi (J7 c0) 0]] 0,.pi (J7 c1) 0] (aR2 r):=by
 refine Q9 L8 mixed func278 (by decide) rfl (H6 rfl) ?_;refine l9 ?_;refine J9 ?_;refine D7 hF λy1 h2 hF=>?_;refine l9 ⟨_,bI4 h2,rfl,?_⟩;refine C9 (λh3=>?_) (λh3=>?_)
 .have hF:=D6 h3 hF;exact l9 ⟨rfl,congrArg (Option.map aR2) hF⟩
 .have hF:=D5 h3 hF;exact l9 ⟨rfl,congrArg (Option.map aR2) hF⟩
abbrev YQ(y:Int):CV:=I y
def SC(l:List Came)(c:Came):Option (Int):=bif (c.Origin.U3==0)then some (0)else(Option.bind (aa3 l (λz0=>an9 z0 c c)) λy2=>bif y2 then some (6)else(Option.bind (aa3 l (λz0=>ao0 z0 c c)) λy5=>bif y5 then some (10)else some (0)))
theorem aR3{l:List Came}{c:Came}{r:Int}(hF:SC l c=some r):Holds prog Gw 192 [.sl 4 (l.map J7),.agg (J7 c)] (YQ r):=by
 refine Q9 L8 mixed func192 (by decide) rfl (H6 rfl) ?_;refine l9 ?_;refine C9 (λh1=>?_) (λh1=>?_)
 .have hF:=D6 h1 hF;exact l9 ⟨rfl,congrArg (Option.map YQ) hF⟩
 .have hF:=D5 h1 hF;refine l9 ?_;refine l9 ?_;refine D7 hF λy2 h3 hF=>?_;refine l9 ⟨_,bQ1 (λ_ _ h=>c30 h) h3,rfl,?_⟩;refine C9 (λh4=>?_) (λh4=>?_)
  .have hF:=D6 h4 hF;exact l9 ⟨rfl,congrArg (Option.map YQ) hF⟩
  .have hF:=D5 h4 hF;refine D7 hF λy5 h6 hF=>?_;refine l9 ⟨_,bQ1 (λ_ _ h=>c33 h) h6,rfl,?_⟩;refine C9 (λh7=>?_) (λh7=>?_)
   .have hF:=D6 h7 hF;exact l9 ⟨rfl,congrArg (Option.map YQ) hF⟩
   .have hF:=D5 h7 hF;exact l9 ⟨rfl,congrArg (Option.map YQ) hF⟩
abbrev KX(y:Int×Int):CV:=.P7 [I y.1,I y.2]
def KY(l:List Came):Nat->Int->Option (Int×Int)
 |0,_=>none
 |fu1+1,v2=>bif decide (v2<((l.map J7).length:Int))then(Option.bind (ix l v2) λx4=>Option.bind (YO (⟨x4.Unit,x4.Origin⟩:Came)) λy6=>bif (!y6)then some (v2,2)else(bif decide (v2>0)then(Option.bind (ix l (IntKind.i64.wrap (v2-1))) λx10=>bif decide (x4.Unit<=x10.Unit)then some (v2,5)else(Option.bind (slc l 0 v2) λy13=>Option.bind (SC y13 (⟨x4.Unit,x4.Origin⟩:Came)) λfJ=>bif (fJ !=0)then some (v2,fJ)else KY l fu1 (IntKind.i64.wrap (v2+1))))else(Option.bind (slc l 0 v2) λlD=>Option.bind (SC lD (⟨x4.Unit,x4.Origin⟩:Came)) λy20=>bif (y20 !=0)then some (v2,y20)else KY l fu1 (IntKind.i64.wrap (v2+1)))))else some ((-1),0)
def aQ3(N:Nat)(l:List Came):Option (Int×Int):=bif decide (((l.map J7).length:Int)>256)then some ((-1),8)else KY l N 0
theorem c07{N:Nat}{l:List Came}{r:Int×Int}(hF:aQ3 N l=some r):Holds prog Gw 110 [.sl 4 (l.map J7)] (KX r):=by
 refine Q9 L8 mixed func110 (by decide) rfl (H6 rfl) ?_;refine C9 (λh1=>?_) (λh1=>?_)
 .have hF:=D6 h1 hF;exact l9 ⟨rfl,congrArg (Option.map KX) hF⟩
 .have hF:=D5 h1 hF;refine dX (λp:Nat×Int=>[(0,.c (.sl 4 (l.map J7))),(10,.c (.sl 4 (l.map J7))),(11,.c (I ((l.map J7).length:Int))),(12,.c (I p.2))]) (λ_=>[]) (λp=>KY l p.1 p.2=some r) (λp=>p.1) (N,0) hF ⟨rfl,rfl,rfl,rfl,trivial⟩ trivial ?_;rintro⟨fu1,v2⟩ hF;cases fu1 with
  |zero=>exact nomatch hF
  |succ fu1=>
   refine J9 ?_;refine C9 (λh3=>?_) (λh3=>?_)
   .have hF:=D6 h3 hF;refine J9 ?_;refine D7 hF λx4 h5 hF=>?_;refine⟨V9 h5,.inl rfl,_,Y0 J7 h5,?_⟩;refine l9 ?_;refine D7 hF λy6 h7 hF=>?_;refine l9 ⟨_,bH6 h7,rfl,?_⟩;refine C9 (λh8=>?_) (λh8=>?_)
    .have hF:=D6 h8 hF;exact l9 ⟨rfl,congrArg (Option.map KX) hF⟩
    .have hF:=D5 h8 hF;refine J9 ?_;refine C9 (λh9=>?_) (λh9=>?_)
     .have hF:=D6 h9 hF;refine D7 hF λx10 h11 hF=>?_;refine⟨V9 h11,.inl rfl,_,Y0 J7 h11,?_⟩;refine C9 (by kernel_rfl) ?_;refine C9 (λh12=>?_) (λh12=>?_)
      .have hF:=D6 h12 hF;exact l9 ⟨rfl,congrArg (Option.map KX) hF⟩
      .have hF:=D5 h12 hF;refine D7 hF λy13 aF hF=>?_;refine H9 ⟨[],0,_,_,_,_,rfl,rfl,PI (cf:=J7) UD.u UA aF,rfl,?_⟩;refine D7 hF λfJ h16 hF=>?_;refine l9 ⟨_,aR3 h16,rfl,?_⟩;refine C9 (by kernel_rfl) ?_;refine C9 (λh17=>?_) (λh17=>?_)
       .have hF:=D6 h17 hF;exact l9 ⟨rfl,congrArg (Option.map KX) hF⟩
       .have hF:=D5 h17 hF;exact⟨(fu1,(IntKind.i64.wrap (v2+1))),X8 _,hF,⟨rfl,rfl,rfl,rfl,trivial⟩,trivial⟩
     .have hF:=D5 h9 hF;refine C9 (by kernel_rfl) ?_;refine D7 hF λlD h19 hF=>?_;refine H9 ⟨[],0,_,_,_,_,rfl,rfl,PI (cf:=J7) UD.u UA h19,rfl,?_⟩;refine D7 hF λy20 h21 hF=>?_;refine l9 ⟨_,aR3 h21,rfl,?_⟩;refine C9 (by kernel_rfl) ?_;refine C9 (λh22=>?_) (λh22=>?_)
      .have hF:=D6 h22 hF;exact l9 ⟨rfl,congrArg (Option.map KX) hF⟩
      .have hF:=D5 h22 hF;exact⟨(fu1,(IntKind.i64.wrap (v2+1))),X8 _,hF,⟨rfl,rfl,rfl,rfl,trivial⟩,trivial⟩
   .have hF:=D5 h3 hF;exact l9 ⟨rfl,congrArg (Option.map KX) hF⟩
abbrev bH2:=aQ3 1000
abbrev c08:=@c07 1000
abbrev bJ1(y:Bool):CV:=B y
def ao2(l:List Came):Option (Bool):=Option.bind (bH2 l) λy1=>some ((y1.2==0))
theorem c36{l:List Came}{r:Bool}(hF:ao2 l=some r):Holds prog Gw 56 [.sl 4 (l.map J7)] (bJ1 r):=by
 refine Q9 L8 mixed func56 (by decide) rfl (H6 rfl) ?_;refine D7 hF λy1 h2 hF=>?_;refine l9 ⟨_,c08 h2,rfl,?_⟩;exact l9 ⟨rfl,congrArg (Option.map bJ1) hF⟩
end
section
open Go Go.F6 Go.RowKit Proofs.Tryz
def aV9(s:List Came)(i:Int)(v:List Came):Option (List Came):=match v with
 |[c]=>bif decide (0<=i/\i<=s.length/\s.length<=4000)then some (s.take i.toNat++[c]++s.drop i.toNat)else none
 |_=>none
theorem di1{s:List Came}{i:Int}{v r:List Came}(h:aV9 s i v=some r):fD prog Gw 239 [.rs 0 0,.c (I i),.rs 1 0] [(0,.arr 134 4 (s.map J7) none),(0,.arr 134 4 (v.map J7) none)] (.rs 0 1) [(1,.arr 134 4 (r.map J7) none),(0,.arr 134 4 (v.map J7) none)]:=by
 match v,h with
 |[c],h=>
  refine kU h λhl h=>?_;have hl:=gB hl;have:=cw1 (G:=Gw) ⟨_,func239,by decide,rfl⟩ cK8 (s.map J7) (J7 c) i.toNat (by simp;omega) (by simp;omega);rw[<-iE h];rw[show((i.toNat:Nat):Int)=i from Int.toNat_of_nonneg hl.1]at this;simpa[List.map_take,List.map_drop]using this
end
end Go.Proofs.YtibiibjbmhckgaaGreatDoor
namespace Go.F6
open Go Go.RowKit
section
variable{P:Program}{G:World->Prop}
theorem cB6{Z:Zone}{w:World}{os:List (Nat×D9)}{Eo:Nat->Value}(hg:rJ Z w os Eo){j g el sz:Nat}{ds:List (List CV)}{ts:List Nat}(ho:G9 os j=(g,.arr el sz ds none))(ht:j∈ts){x:Value}(hE:Eo j=x):
 Rep (Zf Z (G9 os) Eo ts) w (.sl sz ds) x:=by
 have hk:Keeps Z w (Zf Z (G9 os) Eo ts) w:=yA _ _ _;have hot:=hg.ok j;rw[ho]at hot;obtain⟨xs,hsz,hown,hfoc,hdl,hcl,hz⟩:=hot;rw[hE]at hown;refine YW hown rfl (λi d hd=>hdl i d (O4.1 hd).1 hd) (λi j d c h1 h2=>?_) (λb o hb _=>.inr ⟨j,ht,by rw[ho,hE,iF];exact hb⟩);obtain⟨hat,u,hu,hr⟩:=hcl i d (O4.1 h1).1 h1 j c h2;exact⟨hat,u,hu,(hr.closed (kY (hfoc.2 i d h1 (λm d' he=>by cases he)) h2)).keep hk⟩
theorem yM{x:Operand}{k:Nat}{ty:TypeId}{cs:List CV}{c:CV}{os:List (Nat×D9)}(hc:cs[k]?=some c):dN P G (.extract x k) ty [.eF cs] os (xA c) os:=by
 intro Z w Eo a o next Q ho hty hg hzl hl hargs hgs hnext
 have hx:=hargs 0 (.eF cs) x rfl rfl;obtain⟨dst,op,type,pos,after,guard⟩:=o;simp only at ho hty;subst ho;subst hty;generalize hax:a.eval x=y at hx;cases hx with
 |eF _ us hl h ha=>
  have hlt:k<cs.length:=(O4.1 hc).1;have hu:us[k]?=some (us[k]'(by omega)):=I9 (by omega);have hex:(execOp a.eval ⟨dst,.extract x k,type,pos,after,guard⟩).run P w=.ok (.value (us[k]'(by omega))) w:=by
   simp[execOp,hax,Instr.extract,hu]
  refine aO hex (hnext _ Z w Eo ?_);exact
   { res:=bT4 (h k c _ hc hu) (λcs e=>by have:=ha k c hc;rw[e]at this;simp[CV.atom]at this)
     grp:=hg
     keeps:=Keeps.refl _ _
     U4:=hzl
     fB:=λ_ _ hz=>.inl hz
     kept:=Kept.refl _ _
     own:=λ_ hb=>.inr hb
     ok:=dH.refl _ _ }
end
section
variable{P:Program}{G:World->Prop}
theorem cv8{α:Type}{t e:TypeId}{i:TI}{cf:α->List CV}{a:α}(ht:P.underlying t=some (.slice e))(hi:N8 P e i)(hcf:∀x,(cf x).length=i.size)(h0:0<i.size)(dK5:i.size<=4096){x:Operand}{ty:TypeId}:
 dN P G (.buildSlice t 1 ⟨[(0,x)]⟩) ty [.c (.agg (cf a))] [] (.rs 0 1) [(1,.arr e i.size ([a].map cf) none)]:=by
 intro Z w Eo ac o next Q ho hty hg hzl hl hargs hgs hnext
 have hx:Rep Z w (.agg (cf a)) (ac.eval x):=by
  have:=hargs 0 (.c (.agg (cf a))) x rfl rfl;cases this with|c _ _ h=>exact h
 generalize hax:ac.eval x=xv at hx;obtain⟨j,hj,hjs,hjb,hjz⟩:=hi.eX;cases hx with
 |agg _ vs hl hr ha=>
  have hvl:vs.length=i.size:=by rw[<-hl,hcf]
  have hcells:(Value.agg vs.toArray).cells=vs.toArray:=rfl
  let zero:Array Value:=(O7 i).cells
  let z0:Array Value:=(Array.range (1*i.size)).map (zero[· % zero.size]!)
  have hz0:z0.size=i.size:=by simp[z0]
  have hfold:=foldl_set (0*i.size) vs 0 z0 (by simp[hz0,hvl]);have heq:vs.toArray.zipIdx.foldl (λcs (p:Value×Nat)=>cs.setIfInBounds (0*i.size+p.2) p.1) z0=(vs.zipIdx 0).foldl (λcs (p:Value×Nat)=>cs.setIfInBounds (0*i.size+p.2) p.1) z0:=by
   rw[<-xG,Array.toList_zipIdx]
  let cells:=(vs.zipIdx 0).foldl (λcs (p:Value×Nat)=>cs.setIfInBounds (0*i.size+p.2) p.1) z0
  have hcs:cells.size=1*i.size:=hfold.1.trans (by rw[hz0,rU]);have hget:∀k,k<i.size->cells[k]?=vs[k]?:=λk hk=>by
   refine(hfold.2 k).trans ?_;rw[I4 (by omega)];congr 1;omega
  have wK:Instr.fill (λi'=>some (i'*i.size,i.size)) z0 [(0,Value.agg vs.toArray)]=some cells:=by
   simp only[Instr.fill,hcells];rw[F9 (by simp[hz0,hvl])];rw[heq]
  have hlim:¬(1*i.size>2^24):=by omega
  have h0':¬(1*i.size=0):=by omega
  have hex:(execOp ac.eval o).run P w=.ok (.value (.slice (some ⟨w.heap.size,0,none⟩) 1 1)) (w.alloc (.cells cells e)):=by
   obtain⟨dst,op,type,pos,after,guard⟩:=o;simp only at ho;subst ho;have hzv:(zeroValue e).run P w=.ok (O7 i) w:=by simp[zeroValue,typeInfo,hj,hjz]
   have qK:Instr.fill (λi'=>some (i'*i.size,i.size)) ((Array.range (1*i.size)).map ((O7 i).cells[· % (O7 i).cells.size]!)) (#[(0,x)].map λ(i,x)=>(i,ac.eval x)).toList=some cells:=by
    simp only[List.map_toArray,kP,List.map_nil,hax];exact wK
   simp only[execOp,Instr.buildSlice,I7,L6 ht,N9,hi.sizeOf w,F9 hlim,Q5,F9 h0',hzv,qK];rfl
  have hown:=World.ownsRow_lit (base:=0) (e:=e) (size:=i.size) w cells 1 (Y3 _) (by simp only[maxLen];omega) hcs;refine aO hex (hnext _ Z _ (λ_=>.slice (some ⟨w.heap.size,0,none⟩) 1 1) (ai2 (.inl rfl) hzl (Keeps.alloc hzl _) (by simp) ((Kept.refl _ _).alloc (λ_ h=>h.1) _) ?_ (λb hb=>?_) (.rs 0 1 _ ⟨_,_,_,rfl⟩ (J6 _) λ_ _ _ _ _=>rfl)))
  .refine ay5 (l:=[a]) (λx=>hcf x) h0 hown (λi' j' a' c' ha' hc'=>?_) (λb o hb hz=>by
    simp[Value.ownBlock]at hb;have:=hzl b o hz
    omega)
   match i',ha' with
   |0,ha'=>
    simp at ha';subst ha';have hjl:j'<i.size:=by rw[<-hcf a];exact(O4.1 hc').1
    obtain⟨u,hu⟩:∃u,vs[j']?=some u:=⟨_,I9 (by omega)⟩;exact⟨ha j' c' hc',u,by rw[Nat.zero_mul,V7,jS,hget j' hjl];exact hu,(hr j' c' u hc' hu).keep (Keeps.alloc hzl _)⟩
   |n+1,ha'=>simp at ha'
  .simp[D9.blk]at hb;exact .inl (by omega)
theorem cw3{ty:TypeId}(z:Nat):dN P G (.assign (.const (.slice .none 0 0))) ty [.c (.sl 0 [])] [] (.c (.sl z [])) []:=by
 intro Z w Eo ac o next Q ho hty hg hzl hl hargs hgs hnext
 have hex:(execOp ac.eval o).run P w=.ok (.value (.slice none 0 0)) w:=by
  obtain⟨dst,op,type,pos,after,guard⟩:=o;simp only at ho;subst ho;simp[execOp,Act.eval]
 exact aO hex (hnext _ Z w Eo (PK hg hzl (.c _ _ (.nil _ _ _))))
theorem cw6{op:Op}{ty:TypeId}{args:List SV}{os:List (Nat×D9)}{el sz:Nat}{es:List (List CV)}(h:dN P G op ty args os (.rs 0 1) [(1,.arr el sz es none)]):dN P G op ty args os (.c (.sl sz es)) [(1,.spent)]:=by
 intro Z w Eo ac o next Q ho hty hg hzl hl hargs hgs hnext
 refine h Z w Eo ac o next Q ho hty hg hzl hl hargs hgs λx Z' w' aY hp=>hnext x (Zf Z' (G9 [(1,D9.arr el sz es none)]) aY [0]) w' aY ?_
 have hE:aY 0=x:=by
  cases hp.res with
  |rs _ _ _ _ _ h=>exact h _ _ _ _ rfl
 have hob:G9 [(1,D9.arr el sz es none)] 0=(1,.arr el sz es none):=rfl;have hrep:=cB6 hp.grp hob (ts:=[0]) (by simp) hE;have hlt:∀b,GB [(1,D9.arr el sz es none)] aY b->b<w'.heap.size:=λb ⟨j,hj⟩=>(hp.grp.ok j).lt hj;have hnb:∀j b,¬(G9 [(1,D9.spent)] j).2.blk (aY j) b:=λj b hb=>by
  match j,hb with
  |0,hb=>simp[G9,D9.blk]at hb
  |j+1,hb=>simp[G9,D9.blk]at hb
 exact
  { res:=.c _ _ hrep
    grp:=⟨λj=>by
       match j with
       |0=>trivial
       |j+1=>trivial,λj j' b _ h1=>absurd h1 (hnb j b)⟩
    keeps:=hp.keeps.trans (yA _ _ _)
    U4:=λb o hz=>hz.elim (hp.U4 b o) λ⟨s,_,hb⟩=>hlt b ⟨s,hb⟩
    fB:=λb o hz=>hz.elim (hp.fB b o) λ⟨s,_,hb⟩=>.inr (hp.own b ⟨s,hb⟩)
    kept:=hp.kept
    own:=λb ⟨j,hj⟩=>absurd hj (hnb j b)
    ok:=
     { gen:=λt=>by
        match t with
        |0=>exact hp.ok.gen 0
        |t+1=>exact X4 (hp.ok.gen (t+1)) (by simp[G9])
       var:=λt g _ hlv=>by
        obtain⟨cs,hlv⟩:=hlv
        match t,hlv with
        |0,hlv=>simp[G9]at hlv
        |t+1,hlv=>simp[G9]at hlv
       tok:=λt g el s _ hlv=>by
        match t,hlv with
        |0,hlv=>simp[G9]at hlv
        |t+1,hlv=>simp[G9]at hlv
       arr:=λt g el sz ds D8 _ hlv=>by
        match t,hlv with
        |0,hlv=>simp[G9]at hlv
        |t+1,hlv=>simp[G9]at hlv
       map:=λt g es _ hlv=>by
        match t,hlv with
        |0,hlv=>simp[G9]at hlv
        |t+1,hlv=>simp[G9]at hlv } }
end
end Go.F6
namespace Go.Proofs.YtibiibjbmhckgaaGreatDoor
section
open Go Go.F6 Proofs.Tryz
set_option maxRecDepth 10000
set_option maxHeartbeats 400000
def aq5(s:List Came):Option (List Came):=bif s.isEmpty then KT (some (([]:List Came))) (bif decide (([]:List Came).length+s.length<=4294967296)then some ((([]:List Came)++s))else none)else(bif decide (([]:List Came).length+s.length<=4294967296)then some ((([]:List Came)++s))else none)
abbrev aV1(y:List Came):CV:=.wo (.ow 0) [(134,4,y.map J7,none)]
theorem dg9{s:List Came}{r:List Came}(hF:aq5 s=some r):Holds prog Gw 59 [.sl 4 (s.map J7)] (aV1 r):=by
 refine Q9 L8 mixed func59 (by decide) rfl (H6 rfl) ?_;refine H9 ⟨[],0,_,_,_,_,rfl,rfl,JB (e:=134) (ie:=FH) (by decide),rfl,?_⟩;refine aN3 (cf:=J7) hF ?_ ?_
 .intro hF;refine H9 ⟨[],0,_,_,_,_,rfl,rfl,JB (e:=134) (ie:=FH) (by decide),rfl,?_⟩;refine W9 (p:=λr=>qW tab _ (aV1 r) _) hF ?_;exact H9 ⟨[(2,2)],rfl,⟨rfl,rfl⟩,rfl⟩
 .intro hF;refine H9 ⟨[],0,_,_,_,_,rfl,rfl,aC8 UD.u UA (by decide),rfl,?_⟩;refine kU hF λh1 hF=>?_;refine H9 ⟨[(5,1)],0,_,_,_,_,rfl,rfl,IZ (cf:=J7) (l:=([]:List Came)) (ns:=s) UD.u UA (by decide) (by decide) (λ_=>rfl) h1,rfl,?_⟩;refine W9 (p:=λr=>qW tab _ (aV1 r) _) hF ?_;exact H9 ⟨[(5,2)],rfl,⟨rfl,rfl⟩,rfl⟩
abbrev bH1(y:Int):CV:=I y
def an3(x:Came)(unit:Int):Option (Int):=Option.bind (wF x.Unit unit) λy1=>some (y1)
theorem c04{x:Came}{unit:Int}{r:Int}(hF:an3 x unit=some r):Holds prog Gw 238 [.agg (J7 x),I unit] (bH1 r):=by
 refine Q9 L8 mixed func238 (by decide) rfl (H6 rfl) ?_;refine l9 ?_;refine D7 hF λy1 h2 hF=>?_;refine l9 ⟨_,aA9 h2,rfl,?_⟩;exact l9 ⟨rfl,congrArg (Option.map bH1) hF⟩
abbrev aW1(y:Int×Bool):CV:=.P7 [I y.1,B y.2]
def EX(x:List Came)(target:Int)(cmp:Came->Int->Option Int):Nat->Int->Int->Option (Int×Bool)
 |0,_,_=>none
 |fu1+1,i1,j2=>bif decide (i1<j2)then(Option.bind (ix x (IntKind.i64.wrap (Int.fdiv (IntKind.u64.wrap (IntKind.i64.wrap (i1+j2))) 2))) λx4=>Option.bind (cmp (⟨x4.Unit,x4.Origin⟩:Came) target) λy6=>bif decide (y6<0)then EX x target cmp fu1 (IntKind.i64.wrap ((IntKind.i64.wrap (Int.fdiv (IntKind.u64.wrap (IntKind.i64.wrap (i1+j2))) 2))+1)) j2 else EX x target cmp fu1 i1 (IntKind.i64.wrap (Int.fdiv (IntKind.u64.wrap (IntKind.i64.wrap (i1+j2))) 2)))else(bif decide (i1<((x.map J7).length:Int))then(Option.bind (ix x i1) λx10=>Option.bind (cmp x10 target) λlW=>some (i1,(lW==0)))else some (i1,false))
def bR9(N:Nat)(x:List Came)(target:Int)(cmp:Came->Int->Option Int):Option (Int×Bool):=EX x target cmp N 0 ((x.map J7).length:Int)
theorem di4{N:Nat}{x:List Came}{target:Int}{cmp:Came->Int->Option Int}{r:Int×Bool}{IQ:FuncId}{IL:List CV}(VL:∀z0 z1 y,cmp z0 z1=some y->Holds prog Gw IQ (.agg (J7 z0)::I z1::IL) (I y))(hF:bR9 N x target cmp=some r):Holds prog Gw 237 [.sl 4 (x.map J7),I target,.fn IQ IL] (aW1 r):=by
 refine Q9 L8 mixed func237 (by decide) rfl (H6 rfl) ?_;refine J9 ?_;refine dX (λp:Nat×Int×Int=>[(0,.c (.sl 4 (x.map J7))),(1,.c (I target)),(2,.c (.fn IQ IL)),(8,.c (I ((x.map J7).length:Int))),(9,.c (I p.2.1)),(10,.c (I p.2.2))]) (λ_=>[]) (λp=>EX x target cmp p.1 p.2.1 p.2.2=some r) (λp=>p.1) (N,0,((x.map J7).length:Int)) hF ⟨rfl,rfl,rfl,rfl,rfl,rfl,trivial⟩ trivial ?_;rintro⟨fu1,i1,j2⟩ hF;cases fu1 with
 |zero=>exact nomatch hF
 |succ fu1=>
  refine C9 (λh3=>?_) (λh3=>?_)
  .have hF:=D6 h3 hF;refine⟨by decide,?_⟩;refine D7 hF λx4 h5 hF=>?_;refine⟨V9 h5,.inl rfl,_,Y0 J7 h5,?_⟩;refine D7 hF λy6 h7 hF=>?_;refine l9 ⟨_,VL _ _ _ h7,rfl,?_⟩;refine C9 (λh8=>?_) (λh8=>?_)
   .have hF:=D6 h8 hF;exact⟨(fu1,(IntKind.i64.wrap ((IntKind.i64.wrap (Int.fdiv (IntKind.u64.wrap (IntKind.i64.wrap (i1+j2))) 2))+1)),j2),X8 _,hF,⟨rfl,rfl,rfl,rfl,rfl,rfl,trivial⟩,trivial⟩
   .have hF:=D5 h8 hF;exact⟨(fu1,i1,(IntKind.i64.wrap (Int.fdiv (IntKind.u64.wrap (IntKind.i64.wrap (i1+j2))) 2))),X8 _,hF,⟨rfl,rfl,rfl,rfl,rfl,rfl,trivial⟩,trivial⟩
  .have hF:=D5 h3 hF;refine J9 ?_;refine C9 (λh9=>?_) (λh9=>?_)
   .have hF:=D6 h9 hF;refine D7 hF λx10 h11 hF=>?_;refine⟨V9 h11,.inl rfl,_,Y0 J7 h11,?_⟩;refine D7 hF λlW h13 hF=>?_;refine l9 ⟨_,VL _ _ _ h13,rfl,?_⟩;exact l9 ⟨rfl,congrArg (Option.map aW1) hF⟩
   .have hF:=D5 h9 hF;exact l9 ⟨rfl,congrArg (Option.map aW1) hF⟩
abbrev bS0:=bR9 1000
abbrev di5:=@di4 1000
abbrev KW(y:List Came×Int):CV:=.P7 [.sl 4 (y.1.map J7),I y.2]
def an4(l:List Came)(c:Came):Option (List Came×Int):=Option.bind (ao2 l) λy1=>bif (!y1)then some (([]:List Came),1)else(Option.bind (YO c) λy4=>bif (!y4)then some (([]:List Came),2)else(Option.bind (bS0 l c.Unit (λz0 z1=>an3 z0 z1)) λy7=>Option.bind (SC l c) λy9=>bif y7.2 then some (([]:List Came),6)else(bif (y9 !=0)then some (([]:List Came),y9)else(bif decide (((l.map J7).length:Int)>=256)then some (([]:List Came),8)else(Option.bind (aq5 l) λbP=>Option.bind (aV9 bP y7.1 ([c]:List Came)) λFY=>some (FY,0))))))
theorem c05{l:List Came}{c:Came}{r:List Came×Int}(hF:an4 l c=some r):Holds prog Gw 149 [.sl 4 (l.map J7),.agg (J7 c)] (KW r):=by
 refine Q9 L8 mixed func149 (by decide) rfl (H6 rfl) ?_;refine l9 ?_;refine l9 ?_;refine D7 hF λy1 h2 hF=>?_;refine l9 ⟨_,c36 h2,rfl,?_⟩;refine C9 (λh3=>?_) (λh3=>?_)
 .have hF:=D6 h3 hF;refine l9 ?_;exact l9 ⟨rfl,congrArg (Option.map KW) hF⟩
 .have hF:=D5 h3 hF;refine D7 hF λy4 h5 hF=>?_;refine l9 ⟨_,bH6 h5,rfl,?_⟩;refine C9 (λh6=>?_) (λh6=>?_)
  .have hF:=D6 h6 hF;refine l9 ?_;exact l9 ⟨rfl,congrArg (Option.map KW) hF⟩
  .have hF:=D5 h6 hF;refine D7 hF λy7 h8 hF=>?_;refine l9 ⟨_,di5 (λ_ _ _ h=>c04 h) h8,rfl,?_⟩;refine D7 hF λy9 h10 hF=>?_;refine l9 ⟨_,aR3 h10,rfl,?_⟩;refine J9 ?_;refine C9 (λh11=>?_) (λh11=>?_)
   .have hF:=D6 h11 hF;refine l9 ?_;exact l9 ⟨rfl,congrArg (Option.map KW) hF⟩
   .have hF:=D5 h11 hF;refine C9 (λh12=>?_) (λh12=>?_)
    .have hF:=D6 h12 hF;refine l9 ?_;exact l9 ⟨rfl,congrArg (Option.map KW) hF⟩
    .have hF:=D5 h12 hF;refine C9 (λh13=>?_) (λh13=>?_)
     .have hF:=D6 h13 hF;refine l9 ?_;exact l9 ⟨rfl,congrArg (Option.map KW) hF⟩
     .have hF:=D5 h13 hF;refine D7 hF λbP h15 hF=>?_;refine H9 (l9 ⟨_,_,dg9 h15,?_⟩);refine H9 ⟨[],0,_,_,_,_,rfl,rfl,cv8 (cf:=J7) (a:=c) UD.u UA (λ_=>rfl) (by decide) (by decide),rfl,?_⟩;refine D7 hF λFY h17 hF=>?_;refine H9 (H9 ⟨[(36,1),(39,1)],0,_,_,_,_,rfl,rfl,lK rfl (H9 ⟨_,rfl,rfl⟩) (di1 h17),rfl,?_⟩);refine C9 (by kernel_rfl) ?_;refine W9 (p:=λr=>qW tab _ (KW r) _) hF ?_;exact H9 ⟨⟨⟨rfl,_,rfl,rfl⟩,rfl,rfl⟩,by decide⟩
end
section
open Go Go.F6
def okI(n:Int):Prop:= -9223372036854775808<=n/\n<=9223372036854775807
theorem rG{n:Int}(h:okI n):IntKind.i64.wrap n=n:=by
 obtain⟨h1,h2⟩:=h;show(if(true&&decide (n % (2^64:Int)>=(2^63:Int)))=true then n % (2^64:Int)-(2^64:Int)else n % (2^64:Int))=n;simp only[rH,yJ];split<;>omega
theorem wrap_succ{n i:Nat}(hn:n<=9223372036854775807)(hi:i<n):IntKind.i64.wrap ((i:Int)+1)=((i+1:Nat):Int):=by
 rw[rG (by unfold okI;omega)];rfl
theorem Z4{α:Type}{l:List α}{i:Nat}(h:i<l.length):ix l (i:Int)=some l[i]:=by
 unfold ix;rw[F9 (by omega),Int.toNat_natCast,I9 h]
theorem bv5{α:Type}{l:List α}{i:Nat}(h:i<l.length)(h0:0<i):ix l ((i:Int)-1)=some (l[i-1]'(by omega)):=by
 have:(i:Int)-1=((i-1:Nat):Int):=by omega
 rw[this];exact Z4 _
def ZX{α β:Type}(b:Nat->α->Option β)(done:β):Nat->List α->β
 |_,[]=>done
 |i,x::r=>match b i x with
  |some y=>y
  |none=>ZX b done (i+1) r
theorem YC{α β:Type}(L:Nat->Int->Option β)(l:List α)(b:Nat->α->Option β)(done:β)(hl:l.length<=9223372036854775807)
 (hs:∀(fu i:Nat)(hi:i<l.length),L (fu+1) (i:Int)=match b i l[i]with|some y=>some y|none=>L fu ((i+1:Nat):Int))
 (he:∀fu,L (fu+1) (l.length:Int)=some done):∀(n i fu:Nat),l.length-i=n->i<=l.length->n<fu->L fu (i:Int)=some (ZX b done i (l.drop i))
 |n,i,0,_,_,h=>by omega
 |0,i,fu+1,h,hi,_=>by
  have:i=l.length:=by omega
  subst this;rw[he,List.drop_length];rfl
 |n+1,i,fu+1,h,_,hf=>by
  have hi:i<l.length:=by omega
  rw[hs fu i hi,xP hi];simp only[ZX];cases b i l[i]with
  |some y=>rfl
  |none=>exact YC L l b done hl hs he n (i+1) fu (by omega) (by omega) (by omega)
theorem ZY{α:Type}(p:α->Bool):∀(l:List α)(i:Nat),ZX (λi x=>bif p x then some (i:Int)else none) (-1) i l=match l.findIdx? p with|some k=>((i+k:Nat):Int)|none=> -1
 |[],_=>rfl
 |x::r,i=>by
  simp only[ZX,List.findIdx?_cons];cases p x with
  |true=>simp
  |false=>
   simp only[G6,ZY p r (i+1),Bool.false_eq_true,if_false];cases r.findIdx? p with
   |none=>rfl
   |some k=>show(((i+1+k:Nat)):Int)=((i+(k+1):Nat):Int);omega
def idxOf{α:Type}(p:α->Bool)(l:List α):Int:=match l.findIdx? p with|some k=>(k:Int)|none=> -1
theorem aV7{l:List Branch}{f:Branch->Option Bool}{p:Branch->Bool}(h:l.length<=9223372036854775807)(hf:∀x∈l,f x=some (p x)):aa5 l f=some (idxOf p l):=by
 have h1:=YC (LW l f) l (λi x=>bif p x then some (i:Int)else none) (-1) h (λfu i hi=>by
  have h0:decide ((i:Int)<(l.length:Int))=true:=Y9 (by omega);simp only[LW,U7,Z4 hi,G5,h0,H7,wrap_succ h hi,hf _ (fK hi)]
  cases p l[i]<;>rfl)
  (λfu=>by
    have h0:decide ((l.length:Int)<(l.length:Int))=false:=eU (by omega)
    simp only[LW,U7,h0,G6]) l.length 0 (l.length+1) (by omega) (by omega) (by omega)
 show LW l f (l.length+1) 0=_;rw[show(0:Int)=((0:Nat):Int)from rfl,h1,List.drop_zero,ZY];unfold idxOf;cases l.findIdx? p<;>simp
theorem dh3{l:List Branch}{f:Branch->Option Bool}{p:Branch->Bool}(h:l.length<=9223372036854775807)(hf:∀x∈l,f x=some (p x)):zY l f=some (l.any p):=by
 simp only[zY,aV7 h hf,G5,Z9];unfold idxOf;cases hq:l.findIdx? p with
 |none=>
  rw[List.findIdx?_eq_none_iff]at hq;have:l.any p=false:=by rw[BM];intro x hx;simp[hq x hx]
  rw[this];decide
 |some k=>
  have hk:=List.findIdx?_eq_some_iff_getElem.1 hq;obtain⟨h1,h2,_⟩:=hk;have:l.any p=true:=List.any_eq_true.2 ⟨l[k],fK h1,h2⟩;rw[this];exact Y9 (show(k:Int)>=0 by omega)
theorem bQ6{l:List Came}{f:Came->Option Bool}{p:Came->Bool}(h:l.length<=9223372036854775807)(hf:∀x∈l,f x=some (p x)):ar1 l f=some (idxOf p l):=by
 have h1:=YC (LX l f) l (λi x=>bif p x then some (i:Int)else none) (-1) h (λfu i hi=>by
  have h0:decide ((i:Int)<(l.length:Int))=true:=Y9 (by omega);simp only[LX,U7,Z4 hi,G5,h0,H7,wrap_succ h hi,hf _ (fK hi)]
  cases p l[i]<;>rfl)
  (λfu=>by
    have h0:decide ((l.length:Int)<(l.length:Int))=false:=eU (by omega)
    simp only[LX,U7,h0,G6]) l.length 0 (l.length+1) (by omega) (by omega) (by omega)
 show LX l f (l.length+1) 0=_;rw[show(0:Int)=((0:Nat):Int)from rfl,h1,List.drop_zero,ZY];unfold idxOf;cases l.findIdx? p<;>simp
theorem bQ0{l:List Came}{f:Came->Option Bool}{p:Came->Bool}(h:l.length<=9223372036854775807)(hf:∀x∈l,f x=some (p x)):aa3 l f=some (l.any p):=by
 simp only[aa3,bQ6 h hf,G5,Z9];unfold idxOf;cases hq:l.findIdx? p with
 |none=>
  rw[List.findIdx?_eq_none_iff]at hq;have:l.any p=false:=by rw[BM];intro x hx;simp[hq x hx]
  rw[this];decide
 |some k=>
  have hk:=List.findIdx?_eq_some_iff_getElem.1 hq;obtain⟨h1,h2,_⟩:=hk;have:l.any p=true:=List.any_eq_true.2 ⟨l[k],fK h1,h2⟩;rw[this];exact Y9 (show(k:Int)>=0 by omega)
theorem bQ9{l:List Opn}{f:Opn->Option Bool}{p:Opn->Bool}(h:l.length<=9223372036854775807)(hf:∀x∈l,f x=some (p x)):aa6 l f=some (idxOf p l):=by
 have h1:=YC (LY l f) l (λi x=>bif p x then some (i:Int)else none) (-1) h (λfu i hi=>by
  have h0:decide ((i:Int)<(l.length:Int))=true:=Y9 (by omega);simp only[LY,U7,Z4 hi,G5,h0,H7,wrap_succ h hi,hf _ (fK hi)]
  cases p l[i]<;>rfl)
  (λfu=>by
    have h0:decide ((l.length:Int)<(l.length:Int))=false:=eU (by omega)
    simp only[LY,U7,h0,G6]) l.length 0 (l.length+1) (by omega) (by omega) (by omega)
 show LY l f (l.length+1) 0=_;rw[show(0:Int)=((0:Nat):Int)from rfl,h1,List.drop_zero,ZY];unfold idxOf;cases l.findIdx? p<;>simp
theorem bR4{l:List Int}(h:l.length<=9223372036854775807)(v:Int):aa7 l v=some (idxOf (λx=>v==x) l):=by
 have h1:=YC (LZ l v) l (λi x=>bif v==x then some (i:Int)else none) (-1) h (λfu i hi=>by
  have h0:decide ((i:Int)<(l.length:Int))=true:=Y9 (by omega);simp only[LZ,U7,Z4 hi,G5,h0,H7,wrap_succ h hi]
  cases v==l[i]<;>rfl)
  (λfu=>by
    have h0:decide ((l.length:Int)<(l.length:Int))=false:=eU (by omega)
    simp only[LZ,U7,h0,G6]) l.length 0 (l.length+1) (by omega) (by omega) (by omega)
 show LZ l v (l.length+1) 0=_;rw[show(0:Int)=((0:Nat):Int)from rfl,h1,List.drop_zero,ZY (λx=>v==x)];unfold idxOf;cases l.findIdx? (λx=>v==x)<;>simp
theorem cK3{α:Type}(p:α->Bool)(l:List α):decide (idxOf p l>=0)=l.any p:=by
 unfold idxOf;cases hq:l.findIdx? p with
 |none=>
  rw[List.findIdx?_eq_none_iff]at hq;have:l.any p=false:=by rw[BM];intro x hx;simp[hq x hx]
  rw[this];decide
 |some k=>
  obtain⟨h1,h2,_⟩:=List.findIdx?_eq_some_iff_getElem.1 hq;have:l.any p=true:=List.any_eq_true.2 ⟨l[k],fK h1,h2⟩;rw[this];exact Y9 (show(k:Int)>=0 by omega)
theorem aV5{l:List Int}(h:l.length<=9223372036854775807)(v:Int):sU l v=some (l.any λx=>v==x):=by
 simp only[sU,bR4 h,G5,cK3]
theorem JZ{α:Type}{p:α->Bool}{l:List α}(h:l.any p=true):∃k,∃hk:k<l.length,idxOf p l=(k:Int)/\p l[k]=true/\∀j,(hj:j<k)->p (l[j]'(by omega))=false:=by
 unfold idxOf;cases hq:l.findIdx? p with
 |none=>
  rw[List.findIdx?_eq_none_iff]at hq;obtain⟨x,hx,hp⟩:=List.any_eq_true.1 h;rw[hq x hx]at hp;cases hp
 |some k=>
  obtain⟨h1,h2,h3⟩:=List.findIdx?_eq_some_iff_getElem.1 hq;exact⟨k,h1,rfl,h2,λj hj=>by simpa using h3 j hj⟩
theorem XJ{α:Type}{p:α->Bool}{l:List α}(h:l.any p=false):idxOf p l= -1:=by
 unfold idxOf;cases hq:l.findIdx? p with
 |none=>rfl
 |some k=>
  obtain⟨h1,h2,_⟩:=List.findIdx?_eq_some_iff_getElem.1 hq;rw[BM]at h;exact absurd h2 (by simpa using h l[k] (fK h1))
theorem bS5{α:Type}{l:List α}{i:Nat}(h:i<=l.length):slc l 0 (i:Int)=some (l.take i):=by
 unfold slc;rw[Y9 (by omega)];simp
theorem ba1(n a b:Int):(bif decide (a<=n)then some (decide (n<=b))else some false)=some (decide (a<=n/\n<=b)):=by
 by_cases h:a<=n<;>simp[h]
theorem av1(n a b:Int):MJ n a b=some (decide (a<=n/\n<=b)):=ba1 n a b
theorem c48(n a b:Int):SH n a b=some (decide (a<=n/\n<=b)):=ba1 n a b
theorem ZR(n a b:Int):vF n a b=some (decide (a<=n/\n<=b)):=ba1 n a b
end
end Go.Proofs.YtibiibjbmhckgaaGreatDoor
namespace Go.F6
section
open Go Go.RowKit Go.ChangeShapes
def NW(w:World):Zone:=λb _=>b<w.heap.size
theorem co4{w:World}{a:Addr}{v:Value}(h:w.cell? a=some v):a.block<w.heap.size:=by
 rcases eG a.block w.heap.size with h'|h'
 .exact h'
 .simp[World.cell?,Array.getElem?_eq_none h']at h
theorem cell_spot{w:World}{a:Addr}{v:Value}(h:w.cell? a=some v):a.spot=none:=by
 unfold World.cell? at h;split at h
 .split at h
  .exact nomatch h
  .rename_i hs;simpa using hs
 .exact nomatch h
def RC(w:World)(zs:List CV)(cs:List Value):Prop:=cs.length=zs.length/\∀(j:Nat)(c:CV),zs[j]?=some c->c.atom=true/\∃x,cs[j]?=some x/\Rep (NW w) w c x
theorem RC.one{w:World}{c:CV}{x:Value}(ha:c.atom=true)(h:Rep (NW w) w c x):RC w [c] [x]:=
 ⟨rfl,λj d hj=>by
   cases j with
   |zero=>simp at hj;subst hj;exact⟨ha,x,rfl,h⟩
   |succ j=>simp at hj⟩
theorem RC.append{w:World}{zs ys:List CV}{cs ds:List Value}(h:RC w zs cs)(k:RC w ys ds):RC w (zs++ys) (cs++ds):=by
 refine⟨by simp[h.1,k.1],λj c hj=>?_⟩;by_cases hl:j<zs.length
 .rw[bV hl]at hj;rw[bV (h.1▸hl)];exact h.2 j c hj
 .rw[bJ (xX hl)]at hj;rw[bJ (h.1▸xX hl),h.1];exact k.2 _ c hj
section
variable{H:Type}(enc:TypeId×Value->H)(P:Program)(w:World)
def Reads(t:TypeId){α:Type}(f:α->List CV)(Q:α->Prop):Prop:=
 ∀(fuel:Nat)(cs:List Value)(y:DataW H×List MemPlace),DataW.trod enc P w 0 (λ_=>true) true fuel t cs=some y->∃x,RC w (f x) cs/\Q x
variable{enc P w}
theorem bK3{t:TypeId}{k:IntKind}(ht:P.underlying t=some (.int k)):Reads enc P w t (λn=>[.v (.int k n)]) (λn=>(Lit.int k n).wf=true):=λfuel cs y h=>by
 obtain⟨n,rfl,_,hw⟩:=DataW.trod_int ht h;exact⟨n,.one rfl (.v _),hw⟩
theorem bK4{t:TypeId}(ht:P.underlying t=some .string):Reads enc P w t cStr (λs=>s.length<=9223372036854775807):=λfuel cs y h=>by
 obtain⟨s,rfl,_,hs⟩:=DataW.trod_string ht h;exact⟨s.data.toList,.one rfl (.v _),hs⟩
theorem aS6{t:TypeId}{α β:Type}{f:α->List CV}{Q:α->Prop}{g:β->List CV}{R:β->Prop}(φ:α->β)(hf:∀x,g (φ x)=f x)(hQ:∀x,Q x->R (φ x))(h:Reads enc P w t f Q):Reads enc P w t g R:=λfuel cs y hy=>by
 obtain⟨x,h1,h2⟩:=h fuel cs y hy;exact⟨φ x,by rw[hf];exact h1,hQ x h2⟩
theorem Reads.turn{t:TypeId}{α β:Type}{f:α->List CV}{Q:α->Prop}{g:β->List CV}{R:β->Prop}(h:Reads enc P w t f Q)(φ:α->β)(hf:∀x,g (φ x)=f x)(hQ:∀x,Q x->R (φ x)):Reads enc P w t g R:=aS6 φ hf hQ h
theorem bI6{α:Type}{p:Nat->α->Prop}:∀(n:Nat),(∀i,i<n->∃x,p i x)->∃l:List α,l.length=n/\∀(i:Nat)(x:α),l[i]?=some x->p i x
 |0,_=>⟨[],rfl,λi x h=>by simp at h⟩
 |n+1,h=>by
  obtain⟨l,hl,hp⟩:=bI6 n λi hi=>h i (Nat.lt_succ_of_lt hi);obtain⟨x,hx⟩:=h n (X8 n);refine⟨l++[x],by simp[hl],λi y hy=>?_⟩;by_cases hi:i<l.length
  .rw[bV hi]at hy;exact hp i y hy
  .rw[bJ (xX hi)]at hy;have:i-l.length=0:=by
    rcases Nat.eq_zero_or_pos (i-l.length)with h0|h0
    .exact h0
    .obtain⟨m,hm⟩:∃m,i-l.length=m+1:=⟨i-l.length-1,by omega⟩;rw[hm]at hy;simp at hy
   rw[this]at hy;simp at hy;subst hy;have:i=n:=by omega
   rw[this];exact hx
theorem be3{a:Addr}(h:a.spot=none)(n:Nat):a.add n=⟨a.block,a.off+n,none⟩:=by
 obtain⟨b,o,s⟩:=a;simp only at h;subst h;unfold Addr.add;split
 .rename_i h0;rw[h0];rfl
 .rfl
theorem c71{t e:TypeId}{α:Type}{f:α->List CV}{Q:α->Prop}{sz:Nat}(ht:P.underlying t=some (.slice e))(hsz:P.cellsOf e=sz)(hpos:0<sz)(hf:∀x,(f x).length=sz)(h:Reads enc P w e f Q):
 Reads enc P w t (λl=>[.sl sz (l.map f)]) (λl:List α=>l.length<=9223372036854775807/\∀x∈l,Q x):=λfuel cs y hy=>by
 rcases DataW.trod_slice ht hy with⟨rfl,_⟩|⟨a,len,cap,elems,rest,n,_,rfl,_,_,hlc,hcm,hel,hat,_,_⟩
 .exact⟨[],.one rfl (.nil _ _ _),by simp,λx hx=>by simp at hx⟩
 .have hone:∀i,i<len->∃x:α,(∃cs',w.cells? 0 (a.add (i*sz)) sz=some cs'/\RC w (f x) cs')/\Q x:=by
   intro i hi;have h1:=hat i hi;rw[I9 (by omega),hsz]at h1;obtain⟨cs',h2,h3⟩:=Option.bind_eq_some_iff.1 h1;obtain⟨x,h4,h5⟩:=h n cs' _ h3;exact⟨x,⟨cs',h2,h4⟩,h5⟩
  obtain⟨l,hl,hp⟩:=bI6 len hone;refine⟨l,.one rfl ?_,by rw[hl];exact X4 hlc hcm,λx hx=>?_⟩
  .cases l with
   |nil=>simp only[List.length_nil]at hl;subst hl;exact .nil _ _ _
   |cons x0 l0=>
    have hcell:∀(i j:Nat)(d:List CV)(c:CV),((x0::l0).map f)[i]?=some d->d[j]?=some c->∃u,w.cell? ((a.add (i*sz)).add j)=some u/\c.atom=true/\Rep (NW w) w c u:=by
     intro i j d c hd hc;rw[O6]at hd;obtain⟨x,hx,rfl⟩:=Option.map_eq_some_iff.1 hd;obtain⟨⟨cs',h2,h4⟩,_⟩:=hp i x hx;obtain⟨ha,u,hu,hr⟩:=h4.2 j c hc;unfold World.cells? at h2;rw[I4 (Y3 _)]at h2;have hjlt:j<sz:=by have:=(O4.1 hc).1;rw[hf]at this;exact this
     obtain⟨b,hb1,hb2⟩:=Lib.mapM_at h2 j j (by simp[hjlt]);rw[hu]at hb1;exact⟨u,by rw[hb2];exact hb1.symm,ha,hr⟩
    have hspot:a.spot=none:=by
     have h0:0<(f x0).length:=by rw[hf];exact hpos
     obtain⟨u,hu,_,_⟩:=hcell 0 0 (f x0) ((f x0)[0]) rfl (I9 h0);have:=cell_spot hu;simpa[Addr.add]using this
    obtain⟨b,o,s⟩:=a;simp only at hspot;subst hspot;have hcell':∀(i j:Nat)(d:List CV)(c:CV),((x0::l0).map f)[i]?=some d->d[j]?=some c->∃u,w.cell? ⟨b,o+i*sz+j,none⟩=some u/\c.atom=true/\Rep (NW w) w c u:=by
     intro i j d c hd hc;obtain⟨u,hu,h3⟩:=hcell i j d c hd hc;rw[be3 (a:=⟨b,o,none⟩) rfl,be3 (a:=⟨b,o+i*sz,none⟩) rfl]at hu;exact⟨u,hu,h3⟩
    have hlen:((x0::l0).map f).length=len:=by rw[U7];exact hl
    rw[<-hlen];refine .sl sz _ b o cap (λi j=>(w.cell? ⟨b,o+i*sz+j,none⟩).getD undef) (by rw[hlen];exact hlc) (λi d hd=>?_) (λi j d c hd hc=>?_) (λi j d c hd hc=>?_)
    .rw[O6]at hd;obtain⟨x,_,rfl⟩:=Option.map_eq_some_iff.1 hd;exact hf x
    .obtain⟨u,hu,ha,_⟩:=hcell' i j d c hd hc;exact⟨co4 hu,by rw[hu];rfl,ha⟩
    .obtain⟨u,hu,_,hr⟩:=hcell' i j d c hd hc;rw[hu];exact hr
  .obtain⟨i,hi,rfl⟩:=dV hx;exact(hp i _ (I9 hi)).2
def ad5(enc:TypeId×Value->H)(P:Program)(w:World)(fs:List Field)(off tot:Nat){α:Type}(f:α->List CV)(Q:α->Prop):Prop:=
 ∀(fuel:Nat)(cs:List Value),cs.length=tot->(∀g∈fs,∃y,DataW.trod enc P w 0 (λ_=>true) true fuel g.type ((cs.drop g.offset).take (P.cellsOf g.type))=some y)->∃x,RC w (f x) (cs.drop off)/\Q x
theorem bo7{tot:Nat}:ad5 enc P w [] tot tot (λ_:Unit=>[]) (λ_=>True):=λfuel cs hl _=>
 ⟨(),by rw[BN (Nat.le_of_eq hl)];exact⟨rfl,λj c hj=>by simp at hj⟩,trivial⟩
theorem qE{g:Field}{fs:List Field}{off n tot:Nat}{α β:Type}{f:α->List CV}{Q:α->Prop}{f':β->List CV}{R:β->Prop}(ho:g.offset=off)(hn:P.cellsOf g.type=n)(h:Reads enc P w g.type f Q)
 (hr:ad5 enc P w fs (off+n) tot f' R):ad5 enc P w (g::fs) off tot (λp:α×β=>f p.1++f' p.2) (λp=>Q p.1/\R p.2):=λfuel cs hl hall=>by
 obtain⟨y,hy⟩:=hall g (by simp);rw[ho,hn]at hy;obtain⟨x,hx,hq⟩:=h fuel _ y hy;obtain⟨z,hz,hr⟩:=hr fuel cs hl λg' hg'=>hall g' (by simp[hg']);refine⟨(x,z),?_,hq,hr⟩;have:cs.drop off=(cs.drop off).take n++cs.drop (off+n):=by
  rw[<-List.drop_drop];exact(List.take_append_drop n _).symm
 rw[this];exact hx.append hz
theorem bK5{t:TypeId}{fs:Array Field}{n:Nat}{α:Type}{f:α->List CV}{Q:α->Prop}(ht:P.underlying t=some (.struct fs))(hn:P.cellsOf t=n)(h:ad5 enc P w fs.toList 0 n f Q):Reads enc P w t f Q:=λfuel cs y hy=>by
 obtain⟨xs,m,rfl,_,hl,hxs,hat⟩:=DataW.trod_struct ht hy;obtain⟨x,h1,h2⟩:=h m cs (hn▸hl) λg hg=>by
  obtain⟨i,hi,rfl⟩:=dV hg;have hi':i<fs.size:=by simpa using hi
  have:=hat i fs[i] (by simp[hi']);rw[I9 (by omega)]at this;exact⟨_,by simpa using this⟩
 exact⟨x,by simpa using h1,h2⟩
theorem bf6{t:TypeId}{b0:Nat}{v:Value}{d:DataW H}{ps:List MemPlace}{α:Type}{f:α->List CV}{g:α->CV}{Q:α->Prop}(hu:∀cs,¬Value.okWide P w .any b0 t (.agg cs))(hfg:∀x,f x=[g x])(h:Reads enc P w t f Q)
 (hval:Value.okWide P w .any b0 t v) (hd:DataW.Trod enc P w 0 (λ_=>true) true t v d ps):∃x,Rep (NW w) w (g x) v/\Q x:=by
 obtain⟨fuel,hd⟩:=hd;obtain⟨x,h1,h2⟩:=h fuel _ _ hd;rw[hfg]at h1;have hc:v.cells.toList=[v]:=by
  cases v with
  |agg cs=>exact absurd hval (hu cs)
  |_=>rfl
 rw[hc]at h1;obtain⟨_,u,hu',hr⟩:=h1.2 0 (g x) rfl;simp at hu';subst hu';exact⟨x,hr,h2⟩
theorem cV2{t:TypeId}{k:IntKind}{b0:Nat}(hu:P.underlying t=some (.int k)):∀cs,¬Value.okWide P w .any b0 t (.agg cs):=by
 intro cs h;simp[Value.okWide,Cell.okWide,Cell.ok,hu]at h
theorem cV3{t e:TypeId}{b0:Nat}(hu:P.underlying t=some (.slice e)):∀cs,¬Value.okWide P w .any b0 t (.agg cs):=by
 intro cs h;simp[Value.okWide,Cell.okWide,Cell.ok,hu]at h
theorem b55(hl:laidOutB P=true){W W':World}{sp':Nat->Bool}:∀(ts:List TypeId)(vs:List Value)(ds:List (DataW H))(ps:List MemPlace),ts.all (λt=>P.readableRec t&&decide (t<P.types.size))=true->
 DataW.TrodAll enc P W 0 (λ_=>true) true ts vs ds ps->(∀p∈ps,W.sameAt W' p)->(∀p∈ps,sp' p.block=true)->DataW.TrodAll enc P W' 0 sp' true ts vs ds ps
 |[],vs,ds,ps,_,h,_,_=>by
  obtain⟨rfl,rfl,rfl⟩:=trodAll_nil h;exact trodAll_mk0
 |t::ts,vs,ds,ps,ho,h,h1,h2=>by
  obtain⟨v,vs1,d,ds1,a,b,rfl,rfl,rfl,k1,k2⟩:=trodAll_cons h;simp only[List.all_cons,X3,yJ]at ho
  exact⟨a,b,WideElems.Trod_stays hl ho.1.1 ho.1.2 k1 (λp hp=>h1 p (by simp[hp])) (λp hp=>h2 p (by simp[hp])),
   b55 hl ts vs1 ds1 b (by simpa using ho.2) k2 (λp hp=>h1 p (by simp[hp])) (λp hp=>h2 p (by simp[hp])),rfl⟩
theorem c35{f:Func}{s:ChangeSpec}{apart fresh handsOn again:Bool}{W W':World}{args:Array Value}{ds gs:List (DataW H)}{before:List MemPlace}{tb:TypeId}
 (hl:laidOutB P=true) (hW:DataW.Whole enc P f.params.toList s.vars apart W args.toList ds gs before) (hv:s.vars=[]) (hok:f.params.toList.all (λt=>P.readableRec t&&decide (t<P.types.size))=true)
 (hrt:f.resultTypes=#[tb]) (htb:P.underlying tb=some .bool) (h1:(s.fn H (ds++gs)).results=[.lit (.bool true)]) (h2:(s.fn H (ds++gs)).args=ds) (h3:(s.fn H (ds++gs)).vars=[]) (hb:Below W.heap.size W W'):
 s.post enc P f apart fresh handsOn again W args (.bool true) W':=by
 have hlt:=hW.lt;obtain⟨p,q,hA,hV,rfl,hz,hn⟩:=id hW;rw[hv]at hV;obtain⟨rfl,rfl⟩:=trodVars_none hV;have hargs:∀sp:Nat->Bool,(∀x∈p++[],sp x.block=true)->DataW.TrodAll enc P W' 0 sp true f.params.toList args.toList (s.fn H (ds++[])).args p:=λsp hsp=>by
  rw[h2];exact b55 hl _ _ _ _ hok hA (λx hx=>hb.same (hlt x (by simp[hx]))) (λx hx=>hsp x (by simp[hx]))
 have hvars:∀sp:Nat->Bool,DataW.TrodVars enc P W' sp s.vars (s.fn H (ds++[])).vars []:=λsp=>by
  rw[hv,h3];rfl
 have hres:∀(b:Nat)(sp:Nat->Bool)(hd:Bool),DataW.TrodAll enc P W' b sp hd f.resultTypes.toList ((Value.bool true).resultList f.resultTypes.size) (s.fn H (ds++[])).results []:=λb sp hd=>by
  rw[h1,hrt];exact trodAll_cons_mk (shut_bool htb _) trodAll_mk0
 have hold:∀x∈p++[],(λb=>decide (b<W.heap.size)) x.block=true:=λx hx=>by simpa using hlt x hx
 refine⟨ds,[],p++[],[],p,[],hW,hres _ _ _,hargs _ hold,hvars _,World.keptBut_mono (λx hx=>⟨hx,H9 (by simpa using hx)⟩) (hb.frame _),λ_=>?_⟩;refine⟨ok_one hrt rfl (okWide_bool_mk htb _),_,_,([]++p)++[],⟨[]++p,[],trodAll_append (hargs _ (λ_ _=>rfl)) (hres _ _ _),hvars _,rfl,?_,?_⟩,?_⟩
 .intro b off hp;have hp':MemPlace.cell b off∈p++[]:=by simpa using hp
  rw[hb.frozen (p:=⟨b,off,none⟩) (hlt _ hp')];exact hz b off hp'
 .intro ha;simpa using hn ha
 .intro x hx _;simpa using hx
end
end
section
open Go
def rowsOf(bs:List (Nat×Nat)):List MemPlace:=bs.flatMap λx=>MemPlace.row ⟨x.1,0,none⟩ x.2
def cm1(P:Program)(w:World)(bs:List (Nat×Nat)):Bool:=bs.all λx=>match w.heap[x.1]? with
 |some (.cells c _ (0,0))=>c.toList.all λ|.iface u v=>Value.okWideB P w u v|_=>true
 |_=>false
theorem bA1{bs:List (Nat×Nat)}{b off:Nat}(h:MemPlace.cell b off∈rowsOf bs):∃n,(b,n)∈bs:=by
 obtain⟨x,hx,hm⟩:=List.mem_flatMap.1 h;obtain⟨i,_,hi⟩:=iV.1 hm;obtain⟨h1,h2⟩:=MemPlace.cell.inj hi;exact⟨x.2,by rw[<-h1];exact hx⟩
theorem bC1:∀{bs:List (Nat×Nat)},(bs.map (·.1)).Nodup->(rowsOf bs).Nodup
 |[],_=>List.nodup_nil
 |(b,n)::r,h=>by
  rw[kP,List.nodup_cons]at h;show(MemPlace.row ⟨b,0,none⟩ n++rowsOf r).Nodup;rw[List.nodup_append];refine⟨?_,bC1 h.2,λx hx y hy he=>?_⟩
  .refine List.Pairwise.map _ (λx y hxy=>?_) List.nodup_range;intro hq;have:=(MemPlace.cell.inj hq).2;exact hxy (by omega)
  .obtain⟨i,_,rfl⟩:=iV.1 hx;rw[<-he]at hy;obtain⟨m,hm⟩:=bA1 hy;exact h.1 (iV.2 ⟨_,hm,rfl⟩)
theorem laidMet_of_blocks{P:Program}{w:World}{l:List (String×DataW Unit)}(bs:List (Nat×Nat))(fuel:Nat)(h:DataW.laidRun P w fuel (l.map (·.1))=some (l,rowsOf bs))
 (hn:decide (bs.map (·.1)).Nodup=true) (hr:cm1 P w bs=true):laidMet P l w:=by
 refine⟨rowsOf bs,DataW.LaidVars_of_laidRun h,bC1 (gB hn),λb off hp=>?_⟩;obtain⟨n,hb⟩:=bA1 hp;have h1:=nZ.1 hr _ hb;simp only at h1;split at h1
 .rename_i c t hh;refine⟨⟨c,t,hh⟩,λu v hc=>?_⟩;simp only[World.cell?,hh,Option.isSome_none,Bool.false_eq_true,if_false]at hc;have:=nZ.1 h1 (.iface u v) (Array.mem_toList_iff.2 (Array.mem_of_getElem? hc));exact Value.okWide_of_okWideB this
 .cases h1
end
end Go.F6
namespace Go
abbrev tH:=@List.pairwise_iff_getElem
abbrev CO:=@bne_self_eq_false
end Go
namespace Go.Proofs.YtibiibjbmhckgaaGreatDoor
section
open Go Go.F6 Go.RowKit Go.ChangeShapes Go.WideShapes Go.ChangeAt Proofs.Tryz
theorem cZ5{n:Int}(h:(Lit.int .i64 n).wf=true):okI n:=by
 simp only[Lit.wf,X3,yJ]at h;exact h
def am9(n:Int):Prop:=0<=n/\n<=255
theorem cZ6{n:Int}(h:(Lit.int .u8 n).wf=true):am9 n:=by
 simp only[Lit.wf,X3,yJ]at h;exact h
def okS(s:Str):Prop:=s.length<=9223372036854775807
def bF8(x:Origin):Prop:=okI x.aK/\okI x.U3/\okI x.Number
def bF7(x:Opn):Prop:=okI x.ID/\okI x.Day/\okI x.Kind/\okI x.Unit/\okI x.Parent/\okI x.Before/\okI x.Level/\okS x.Title/\okS x.Mark/\bF8 x.Origin
def aP2(l:List Opn):Prop:=l.length<=9223372036854775807/\∀x∈l,bF7 x
section
variable{H:Type}{enc:TypeId×Value->H}{w:World}
theorem wW:Reads enc prog w 3 F5 okI:=aS6 id (λ_=>rfl) (λ_=>cZ5) (bK3 underlying3)
theorem c68:Reads enc prog w 31 aA1 bF8:=by
 have h:=bK5 (enc:=enc) (w:=w) underlying31 (n:=3) (by kernel_rfl) (qE (g:=(⟨ "Office",3,0,false,"","",0⟩:Field)) (off:=0) (n:=1) rfl (by kernel_rfl) wW (qE (g:=(⟨ "Accession",3,1,false,"","",8⟩:Field)) (off:=1) (n:=1) rfl (by kernel_rfl) wW (qE (g:=(⟨ "Number",3,2,false,"","",16⟩:Field)) (off:=2) (n:=1) rfl (by kernel_rfl) wW (bo7 (tot:=3)))));exact h.turn (λp=>(⟨p.1,p.2.1,p.2.2.1⟩:Origin)) (λ_=>rfl) (λ_ h=>⟨h.1,h.2.1,h.2.2.1⟩)
theorem c66:Reads enc prog w 33 F7 bF7:=by
 have h:=bK5 (enc:=enc) (w:=w) underlying33 (n:=12) (by kernel_rfl) (qE (g:=(⟨ "ID",3,0,false,"","",0⟩:Field)) (off:=0) (n:=1) rfl (by kernel_rfl) wW (qE (g:=(⟨ "Day",3,1,false,"","",8⟩:Field)) (off:=1) (n:=1) rfl (by kernel_rfl) wW (qE (g:=(⟨ "Kind",3,2,false,"","",16⟩:Field)) (off:=2) (n:=1) rfl (by kernel_rfl) wW (qE (g:=(⟨ "Unit",3,3,false,"","",24⟩:Field)) (off:=3) (n:=1) rfl (by kernel_rfl) wW (qE (g:=(⟨ "Parent",3,4,false,"","",32⟩:Field)) (off:=4) (n:=1) rfl (by kernel_rfl) wW (qE (g:=(⟨ "Before",3,5,false,"","",40⟩:Field)) (off:=5) (n:=1) rfl (by kernel_rfl) wW (qE (g:=(⟨ "Level",3,6,false,"","",48⟩:Field)) (off:=6) (n:=1) rfl (by kernel_rfl) wW (qE (g:=(⟨ "Title",9,7,false,"","",56⟩:Field)) (off:=7) (n:=1) rfl (by kernel_rfl) (bK4 underlying9) (qE (g:=(⟨ "Mark",9,8,false,"","",72⟩:Field)) (off:=8) (n:=1) rfl (by kernel_rfl) (bK4 underlying9) (qE (g:=(⟨ "Origin",31,9,false,"","",88⟩:Field)) (off:=9) (n:=3) rfl (by kernel_rfl) c68 (bo7 (tot:=12))))))))))));exact h.turn (λp=>(⟨p.1,p.2.1,p.2.2.1,p.2.2.2.1,p.2.2.2.2.1,p.2.2.2.2.2.1,p.2.2.2.2.2.2.1,p.2.2.2.2.2.2.2.1,p.2.2.2.2.2.2.2.2.1,p.2.2.2.2.2.2.2.2.2.1⟩:Opn)) (λ_=>rfl) (λ_ h=>⟨h.1,h.2.1,h.2.2.1,h.2.2.2.1,h.2.2.2.2.1,h.2.2.2.2.2.1,h.2.2.2.2.2.2.1,h.2.2.2.2.2.2.2.1,h.2.2.2.2.2.2.2.2.1,h.2.2.2.2.2.2.2.2.2.1⟩)
theorem c67:Reads enc prog w 22 (λl:List Opn=>[.sl 12 (l.map F7)]) aP2:=c71 underlying22 (by kernel_rfl) (by decide) (λ_=>rfl) c66
theorem c69:Reads enc prog w 5 (λn:Int=>[.v (.int .u8 n)]) am9:=aS6 id (λ_=>rfl) (λ_=>cZ6) (bK3 underlying5)
end
theorem own:ownKnob prog.godebug=none:=by kernel_rfl
theorem laidOut:laidOutB prog=true:=by kernel_rfl
abbrev by1:List (String×DataW Unit):=[("math/bits.deBruijn32tab",Rows.laid_math_bits_deBruijn32tab),("math/bits.deBruijn64tab",Rows.laid_math_bits_deBruijn64tab),("internal/strconv.uint64pow10",Rows.laid_internal_strconv_uint64pow10),("unicode/utf8.acceptRanges",Rows.laid_unicode_utf8_acceptRanges),("unicode/utf8.first",Rows.laid_unicode_utf8_first)]
theorem cB7{W:World}(_:laidMetH prog by1 W)(hs:W.ShapedOpen prog):Gw W:=
 Go.Proofs.cell_of_shapedOpen_int (zero:=#[.int .i64 0]) (t:=3) hs (gB (by kernel_rfl)) (by kernel_rfl) rfl (by kernel_rfl) (by kernel_rfl) underlying3
def aL7:DataW Unit->Array Value
 |.agg l=>(l.map λ|.lit (.int k n)=>Value.int k n|_=>undef).toArray
 |_=>#[]
noncomputable def laidWorld (os:Os):World:=
 let w0:=World.holding prog os ⟨#[],#[],[]⟩
 let put (h:Array Obj) (g:Nat) (cs:Array Value):Array Obj:=h.modify g fun
  |.cells _ t frozen=>.cells cs t frozen
  |o=>o
 let h2:=put w0.heap 2 (Lib.firstTab.map λz=>Value.int .u8 z).toArray
 let h3:=put h2 3 ((List.range 16).flatMap λi=>[Value.int .u8 (Lib.accLo i),Value.int .u8 (Lib.accHi i)]).toArray
 let h7:=put h3 1 (aL7 Rows.laid_internal_strconv_uint64pow10)
 let h8:=put h7 4 (aL7 Rows.laid_math_bits_deBruijn32tab)
 let h9:=put h8 5 (aL7 Rows.laid_math_bits_deBruijn64tab)
 { w0 with heap:=h9 }
abbrev blocks:List (Nat×Nat):=[(4,32),(5,64),(1,20),(3,32),(2,256)]
theorem cO2(os:Os)(args:Array Value):laidMet prog by1 ((laidWorld os).forCall (λ_ _=>0) ⟨#[],args,[]⟩).memory:=
 laidMet_of_blocks blocks 8 (by kernel_rfl) (by kernel_rfl) (by kernel_rfl)
end
section
open Go Go.F6
def Tot{α:Type}(o:Option α)(P:α->Prop):Prop:=∃b,o=some b/\P b
section
variable{α β:Type}{P:α->Prop}
theorem G7{b:α}(h:P b):Tot (some b) P:=⟨b,rfl,h⟩
theorem J5{c:Bool}{x y:Option α}(h1:c=true->Tot x P)(h2:c=false->Tot y P):Tot (bif c then x else y) P:=by
 cases c
 .exact h2 rfl
 .exact h1 rfl
theorem U5{o:Option β}{f:β->Option α}{Q:β->Prop}(h:Tot o Q)(g:∀a,o=some a->Q a->Tot (f a) P):Tot (o.bind f) P:=by
 obtain⟨a,ha,hq⟩:=h;have:=g a ha hq;rw[ha];exact this
theorem Tot.mono{o:Option α}{Q:α->Prop}(h:Tot o Q)(g:∀a,Q a->P a):Tot o P:=by
 obtain⟨a,ha,hq⟩:=h;exact⟨a,ha,g a hq⟩
theorem Tot.of{o:Option α}{a:α}(h:Tot o P)(e:o=some a):P a:=by
 obtain⟨b,hb,hp⟩:=h;rw[hb]at e;cases e;exact hp
end
theorem nz{n:Int}{P:Prop}(h:n≠0):n=0->P:=λe=>absurd e h
theorem aT9(lo:Nat)(s:Str):Tot (vG lo s) λ_=>True:=⟨_,rfl,trivial⟩
theorem bB4(s:Str):Tot (bif decide ((s.length:Int)<1)then some (false)else(bif decide ((s.length:Int)>64)then some (false)else(Option.bind (ix s 0) λb3=>bif ((b3.toNat:Int)==32)then some (false)else(Option.bind (ix s (IntKind.i64.wrap ((s.length:Int)-1))) λb6=>bif ((b6.toNat:Int)==32)then some (false)else(Option.bind (ZT s ([32,32]:Str)) λy9=>bif y9 then some (false)else(Option.bind (vG 32 s) λlW=>some ((!lW)))))))) λ_=>True:=by
 refine J5 (λ_=>G7 trivial) λh1=>?_;refine J5 (λ_=>G7 trivial) λh2=>?_;have h1:=wR h1;have h2:=wR h2;refine U5 (Q:=λ_=>True) ⟨_,Z4 (i:=0) (by omega),trivial⟩ λb _ _=>?_;refine J5 (λ_=>G7 trivial) λ_=>?_;rw[show IntKind.i64.wrap ((s.length:Int)-1)=((s.length-1:Nat):Int) by rw[rG (by unfold okI;omega)];omega];refine U5 (Q:=λ_=>True) ⟨_,Z4 (i:=s.length-1) (by omega),trivial⟩ λb _ _=>?_;refine J5 (λ_=>G7 trivial) λ_=>?_;refine U5 (Q:=λ_=>True) ?_ λb _ _=>J5 (λ_=>G7 trivial) λ_=>U5 (aT9 _ _) λ_ _ _=>G7 trivial;unfold ZT;rw[Y9 (by omega)];exact G7 trivial
theorem b48(s:Str):Tot (au8 s) λ_=>True:=bB4 s
theorem da3(s:Str):Tot (ap5 s) λ_=>True:=bB4 s
theorem dt5(s:Str):Tot (TW s) λ_=>True:=by
 unfold TW;rw[av1];exact J5 (λ_=>U5 (aT9 _ _) λ_ _ _=>G7 trivial) λ_=>G7 trivial
theorem da2(s:Str):Tot (ap4 s) λ_=>True:=J5 (λ_=>U5 (aT9 _ _) λ_ _ _=>G7 trivial) λ_=>G7 trivial
def Al(t:Tree)(i:Nat):Prop:=∀b,t.Branches[i]?=some b->1<=b.Unit.ID/\(∀j c,j+1=i->t.Branches[j]?=some c->c.Unit.ID<b.Unit.ID)/\(b.Unit.Mark≠[]->∀c∈t.Branches.take i,c.Unit.Mark≠b.Unit.Mark)
theorem as6{t:Tree}{i:Nat}(hi:i<t.Branches.length)(hl:t.Branches.length<=4000):Tot (ab4 t i) λe=>e=0->Al t i:=by
 unfold ab4;have hb:=I9 hi;rw[Z4 hi];generalize t.Branches[i]=b at hb;simp only[G5,av1];refine J5 (λ_=>G7 (nz (by decide))) λh1=>?_;have h1:1<=b.Unit.ID/\b.Unit.ID<=1073741824:=by simpa using h1
 refine J5 (λ_=>G7 (nz (by decide))) λh2=>?_
 have tail:∀(hp:∀j c,j+1=i->t.Branches[j]?=some c->c.Unit.ID<b.Unit.ID),Tot (bif (!(b.Unit.Mark==([]:Str)))then(Option.bind (TW b.Unit.Mark) λFZ=>bif (!FZ)then some (1)else(bif (!(b.Unit.Mark==([]:Str)))then(Option.bind (slc t.Branches 0 i) λy21=>Option.bind (zY y21 (λz0=>FD z0 b.Unit)) λy23=>bif y23 then some (19)else some (0))else some (0)))
  else(bif (!(b.Unit.Mark==([]:Str)))then(Option.bind (slc t.Branches 0 i) λy27=>Option.bind (zY y27 (λz0=>FD z0 b.Unit)) λy29=>bif y29 then some (19)else some (0))else some (0))) λe:Int=>e=0->Al t i:=λhp=>by
  refine J5 (λh5=>?_) (λh5=>?_)
  .refine U5 (dt5 _) λy _ _=>J5 (λ_=>G7 (nz (by decide))) λ_=>?_;have e:=dh3 (l:=t.Branches.take i) (f:=λz0=>FD z0 b.Unit) (p:=λz=>z.Unit.Mark==b.Unit.Mark) (by rw[U9];omega) (λ_ _=>rfl);rw[h5,H7,bS5 (by omega),G5,e,G5];refine J5 (λ_=>G7 (nz (by decide))) λh7=>G7 λ_ b' hb'=>?_;rw[hb]at hb';cases hb';refine⟨h1.1,hp,λ_ c hc=>?_⟩;rw[BM]at h7;simpa using h7 c hc
  .rw[h5,G6];refine G7 λ_ b' hb'=>?_;rw[hb]at hb';cases hb';exact⟨h1.1,hp,λh=>absurd (by simpa using h5) h⟩
 refine J5 (λh3=>?_) (λh3=>?_)
 .have h3:=gB h3;rw[rG (by unfold okI;omega),bv5 hi (by omega),G5];refine J5 (λ_=>G7 (nz (by decide))) λh4=>?_;have h4:=wR h4;refine U5 (b48 _) λy _ _=>?_;refine J5 (λ_=>G7 (nz (by decide))) λ_=>tail λj c hj hc=>?_;obtain rfl:j=i-1:=by omega
  rw[I9 (by omega)]at hc;cases hc;omega
 .have h3:=wR h3;refine U5 (b48 _) λy _ _=>?_;refine J5 (λ_=>G7 (nz (by decide))) λ_=>tail λj c hj hc=>?_;omega
theorem b37{t:Tree}(hl:t.Branches.length<=4000)(id:Int):ab6 t id=some (idxOf (λz=>z.Unit.ID==id) t.Branches):=by
 have e:=aV7 (l:=t.Branches) (f:=λz0=>aX7 z0 id) (p:=λz=>z.Unit.ID==id) (by omega) (λ_ _=>rfl);unfold ab6;rw[e];rfl
theorem bU1(a b:Int):Tot (TU a b) λ_=>True:=by
 unfold TU;rw[av1];refine J5 (λ_=>G7 trivial) λ_=>?_;rw[av1];exact J5 (λ_=>G7 trivial) λ_=>J5 (λ_=>G7 trivial) λ_=>J5 (λ_=>G7 trivial) λ_=>G7 trivial
def Plc(t:Tree)(i:Nat):Prop:=∀b,t.Branches[i]?=some b->b.Unit.Parent≠0->t.Branches.any (λz=>z.Unit.ID==b.Unit.Parent)=true
theorem b53{t:Tree}{i:Nat}(hi:i<t.Branches.length)(hl:t.Branches.length<=4000):Tot (ac1 t i) λe=>e=0->Plc t i:=by
 unfold ac1;have hb:=I9 hi;rw[Z4 hi];generalize t.Branches[i]=b at hb;simp only[G5,b37 hl];refine J5 (λh1=>?_) λh1=>?_
 .have h1:b.Unit.Parent=0:=by simpa using h1
  refine J5 (λ_=>G7 (nz (by decide))) λh2=>G7 λ_ b' hb' hp=>?_;rw[hb]at hb';cases hb';exact absurd h1 hp
 .refine J5 (λ_=>G7 (nz (by decide))) λh2=>?_;have h2:=wR h2;have hany:t.Branches.any (λz=>z.Unit.ID==b.Unit.Parent)=true:=by
   cases h:t.Branches.any (λz=>z.Unit.ID==b.Unit.Parent)with
   |true=>rfl
   |false=>rw[XJ h]at h2;exact absurd (by decide) h2
  obtain⟨k,hk,hik,_⟩:=JZ hany;refine J5 (λ_=>G7 (nz (by decide))) λ_=>?_;rw[hik,Z4 hk,G5];refine U5 (bU1 _ _) λy _ _=>J5 (λ_=>G7 (nz (by decide))) λ_=>G7 λ_ b' hb' hp=>?_;rw[hb]at hb';cases hb';exact hany
theorem bj8{u:List Int}(h:u.length<=900):∀(n i fu:Nat)(v:List Int),u.length-i=n->i<=u.length->n<fu->v=u.take i->TL u fu (i:Int) v=some u
 |_,i,0,_,_,_,hf,_=>by omega
 |0,i,fu+1,v,hn,hi,_,hv=>by
  have h0:decide ((i:Int)<((u.map F5).length:Int))=false:=eU (by rw[U7];omega);simp only[TL,h0,G6];rw[hv,xW (by omega)]
 |n+1,i,fu+1,v,hn,hi,hf,hv=>by
  have hi':i<u.length:=by omega
  have h0:decide ((i:Int)<((u.map F5).length:Int))=true:=Y9 (by rw[U7];omega);have hvl:v.length=i:=by rw[hv,U9];omega
  have h1:decide (v.length+([u[i]]:List Int).length<=4294967296)=true:=Y9 (by simp;omega);simp only[TL,h0,H7,Z4 hi',G5,aU8,h1,wrap_succ (n:=u.length) (by omega) hi'];exact bj8 h n (i+1) fu _ (by omega) (by omega) (by omega) (by rw[hv,List.take_append_getElem hi'])
theorem di9{l:List Int}(h:l.length<=900):ar5 l=some (qM l):=by
 have e:bS4 [] l=some l:=bj8 h l.length 0 1000 [] (by omega) (by omega) (by omega) rfl;simp only[ar5,aV4,aU9];rw[e];simp only[G5,aW3];rw[Y9 (by omega)];rfl
theorem bQ3{a b:List Int}(hl:a.length=b.length)(h:a.length<=900):∀(n i fu:Nat),a.length-i=n->i<=a.length->n<fu->Tot (TJ a b fu (i:Int)) λr=>r=true->a.drop i=b.drop i
 |_,i,0,_,_,hf=>by omega
 |0,i,fu+1,hn,hi,_=>by
  have h0:decide ((i:Int)<((a.map F5).length:Int))=false:=eU (by rw[U7];omega);simp only[TJ,h0,G6];exact G7 λ_=>by rw[BN (by omega),BN (by omega)]
 |n+1,i,fu+1,hn,hi,hf=>by
  have hi':i<a.length:=by omega
  have br5:i<b.length:=by omega
  have h0:decide ((i:Int)<((a.map F5).length:Int))=true:=Y9 (by rw[U7];omega);simp only[TJ,h0,H7,Z4 hi',Z4 br5,G5,wrap_succ (n:=a.length) (by omega) hi'];refine J5 (λ_=>G7 λe=>by cases e) λhne=>?_;refine(bQ3 hl h n (i+1) fu (by omega) (by omega) (by omega)).mono λr hr he=>?_;have he':a[i]=b[i]:=by simpa using hne
  rw[xP hi',xP br5,he',hr he]
theorem dh6{a b:List Int}(h:a.length<=900):Tot (aq8 a b) λr=>r=true->a=b:=by
 unfold aq8 aV6;refine J5 (λ_=>G7 λe=>by cases e) λhl=>?_;have hl:a.length=b.length:=by simp at hl;omega
 exact(bQ3 hl h a.length 0 _ (by omega) (by omega) (by omega)).mono λr hr he=>by simpa using hr he
def wP(t:Tree)(p:Int):List Int:=(t.Branches.filter λb=>b.Unit.Parent==p).map λb=>b.Unit.ID
theorem aX8{t:Tree}{p:Int}{l:List Int}(hl:l.length<=900)(hb:t.Branches.length<=900):∀(n i fu:Nat)(want:List Int),t.Branches.length-i=n->i<=t.Branches.length->n<fu->want.length<=i->
 Tot (MC t p l fu want (i:Int)) λr=>r=true->qM l=want++((t.Branches.drop i).filter λb=>b.Unit.Parent==p).map λb=>b.Unit.ID
 |_,i,0,_,_,_,hf,_=>by omega
 |0,i,fu+1,want,hn,hi,_,_=>by
  have h0:decide ((i:Int)<((t.Branches.map G8).length:Int))=false:=eU (by rw[U7];omega);simp only[MC,h0,G6,di9 hl,G5];refine U5 (dh6 (by rw[(XM l).length_eq];exact hl)) λr _ hr=>G7 λhe=>?_;rw[hr he,BN (by omega)];simp
 |n+1,i,fu+1,want,hn,hi,hf,hw=>by
  have hi':i<t.Branches.length:=by omega
  have h0:decide ((i:Int)<((t.Branches.map G8).length:Int))=true:=Y9 (by rw[U7];omega);simp only[MC,h0,H7,Z4 hi',G5,wrap_succ (n:=t.Branches.length) (by omega) hi'];refine J5 (λh1=>?_) λh1=>?_
  .rw[Y9 (by simp;omega),H7];refine(aX8 hl hb n (i+1) fu _ (by omega) (by omega) (by omega) (by simp;omega)).mono λr hr he=>?_;rw[hr he,xP hi',List.filter_cons_of_pos (by simpa using h1)];simp
  .refine(aX8 hl hb n (i+1) fu _ (by omega) (by omega) (by omega) (by omega)).mono λr hr he=>?_;rw[hr he,xP hi',List.filter_cons_of_neg (by simpa using h1)]
theorem b42{t:Tree}{p:Int}{l:List Int}(hl:l.length<=900)(hb:t.Branches.length<=900):Tot (au6 t p l) λr=>r=true->qM l=wP t p:=
 (aX8 hl hb t.Branches.length 0 1000 [] (by omega) (by omega) (by omega) (by simp)).mono λr hr he=>by simpa[wP]using hr he
def Dp(t:Tree):Nat->Branch->Prop
 |0,_=>False
 |n+1,b=>(n=0/\b.Unit.Parent=0)\/(b.Unit.Parent≠0/\∃p∈t.Branches,p.Unit.ID=b.Unit.Parent/\Dp t n p)
theorem bU8{t:Tree}(hb:t.Branches.length<=900)(hp:∀b∈t.Branches,b.Unit.Parent≠0->t.Branches.any (λz=>z.Unit.ID==b.Unit.Parent)=true):∀(n m fu:Nat)(b:Branch)(i4 i6:Int)(i7 i8:Str),b∈t.Branches->t.Branches.length+2-m=n->n<fu->m<=t.Branches.length+1->
 Tot (ab5 t fu (m:Int) i4 b.Unit.Parent i6 i7 i8) λe=>e=0->∃k,Dp t k b/\m+k<=13
 |_,m,0,b,_,_,_,_,_,_,hf,_=>by omega
 |0,m,fu+1,b,_,_,_,_,_,hn,_,hm=>by omega
 |n+1,m,fu+1,b,_,_,_,_,hmem,hn,hf,hm=>by
  simp only[ab5];refine J5 (λh1=>?_) λh1=>?_
  .have h1:b.Unit.Parent≠0:=by simpa using h1
   refine J5 (λ_=>G7 (nz (by decide))) λh2=>?_;have h2:=wR h2;rw[U7]at h2;obtain⟨k,hk,hik,hpk,_⟩:=JZ (hp b hmem h1);rw[b37 (by omega),G5,hik,Z4 hk,G5,rG (by unfold okI;omega)];refine(bU8 hb hp n (m+1) fu t.Branches[k] _ _ _ _ (fK hk) (by omega) (by omega) (by omega)).mono λe he h0=>?_;obtain⟨d,hd,hle⟩:=he h0;exact⟨d+1,.inr ⟨h1,_,fK hk,by simpa using hpk,hd⟩,by omega⟩
  .have h1:b.Unit.Parent=0:=by simpa using h1
   refine J5 (λ_=>G7 (nz (by decide))) λh2=>G7 λ_=>⟨1,.inl ⟨rfl,h1⟩,?_⟩;have h2:=wR h2;omega
theorem bU9{t:Tree}{i:Nat}(hi:i<t.Branches.length)(hb:t.Branches.length<=900)(hp:∀b∈t.Branches,b.Unit.Parent≠0->t.Branches.any (λz=>z.Unit.ID==b.Unit.Parent)=true):Tot (at1 t i) λe=>e=0->∃k,k<=12/\Dp t k t.Branches[i]:=by
 unfold at1 aX6;rw[Z4 hi,G5];refine(bU8 hb hp (t.Branches.length+1) 1 1000 t.Branches[i] _ _ _ _ (fK hi) (by omega) (by omega) (by omega)).mono λe he h0=>?_;obtain⟨k,hk,hle⟩:=he h0;exact⟨k,by omega,hk⟩
structure Right(t:Tree):Prop where
 len:t.Branches.length<=256
 pos:∀b∈t.Branches,1<=b.Unit.ID
 fA:t.Branches.Pairwise λa b=>a.Unit.ID<b.Unit.ID
 mks:t.Branches.Pairwise λa b=>b.Unit.Mark≠[]->a.Unit.Mark≠b.Unit.Mark
 par:∀b∈t.Branches,b.Unit.Parent≠0->t.Branches.any (λz=>z.Unit.ID==b.Unit.Parent)=true
 kids:∀b∈t.Branches,qM b.Kids=wP t b.Unit.ID
 roots:qM t.O1=wP t 0
 depth:∀b∈t.Branches,∃k,k<=12/\Dp t k b
theorem an8{t:Tree}{v2:Int}{x:FuncId}{k:Int->Option (Int×Int)}(hb:t.Branches.length<=900):∀(n i fu:Nat),t.Branches.length-i=n->i<=t.Branches.length->n<fu->(∀j:Nat,j<t.Branches.length->∃y,sW x t j=some y)->
 (∃a y,FB t v2 x k fu (i:Int)=some (a,y)/\y≠0)\/((∀j:Nat,i<=j->j<t.Branches.length->sW x t j=some 0)/\FB t v2 x k fu (i:Int)=k (IntKind.i64.wrap (v2+1)))
 |_,i,0,_,_,hf,_=>by omega
 |0,i,fu+1,hn,hi,_,_=>by
  have h0:decide ((i:Int)<((t.Branches.map G8).length:Int))=false:=eU (by rw[U7];omega);refine .inr ⟨λj h1 h2=>by omega,?_⟩;simp only[FB,h0,G6]
 |n+1,i,fu+1,hn,hi,hf,hd=>by
  have hi':i<t.Branches.length:=by omega
  have h0:decide ((i:Int)<((t.Branches.map G8).length:Int))=true:=Y9 (by rw[U7];omega);obtain⟨y,hy⟩:=hd i hi';simp only[FB,h0,H7,hy,G5,wrap_succ (n:=t.Branches.length) (by omega) hi'];by_cases hy0:y=0
  .subst hy0;simp only[CO,G6];rcases an8 hb n (i+1) fu (by omega) (by omega) (by omega) hd with h|⟨h1,h2⟩
   .exact .inl h
   .refine .inr ⟨λj h3 h4=>?_,h2⟩;rcases Nat.eq_or_lt_of_le h3 with rfl|h
    .exact hy
    .exact h1 j h h4
  .refine .inl ⟨i,y,?_,hy0⟩;rw[show(y !=0)=true by simpa using hy0,H7]
theorem bI2{t:Tree}{v2:Int}{x:FuncId}{k:Int->Option (Int×Int)}(hb:t.Branches.length<=900):∀(n i fu:Nat),t.Branches.length-i=n->i<=t.Branches.length->n<fu->(∀j:Nat,j<t.Branches.length->∃y,sW x t j=some y)->
 (∃a y,EZ t v2 x k fu (i:Int)=some (a,y)/\y≠0)\/((∀j:Nat,i<=j->j<t.Branches.length->sW x t j=some 0)/\EZ t v2 x k fu (i:Int)=k (IntKind.i64.wrap (v2+1)))
 |_,i,0,_,_,hf,_=>by omega
 |0,i,fu+1,hn,hi,_,_=>by
  have h0:decide ((i:Int)<((t.Branches.map G8).length:Int))=false:=eU (by rw[U7];omega);refine .inr ⟨λj h1 h2=>by omega,?_⟩;simp only[EZ,h0,G6]
 |n+1,i,fu+1,hn,hi,hf,hd=>by
  have hi':i<t.Branches.length:=by omega
  have h0:decide ((i:Int)<((t.Branches.map G8).length:Int))=true:=Y9 (by rw[U7];omega);obtain⟨y,hy⟩:=hd i hi';simp only[EZ,h0,H7,hy,G5,wrap_succ (n:=t.Branches.length) (by omega) hi'];by_cases hy0:y=0
  .subst hy0;simp only[CO,G6];rcases bI2 hb n (i+1) fu (by omega) (by omega) (by omega) hd with h|⟨h1,h2⟩
   .exact .inl h
   .refine .inr ⟨λj h3 h4=>?_,h2⟩;rcases Nat.eq_or_lt_of_le h3 with rfl|h
    .exact hy
    .exact h1 j h h4
  .refine .inl ⟨i,y,?_,hy0⟩;rw[show(y !=0)=true by simpa using hy0,H7]
structure Sm(n:Nat)(t:Tree):Prop where
 r:t.O1.length<=n
 b:t.Branches.length<=n
 k:∀b∈t.Branches,b.Kids.length<=n
theorem bT9{t:Tree}(h:Sm 900 t):Tot (FC t) λr=>r.2=0->Right t:=by
 obtain⟨hr,hb,hk⟩:=h;unfold FC aX1;refine J5 (λ_=>G7 (nz (by decide))) λh1=>?_;have h1:=wR h1;rw[U7]at h1;have d0:∀j:Nat,sW 144 t j=ab4 t j:=λ_=>rfl;have d1:∀j:Nat,sW 145 t j=ac1 t j:=λ_=>rfl;have d2:∀j:Nat,sW 142 t j=ab1 t j:=λ_=>rfl;have d3:∀j:Nat,sW 146 t j=at1 t j:=λ_=>rfl;have step:∀(fu:Nat)(v:Nat)(x:FuncId),v<4->v≠3->ix ([(144:FuncId),(145:FuncId),(142:FuncId),(146:FuncId)]:List FuncId) (v:Int)=some x->nS t 1000 (fu+1) (v:Int)=FB t v x (λq=>nS t 1000 fu q) 1000 0:=λfu v x hv hv3 hx=>by
  have h0:decide ((v:Int)<((([(144:FuncId),(145:FuncId),(142:FuncId),(146:FuncId)]:List FuncId).map yF).length:Int))=true:=Y9 (by simp;omega);have h3:((v:Int)==3)=false:=by simp;omega
  simp only[nS,h0,H7,hx,G5,h3,G6]
 have w:∀v:Nat,v<4->IntKind.i64.wrap ((v:Int)+1)=((v+1:Nat):Int):=λv hv=>wrap_succ (n:=4) (by omega) hv;rw[show(0:Int)=((0:Nat):Int)from rfl,step 999 0 144 (by omega) (by omega) rfl];rcases an8 (v2:=((0:Nat):Int)) (x:=144) (k:=λq=>nS t 1000 999 q) hb t.Branches.length 0 1000 (by omega) (by omega) (by omega) (λj hj=>by rw[d0];obtain⟨y,hy,_⟩:=as6 hj (by omega);exact⟨y,hy⟩)with⟨a,y,he,hy⟩|⟨a0,he⟩
 .exact⟨_,he,nz hy⟩
 rw[show(0:Int)=((0:Nat):Int)from rfl,he,w 0 (by omega),step 998 1 145 (by omega) (by omega) rfl];rcases an8 (v2:=((1:Nat):Int)) (x:=145) (k:=λq=>nS t 1000 998 q) hb t.Branches.length 0 1000 (by omega) (by omega) (by omega) (λj hj=>by rw[d1];obtain⟨y,hy,_⟩:=b53 hj (by omega);exact⟨y,hy⟩)with⟨a,y,he,hy⟩|⟨a1,he⟩
 .exact⟨_,he,nz hy⟩
 rw[show(0:Int)=((0:Nat):Int)from rfl,he,w 1 (by omega),step 997 2 142 (by omega) (by omega) rfl];have par:∀b∈t.Branches,b.Unit.Parent≠0->t.Branches.any (λz=>z.Unit.ID==b.Unit.Parent)=true:=λb hbm=>by
  obtain⟨j,hj,rfl⟩:=dV hbm;have:=(b53 hj (by omega)).of ((d1 j).symm.trans (a1 j (by omega) hj)) rfl;exact this _ (I9 hj)
 have t2:∀j(hj:j<t.Branches.length),Tot (ab1 t j) λe=>e=0->qM t.Branches[j].Kids=wP t t.Branches[j].Unit.ID:=λj hj=>by
  unfold ab1;rw[Z4 hj,G5];refine U5 (b42 (hk _ (fK hj)) hb) λy _ hy=>J5 (λ_=>G7 (nz (by decide))) λh=>G7 λ_=>hy (by simpa using h)
 rcases an8 (v2:=((2:Nat):Int)) (x:=142) (k:=λq=>nS t 1000 997 q) hb t.Branches.length 0 1000 (by omega) (by omega) (by omega) (λj hj=>by rw[d2];obtain⟨y,hy,_⟩:=t2 j hj;exact⟨y,hy⟩)with⟨a,y,he,hy⟩|⟨a2,he⟩
 .exact⟨_,he,nz hy⟩
 rw[show(0:Int)=((0:Nat):Int)from rfl,he,w 2 (by omega)];have e3:nS t 1000 997 (((2+1:Nat)):Int)=Option.bind (au6 t 0 t.O1) λy7=>bif (!y7)then some ((-1),10)else EZ t 3 146 (λq=>nS t 1000 996 q) 1000 0:=rfl
 rw[e3];refine U5 (b42 hr hb) λy _ hy=>?_;refine J5 (λ_=>G7 (nz (by decide))) λhy'=>?_;have cI8:=hy (by simpa using hy');rcases bI2 (v2:=((3:Nat):Int)) (x:=146) (k:=λq=>nS t 1000 996 q) hb t.Branches.length 0 1000 (by omega) (by omega) (by omega) (λj hj=>by rw[d3];obtain⟨y,hy,_⟩:=bU9 hj hb par;exact⟨y,hy⟩)with⟨a,y,he,hy⟩|⟨a3,he⟩
 .exact⟨_,he,nz hy⟩
 refine⟨((-1),0),?_,λ_=>⟨by omega,λb hbm=>?_,?_,?_,par,λb hbm=>?_,cI8,λb hbm=>?_⟩⟩
 .refine(Eq.trans ?_ he).trans ?_
  .rfl
  .rw[w 3 (by omega)];rfl
 .obtain⟨j,hj,rfl⟩:=dV hbm;exact((as6 hj (by omega)).of ((d0 j).symm.trans (a0 j (by omega) hj)) rfl _ (I9 hj)).1
 .have adj:∀j(hj:j+1<t.Branches.length),t.Branches[j].Unit.ID<t.Branches[j+1].Unit.ID:=λj hj=>
   ((as6 hj (by omega)).of ((d0 (j+1)).symm.trans (a0 (j+1) (by omega) hj)) rfl _ (I9 hj)).2.1 j _ rfl (I9 (by omega))
  rw[tH];intro i j hi hj hij;induction j with
  |zero=>omega
  |succ j ih=>
   rcases eG i j with h|h
   .exact Int.lt_trans (ih (by omega) h) (adj j hj)
   .obtain rfl:i=j:=by omega
    exact adj i hj
 .rw[tH];intro i j hi hj hij hm
  have:=((as6 hj (by omega)).of ((d0 j).symm.trans (a0 j (by omega) hj)) rfl _ (I9 hj)).2.2 hm t.Branches[i] (by
   rw[List.mem_take_iff_getElem]
   exact⟨i,by omega,rfl⟩)
  exact this
 .obtain⟨j,hj,rfl⟩:=dV hbm;exact(t2 j hj).of ((d2 j).symm.trans (a2 j (by omega) hj)) rfl
 .obtain⟨j,hj,rfl⟩:=dV hbm;exact(bU9 hj hb par).of ((d3 j).symm.trans (a3 j (by omega) hj)) rfl
theorem wrap_u64{n:Int}(h:0<=n/\n<=9223372036854775807):IntKind.u64.wrap n=n:=by
 obtain⟨h1,h2⟩:=h;show(if(false&&decide (n % (2^64:Int)>=(2^63:Int)))=true then n % (2^64:Int)-(2^64:Int)else n % (2^64:Int))=n;simp only[Bool.false_and,Bool.false_eq_true,if_false];omega
theorem bA2{i j:Nat}(hi:i<=1000)(hj:j<=1000):IntKind.i64.wrap (Int.fdiv (IntKind.u64.wrap (IntKind.i64.wrap ((i:Int)+(j:Int)))) 2)=(((i+j)/2:Nat):Int):=by
 rw[rG (n:=(i:Int)+j) (by unfold okI;omega),wrap_u64 (by omega),Int.fdiv_eq_ediv_of_nonneg _ (by decide),rG (by unfold okI;omega)];omega
theorem aq3{x:List Branch}{tg:Int}{cmp:Branch->Int->Option Int}(hc:∀b,∃s,cmp b tg=some s/\(s<0↔b.Unit.ID<tg)/\(s=0↔b.Unit.ID=tg))(hs:x.Pairwise λa b=>a.Unit.ID<b.Unit.ID)(hl:x.length<=900):
 ∀(fu i j:Nat),j-i<fu->i<=j->j<=x.length->(∀q(hq:q<x.length),q<i->x[q].Unit.ID<tg)->(∀q(hq:q<x.length),j<=q->tg<=x[q].Unit.ID)->
 ∃(k:Nat) (ok:Bool),zZ x tg cmp fu (i:Int) (j:Int)=some ((k:Int),ok)/\k<=x.length/\(∀q(hq:q<x.length),x[q].Unit.ID<tg↔q<k)/\(ok=true↔∃hk:k<x.length,x[k].Unit.ID=tg)
 |0,_,_,h,_,_,_,_=>by omega
 |fu+1,i,j,hf,hij,hj,hlo,hhi=>by
  have hs':=tH.1 hs;by_cases h:i<j
  .have h0:decide ((i:Int)<(j:Int))=true:=Y9 (by omega);have hm:(i+j)/2<x.length:=by omega
   obtain⟨s,h1,h2,h3⟩:=hc x[(i+j)/2];simp only[zZ,h0,H7,bA2 (i:=i) (j:=j) (by omega) (by omega),Z4 hm,G5,h1];by_cases hlt:s<0
   .rw[Y9 hlt,H7,wrap_succ (n:=x.length) (by omega) hm];refine aq3 hc hs hl fu ((i+j)/2+1) j (by omega) (by omega) hj (λq hq hqi=>?_) hhi;have hmid:=h2.1 hlt;rcases eG q ((i+j)/2)with h|h
    .exact Int.lt_trans (hs' q _ hq hm h) hmid
    .obtain rfl:q=(i+j)/2:=by omega
     exact hmid
   .rw[eU hlt,G6];refine aq3 hc hs hl fu i ((i+j)/2) (by omega) (by omega) (by omega) hlo (λq hq hqi=>?_);have hmid:tg<=x[(i+j)/2].Unit.ID:=Int.not_lt.1 (λh=>hlt (h2.2 h));rcases eG ((i+j)/2) q with h|h
    .exact Int.le_of_lt (Int.lt_of_le_of_lt hmid (hs' _ q hm hq h))
    .obtain rfl:q=(i+j)/2:=by omega
     exact hmid
  .obtain rfl:i=j:=by omega
   have h0:decide ((i:Int)<(i:Int))=false:=eU (by omega);simp only[zZ,h0,G6,U7];have hiff:∀q(hq:q<x.length),x[q].Unit.ID<tg↔q<i:=λq hq=>⟨λh=>Nat.lt_of_not_le λhle=>Int.not_lt.2 (hhi q hq hle) h,λh=>hlo q hq h⟩;by_cases hi:i<x.length
   .rw[Y9 (by omega),H7,Z4 hi,G5];obtain⟨s,h1,h2,h3⟩:=hc x[i];rw[h1,G5];refine⟨i,_,rfl,by omega,hiff,?_⟩;rw[beq_iff_eq,h3];exact⟨λh=>⟨hi,h⟩,λ⟨_,h⟩=>h⟩
   .rw[eU (by omega),G6];exact⟨i,false,rfl,by omega,hiff,⟨λh=>by simp at h,λ⟨h,_⟩=>absurd h hi⟩⟩
theorem cq1(x y:Int):wF x y=some (if x<y then -1 else if y<x then 1 else 0):=by
 simp only[wF,ah4,G5,CO,G6];by_cases h1:x<y
 .simp[h1]
 .by_cases h2:y<x<;>simp[h1,h2]
theorem aB0(x y:Int):∃s,wF x y=some s/\(s<0↔x<y)/\(s=0↔x=y):=by
 refine⟨_,cq1 x y,?_,?_⟩
 .split
  .simp;assumption
  .split<;>simp<;>omega
 .split
  .simp;omega
  .split<;>simp<;>omega
structure At'(bs:List Branch)(id:Int)(k:Nat)(ok:Bool):Prop where
 le:k<=bs.length
 lt:∀q(hq:q<bs.length),bs[q].Unit.ID<id↔q<k
 ok:ok=true↔∃hk:k<bs.length,bs[k].Unit.ID=id
abbrev mZ(bs:List Branch):Prop:=bs.Pairwise λa b=>a.Unit.ID<b.Unit.ID
theorem OW{bs:List Branch}(hs:mZ bs)(hl:bs.length<=900)(id:Int):∃(k:Nat) (ok:Bool),jO bs id=some (k,ok)/\At' bs id k ok:=by
 obtain⟨k,ok,h1,h2,h3,h4⟩:=aq3 (x:=bs) (tg:=id) (cmp:=λz0 z1=>WC z0 z1) (λb=>by
  obtain⟨s,e1,e2⟩:=aB0 b.Unit.ID id;refine⟨s,?_,e2⟩;show(wF b.Unit.ID id).bind _=_
  rw[e1];rfl) hs hl 1000 0 bs.length (by omega) (by omega) (by omega) (λq hq h=>by omega) (λq hq h=>by omega)
 refine⟨k,ok,?_,h2,h3,h4⟩;have h1':aa8 bs id (λz0 z1=>WC z0 z1)=some ((k:Int),ok):=by
  show zZ bs id _ 1000 0 ((bs.map G8).length:Int)=_;rw[U7];exact h1
 unfold jO;rw[h1',G5];rw[Y9 ⟨by omega,by omega,λh=>by obtain⟨hk,_⟩:=h4.1 h;omega⟩];simp
theorem bU6{t:Tree}(hs:mZ t.Branches)(hl:t.Branches.length<=900)(id:Int):∃(k:Nat) (ok:Bool),TV t id=some ((k:Int),ok)/\At' t.Branches id k ok:=by
 obtain⟨k,ok,h1,h2,h3,h4⟩:=aq3 (x:=t.Branches) (tg:=id) (cmp:=λz0 z1=>as7 z0 z1) (λb=>by
  obtain⟨s,e1,e2⟩:=aB0 b.Unit.ID id;refine⟨s,?_,e2⟩;show(wF b.Unit.ID id).bind _=_
  rw[e1];rfl) hs hl 1000 0 t.Branches.length (by omega) (by omega) (by omega) (λq hq h=>by omega) (λq hq h=>by omega)
 refine⟨k,ok,?_,h2,h3,h4⟩;have h1':aa8 t.Branches id (λz0 z1=>as7 z0 z1)=some ((k:Int),ok):=by
  show zZ t.Branches id _ 1000 0 ((t.Branches.map G8).length:Int)=_;rw[U7];exact h1
 unfold TV;rw[h1'];rfl
theorem At'.mem{bs:List Branch}{id:Int}{k:Nat}{ok:Bool}(h:At' bs id k ok)(hs:mZ bs):ok=true↔∃b∈bs,b.Unit.ID=id:=by
 rw[h.ok];constructor
 .rintro⟨hk,e⟩;exact⟨_,fK hk,e⟩
 .rintro⟨b,hb,e⟩;obtain⟨j,hj,rfl⟩:=dV hb;have h1:¬j<k:=λhlt=>by have:=(h.lt j hj).2 hlt;omega
  have hk:k<bs.length:=by omega
  refine⟨hk,?_⟩;rcases eG k j with hkj|hkj
  .have h2:=tH.1 hs k j hk hj hkj;have:=(h.lt k hk).1 (by omega);omega
  .obtain rfl:j=k:=by omega
   exact e
theorem aU0{x:List Came}{tg:Int}{cmp:Came->Int->Option Int}(hc:∀b,∃s,cmp b tg=some s)(hl:x.length<=900):
 ∀(fu i j:Nat),j-i<fu->i<=j->j<=x.length->∃(k:Nat) (ok:Bool),EX x tg cmp fu (i:Int) (j:Int)=some ((k:Int),ok)/\k<=x.length
 |0,_,_,h,_,_=>by omega
 |fu+1,i,j,hf,hij,hj=>by
  by_cases h:i<j
  .have h0:decide ((i:Int)<(j:Int))=true:=Y9 (by omega);have hm:(i+j)/2<x.length:=by omega
   obtain⟨s,h1⟩:=hc x[(i+j)/2];simp only[EX,h0,H7,bA2 (i:=i) (j:=j) (by omega) (by omega),Z4 hm,G5,h1];by_cases hlt:s<0
   .rw[Y9 hlt,H7,wrap_succ (n:=x.length) (by omega) hm];exact aU0 hc hl fu ((i+j)/2+1) j (by omega) (by omega) hj
   .rw[eU hlt,G6];exact aU0 hc hl fu i ((i+j)/2) (by omega) (by omega) (by omega)
  .obtain rfl:i=j:=by omega
   have h0:decide ((i:Int)<(i:Int))=false:=eU (by omega);simp only[EX,h0,G6,U7];by_cases hi:i<x.length
   .rw[Y9 (by omega),H7,Z4 hi,G5];obtain⟨s,h1⟩:=hc x[i];rw[h1,G5];exact⟨i,_,rfl,by omega⟩
   .rw[eU (by omega),G6];exact⟨i,false,rfl,by omega⟩
def um(bs:List Branch):List (Int×Str):=bs.map λb=>(b.Unit.ID,b.Unit.Mark)
theorem bT0{bs:List Branch}:mZ bs↔(um bs).Pairwise λa b=>a.1<b.1:=by unfold um;rw[List.pairwise_map]
theorem UG(bs:List Branch):(um bs).length=bs.length:=U7 _
theorem b71{bs:List Branch}{i:Int}:(∃b∈bs,b.Unit.ID=i)↔∃p∈um bs,p.1=i:=by
 unfold um;constructor
 .rintro⟨b,hb,e⟩;exact⟨_,List.mem_map_of_mem hb,e⟩
 .grind
theorem dm5{bs bs':List Branch}(h:um bs=um bs')(hs:mZ bs):mZ bs':=bT0.2 (h▸bT0.1 hs)
theorem cK1{bs bs':List Branch}(h:um bs=um bs'){i:Int}(hi:∃b∈bs,b.Unit.ID=i):∃b∈bs',b.Unit.ID=i:=b71.2 (h▸b71.1 hi)
theorem a00{bs:List Branch}{k:Nat}{b b':Branch}(h:bs[k]?=some b)(h1:b'.Unit.ID=b.Unit.ID)(h2:b'.Unit.Mark=b.Unit.Mark):um (bs.set k b')=um bs:=by
 unfold um;rw[List.map_set];apply mY;intro i;rw[vV];by_cases hi:k=i
 .grind
 .grind
theorem Sm.mono{n m:Nat}{t:Tree}(h:Sm n t)(hm:n<=m):Sm m t:=⟨X4 h.r hm,X4 h.b hm,λb hb=>X4 (h.k b hb) hm⟩
theorem aC2{t:Tree}(hs:mZ t.Branches)(hl:t.Branches.length<=900){id:Int}(h:id=0\/∃b∈t.Branches,b.Unit.ID=id):Tot (uH t id) λp=>(p=none/\id=0)\/∃k b,p=some k/\t.Branches[k]?=some b/\b.Unit.ID=id:=by
 unfold uH;refine J5 (λh0=>G7 (.inl ⟨rfl,by simpa using h0⟩)) λh0=>?_;have h0:id≠0:=by grind
 obtain⟨k,ok,e,ha⟩:=OW hs hl id;have hok:=(ha.mem hs).2 (h.resolve_left h0);rw[e,G5,hok];obtain⟨hk,hid⟩:=ha.ok.1 hok;exact G7 (.inr ⟨k,_,rfl,I9 hk,hid⟩)
theorem aC1{n:Nat}{t:Tree}(h:Sm n t)(p:Option Nat):(eList t p).length<=n:=by
 cases p with
 |none=>exact h.r
 |some k=>
  show((t.Branches[k]?.map Branch.Kids).getD []).length<=n;cases hb:t.Branches[k]? with
  |none=>simp
  |some b=>exact h.k b (iC hb)
theorem bl2(t:Tree)(p:Option Nat)(l:List Int):um (CX t p l).Branches=um t.Branches:=by
 unfold CX;cases p with
 |none=>rfl
 |some k=>
  simp only[];cases hb:t.Branches[k]? with
  |none=>rfl
  |some b=>exact a00 hb rfl rfl
theorem aM4{α:Type}{l:List α}{k:Nat}{a x:α}(h:x∈l.set k a):x∈l\/x=a:=by grind
theorem bl1{n m:Nat}{t:Tree}(h:Sm n t)(hm:n<=m){l:List Int}(hl:l.length<=m)(p:Option Nat):Sm m (CX t p l):=by
 have h':=h.mono hm;unfold CX;cases p with
 |none=>exact⟨hl,h'.b,h'.k⟩
 |some k=>
  simp only[];cases hb:t.Branches[k]? with
  |none=>exact h'
  |some b=>
   refine⟨h'.r,by simpa using h'.b,λx hx=>?_⟩;rcases aM4 hx with hx|rfl
   .exact h'.k x hx
   .exact hl
theorem bl0{n:Nat}{t:Tree}(h:Sm n t)(hn:n<=890)(hs:mZ t.Branches){id parent before:Int}(hp:parent=0\/∃b∈t.Branches,b.Unit.ID=parent):Tot (CW t id parent before) λt'=>Sm (n+1) t'/\um t'.Branches=um t.Branches:=by
 unfold CW;refine U5 (aC2 hs (by have:=h.b;omega) hp) λp _ _=>?_;have hl:=aC1 h p;rw[bR4 (by omega),G5];have hr: -1<=idxOf (λx=>before==x) (eList t p)/\idxOf (λx=>before==x) (eList t p)<=((eList t p).length:Int):=by
  cases ha:(eList t p).any λx=>before==x with
  |false=>rw[XJ ha];omega
  |true=>obtain⟨k,hk,e,_⟩:=JZ ha;rw[e];omega
 rw[Y9 ⟨by omega,hr.1,hr.2⟩,H7];exact G7 ⟨bl1 h (by omega) (by simp;omega) p,bl2 t p _⟩
theorem bl3{t:Tree}(hs:mZ t.Branches)(hl:t.Branches.length<=900){parent:Int}(level:Int)(hp:parent=0\/∃b∈t.Branches,b.Unit.ID=parent):Tot (OY t parent level) λ_=>True:=by
 unfold OY;refine J5 (λ_=>G7 trivial) λh0=>?_;have h0:parent≠0:=by grind
 obtain⟨k,ok,e,ha⟩:=OW hs hl parent;have hok:=(ha.mem hs).2 (hp.resolve_left h0);rw[e,G5,hok];obtain⟨hk,hid⟩:=ha.ok.1 hok;simp only[H7,I9 hk,G5];exact U5 (bU1 _ _) λ_ _ _=>G7 trivial
theorem dn9{t:Tree}(hl:t.Branches.length<=900)(mark:Str):Tot (ab3 t mark) λr=>(r.2=false->mark≠[]->∀b∈t.Branches,b.Unit.Mark≠mark)/\(r.2=true->mark≠[]/\∃b∈t.Branches,b.Unit.Mark=mark/\b.Unit.ID=r.1):=by
 unfold ab3;have hf:∀b∈t.Branches,(λz0=>ab2 z0 mark) b=some (!(mark==([]:Str))&&(b.Unit.Mark==mark)):=λb _=>by
  simp only[ab2]
  grind
 have e:=aV7 (l:=t.Branches) (f:=λz0=>ab2 z0 mark) (by omega) hf;rw[e,G5];cases ha:t.Branches.any λb=> !(mark==([]:Str))&&(b.Unit.Mark==mark)with
 |false=>
  rw[XJ ha];refine G7 ⟨λ_ hm b hb hbm=>?_,λh=>Bool.noConfusion h⟩
  grind
 |true=>
  obtain⟨k,hk,e,hp,_⟩:=JZ ha;rw[e,eU (by omega),G6,Z4 hk,G5];simp only[X3,Bool.not_eq_true',CJ,beq_iff_eq]at hp;exact G7 ⟨λh=>Bool.noConfusion h,λ_=>⟨hp.1,_,fK hk,hp.2,rfl⟩⟩
theorem bl5{t:Tree}(hl:t.Branches.length<=900)(mark:Str)(but:Int):Tot (OZ t mark but) λu=>u=false->mark≠[]->(∀b∈t.Branches,b.Unit.Mark≠mark)\/∃b∈t.Branches,b.Unit.Mark=mark/\b.Unit.ID=but:=by
 unfold OZ;refine U5 (dn9 hl mark) λr _ ⟨h1,h2⟩=>G7 λhu hm=>?_;cases h:r.2 with
 |false=>grind
 |true=>grind
theorem bk9{t:Tree}(h:Sm 900 t):Tot (IW t) λ_=>True:=U5 (bT9 h) λ_ _ _=>G7 trivial
theorem aM3{l:List Int}{x:Int}:x∈qM l↔x∈l:=(XM l).mem_iff
theorem Right.kid{t:Tree}(h:Right t){b:Branch}(hb:b∈t.Branches):(b.Unit.Parent=0->b.Unit.ID∈t.O1)/\∀p∈t.Branches,p.Unit.ID=b.Unit.Parent->b.Unit.ID∈p.Kids:=by
 have key:∀q,b.Unit.Parent=q->b.Unit.ID∈wP t q:=λq hq=>by
  unfold wP
  grind
 refine⟨λh0=>?_,λp hp hq=>?_⟩
 .have:=key 0 h0;rw[<-h.roots,aM3]at this;exact this
 .have:=key _ hq.symm;rw[<-h.kids p hp,aM3]at this;exact this
theorem bl4{n:Nat}{t:Tree}(h:Sm n t)(hn:n<=890)(hR:Right t){id:Int}(hid:∃b∈t.Branches,b.Unit.ID=id):Tot (IX t id) λt'=>Sm n t'/\um t'.Branches=um t.Branches:=by
 unfold IX;have hl:=h.b;obtain⟨k,ok,e,ha⟩:=OW hR.fA (by omega) id;have hok:=(ha.mem hR.fA).2 hid;obtain⟨hk,cG2⟩:=ha.ok.1 hok;rw[e,G5,hok];simp only[H7,I9 hk,G5];have hb:=fK hk;generalize t.Branches[k]=b at hb cG2;have hpar:b.Unit.Parent=0\/∃p∈t.Branches,p.Unit.ID=b.Unit.Parent:=by
  by_cases h0:b.Unit.Parent=0
  .grind
  .obtain⟨p,hp,hpe⟩:=List.any_eq_true.1 (hR.par b hb h0)
   grind
 refine U5 (aC2 hR.fA (by omega) hpar) λp _ hp=>?_;have hll:=aC1 h p;have hmem:b.Unit.ID∈eList t p:=by
  rcases hp with⟨rfl,h0⟩|⟨q,c,rfl,hc,hce⟩
  .exact(hR.kid hb).1 h0
  .show b.Unit.ID∈(t.Branches[q]?.map Branch.Kids).getD [];rw[hc];exact(hR.kid hb).2 c (iC hc) hce
 rw[Y9 ⟨List.length_pos_of_mem hmem,by omega⟩,H7];exact G7 ⟨bl1 h (J6 _) (X4 (List.length_filter_le _ _) hll) p,bl2 t p _⟩
theorem bC0:∀(s V:List Int),s.Nodup->(∀x∈s,x∈V)->s.length<=V.length
 |[],_,_,_=>Y3 _
 |x::s,V,hn,hs=>by
  obtain⟨h1,h2⟩:=List.nodup_cons.1 hn;have hx:x∈V:=hs x (by simp)
  have:=bC0 s (V.erase x) h2 (λy hy=>by
   have hne:y≠x:=λe=>h1 (e▸hy)
   exact(List.mem_erase_of_ne hne).2 (hs y (by simp[hy])))
  rw[List.length_erase_of_mem hx]at this;have:=List.length_pos_of_mem hx;simp;omega
theorem ar8{bs:List Branch}(hs:mZ bs){b c:Branch}(hb:b∈bs)(hc:c∈bs)(h:b.Unit.ID=c.Unit.ID):b=c:=by
 obtain⟨i,hi,rfl⟩:=dV hb;obtain⟨j,hj,rfl⟩:=dV hc;have hs':=tH.1 hs;rcases xY i j with h'|rfl|h'
 .have:=hs' i j hi hj h';omega
 .rfl
 .have:=hs' j i hj hi h';omega
theorem bk7{t:Tree}(hs:mZ t.Branches):∀(n m:Nat)(b:Branch),Dp t n b->Dp t m b->n=m
 |0,_,_,h,_=>h.elim
 |n+1,0,_,_,h=>h.elim
 |n+1,m+1,b,h,h'=>by
  rcases h with⟨rfl,h0⟩|⟨h0,p,hp,hpe,hd⟩<;>rcases h' with⟨rfl,h0'⟩|⟨h0',p',hp',cI0,hd'⟩
  .rfl
  .exact absurd h0 h0'
  .exact absurd h0' h0
  .obtain rfl:=ar8 hs hp hp' (hpe.trans cI0.symm);rw[bk7 hs n m p hd hd']
theorem b43{t:Tree}(hR:Right t){b:Branch}(hb:b∈t.Branches):nU t b.Unit.ID=some b.Kids:=by
 have hl:=hR.len;obtain⟨k,ok,e,ha⟩:=bU6 hR.fA (by omega) b.Unit.ID;obtain⟨hk,hid⟩:=ha.ok.1 ((ha.mem hR.fA).2 ⟨b,hb,rfl⟩);have hp:=hR.pos b hb;unfold nU;rw[show(b.Unit.ID==0)=false by simp;omega,G6,e,G5,Z4 hk,G5,ar8 hR.fA (fK hk) hb hid]
theorem aL3{t:Tree}(hR:Right t){b:Branch}(hb:b∈t.Branches){x:Int}(hx:x∈b.Kids):∃c∈t.Branches,c.Unit.ID=x/\c.Unit.Parent=b.Unit.ID:=by
 rw[<-aM3,hR.kids b hb]at hx;unfold wP at hx;obtain⟨c,hc,e⟩:=iV.1 hx;obtain⟨hc1,hc2⟩:=List.mem_filter.1 hc;exact⟨c,hc1,e,by simpa using hc2⟩
theorem cN7{t:Tree}(hR:Right t){b:Branch}(hb:b∈t.Branches):b.Kids.Nodup:=by
 have h1:(wP t b.Unit.ID).Nodup:=by
  unfold wP;rw[List.Nodup,List.pairwise_map];exact(hR.fA.filter _).imp λh=>Int.ne_of_lt h
 rw[<-hR.kids b hb]at h1;exact(XM b.Kids).nodup_iff.1 h1
theorem bI8(f:Int->Option (List Int)):∀(a b:List Int),fH f (a++b)=(fH f a).bind λx=>(fH f b).map (x++·)
 |[],b=>by simp[fH]
 |k::a,b=>by
  rw[List.cons_append,fH,fH,bI8 f a b];cases f k with
  |none=>rfl
  |some l=>
   cases fH f a with
   |none=>rfl
   |some x=>cases fH f b<;>simp
theorem bI9{t:Tree}{n:Nat}{kd:Int->List Int}:∀(ks L:List Int),(∀k∈ks,nU t k=some (kd k))->fH (qU t n) (ks.flatMap kd)=some L->∃l,fH (qU t (n+1)) ks=some l/\l.length=ks.length+L.length
 |[],L,_,h=>by simp[fH]at h;subst h;exact⟨[],rfl,rfl⟩
 |k::ks,L,hk,h=>by
  rw[GR,bI8]at h;obtain⟨L1,h1,h⟩:=aX h;cases h2:fH (qU t n) (ks.flatMap kd)with
  |none=>rw[h2]at h;cases h
  |some L2=>
   rw[h2]at h;simp only[GX,Z9]at h;subst h;obtain⟨l,e,hl⟩:=bI9 ks L2 (λk hk'=>hk k (by simp[hk'])) h2;refine⟨(k::L1)++l,?_,by simp;omega⟩;rw[fH,qU,hk k (by simp),G5,h1];simp[e]
theorem bJ0{t:Tree}(hR:Right t):∀(r n:Nat)(ks:List Int),ks.Nodup->(∀k∈ks,∃b∈t.Branches,b.Unit.ID=k/\∃d,Dp t d b/\13<=d+r)->r<=n->∃l,fH (qU t n) ks=some l/\l.length<=r*t.Branches.length
 |0,n,ks,_,h,_=>by
  cases ks with
  |nil=>exact⟨[],rfl,Y3 _⟩
  |cons k ks=>
   obtain⟨b,hb,_,d,hd,hle⟩:=h k (by simp);obtain⟨d',h1,h2⟩:=hR.depth b hb;have:=bk7 hR.fA d d' b hd h2;omega
 |r+1,0,_,_,_,h=>by omega
 |r+1,n+1,ks,hn,h,hle=>by
  have hkd:∀k∈ks,nU t k=some ((nU t k).getD []):=λk hk=>by
   obtain⟨b,hb,rfl,_⟩:=h k hk;rw[b43 hR hb];rfl
  have ak0:∀k∈ks,∃b∈t.Branches,b.Unit.ID=k/\(nU t k).getD []=b.Kids/\∃d,Dp t d b/\13<=d+(r+1):=λk hk=>by
   obtain⟨b,hb,rfl,hd⟩:=h k hk;exact⟨b,hb,rfl,by rw[b43 hR hb];rfl,hd⟩
  have hnd:(ks.flatMap λk=>(nU t k).getD []).Nodup:=by
   rw[List.Nodup,List.pairwise_flatMap];refine⟨λk hk=>?_,?_⟩
   .obtain⟨b,hb,rfl,e,_⟩:=ak0 k hk;rw[e];exact cN7 hR hb
   .have:ks.Pairwise λa b=>a∈ks/\b∈ks/\a≠b:=by
     rw[tH];intro i j hi hj hij;exact⟨fK hi,fK hj,tH.1 hn i j hi hj hij⟩
    refine this.imp λ{a c} ⟨ha,hc,hne⟩ x hx y hy e=>?_;subst e;obtain⟨b,hb,rfl,e,_⟩:=ak0 a ha;obtain⟨b',hb',rfl,e',_⟩:=ak0 c hc;rw[e]at hx;rw[e']at hy;obtain⟨q,hq,hq1,hq2⟩:=aL3 hR hb hx;obtain⟨q',hq',hq1',cI3⟩:=aL3 hR hb' hy;obtain rfl:=ar8 hR.fA hq hq' (hq1.trans hq1'.symm);exact hne (hq2.symm.trans cI3)
  obtain⟨L,hL,hLl⟩:=bJ0 hR r n (ks.flatMap λk=>(nU t k).getD []) hnd (λx hx=>by
   obtain⟨k,hk,hx⟩:=List.mem_flatMap.1 hx;obtain⟨b,hb,rfl,e,d,hd,hle⟩:=ak0 k hk;rw[e]at hx;obtain⟨c,hc,hc1,hc2⟩:=aL3 hR hb hx;have:=hR.pos b hb
   exact⟨c,hc,hc1,d+1,.inr ⟨by omega,b,hb,hc2.symm,hd⟩,by omega⟩) (by omega)
  obtain⟨l,e,hl⟩:=bI9 ks L hkd hL;refine⟨l,e,?_⟩
  have:ks.length<=(t.Branches.map λb=>b.Unit.ID).length:=bC0 ks _ hn (λx hx=>by
   obtain⟨b,hb,rfl,_⟩:=h x hx
   exact List.mem_map_of_mem hb)
  rw[U7]at this;rw[pV,rU];omega
theorem dt9{t:Tree}(hR:Right t)(hr:MI t=some true){id:Int}(h0:id≠0)(hid:∃b∈t.Branches,b.Unit.ID=id):UE t id=some 0:=by
 have hl:=hR.len;obtain⟨k,ok,e,ha⟩:=bU6 hR.fA (by omega) id;have hok:=(ha.mem hR.fA).2 hid;subst hok;have e1:aY0 t [id]=some 0:=by
  show Option.bind (MI t) (λy1=>bif (!y1)then some (1)else MF t [id] 1000 0)=some 0;rw[hr];show MF t [id] 1000 0=some 0;have e2:MF t [id] 1000 0=Option.bind (TV t id) λy8=>bif (!y8.2)then some (7)else MF t [id] 999 1:=rfl
  rw[e2,e];rfl
 unfold UE;rw[show(id==0)=false by simp[h0],G6,e1];rfl
theorem ct8{t:Tree}(hR:Right t)(hr:MI t=some true){id:Int}(h0:id≠0)(hid:∃b∈t.Branches,b.Unit.ID=id):Tot (VU t id) λl=>l.length<=4000:=by
 unfold VU;rw[show(id==0)=false by simp[h0],G6,dt9 hR hr h0 hid,G5];obtain⟨b,hb,he⟩:=hid;obtain⟨d,hd1,hd2⟩:=hR.depth b hb;obtain⟨l,e,hl⟩:=bJ0 hR 13 1000 [id] (by simp) (λk hk=>by simp at hk;subst hk;exact⟨b,hb,he,d,hd2,by omega⟩) (by omega);rw[fH]at e;obtain⟨l1,e1,e⟩:=aX e;simp[fH]at e;subst e;have:=hR.len;rw[show((0:Int)==0)=true from rfl,H7,e1,G5,Y9 (by omega),H7];exact G7 (by omega)
def Has(t:Tree)(u:Int)(m:Str):Prop:=m≠[]/\(u,m)∈um t.Branches
def vX(l:List (Int×Str)):Prop:=l.Pairwise λa b=>b.2≠[]->a.2≠b.2
def jJ(o:Opn):Prop:=(o.Kind=1\/o.Kind=4)/\o.Mark≠[]
structure BK(n:Nat)(t:Tree)(o:Opn)(t':Tree):Prop where
 sm:Sm (n+2) t'
 old:∀u m,Has t' u m->Has t u m\/(jJ o/\u=o.Unit/\m=o.Mark)
 new:jJ o->Has t' o.Unit o.Mark
 mkd:vX (um t'.Branches)
theorem Right.mkl{t:Tree}(h:Right t):vX (um t.Branches):=by
 unfold vX um;rw[List.pairwise_map];exact h.mks
theorem be8{n:Nat}{t t':Tree}{o:Opn}(hsm:Sm (n+2) t')(hu:um t'.Branches=um t.Branches)(hR:Right t)(hg:¬jJ o):BK n t o t':=
 ⟨hsm,λu m h=>.inl (by unfold Has at*;rwa [hu]at h),λh=>absurd h hg,by rw[hu];exact hR.mkl⟩
theorem bI0{t:Tree}(hR:Right t)(p:Int):Tot (bif p==0 then some true else(jO t.Branches p).bind λq=>some q.2) λpar=>par=true->p=0\/∃b∈t.Branches,b.Unit.ID=p:=by
 refine J5 (λh=>G7 λ_=>.inl (by simpa using h)) λ_=>?_;have hl:=hR.len;obtain⟨k,ok,e,ha⟩:=OW hR.fA (by omega) p;rw[e,G5];exact G7 λh=>.inr ((ha.mem hR.fA).1 h)
theorem bu8{n:Nat}{t:Tree}(hn:n<=880)(hs:Sm n t)(hR:Right t){p:Int}(hp:p=0\/∃b∈t.Branches,b.Unit.ID=p)(v:Int):Tot ((uH t p).bind λq=>sU (eList t q) v) λ_=>True:=by
 have hl:=hR.len;refine U5 (aC2 hR.fA (by omega) hp) λq _ _=>?_;have:=aC1 hs q;rw[aV5 (by omega)];exact G7 trivial
theorem cS3{l:List (Int×Str)}(h:vX l){p:Int×Str}(hp:p.2≠[]->∀q∈l,q.2≠p.2)(k:Nat):vX (l.take k++[p]++l.drop k):=by
 unfold vX at*
 have h':(l.take k++l.drop k).Pairwise λa b=>b.2≠[]->a.2≠b.2:=by rw[List.take_append_drop];exact h
 rw[List.pairwise_append]at h';rw[kM,List.pairwise_append];refine⟨h'.1,?_,λa ha b hb=>?_⟩
 .rw[List.singleton_append,List.pairwise_cons];exact⟨λb hb hne e=>hp (e▸hne) b (BQ hb) e.symm,h'.2.1⟩
 .rw[List.singleton_append,jT]at hb;rcases hb with rfl|hb
  .exact λhne=>hp hne a (BR ha)
  .exact h'.2.2 a ha b hb
theorem dm4{bs:List Branch}(h:mZ bs){id:Int}{k:Nat}{ok:Bool}(ha:At' bs id k ok)(hok:ok=false){b:Branch}(hb:b.Unit.ID=id):mZ (bs.take k++[b]++bs.drop k):=by
 have h':mZ (bs.take k++bs.drop k):=by rw[List.take_append_drop];exact h
 have hgt:∀c∈bs.drop k,id<c.Unit.ID:=λc hc=>by
  obtain⟨j,hj,rfl⟩:=dV hc;rw[kN]at hj;rw[List.getElem_drop];have h1:=ha.lt (k+j) (by omega);have hne:bs[k+j].Unit.ID≠id:=λe=>by
   have:=(ha.mem h).2 ⟨_,fK (by omega),e⟩;rw[hok]at this;cases this
  omega
 have hlt:∀c∈bs.take k,c.Unit.ID<id:=λc hc=>by
  obtain⟨j,hj,rfl⟩:=dV hc;rw[U9]at hj;rw[List.getElem_take];exact(ha.lt j (by omega)).2 (by omega)
 unfold mZ at*
 rw[List.pairwise_append]at h';rw[kM,List.pairwise_append];refine⟨h'.1,?_,λa ha' c hc=>?_⟩
 .rw[List.singleton_append,List.pairwise_cons];exact⟨λc hc=>by rw[hb];exact hgt c hc,h'.2.1⟩
 .rw[List.singleton_append,jT]at hc;rcases hc with rfl|hc
  .rw[hb];exact hlt a ha'
  .exact h'.2.2 a ha' c hc
theorem cr9{n:Nat}{t:Tree}{o:Opn}(hn:n<=880)(hs:Sm n t)(hR:Right t)(hk:o.Kind=1):Tot (VW t o) λr=>r.2=0->BK n t o r.1:=by
 have hl:=hR.len;obtain⟨k,ok,e,ha⟩:=OW hR.fA (by omega) o.Unit;unfold VW;rw[e,G5];refine J5 (λ_=>G7 (nz (by decide))) λhok=>?_;have hok:ok=false:=hok;refine U5 (bI0 hR o.Parent) λpar _ hpar=>J5 (λ_=>G7 (nz (by decide))) λh=>?_;have hp:=hpar (by simpa using h);refine U5 (bl3 hR.fA (by omega) _ hp) λs _ _=>J5 (λh=>G7 (nz (QL h))) λ_=>?_;refine U5 (Q:=λ_=>True) (J5 (λ_=>G7 trivial) λ_=>bu8 hn hs hR hp _) λhas _ _=>J5 (λ_=>G7 (nz (by decide))) λ_=>?_;refine U5 (bl5 (by omega) _ _) λu _ hu=>J5 (λ_=>G7 (nz (by decide))) λhu0=>?_;have hu:=hu hu0;refine J5 (λ_=>G7 (nz (by decide))) λh256=>?_;have hkl:=ha.le;have sH:um (t.Branches.take k++[(⟨⟨o.Unit,o.Parent,o.Level,o.Title,o.Mark⟩,[]⟩:Branch)]++t.Branches.drop k)=(um t.Branches).take k++[(o.Unit,o.Mark)]++(um t.Branches).drop k:=by
  simp[um,List.map_take,List.map_drop]
 have hsm:Sm (n+1) ({ t with Branches:=t.Branches.take k++[(⟨⟨o.Unit,o.Parent,o.Level,o.Title,o.Mark⟩,[]⟩:Branch)]++t.Branches.drop k }:Tree):=by
  refine⟨Nat.le_succ_of_le hs.r,?_,λb hb=>?_⟩
  .have:=hs.b;simp only[bQ,U9,kN,List.length_singleton];omega
  .simp only[iU,xR]at hb;rcases hb with(hb|rfl)|hb
   .exact Nat.le_succ_of_le (hs.k b (BR hb))
   .exact Y3 _
   .exact Nat.le_succ_of_le (hs.k b (BQ hb))
 have hp':o.Parent=0\/∃b∈t.Branches.take k++[(⟨⟨o.Unit,o.Parent,o.Level,o.Title,o.Mark⟩,[]⟩:Branch)]++t.Branches.drop k,b.Unit.ID=o.Parent:=by
  refine hp.imp id λ⟨b,hb,he⟩=>⟨b,?_,he⟩;rw[<-List.take_append_drop k t.Branches,iU]at hb;simp only[iU,xR];exact hb.imp .inl id
 refine U5 (bl0 hsm (by omega) (dm4 hR.fA ha hok rfl) hp') λt3 _ ⟨h1,h2⟩=>U5 (bk9 (h1.mono (by omega))) λz _ _=>G7 λ_=>?_;have h2:um t3.Branches=(um t.Branches).take k++[(o.Unit,o.Mark)]++(um t.Branches).drop k:=h2.trans sH;have hfresh:o.Mark≠[]->∀q∈um t.Branches,q.2≠o.Mark:=λhm q hq he=>by
  obtain⟨b,hb,rfl⟩:=iV.1 hq;rcases hu hm with h|⟨c,hc,_,hc2⟩
  .exact h b hb he
  .have:=hR.pos c hc;omega
 refine⟨h1,λu m ⟨hm,h⟩=>?_,λ⟨_,hm⟩=>⟨hm,by rw[h2];simp⟩,by rw[h2];exact cS3 hR.mkl hfresh k⟩;rw[h2]at h;simp only[iU,xR]at h;rcases h with(h|h)|h
 .exact .inl ⟨hm,BR h⟩
 .cases h;exact .inr ⟨⟨.inl hk,hm⟩,rfl,rfl⟩
 .exact .inl ⟨hm,BQ h⟩
theorem ae5{t:Tree}(hR:Right t)(id:Int):∃k ok,jO t.Branches id=some (k,ok)/\(ok=true->(∃b∈t.Branches,b.Unit.ID=id)/\∃b,t.Branches[k]?=some b/\b.Unit.ID=id):=by
 have hl:=hR.len;obtain⟨k,ok,e,ha⟩:=OW hR.fA (by omega) id;refine⟨k,ok,e,λh=>⟨(ha.mem hR.fA).1 h,?_⟩⟩;obtain⟨hk,hid⟩:=ha.ok.1 h;exact⟨_,I9 hk,hid⟩
theorem aW7{n:Nat}{t:Tree}(hs:Sm n t){k:Nat}{b:Branch}(hb:t.Branches[k]?=some b)(u:BJ):Sm n { t with Branches:=t.Branches.set k { b with Unit:=u } }:=by
 refine⟨hs.r,by simpa using hs.b,λx hx=>?_⟩;rcases aM4 hx with hx|rfl
 .exact hs.k x hx
 .exact hs.k b (iC hb)
theorem KR{o:Opn}(h1:o.Kind≠1)(h4:o.Kind≠4):¬jJ o:=λ⟨h,_⟩=>h.elim h1 h4
theorem c92{n:Nat}{t:Tree}{o:Opn}(hs:Sm n t)(hR:Right t)(hk:o.Kind=3):Tot (WA t o) λr=>r.2=0->BK n t o r.1:=by
 obtain⟨k,ok,e,ha⟩:=ae5 hR o.Unit;unfold WA;rw[e,G5];refine J5 (λ_=>G7 (nz (by decide))) λhok=>?_;obtain⟨_,b,hb,hid⟩:=ha (by simpa using hok);simp only[hb,G5];exact G7 λ_=>be8 ((aW7 hs hb _).mono (by omega)) (a00 hb rfl rfl) hR (KR (by omega) (by omega))
theorem cR9{n:Nat}{t:Tree}{o:Opn}(hs:Sm n t)(hR:Right t)(hk:o.Kind=4):Tot (VX t o) λr=>r.2=0->BK n t o r.1:=by
 have hl:=hR.len;obtain⟨k,ok,e,ha⟩:=ae5 hR o.Unit;unfold VX;rw[e,G5];refine J5 (λ_=>G7 (nz (by decide))) λhok=>?_;obtain⟨_,b,hb,hid⟩:=ha (by simpa using hok);refine U5 (bl5 (by omega) _ _) λu _ hu=>J5 (λ_=>G7 (nz (by decide))) λhu0=>?_;have hu:=hu hu0;simp only[hb,G5];have hkl:=(O4.1 hb).1;have sH:um (t.Branches.set k { b with Unit:={ b.Unit with Mark:=o.Mark } })=(um t.Branches).set k (o.Unit,o.Mark):=by
  unfold um;rw[List.map_set];simp only[hid]
 have hget:(um t.Branches)[k]?=some (b.Unit.ID,b.Unit.Mark):=by unfold um;rw[O6,hb];rfl
 refine G7 λ_=>⟨(aW7 hs hb _).mono (by omega),λu m ⟨hm,h⟩=>?_,λ⟨_,hm⟩=>⟨hm,?_⟩,?_⟩
 .rw[sH]at h;rcases aM4 h with h|h
  .exact .inl ⟨hm,h⟩
  .cases h;exact .inr ⟨⟨.inr hk,hm⟩,rfl,rfl⟩
 .rw[sH];exact List.mem_set (by rw[UG];exact hkl) _
 .rw[sH];have hother:o.Mark≠[]->∀j(hj:j<(um t.Branches).length),j≠k->(um t.Branches)[j].2≠o.Mark:=λhm j hj hjk he=>by
   have hj':j<t.Branches.length:=by rw[UG]at hj;exact hj
   have hje:t.Branches[j].Unit.Mark=o.Mark:=by simpa[um]using he
   rcases hu hm with h|⟨c,hc,hc1,hc2⟩
   .exact h _ (fK hj') hje
   .have hcb:c=b:=ar8 hR.fA hc (iC hb) (hc2.trans hid.symm);subst hcb;have hck:c=t.Branches[k]:=(O4.1 hb).2.symm;have hm':=tH.1 hR.mks;rcases Nat.lt_or_gt_of_ne hjk with h|h
    .exact hm' j k hj' hkl h (by rw[<-hck,hc1];exact hm) (by rw[<-hck,hc1];exact hje)
    .exact hm' k j hkl hj' h (by rw[hje];exact hm) (by rw[<-hck,hc1];exact hje.symm)
  unfold vX;rw[tH];intro i j hi hj hij;rw[List.length_set]at hi hj;rw[List.getElem_set,List.getElem_set];have base:=tH.1 hR.mkl i j hi hj hij;by_cases h1:k=i<;>by_cases h2:k=j
  .omega
  .rw[I4 h1,F9 h2];exact λhne e=>hother (λh0=>hne (e.symm.trans h0)) j hj (Ne.symm h2) e.symm
  .rw[F9 h1,I4 h2];exact λhne e=>hother hne i hi (Ne.symm h1) e
  .rw[F9 h1,F9 h2];exact base
theorem c84{n:Nat}{t:Tree}{o:Opn}(hn:n<=880)(hs:Sm n t)(hR:Right t)(hk:o.Kind=5):Tot (VZ t o) λr=>r.2=0->BK n t o r.1:=by
 obtain⟨k,ok,e,ha⟩:=ae5 hR o.Unit;unfold VZ;rw[e,G5];refine J5 (λ_=>G7 (nz (by decide))) λhok=>?_;obtain⟨hm,b,hb,hid⟩:=ha (by simpa using hok);simp only[hb,G5];refine J5 (λ_=>G7 (nz (by decide))) λ_=>?_;refine U5 (bl4 hs (by omega) hR hm) λt2 _ ⟨h1,h2⟩=>?_;have hkl:=(O4.1 hb).1;have hlen:t2.Branches.length=t.Branches.length:=by rw[<-UG,h2,UG]
 have hle:=h1.b;rw[Y9 ⟨by omega,by omega⟩,H7];have sH:um (t2.Branches.take k++t2.Branches.drop (k+1))=(um t.Branches).take k++(um t.Branches).drop (k+1):=by
  rw[<-h2];simp[um,List.map_take,List.map_drop]
 have hsub:((um t.Branches).take k++(um t.Branches).drop (k+1)).Sublist (um t.Branches):=by
  have:=List.Sublist.append (List.Sublist.refl ((um t.Branches).take k)) (List.drop_sublist_drop_left (um t.Branches) (Nat.le_succ k))
  rwa [List.take_append_drop]at this
 refine G7 λ_=>⟨⟨X4 h1.r (by omega),?_,λx hx=>?_⟩,λu m ⟨hm,h⟩=>.inl ⟨hm,?_⟩,λh=>absurd h (KR (by omega) (by omega)),?_⟩
 .simp only[bQ,U9,kN];omega
 .rcases iU.1 hx with hx|hx
  .exact X4 (h1.k x (BR hx)) (by omega)
  .exact X4 (h1.k x (BQ hx)) (by omega)
 .rw[sH]at h;exact hsub.subset h
 .show vX (um _);rw[sH];exact hR.mkl.sublist hsub
theorem cS9{n:Nat}{t:Tree}{o:Opn}(hn:n<=880)(hs:Sm n t)(hR:Right t)(hr:MI t=some true)(hk:o.Kind=2):Tot (VY t o) λr=>r.2=0->BK n t o r.1:=by
 have hl:=hR.len;obtain⟨k,ok,e,ha⟩:=ae5 hR o.Unit;unfold VY;rw[e,G5];refine J5 (λ_=>G7 (nz (by decide))) λhok=>?_;obtain⟨hm,b,hb,hid⟩:=ha (by simpa using hok);have hu0:o.Unit≠0:=by have:=hR.pos b (iC hb);omega
 refine U5 (bI0 hR o.Parent) λpar _ hpar=>J5 (λ_=>G7 (nz (by decide))) λh=>?_;have hp:=hpar (by simpa using h);refine U5 (ct8 hR hr hu0 hm) λl _ hll=>?_;rw[aV5 (by omega),G5];refine J5 (λ_=>G7 (nz (by decide))) λ_=>?_;simp only[hb,G5];refine U5 (bl3 hR.fA (by omega) _ hp) λs _ _=>J5 (λh=>G7 (nz (QL h))) λ_=>?_;refine U5 (Q:=λ_=>True) (J5 (λ_=>G7 trivial) λ_=>J5 (λ_=>G7 trivial) λ_=>bu8 hn hs hR hp _) λhas _ _=>J5 (λ_=>G7 (nz (by decide))) λ_=>?_;refine U5 (bl4 hs (by omega) hR hm) λt2 _ ⟨h1,h2⟩=>?_;have hkl:=(O4.1 hb).1;have hlen:t2.Branches.length=t.Branches.length:=by rw[<-UG,h2,UG]
 obtain⟨b2,hb2⟩:∃b2,t2.Branches[k]?=some b2:=⟨_,I9 (by omega)⟩;simp only[hb2,G5];have sH:um (t2.Branches.set k { b2 with Unit:={ b2.Unit with Parent:=o.Parent } })=um t.Branches:=Eq.trans (a00 (b:=b2) (b':={ b2 with Unit:={ b2.Unit with Parent:=o.Parent } }) hb2 rfl rfl) h2;refine U5 (bl0 (aW7 h1 hb2 _) (by omega) (dm5 sH.symm hR.fA) (hp.imp id (cK1 sH.symm))) λt3 _ ⟨h3,h4⟩=>U5 (bk9 (h3.mono (by omega))) λz _ _=>G7 λ_=>?_;exact be8 (h3.mono (by omega)) (h4.trans sH) hR (KR (by omega) (by omega))
theorem da7(o:Origin):Tot (ap6 o) λ_=>True:=by
 unfold ap6;rw[ZR];refine J5 (λ_=>?_) λ_=>G7 trivial;rw[ZR];refine J5 (λ_=>?_) λ_=>J5 (λ_=>G7 trivial) λ_=>G7 trivial;rw[ZR];exact J5 (λ_=>G7 trivial) λ_=>J5 (λ_=>G7 trivial) λ_=>G7 trivial
theorem bM5(o:Opn):Tot (ET o) λ_=>True:=by
 unfold ET ZJ;simp only[ZR,G5]
 repeat' first
  |exact G7 trivial
  |(refine J5 (λ_=>?_) (λ_=>?_))
  |(refine U5 (da3 _) λ_ _ _=>?_)
  |(refine U5 (da2 _) λ_ _ _=>?_)
  |(refine U5 (da7 _) λ_ _ _=>?_)
theorem dn3{t:Tree}(h:Sm 900 t):Sz t=true:=by
 unfold Sz;have h1:=h.r;have h2:=h.b;rw[Y9 (by omega),Y9 (by omega),rH,rH,nZ];intro b hb;have:=h.k b hb;simp;omega
theorem bf5{n:Nat}{t:Tree}(o:Opn)(hn:n<=880)(hs:Sm n t):Tot (oW t o) λr=>r.2=0->BK n t o r.1:=by
 unfold oW;refine J5 (λhk=>?_) λ_=>G7 (nz (by decide));have hk:=gB hk;refine U5 (bM5 o) λfo _ _=>J5 (λ_=>G7 (nz (by decide))) λ_=>?_;have hs9:Sm 900 t:=hs.mono (by omega);refine U5 (Q:=λb=>b=true->MI t=some true/\Right t) ?_ λri _ hri=>J5 (λ_=>G7 (nz (by decide))) λh=>?_
 .obtain⟨r,e,hr⟩:=bT9 hs9;refine⟨r.2==0,?_,λh=>⟨?_,hr (by simpa using h)⟩⟩
  .show(FC t).bind _=_;rw[e];rfl
  .show(FC t).bind _=_;rw[e,G5,h]
 obtain⟨hrt,hR⟩:=hri (by simpa using h);rw[dn3 hs9,H7];refine U5 (Q:=λr=>r.2=0->BK n t o r.1) ?_ λr _ hr=>J5 (λh=>G7 hr) λh=>G7 (nz (lT h));refine J5 (λh=>cr9 hn hs hR (by simpa using h)) λh1=>J5 (λh=>cS9 hn hs hR hrt (by simpa using h)) λh2=>J5 (λh=>c92 hs hR (by simpa using h)) λh3=>J5 (λh=>cR9 hs hR (by simpa using h)) λh4=>c84 hn hs hR ?_;have h1:o.Kind≠1:=by simpa using h1
 have h2:o.Kind≠2:=by simpa using h2
 have h3:o.Kind≠3:=by simpa using h3
 have h4:o.Kind≠4:=by simpa using h4
 omega
end
section
open Go Go.F6 Go.RowKit Proofs.Tryz
def dj6:Go.Shelf.Ren:=⟨λ|6=>61|14=>112|15=>93|20=>193|21=>194|22=>195|23=>196|24=>197|25=>198|26=>199|27=>200|28=>160|29=>161|46=>279|47=>242|48=>243|49=>280|50=>281|57=>374|n=>n,λ|0=>0|3=>3|4=>4|5=>5|9=>9|22=>75|24=>134|25=>139|39=>108|45=>237|46=>238|50=>53|53=>174|55=>177|66=>322|70=>326|76=>387|77=>388|n=>n,λ|n=>n⟩
theorem bS7:Go.Proofs.SlLaysF0.n6 prog dj6:={
 mixed:=mixed
 f6:=⟨ "slices.SortFunc[[]archivum/api.Came,archivum/api.Came]",by decide,func61.trans (congrArg some (by kernel_rfl))⟩
 f14:=⟨ "slices.pdqsortCmpFunc[archivum/api.Came]",by decide,func112.trans (congrArg some (by kernel_rfl))⟩
 f15:=func93.trans (congrArg some (by kernel_rfl))
 f20:=⟨ "slices.insertionSortCmpFunc[archivum/api.Came]",by decide,func193.trans (congrArg some (by kernel_rfl))⟩
 f21:=⟨ "slices.heapSortCmpFunc[archivum/api.Came]",by decide,func194.trans (congrArg some (by kernel_rfl))⟩
 f22:=⟨ "slices.breakPatternsCmpFunc[archivum/api.Came]",by decide,func195.trans (congrArg some (by kernel_rfl))⟩
 f23:=⟨ "slices.choosePivotCmpFunc[archivum/api.Came]",by decide,func196.trans (congrArg some (by kernel_rfl))⟩
 f24:=⟨ "slices.reverseRangeCmpFunc[archivum/api.Came]",by decide,func197.trans (congrArg some (by kernel_rfl))⟩
 f25:=⟨ "slices.partialInsertionSortCmpFunc[archivum/api.Came]",by decide,func198.trans (congrArg some (by kernel_rfl))⟩
 f26:=⟨ "slices.partitionEqualCmpFunc[archivum/api.Came]",by decide,func199.trans (congrArg some (by kernel_rfl))⟩
 f27:=⟨ "slices.partitionCmpFunc[archivum/api.Came]",by decide,func200.trans (congrArg some (by kernel_rfl))⟩
 f28:=func160.trans (congrArg some (by kernel_rfl))
 f29:=func161.trans (congrArg some (by kernel_rfl))
 f46:=⟨ "slices.siftDownCmpFunc[archivum/api.Came]",by decide,func279.trans (congrArg some (by kernel_rfl))⟩
 f47:=func242.trans (congrArg some (by kernel_rfl))
 f48:=func243.trans (congrArg some (by kernel_rfl))
 f49:=⟨ "slices.medianAdjacentCmpFunc[archivum/api.Came]",by decide,func280.trans (congrArg some (by kernel_rfl))⟩
 f50:=⟨ "slices.medianCmpFunc[archivum/api.Came]",by decide,func281.trans (congrArg some (by kernel_rfl))⟩
 f57:=⟨ "slices.order2CmpFunc[archivum/api.Came]",by decide,func374.trans (congrArg some (by kernel_rfl))⟩
 t0:=underlying0
 a0:=isAgg0
 z0:=sizeOf0
 v0:=zeroValue0
 t3:=underlying3
 a3:=isAgg3
 z3:=sizeOf3
 v3:=zeroValue3
 t4:=underlying4
 a4:=isAgg4
 z4:=sizeOf4
 v4:=zeroValue4
 t5:=underlying5
 a5:=isAgg5
 z5:=sizeOf5
 v5:=zeroValue5
 t9:=underlying9
 a9:=isAgg9
 z9:=sizeOf9
 v9:=zeroValue9
 t22:=underlying75
 a22:=isAgg75
 z22:=sizeOf75
 v22:=zeroValue75
 t25:=underlying139
 a25:=isAgg139
 z25:=sizeOf139
 v25:=zeroValue139
 t39:=underlying108
 a39:=isAgg108
 z39:=sizeOf108
 v39:=zeroValue108
 t45:=underlying237
 a45:=isAgg237
 z45:=sizeOf237
 v45:=zeroValue237
 t46:=underlying238
 a46:=isAgg238
 z46:=sizeOf238
 v46:=zeroValue238
 t50:=underlying53
 a50:=isAgg53
 z50:=sizeOf53
 v50:=zeroValue53
 t53:=underlying174
 a53:=isAgg174
 z53:=sizeOf174
 v53:=zeroValue174
 t55:=underlying177
 a55:=isAgg177
 z55:=sizeOf177
 v55:=zeroValue177
 t66:=underlying322
 a66:=isAgg322
 z66:=sizeOf322
 v66:=zeroValue322
 t70:=underlying326
 a70:=isAgg326
 z70:=sizeOf326
 v70:=zeroValue326
 t76:=underlying387
 a76:=isAgg387
 z76:=sizeOf387
 v76:=zeroValue387
 t77:=underlying388
 a77:=isAgg388
 z77:=sizeOf388
 v77:=zeroValue388 }
end
section
open Go Go.F6 Go.RowKit Go.Sort Go.Ev Proofs.Tryz
set_option maxRecDepth 100000
set_option maxHeartbeats 2000000
instance:Inhabited Came:=⟨⟨0,⟨0,0,0⟩⟩⟩
instance:Inhabited Marking:=⟨⟨[],0⟩⟩
def rY(c:Came):List Value:=[.int .i64 c.Unit,.int .i64 c.Origin.aK,.int .i64 c.Origin.U3,.int .i64 c.Origin.Number]
theorem aE3{α:Type}{enc:α->List Value}{k:Nat}(hk:∀x,(enc x).length=k):∀(l:List α),(l.flatMap enc).length=l.length*k
 |[]=>by simp
 |x::r=>by rw[GR,bQ,aE3 hk r,hk,pR,pV,rU,Nat.add_comm]
section
variable{α:Type}[Inhabited α]{enc:α->List Value}{k:Nat}
theorem flat_get(hk:∀x,(enc x).length=k)(h0:0<k):∀(l:List α)(t:Nat),t<l.length*k->(l.flatMap enc)[t]?=(enc l[t/k]!)[t % k]?
 |[],t,h=>by simp at h
 |x::r,t,h=>by
  rw[GR];by_cases ht:t<k
  .rw[bV (by rw[hk];exact ht),Nat.div_eq_of_lt ht,Nat.mod_eq_of_lt ht];rfl
  .have h':t-k<r.length*k:=by rw[pR,pV,rU]at h;omega
   have e1:t/k=(t-k)/k+1:=Nat.div_eq_sub_div h0 (by omega);have e2:t % k=(t-k) % k:=Nat.mod_eq_sub_mod (by omega);rw[bJ (by rw[hk];omega),hk,flat_get hk h0 r (t-k) h',e1,e2];rfl
theorem bo2(hk:∀x,(enc x).length=k)(h0:0<k)(l:List α):(flatK enc k l.toArray).toList=l.flatMap enc:=by
 apply mY;intro t;by_cases ht:t<l.length*k
 .rw[flat_get hk h0 l t ht,jS];have hs:t<(flatK enc k l.toArray).size:=by rw[size_flatK];simpa using ht
  have hm:t % k<(enc l[t/k]!).length:=by rw[hk];exact Nat.mod_lt _ h0
  rw[mW hs,<-getElem!_pos (flatK enc k l.toArray) t hs,get_flatK enc k l.toArray t (by simpa using ht),I9 hm]
  grind
 .rw[rM (l:=(flatK enc k l.toArray).toList) (by simp;omega),rM (l:=l.flatMap enc) (by rw[aE3 hk];omega)]
theorem dj7{f el:Nat}{fv:Value}(hk:∀x,(enc x).length=k)(h0:0<k)(h1:∀x,∀v∈enc x,v.oneCell'=true)(R:List α->List α->Prop)(hR:R [] [])
 (hnone:∀(p:Option Addr)(cap:Nat)(W:World),Calls prog f #[.slice p 0 cap,fv] W λe w'=>e=.returned (.tuple #[])/\w'=W)
 (hsort:∀(b cap:Nat)(l:List α)(W:World),HoldsK enc k W b 0 l.toArray->b<W.heap.size->l.length<4611686018427387904->Calls prog f #[.slice (some ⟨b,0,none⟩) l.length cap,fv] W λe w'=>e=.returned (.tuple #[])/\∃(l':List α) (n:Nat) (os:Array Obj),l'.length=l.length/\R l l'/\w'=sortWorldK enc k W b 0 n l'.toArray os)
 {W:World} {v:Value} {l:List α} {ob:Option Nat} (hO:O9 W el k v l.length (l.flatMap enc) ob) (hl:l.length<=4000):
 Calls prog f #[v,fv] W λe w'=>e=.returned (.tuple #[])/\∃l':List α,R l l'/\l'.length=l.length/\O9 w' el k v l.length (l'.flatMap enc) ob/\Fr (λb=>ob=some b) W w':=by
 have hfk:=bo2 hk h0 l;generalize hC:l.flatMap enc=C at hO;generalize hn:l.length=n at hO⊢;cases hO with
 |e a=>
  obtain rfl:l=[]:=lX hn;refine(hnone a 0 W).mono ?_;rintro e w' ⟨rfl,rfl⟩;exact⟨rfl,[],hR,rfl,by simpa using O9.e a,Fr.refl _ _⟩
 |b b c n arr hh hs hnc hm hone=>
  subst hn;have hH:HoldsK enc k W b 0 l.toArray:=by
   intro j hj;have hj':j<l.length*k:=by simpa[size_flatK]using hj
   have e1:arr[j]?=(flatK enc k l.toArray)[j]?:=by
    rw[<-jS,<-jS,hfk,hC,jK,I4 hj']
   rw[mW hj,<-getElem!_pos (flatK enc k l.toArray) j hj]at e1;rw[V7];exact O5 hh e1
  refine(hsort b c l W hH (V4.1 hh).1 (by omega)).mono ?_;rintro e w' ⟨rfl,l',m,os,hlen,hR',rfl⟩;have hh':(sortWorldK enc k W b 0 m l'.toArray os).heap[b]?=some (.cells (putCells id 0 (flatK enc k l'.toArray) arr) el (0,0)):=by
   have h2:(putRowK enc k (Go.Sort.ahead W m) b 0 l'.toArray).heap[b]?=some (.cells (putCells id 0 (flatK enc k l'.toArray) arr) el (0,0)):=by
    show(mapBlock (Go.Sort.ahead W m) b (putCells id 0 (flatK enc k l'.toArray))).heap[b]?=_;have:(Go.Sort.ahead W m).heap[b]?=some (.cells arr el (0,0)):=hh;simp only[mapBlock,xH,this,if_true,GX,onCells]
   have hb2:b<(putRowK enc k (Go.Sort.ahead W m) b 0 l'.toArray).heap.size:=(V4.1 h2).1;exact(NG hb2).trans h2
  have hFs:(flatK enc k l'.toArray).size=l.length*k:=by rw[size_flatK,pU,hlen]
  have hle:l.length*k<=c*k:=iJ k hnc;have hF':=bo2 hk h0 l';refine⟨rfl,l',hR',hlen,wU hh' (by simp[putCells,hs]) hnc hm (λu hu=>?_) ?_,⟨rfl,rfl,rfl,?_,λq hq hnq=>?_⟩⟩
  .grind
  .rw[<-hF'];apply mY;intro i;rw[jK];by_cases hi:i<l.length*k
   .rw[I4 hi,jS,jS];simp only[putCells,Array.getElem?_mapIdx,V7,Y3,true_and,Nat.sub_zero]
    grind
   .grind
  .show W.heap.size<=((putRowK enc k (Go.Sort.ahead W m) b 0 l'.toArray).heap++os).size;rw[Array.size_append];have:(putRowK enc k (Go.Sort.ahead W m) b 0 l'.toArray).heap.size=W.heap.size:=by show(mapBlock _ _ _).heap.size=_;simp[mapBlock]
   omega
  .have hq2:q<(putRowK enc k (Go.Sort.ahead W m) b 0 l'.toArray).heap.size:=by
    have:(putRowK enc k (Go.Sort.ahead W m) b 0 l'.toArray).heap.size=W.heap.size:=by show(mapBlock _ _ _).heap.size=_;simp[mapBlock]
    omega
   refine(NG hq2).trans ?_;show(mapBlock (Go.Sort.ahead W m) b _).heap[q]?=_;simp only[mapBlock,xH];rw[F9 (λe=>hnq (by rw[e]))];rfl
end
section
variable{α:Type}[Inhabited α]{enc:α->List Value}{cf:α->List CV}{k:Nat}
theorem da0{Z:Zone}{w:World}{obj:I5}{E:Nat->Value}{x u:Value}(h:X5 Z w obj E (.v x) u):u=x:=by
 cases h with
 |one h=>cases h with|cl h=>exact mO h
theorem cj7(hk:∀x,(enc x).length=k)(h0:0<k)(hcf:∀x,cf x=(enc x).map CV.v){Z:Zone}{w:World}{obj:I5}{E:Nat->Value}{l:List α}{xs:List Value}(hl:xs.length=l.length*k)
 (h:∀(i:Nat)(d:List CV),i<(l.map cf).length->Y8 (l.map cf) none i=some d->∀(j:Nat)(c:CV),d[j]?=some c->c.atom=true/\∃u,xs[i*k+j]?=some u/\X5 Z w obj E c u):xs=l.flatMap enc:=by
 apply mY;intro t;by_cases ht:t<l.length*k
 .have hq:t/k<l.length:=Nat.div_lt_of_lt_mul (by rw[Nat.mul_comm];exact ht);have hm:t % k<(enc l[t/k]).length:=by rw[hk];exact Nat.mod_lt _ h0
  obtain⟨_,u,hu,hr⟩:=h (t/k) (cf l[t/k]) (by simpa using hq) (by show(l.map cf)[t/k]?=_;rw[O6,I9 hq];rfl) (t % k) (.v (enc l[t/k])[t % k]) (by rw[hcf,O6,I9 hm];rfl);rw[flat_get hk h0 l t ht,getElem!_pos l _ hq,I9 hm,<-da0 hr,<-hu,Nat.mul_comm,Nat.div_add_mod]
 .rw[rM (by omega),rM (by rw[aE3 hk];omega)]
theorem cm0{e z:Nat}{l l':List (List CV)}{v:Value}{b:Nat}(h:(D9.arr e z l none).blk v b):(D9.arr e z l' none).blk v b:=by grind
theorem cw5{G:World->Prop}{f g el:Nat}(hb:pO prog f)(hk:∀x,(enc x).length=k)(h0:0<k)(hcf:∀x,cf x=(enc x).map CV.v)(h1:∀x,∀v∈enc x,v.oneCell'=true)(ha:∀x,∀v∈enc x,(CV.v v).atom=true)(hrs:∀x,nN (cf x)=true)(l l':List α)(hl:l'.length=l.length)
 (hs:∀{W:World}{v:Value}{ob:Option Nat},O9 W el k v l.length (l.flatMap enc) ob->Calls prog f #[v,.func (.func g) #[] #[]] W λe w'=>e=.returned (.tuple #[])/\O9 w' el k v l.length (l'.flatMap enc) ob/\Fr (λb=>ob=some b) W w'):
 fD prog G f [.rs 0 0,.c (.fn g [])] [(0,.arr el k (l.map cf) none)] (.c (.P7 [])) [(0,.arr el k (l'.map cf) none)]:=by
 refine⟨hb,λZ w Eo vs hg hz hl2 hargs hgs=>?_⟩
 match vs,hl2 with
 |[v,fv],_=>
  have hx:=hargs 0 (.rs 0 0) v rfl rfl;have hf:=bL3 (hargs 1 (.c (.fn g [])) fv rfl rfl);have hE:Eo 0=v:=by cases hx with|rs _ _ _ hs _ hp=>exact hp _ _ _ _ rfl
  obtain rfl:fv=.func (.func g) #[] #[]:=by
   cases hf with
   |fn _ _ vs hl h=>grind
  obtain⟨xs,kW,hown,hfoc,oN,hcells,hnz⟩:=hg.ok 0;rw[hE]at hown hnz;rw[U7]at hown;obtain rfl:=cj7 hk h0 hcf hown.1 hcells;obtain⟨ob,hO,hob⟩:=bG7 hown (λu hu=>by obtain⟨x,_,hx⟩:=List.mem_flatMap.1 hu;exact h1 x u hx);have ak3:∀b o,ob=some b->¬Z b o:=λb o h=>hnz b o (hob▸h);have hblk:∀b,ob=some b->(D9.arr el k (l.map cf) none).blk (Eo 0) b:=λb h=>by
   rw[hE];rw[hob]at h;cases v with
   |slice a n c=>cases a with
    |none=>simp[Value.ownBlock]at h
    |some a=>simpa[Value.ownBlock,D9.blk]using h
   |_=>simp[Value.ownBlock]at h
  refine(hs hO).mono ?_;rintro e w' ⟨rfl,hO',hF⟩;have hkeep:Keeps Z w Z w':=λb o hzb=>⟨hzb,iH (hF.block b (hz b o hzb) λh=>ak3 b o h hzb)⟩;have hrow:w'.ownsRow 0 el k v l'.length (l'.flatMap enc):=by
   have hvo:=hown.2;rw[hl];generalize l'.flatMap enc=C at hO';generalize l.length=n at hO' hvo;clear hF hkeep hcells hown hO hblk hE hx hnz;cases hO' with
   |e a=>
    rcases hvo with⟨h,_⟩|⟨g',cap,cur,h,_⟩
    .exact⟨by simp,.inl ⟨h,rfl⟩⟩
    .rw[h]at hob;simp[Value.ownBlock]at hob
   |b b c n arr hh hs hnc hm h1=>exact⟨by rw[U9,iT,hs];exact rP (iJ _ hnc),.inr ⟨b,c,arr,rfl,Y3 _,hh,hnc,hm,hs,rfl⟩⟩
  refine⟨_,Z,Eo,rfl,
   { res:=.c _ _ (.P7 [] [] rfl λi c x h=>by simp at h)
     grp:=⟨λj=>?_,λj j' b hne h1 h2=>hne ((nP h1).1.trans (nP h2).1.symm)⟩
     keeps:=hkeep
     U4:=λb o h=>Z5 (hz b o h) hF.size
     fB:=λb o h=>.inl h
     kept:=⟨hF.os,hF.tape,hF.output,hF.size,λq hq=>hF.block q hq.1 (λh=>hq.2 ⟨0,hblk q h⟩),λq hq=>?_⟩
     own:=λb ⟨j,hj⟩=>?_
     ok:=bf9 }⟩
  .rw[gW];by_cases hj:j=0
   .rw[I4 hj,hj,hE];refine⟨_,kW,by rw[U7];exact hrow,⟨λ_ _ h=>(nomatch h),λp q hq _=>?_⟩,λi d hi hd=>?_,λi d hi hd j c hc=>?_,hnz⟩
    .grind
    .replace hd:(l'.map cf)[i]?=some d:=hd;rw[O6]at hd;cases hy:l'[i]? with
     |none=>grind
     |some y=>grind
    .replace hd:(l'.map cf)[i]?=some d:=hd;rw[O6]at hd;cases hy:l'[i]? with
     |none=>grind
     |some y=>
      rw[hy]at hd;cases hd;rw[hcf,O6]at hc;cases hz':(enc y)[j]? with
      |none=>grind
      |some u=>
       rw[hz']at hc;cases hc;have hi':=(O4.1 hy).1;have hj':=(O4.1 hz').1;have hjk:j<k:=by grind
       have ht:i*k+j<l'.length*k:=by have:=iJ k (show i+1<=l'.length from hi');rw[pV,rU]at this;omega
       refine⟨ha y u (iC hz'),u,?_,.cl (.v _)⟩;rw[flat_get hk h0 l' _ ht,(blk_iff k i _ h0).1 ⟨by omega,by omega⟩,Nat.mod_eq_sub_div_mul,(blk_iff k i _ h0).1 ⟨by omega,by omega⟩,Nat.add_sub_cancel_left,getElem!_pos l' i hi',(O4.1 hy).2];exact hz'
   .rw[F9 hj];trivial
  .by_cases h:ob=some q
   .obtain⟨arr,ha⟩:=hO.heap h;rw[ha]at hq;cases hq
   .exact(hF.block q (V4.1 hq).1 h).trans hq
  .obtain⟨_,h⟩:=nP hj;exact .inr ⟨0,cm0 h⟩
end
theorem cq0(x y:Came)(W:World):Calls prog 109 #[.agg (rY x).toArray,.agg (rY y).toArray] W λe w'=>e=.returned (.int .i64 (Lib.compareInt x.Unit y.Unit))/\∃q os',w'=grow (W.drewN q) os':=by
 have hcon:=λW'=>Tryz.cmp_Compare_int x.Unit y.Unit W';unfold rY;generalize Lib.compareInt x.Unit y.Unit=r at hcon⊢
 go_enter func109,ntmps109
 go_wp2_with (go_at_call 63;refine(hcon _).mono ?_;rintro e w' ⟨rfl,rfl⟩)
 go_ret
 exact⟨rfl,0,_,by rw[alloc_eq_grow,alloc_eq_grow,grow_grow];rfl⟩
theorem ltC(x y:Came):ltOf (λx y:Came=>Lib.compareInt x.Unit y.Unit) x y=decide (x.Unit<y.Unit):=by
 unfold ltOf Lib.compareInt
 grind
theorem bT5:SWO (ltOf λx y:Came=>Lib.compareInt x.Unit y.Unit) where
 irrefl x:=by rw[ltC];simp
 trans x y z h1 h2:=by rw[ltC]at*;simp at*;omega
 ntrans x y z h1 h2:=by rw[ltC]at*;simp at*;omega
def EY(l:List Came):List Came:=(pdq (ltOf λx y:Came=>Lib.compareInt x.Unit y.Unit) l.toArray 0 l.length (Lib.bitLen l.length) true true).toList
theorem ar7(l:List Came):(EY l).length=l.length:=by
 have h:=(pdq_sorts (ltOf λx y:Came=>Lib.compareInt x.Unit y.Unit) bT5 l.toArray 0 l.length (Lib.bitLen l.length) true true (Y3 _) (by simp) (l9 rfl)).1.1;simpa[EY]using h
theorem sort_c{W:World}{v:Value}{l:List Came}{ob:Option Nat}(hO:O9 W 134 4 v l.length (l.flatMap rY) ob)(hl:l.length<=4000):
 Calls prog 61 #[v,.func (.func 109) #[] #[]] W λe w'=>e=.returned (.tuple #[])/\∃l':List Came,l'=EY l/\l'.length=l.length/\O9 w' 134 4 v l.length (l'.flatMap rY) ob/\Fr (λb=>ob=some b) W w':=by
 refine dj7 (enc:=rY) (k:=4) (f:=61) (el:=134) (λ_=>rfl) (by decide) (λx v hv=>by simp[rY]at hv;rcases hv with rfl|rfl|rfl|rfl<;>rfl) (λl l'=>l'=EY l) (lX (ar7 [])).symm (λp cap W=>AnyF.slices_SortFunc_none bS7 p cap _ W) (λb cap l W hH hb hs=>?_) hO hl
 have eg:∀args w,(callFunc 109 args).run prog w=.ok (.enter 109 args) w:=enters_of func109 (by kernel_rfl) rfl;have key:=AnyQ.slices_SortFunc_eq bS7 4 isAgg134 sizeOf134 rY (λ_=>rfl) (λx v hv=>by simp[rY]at hv;rcases hv with rfl|rfl|rfl|rfl<;>rfl) (λx y=>Lib.compareInt x.Unit y.Unit) bT5 109 #[] b 0 cap l.toArray W eg (λ_ _ _ _ x y=>cq0 x y _) hH hb (by simpa using hs)
 change Calls prog 61 _ _ _ at key;refine Calls.mono (by simpa using key) ?_;rintro e w' ⟨rfl,n,os,rfl⟩;exact⟨rfl,EY l,n,os,ar7 l,rfl,by simp[EY]⟩
end
end Go.Proofs.YtibiibjbmhckgaaGreatDoor
namespace Go.F6
open Go Go.RowKit
section
variable{P:Program}{G:World->Prop}
theorem cc9{zc:List CV}{zs:List Value}(hl:zc.length=zs.length){c0:CV}{x0:Value}{i:Nat}{c:CV}{x:Value}(h1:(zc++[c0])[i]?=some c)(h2:(zs++[x0])[i]?=some x):(zc[i]?=some c/\zs[i]?=some x)\/(c=c0/\x=x0):=by
 by_cases hi:i<zc.length
 .rw[bV hi]at h1;rw[bV (by omega)]at h2;exact .inl ⟨h1,h2⟩
 .rw[bJ (by omega)]at h1;rw[bJ (by omega)]at h2;have hi0:i-zc.length=0:=by
   have:=(O4.1 h1).1;simp at this;omega
  rw[hi0]at h1;rw[<-hl,hi0]at h2;simp at h1 h2;exact .inr ⟨h1.symm,h2.symm⟩
theorem cv9{t:TypeId}{k:Nat}{zs:List Value}{zc:List CV}{es:List (CV×CV)}(hl:zc.length=zs.length)(hz:∀(Z:Zone)(w:World)(i:Nat)(c:CV)(x:Value),zc[i]?=some c->zs[i]?=some x->Rep Z w c x/\c.atom=true)
 (aG7:∀b:Option Nat,P.built t [(k,Value.map b)]=some (zs++[Value.map b]).toArray) {x:Operand} {ty:TypeId}:
 dN P G (.build t ⟨[(k,x)]⟩) ty [.mr 0 0] [(0,.map es)] (.aC (zc++[.mr 0 0])) [(0,.map es)]:=by
 intro Z w Eo a o next Q ho hty hg hzl hlen hargs hgs hnext
 have hx:=hargs 0 (.mr 0 0) x rfl (by simp[Op.operands]);generalize hax:a.eval x=xv at hx;cases hx with
 |mr _ _ _ hs hgn hE=>
  obtain⟨b,rfl⟩:=hs;have hex:(execOp a.eval o).run P w=.ok (.value (Value.agg (zs++[Value.map b]).toArray)) w:=by
   obtain⟨dst,op,type,pos,after,guard⟩:=o;simp only at ho;subst ho;have hb:P.built t ((#[(k,x)]:Array (Nat×Operand)).map λ(i,x)=>(i,a.eval x)).toList=some (zs++[Value.map b]).toArray:=by simpa[hax]using aG7 b
   simp only[execOp,I7,run_build w t _ _ hb];rfl
  refine aO hex (hnext _ Z w Eo (PK hg hzl (.aC _ (zs++[Value.map b]) (by simp[hl]) (λi c v h1 h2=>?_) (λi c h1=>?_))))
  .rcases cc9 hl h1 h2 with⟨q1,q2⟩|⟨rfl,rfl⟩
   .exact .cl (hz Z w i c v q1 q2).1
   .exact .one (.mr 0 0 _ ⟨_,rfl⟩ hgn hE)
  .have hi:i<(zs++[Value.map b]).length:=by have:=(O4.1 h1).1;simp at this⊢;omega
   rcases cc9 hl h1 (I9 hi)with⟨q1,q2⟩|⟨rfl,_⟩
   .exact(hz Z w i c _ q1 q2).2
   .rfl
theorem cv6{t:TypeId}{cs:List CV}{es:List (CV×CV)}(hbp:∀(k:Nat)(c:CV),cs[k]?=some c->c.EC=false){x:Operand}{ty:TypeId}:
 dN P G (.box t x) ty [.aC cs] [(0,.map es)] (.pm 1 1 0) [(0,.map es),(1,.varx cs)]:=by
 intro Z w Eo ac o next Q ho hty hg hzl hlen hargs hgs hnext
 have hx:=hargs 0 (.aC cs) x rfl rfl;generalize hax:ac.eval x=xv at hx;cases hx with
 |aC _ vs hl hr ha=>
  have hex:(execOp ac.eval o).run P w=.ok (.value (.pointer (some ⟨w.heap.size,0,none⟩))) (w.alloc (.cells vs.toArray t (0,0))):=by
   obtain⟨dst,op,type,pos,after,guard⟩:=o;simp only at ho;subst ho;simp[execOp,Instr.box,newVar,newRow,hax,Value.cells]
  have hnew:(w.alloc (.cells vs.toArray t (0,0))).heap[w.heap.size]?=some (.cells vs.toArray t (0,0)):=(MapKept.heap_alloc w _).1
  let Er:Nat->Value:=λj=>if j=1 then .pointer (some ⟨w.heap.size,0,none⟩)else Eo j
  have hk:Keeps Z w Z (w.alloc (.cells vs.toArray t (0,0))):=Keeps.alloc hzl _;have hok:dH (G9 [(0,D9.map es)]) Eo (G9 [(0,.map es),(1,.varx cs)]) Er:=by
   refine⟨λt=>?_,λt g hg hl=>?_,λt g el s hg ho=>?_,λt g el s ds D8 hg ho=>?_,λt g es hg ho=>?_⟩
   all_goals match t with
    |0=>first|exact J6 _|(obtain⟨cs,h|h|h⟩:=hl<;>cases h;done)|exact⟨⟨_,ho⟩,rfl⟩|(cases ho;done)
    |1=>first|exact Y3 _|(obtain⟨cs,h|h|h⟩:=hl<;>cases h<;>exact absurd hg (Nat.not_succ_le_zero 0))|cases ho
    |t+2=>first|(simp[G9];done)|(obtain⟨cs,h|h|h⟩:=hl<;>simp[G9]at h)|(simp[G9]at ho)
  have e0:∀j,G9 [(0,D9.map es),(1,.varx cs)] (j+2)=(0,.none):=λj=>by simp[G9]
  have hb1:∀b,(D9.varx cs).blk (Er 1) b->b=w.heap.size:=λb hb=>by simpa[Er,D9.blk]using hb.symm
  have hb0:∀b,(D9.map es).blk (Eo 0) b->b<w.heap.size:=λb hb=>(hg.ok 0).lt hb
  refine aO hex (hnext _ Z _ Er
   { res:=.pm 1 1 0 _ ⟨_,rfl⟩ (J6 _) λ_=>⟨w.heap.size,rfl,rfl⟩
     grp:=⟨λj=>?_,λj j' b hj h1 h2=>?_⟩
     keeps:=hk
     U4:=λb o hz=>Z5 (hzl b o hz) (by simp)
     fB:=λb o hz=>.inl hz
     kept:=(Kept.refl _ _).alloc (λ_ h=>h.1) _
     own:=λb ⟨j,hj⟩=>?_
     ok:=hok })
  .match j with
   |0=>exact(hg.ok 0).keep hk hok λb hb=>⟨uP w _ (hb0 b hb),λ_ h=>h⟩
   |1=>
    refine⟨w.heap.size,t,vs.toArray,rfl,hnew,by simp[hl],λk c hk'=>⟨ha k c hk',?_⟩,λo hz'=>absurd (hzl _ _ hz') (Nat.lt_irrefl _),.none hbp⟩;have hkl:k<vs.length:=by rw[<-hl];exact(O4.1 hk').1
    exact⟨vs[k],by simp[hkl],(hr k c _ hk' (I9 hkl)).keep hk hok⟩
   |j+2=>rw[e0];trivial
  .match j,j',h1,h2 with
   |0,0,_,_=>exact hj rfl
   |0,1,h1,h2=>have q1:=hb0 b h1;have q2:=hb1 b h2;omega
   |1,0,h1,h2=>have q1:=hb0 b h2;have q2:=hb1 b h1;omega
   |1,1,_,_=>exact hj rfl
   |j+2,_,h1,_=>rw[e0]at h1;exact h1.elim
   |_,j+2,_,h2=>rw[e0]at h2;exact h2.elim
  .match j,hj with
   |0,hj=>exact .inr ⟨0,hj⟩
   |1,hj=>exact .inl (by rw[hb1 b hj];exact J6 _)
   |j+2,hj=>rw[e0]at hj;exact hj.elim
end
end Go.F6
namespace Go.Proofs.YtibiibjbmhckgaaGreatDoor
section
open Go Go.F6 Proofs.Tryz
theorem cm4(b:Option Nat):prog.built 104 [(3,.map b)]=some #[.slice none 0 0,.slice none 0 0,.slice none 0 0,.slice none 0 0,.map b]:=by kernel_rfl
theorem cM6{es:List (CV×CV)}{x:Operand}{ty:TypeId}:dN prog Gw (.build 104 ⟨[(3,x)]⟩) ty [.mr 0 0] [(0,.map es)] (.aC [.sl 12 [],.sl 1 [],.sl 6 [],.sl 4 [],.mr 0 0]) [(0,.map es)]:=
 cv9 (zc:=[.sl 12 [],.sl 1 [],.sl 6 [],.sl 4 []]) (zs:=[.slice none 0 0,.slice none 0 0,.slice none 0 0,.slice none 0 0]) rfl (λZ w i c x h1 h2=>by
  match i,h1,h2 with
  |0,h1,h2=>cases h1;cases h2;exact⟨.nil _ _ _,rfl⟩
  |1,h1,h2=>cases h1;cases h2;exact⟨.nil _ _ _,rfl⟩
  |2,h1,h2=>cases h1;cases h2;exact⟨.nil _ _ _,rfl⟩
  |3,h1,h2=>cases h1;cases h2;exact⟨.nil _ _ _,rfl⟩) cm4
theorem cM5{a b c d:List (List CV)}{es:List (CV×CV)}{x:Operand}{ty:TypeId}:dN prog Gw (.box 104 x) ty [.aC [.sl 12 a,.sl 1 b,.sl 6 c,.sl 4 d,.mr 0 0]] [(0,.map es)] (.pm 1 1 0) [(0,.map es),(1,.varx [.sl 12 a,.sl 1 b,.sl 6 c,.sl 4 d,.mr 0 0])]:=
 cv6 λk c h=>by
  match k,h with
  |0,h=>cases h;rfl
  |1,h=>cases h;rfl
  |2,h=>cases h;rfl
  |3,h=>cases h;rfl
  |4,h=>cases h;rfl
end
section
open Go Go.F6 Go.RowKit Go.Sort Proofs.Tryz
def aW2(l:List Came):Option (List Came):=bif decide (l.length<=4000)then some (EY l)else none
theorem di6{l r:List Came}(h:aW2 l=some r):fD prog Gw 61 [.rs 0 0,.c (.fn 109 [])] [(0,.arr 134 4 (l.map J7) none)] (.c (.P7 [])) [(0,.arr 134 4 (r.map J7) none)]:=by
 refine kU h λhl h=>?_;have hl:=gB hl;rw[<-iE h];refine cw5 (enc:=rY) (cf:=J7) ⟨_,func61,by decide,rfl⟩ (λ_=>rfl) (by decide) (λ_=>rfl) (λx v hv=>by simp[rY]at hv;rcases hv with rfl|rfl|rfl|rfl<;>rfl) (λx v hv=>by simp[rY]at hv;rcases hv with rfl|rfl|rfl|rfl<;>rfl) (λ_=>rfl) l (EY l) (ar7 l) λ{W v ob} hO=>?_
 refine(sort_c hO hl).mono ?_;rintro e w' ⟨rfl,l',rfl,_,h1,h2⟩;exact⟨rfl,h1,h2⟩
end
section
open Go Go.F6 Proofs.Tryz
set_option maxRecDepth 10000
set_option maxHeartbeats 400000
abbrev b67(y:List Came):CV:=.sl 4 (y.map J7)
def ML(l:List Opn):Nat->Int->List Came->Option (List Came)
 |0,_,_=>none
 |fu1+1,v1,EP=>bif decide (v1<((l.map F7).length:Int))then(Option.bind (ix l v1) λx4=>bif (x4.Kind==1)then(bif decide (EP.length+([(⟨x4.Unit,x4.Origin⟩:Came)]:List Came).length<=4294967296)then ML l fu1 (IntKind.i64.wrap (v1+1)) (EP++([(⟨x4.Unit,x4.Origin⟩:Came)]:List Came))else none)else ML l fu1 (IntKind.i64.wrap (v1+1)) EP)else(Option.bind (aW2 EP) λy8=>some (y8))
def b68(N:Nat)(l:List Opn):Option (List Came):=ML l N 0 ([]:List Came)
theorem dw1{N:Nat}{l:List Opn}{r:List Came}(hF:b68 N l=some r):Holds prog Gw 55 [.sl 12 (l.map F7)] (b67 r):=by
 refine Q9 L8 mixed func55 (by decide) rfl (H6 rfl) ?_;refine l9 ?_;refine H9 ⟨[],0,_,_,_,_,rfl,rfl,JB (e:=134) (ie:=FH) (by decide),rfl,?_⟩;refine dX (λp:Nat×Int×List Came=>[(3,.rs 3 0),(6,.c (.sl 12 (l.map F7))),(7,.c (I ((l.map F7).length:Int))),(8,.c (I p.2.1))]) (λp:Nat×Int×List Came=>[(3,.arr 134 4 (p.2.2.map J7) none)]) (λp=>ML l p.1 p.2.1 p.2.2=some r) (λp=>p.1) (N,0,([]:List Came)) hF ⟨rfl,rfl,rfl,rfl,trivial⟩ ⟨rfl,trivial⟩ ?_;rintro⟨fu1,v1,EP⟩ hF;cases fu1 with
 |zero=>exact nomatch hF
 |succ fu1=>
  refine J9 ?_;refine C9 (λh3=>?_) (λh3=>?_)
  .have hF:=D6 h3 hF;refine J9 ?_;refine D7 hF λx4 h5 hF=>?_;refine⟨V9 h5,.inl rfl,_,Y0 F7 h5,?_⟩;refine l9 ?_;refine C9 (λh6=>?_) (λh6=>?_)
   .have hF:=D6 h6 hF;refine l9 ?_;refine l9 ?_;refine kU hF λh7 hF=>?_;refine H9 ⟨[(3,0)],0,_,_,_,_,rfl,rfl,IZ (cf:=J7) (l:=EP) (ns:=([(⟨x4.Unit,x4.Origin⟩:Came)]:List Came)) UD.u UA (by decide) (by decide) (λ_=>rfl) h7,rfl,?_⟩;exact⟨(fu1,(IntKind.i64.wrap (v1+1)),(EP++([(⟨x4.Unit,x4.Origin⟩:Came)]:List Came))),X8 _,hF,⟨rfl,rfl,rfl,rfl,trivial⟩,⟨rfl,trivial⟩⟩
   .have hF:=D5 h6 hF;exact⟨(fu1,(IntKind.i64.wrap (v1+1)),EP),X8 _,hF,⟨rfl,rfl,rfl,rfl,trivial⟩,⟨rfl,trivial⟩⟩
  .have hF:=D5 h3 hF;refine D7 hF λy8 h9 hF=>?_;refine H9 (H9 ⟨[(3,0)],0,_,_,_,_,rfl,rfl,lK rfl (H9 ⟨_,rfl,rfl⟩) (di6 h9),rfl,?_⟩);refine W9 (p:=λr=>qW tab _ (b67 r) _) hF ?_;exact H9 ⟨rfl,_,rfl,rfl⟩
abbrev aZ8:=b68 1000
abbrev b69:=@dw1 1000
def a07:{p:Array Nat×Code×Code // (uZ (Tryz.f90.body.getD .skip))[0]?=some p}:=⟨(_,_,_),rfl⟩
def a06(R:Loop):Prop:=R.params=a07.1.1/\R.assign=a07.1.2.1/\R.body=a07.1.2.2/\R.tmps.size=34
theorem b84{R:Loop}(h:a06 R):2=R.params.size:=by rw[h.1];rfl
def a08(u1:Tree)(u2:Int)(u3:Int)(a14:Int)(nD:Opn):Option (Bool×Tree×Int×Int):=Option.bind (oW u1 nD) λy1=>bif (y1.2==0)then some (true,y1.1,u2,u3)else some (false,u1,a14,y1.2)
theorem b83{u1:Tree}{u2:Int}{u3:Int}{a14:Int}{nD:Opn}{r:Bool×Tree×Int×Int}{l:Nat}{R:Loop}(hR:a06 R)(hF:a08 u1 u2 u3 a14 nD=some r):NJ prog Gw l R (jA [(5,.pm 1 0 0),(6,.pm 2 0 0),(7,.pm 3 0 0)] 34 0) [.c (I a14),.c (.agg [I nD.ID,I nD.Day,I nD.Kind,I nD.Unit,I nD.Parent,I nD.Before,I nD.Level,S nD.Title,S nD.Mark,I nD.Origin.aK,I nD.Origin.U3,I nD.Origin.Number])] [(0,.lp l R .on),(0,.var [.sl 1 (u1.O1.map F5),.sl 6 (u1.Branches.map G8)]),(0,.var [I u2]),(0,.var [I u3])] (.c (.v (.bool r.1))) [(0,.lp l R (mJ r.1 (.exit 0))),(0,.var [.sl 1 (r.2.1.O1.map F5),.sl 6 (r.2.1.Branches.map G8)]),(0,.var [I r.2.2.1]),(0,.var [I r.2.2.2])]:=by
 refine ai3 [] L8 mixed 0 hR.1 hR.2.1 hR.2.2.1 hR.2.2.2 rfl ?_;refine l9 ?_;refine⟨rfl,?_⟩;refine D7 hF λy1 h2 hF=>?_;refine l9 ⟨_,aS1 h2,rfl,?_⟩;refine l9 ?_;refine C9 (λh3=>?_) (λh3=>?_)
 .have hF:=D6 h3 hF;refine W9 (p:=λr=>wX [] 0 l R 4 (.c (.v (.bool r.1))) [(0,.lp l R (mJ r.1 (.exit 0))),(0,.var [.sl 1 (r.2.1.O1.map F5),.sl 6 (r.2.1.Branches.map G8)]),(0,.var [I r.2.2.1]),(0,.var [I r.2.2.2])] .on true _) hF ?_;exact⟨rfl,rfl,[(4294967296,0),(4295032832,0),(4295098368,0),(4295163904,0)],[0,0,0,0],rfl,rfl⟩
 .have hF:=D5 h3 hF;refine W9 (p:=λr=>wX [] 0 l R 4 (.c (.v (.bool r.1))) [(0,.lp l R (mJ r.1 (.exit 0))),(0,.var [.sl 1 (r.2.1.O1.map F5),.sl 6 (r.2.1.Branches.map G8)]),(0,.var [I r.2.2.1]),(0,.var [I r.2.2.2])] (.off (.exit 0)) false _) hF ?_;exact⟨rfl,rfl,[(4294967296,0),(4295032832,0),(4295098368,0),(4295163904,0)],[0,0,0,0],rfl,rfl⟩
theorem aZ7{l:List Opn}:fD prog Gw 30 [.c (.sl 12 (l.map F7))] [] (.Q7 71 [.pm 0 1 0]) [(1,.var [.sl 12 (l.map F7)])]:=by
 refine rX L8 mixed func30 (by decide) rfl (H6 rfl) rfl ?_;refine l9 ?_;exact⟨[(1,1)],[1],rfl,rfl,rfl⟩
def AZ(u4:List Opn)(v2:List (Int×Bool)):Nat->Int->List Int->List Branch->Int->Int->Option (Bool×Tree×Int×Int)
 |0,_,_,_,_,_=>none
 |bH+1,v9,nV,MR,MS,MV=>bif decide (v9<((u4.map F7).length:Int))then(Option.bind (ix u4 v9) λx15=>bif (x15.Kind !=6)then(Option.bind (uV v2 x15.ID false) λlD=>bif (!lD)then(Option.bind (a08 (⟨nV,MR⟩:Tree) MS MV v9 x15) λy21=>bif y21.1 then AZ u4 v2 bH (IntKind.i64.wrap (v9+1)) y21.2.1.O1 y21.2.1.Branches y21.2.2.1 y21.2.2.2 else some (false,y21.2.1,y21.2.2.1,y21.2.2.2))else AZ u4 v2 bH (IntKind.i64.wrap (v9+1)) nV MR MS MV)else AZ u4 v2 bH (IntKind.i64.wrap (v9+1)) nV MR MS MV)else some (true,(⟨nV,MR⟩:Tree),MS,MV)
def FN(u1:Tree)(u2:Int)(u3:Int)(u4:List Opn)(N:Nat):Nat->Int->List (Int×Bool)->Option (Bool×Tree×Int×Int)
 |0,_,_=>none
 |fu1+1,v1,v2=>bif decide (v1<((u4.map F7).length:Int))then(Option.bind (ix u4 v1) λx4=>bif (x4.Kind==6)then(Option.bind (uV v2 x4.Unit false) λy7=>FN u1 u2 u3 u4 N fu1 (IntKind.i64.wrap (v1+1)) (bZ v2 x4.Unit (!y7)))else FN u1 u2 u3 u4 N fu1 (IntKind.i64.wrap (v1+1)) v2)else AZ u4 v2 N 0 u1.O1 u1.Branches u2 u3
def b66(N:Nat)(u1:Tree)(u2:Int)(u3:Int)(u4:List Opn):Option (Bool×Tree×Int×Int):=FN u1 u2 u3 u4 N N 0 ([]:List (Int×Bool))
theorem dv8{N:Nat}{u1:Tree}{u2:Int}{u3:Int}{u4:List Opn}{r:Bool×Tree×Int×Int}{l:Nat}{R:Loop}(hR:a06 R)(hF:b66 N u1 u2 u3 u4=some r):fD prog Gw 71 [.Q7 (.yl l R.tmps.toList) (jA [(5,.pm 1 0 0),(6,.pm 2 0 0),(7,.pm 3 0 0)] 34 0),.pm 4 0 0] [(0,.lp l R .on),(0,.var [.sl 1 (u1.O1.map F5),.sl 6 (u1.Branches.map G8)]),(0,.var [I u2]),(0,.var [I u3]),(0,.var [.sl 12 (u4.map F7)])] (.c (.P7 [])) [(0,.lp l R (mJ r.1 (.exit 0))),(0,.var [.sl 1 (r.2.1.O1.map F5),.sl 6 (r.2.1.Branches.map G8)]),(0,.var [I r.2.2.1]),(0,.var [I r.2.2.2]),(0,.var [.sl 12 (u4.map F7)])]:=by
 refine rX L8 mixed func71 (by decide) rfl (H6 rfl) rfl ?_;refine H9 ⟨[],0,_,_,_,_,rfl,rfl,ai1,rfl,?_⟩;refine dX (λp:Nat×Int×(List (Int×Bool))=>[(0,.Q7 (.yl l R.tmps.toList) (jA [(5,.pm 4295032832 0 0),(6,.pm 4295098368 0 0),(7,.pm 4295163904 0 0)] 34 0)),(1,.pm 4295229440 0 0),(3,.mr 8 0),(9,.c (.sl 12 (u4.map F7))),(10,.c (I ((u4.map F7).length:Int))),(11,.c (I p.2.1))]) (λp:Nat×Int×(List (Int×Bool))=>[(4294967296,.lp l R .on),(4295032832,.var [.sl 1 (u1.O1.map F5),.sl 6 (u1.Branches.map G8)]),(4295098368,.var [I u2]),(4295163904,.var [I u3]),(4295229440,.var [.sl 12 (u4.map F7)]),(8,.map (U2 (zG .i64) nH p.2.2))]) (λp=>FN u1 u2 u3 u4 N p.1 p.2.1 p.2.2=some r) (λp=>p.1) (N,0,([]:List (Int×Bool))) hF ⟨rfl,rfl,rfl,rfl,rfl,rfl,trivial⟩ ⟨rfl,rfl,rfl,rfl,rfl,rfl,trivial⟩ ?_;rintro⟨fu1,v1,v2⟩ hF;cases fu1 with
 |zero=>exact nomatch hF
 |succ fu1=>
  refine J9 ?_;refine C9 (λh3=>?_) (λh3=>?_)
  .have hF:=D6 h3 hF;refine J9 ?_;refine D7 hF λx4 h5 hF=>?_;refine⟨V9 h5,.inl rfl,_,Y0 F7 h5,?_⟩;refine l9 ?_;refine C9 (λh6=>?_) (λh6=>?_)
   .have hF:=D6 h6 hF;refine D7 hF λy7 h8 hF=>?_;refine H9 ⟨[(8,0)],0,_,_,_,_,rfl,rfl,PE (ev:=nH) (z:=false) (m:=v2) (x:=x4.Unit) AQ.u rE.u (uS .i64) UC rfl h8,rfl,?_⟩;refine H9 ⟨[(8,0)],0,_,_,_,_,rfl,rfl,JA (ev:=nH) (m:=v2) (x:=x4.Unit) (v:=(!y7)) AQ.u rE.u (uS .i64),rfl,?_⟩;exact⟨(fu1,(IntKind.i64.wrap (v1+1)),(bZ v2 x4.Unit (!y7))),X8 _,hF,⟨rfl,rfl,rfl,rfl,rfl,rfl,trivial⟩,⟨rfl,rfl,rfl,rfl,rfl,rfl,trivial⟩⟩
   .have hF:=D5 h6 hF;exact⟨(fu1,(IntKind.i64.wrap (v1+1)),v2),X8 _,hF,⟨rfl,rfl,rfl,rfl,rfl,rfl,trivial⟩,⟨rfl,rfl,rfl,rfl,rfl,rfl,trivial⟩⟩
  .have hF:=D5 h3 hF;refine dX (λp:Nat×Int×List Int×List Branch×Int×Int=>[(0,.Q7 (.yl l R.tmps.toList) (jA [(5,.pm 4295032832 0 0),(6,.pm 4295098368 0 0),(7,.pm 4295163904 0 0)] 34 0)),(3,.mr 8 0),(27,.c (.sl 12 (u4.map F7))),(28,.c (I ((u4.map F7).length:Int))),(29,.c (I p.2.1))]) (λp:Nat×Int×List Int×List Branch×Int×Int=>[(4294967296,.lp l R .on),(4295032832,.var [.sl 1 (p.2.2.1.map F5),.sl 6 (p.2.2.2.1.map G8)]),(4295098368,.var [I p.2.2.2.2.1]),(4295163904,.var [I p.2.2.2.2.2]),(8,.map (U2 (zG .i64) nH v2)),(4295229440,.var [.sl 12 (u4.map F7)])]) (λp=>AZ u4 v2 p.1 p.2.1 p.2.2.1 p.2.2.2.1 p.2.2.2.2.1 p.2.2.2.2.2=some r) (λp=>p.1) (N,0,u1.O1,u1.Branches,u2,u3) hF ⟨rfl,rfl,rfl,rfl,rfl,trivial⟩ ⟨rfl,rfl,rfl,rfl,rfl,rfl,trivial⟩ ?_;rintro⟨bH,v9,nV,MR,MS,MV⟩ hF;cases bH with
   |zero=>exact nomatch hF
   |succ bH=>
    refine J9 ?_;refine C9 (λaF=>?_) (λaF=>?_)
    .have hF:=D6 aF hF;refine J9 ?_;refine D7 hF λx15 h16 hF=>?_;refine⟨V9 h16,.inl rfl,_,Y0 F7 h16,?_⟩;refine l9 ?_;refine J9 ?_;refine C9 (λh17=>?_) (λh17=>?_)
     .have hF:=D6 h17 hF;refine D7 hF λlD h19 hF=>?_;refine H9 ⟨[(8,0)],0,_,_,_,_,rfl,rfl,PE (ev:=nH) (z:=false) (m:=v2) (x:=x15.ID) AQ.u rE.u (uS .i64) UC rfl h19,rfl,?_⟩;refine C9 (λh20=>?_) (λh20=>?_)
      .have hF:=D6 h20 hF;refine D7 hF λy21 h22 hF=>?_;rcases y21 with⟨_|_,y23⟩
       .have hF:=D5 rfl hF;refine H9 ⟨[(4294967296,0),(4295032832,0),(4295098368,0),(4295163904,0)],0,_,_,_,_,rfl,rfl,PG rfl 0 rfl (b84 hR) (b83 hR h22),rfl,?_⟩;refine C9 (λDT=>?_) (λDT=>?_)
        .skip
         refine W9 (p:=λr=>aH tab _ 5 (.c (.P7 [])) [(0,.lp l R (mJ r.1 (.exit 0))),(0,.var [.sl 1 (r.2.1.O1.map F5),.sl 6 (r.2.1.Branches.map G8)]),(0,.var [I r.2.2.1]),(0,.var [I r.2.2.2]),(0,.var [.sl 12 (u4.map F7)])] _) hF ?_;exact⟨[(4294967296,0),(4295032832,0),(4295098368,0),(4295163904,0),(4295229440,0)],[0,0,0,0,0],rfl,rfl,rfl⟩
        .exact absurd DT (by simp)
       .have hF:=D6 rfl hF;refine H9 ⟨[(4294967296,0),(4295032832,0),(4295098368,0),(4295163904,0)],0,_,_,_,_,rfl,rfl,PG rfl 0 rfl (b84 hR) (b83 hR h22),rfl,?_⟩;refine C9 (λmF=>?_) (λmF=>?_)
        .exact absurd mF (by simp)
        .skip
         exact⟨(bH,(IntKind.i64.wrap (v9+1)),y23.1.O1,y23.1.Branches,y23.2.1,y23.2.2),X8 _,hF,⟨rfl,rfl,rfl,rfl,rfl,trivial⟩,⟨rfl,rfl,rfl,rfl,rfl,rfl,trivial⟩⟩
      .have hF:=D5 h20 hF;exact⟨(bH,(IntKind.i64.wrap (v9+1)),nV,MR,MS,MV),X8 _,hF,⟨rfl,rfl,rfl,rfl,rfl,trivial⟩,⟨rfl,rfl,rfl,rfl,rfl,rfl,trivial⟩⟩
     .have hF:=D5 h17 hF;exact⟨(bH,(IntKind.i64.wrap (v9+1)),nV,MR,MS,MV),X8 _,hF,⟨rfl,rfl,rfl,rfl,rfl,trivial⟩,⟨rfl,rfl,rfl,rfl,rfl,rfl,trivial⟩⟩
    .have hF:=D5 aF hF;refine W9 (p:=λr=>aH tab _ 5 (.c (.P7 [])) [(0,.lp l R (mJ r.1 (.exit 0))),(0,.var [.sl 1 (r.2.1.O1.map F5),.sl 6 (r.2.1.Branches.map G8)]),(0,.var [I r.2.2.1]),(0,.var [I r.2.2.2]),(0,.var [.sl 12 (u4.map F7)])] _) hF ?_;exact⟨[(4294967296,0),(4295032832,0),(4295098368,0),(4295163904,0),(4295229440,0)],[0,0,0,0,0],rfl,rfl,rfl⟩
abbrev dv9:=b66 1000
abbrev dw0:=@dv8 1000
abbrev ac4(y:Tree×Int×Int):CV:=.P7 [.agg (dO y.1),I y.2.1,I y.2.2]
def a09(l:List Opn):Option (Tree×Int×Int):=Option.bind (dv9 (⟨([]:List Int),([]:List Branch)⟩:Tree) (-1) 0 l) λy1=>bif y1.1 then(bif (y1.2.2.2 !=0)then some ((⟨([]:List Int),([]:List Branch)⟩:Tree),y1.2.2.1,y1.2.2.2)else some (y1.2.1,(-1),0))else(bif (y1.2.2.2 !=0)then some ((⟨([]:List Int),([]:List Branch)⟩:Tree),y1.2.2.1,y1.2.2.2)else some (y1.2.1,(-1),0))
theorem dw5{l:List Opn}{r:Tree×Int×Int}(hF:a09 l=some r):Holds prog Gw 90 [.sl 12 (l.map F7)] (ac4 r):=by
 refine Q9 L8 mixed func90 (by decide) rfl (H6 rfl) ?_;refine l9 ?_;refine l9 ?_;refine l9 ?_;refine l9 ?_;refine H9 (H9 ⟨[],0,_,_,_,_,rfl,rfl,lK rfl (H9 ⟨_,rfl,rfl⟩) aZ7,rfl,?_⟩);refine D7 hF λy1 h2 hF=>?_;refine YU.mk ?_;refine⟨60000,jA [(5,.pm 5 1 0),(6,.pm 6 1 0),(7,.pm 7 1 0)] 34 0,_,_,l9 rfl,rfl,(by refine WG ?_ 34 0;exact⟨rfl,rfl,rfl,trivial⟩),λl R hp ha hb hn=>⟨[(60000,1),(5,1),(6,1),(7,1),(13,1)],0,_,_,_,_,rfl,rfl,dw0 ⟨hp,ha,hb,hn⟩ h2,rfl,_,y1.1,(.exit 0),rfl,λh3=>?_,λh3=>?_⟩⟩
 .have hF:=D6 h3 hF;refine C9 (λh4=>?_) (λh4=>?_)
  .have hF:=D6 h4 hF;refine l9 ?_;refine C9 (by kernel_rfl) ?_;exact l9 ⟨rfl,congrArg (Option.map ac4) hF⟩
  .have hF:=D5 h4 hF;exact l9 ⟨rfl,congrArg (Option.map ac4) hF⟩
 .have hF:=D5 h3 hF;refine C9 (λh5=>?_) (λh5=>?_)
  .have hF:=D6 h5 hF;refine l9 ?_;refine C9 (by kernel_rfl) ?_;exact l9 ⟨rfl,congrArg (Option.map ac4) hF⟩
  .have hF:=D5 h5 hF;exact l9 ⟨rfl,congrArg (Option.map ac4) hF⟩
end
end Go.Proofs.YtibiibjbmhckgaaGreatDoor
