import Derived.Test.YtibiibjbmhckgaaGreatDoorQ5
import Derived.ProofKit
import Derived.OpenShut
import Derived.Test.YtibiibjbmhckgaaGreatDoorCards
import Derived.Test.YtibiibjbmhckgaaGreatDoorTie
import Derived.Stop.LaidErr
import Derived.Lib.LaidU8
import Derived.Deep.DeepWitnessRowRef
set_option linter.unusedVariables false
set_option linter.unusedSimpArgs false
set_option linter.defProp false
namespace Go
abbrev fZ:=@decide_eq_false
abbrev am3:=@bodyPost_ret
abbrev ax2:=@RowKit.run_makeMap
end Go
namespace Go.Proofs.YtibiibjbmhckgaaGreatDoor
section
open Go Go.F7 Go.RowKit Go.Ev Proofs.Tryz
set_option maxRecDepth 100000
set_option maxHeartbeats 4000000
def cq2{W:World}{v:Value}{l:F6}{ob:E8}(hO:P8 W 3 1 v l.length (aN l) ob)(hl:l.length<=4000){vb:Nat}{x:Int}(hV:W.heap[vb]?=some (.cells #[.int .i64 x] 3 (0,0))):
    ∃v' W' ob',((Builtin.append_ #[26,26] 26 #[v,.slice (some ⟨vb,0,none⟩) 1 1]).run prog W=.ok v' W')/\P8 W' 3 1 v' (l++[x]).length (aN (l++[x])) ob'/\Fr (λk=>ob=some k) W W'/\∀c,ob'=some c->ob=some c\/W.heap.size<=c:=by
 have hu:=underlying26;have hty:I7 3=some rW:=rfl;have hsrc:Src prog rW.size 26 (.slice (some ⟨vb,0,none⟩) 1 1) 1 [.int .i64 x] W:=
  Src.ofSlice W hu ⟨vb,0,none⟩ 1 1 [.int .i64 x] rfl (λj u hj=>by
   rw[iI,X9,kU W vb j _ 3 (0,0) hV]
   match j,hj with
   |0,hj=>cases hj;rfl) (λu hu=>by simp at hu;subst hu;rfl)
 have hA:=aE5 ae0.ty hu hty (by decide) hsrc;have hzl:∀n,(Builtin.zeroCells (Q9 rW).cells n).toList.length=n*1:=aD4 xP;have hcx:aN (l++[x])=aN l++[Value.int .i64 x]:=by simp[aN]
 have hll:(l++[x]).length=l.length+1:=by simp
 rw[hcx,hll];have h1:=hO.one;have hlen:=hO.len;have fresh:∀m,l.length+1<=m->m<=maxLen->P8 (W.drew.alloc (.cells ((aN l++[Value.int .i64 x]).toArray++Builtin.zeroCells (Q9 rW).cells (m-(l.length+1))) 3)) 3 1 (.slice (some ⟨W.heap.size,0,none⟩) (l.length+1) m) (l.length+1) (aN l++[Value.int .i64 x]) (some W.heap.size):=λm hm hmx=>
  vP (bJ W.drew _) (by simp only[Array.size_append,oZ,cO,hlen];rw[<-iW,hzl];simp;omega) hm hmx
   (λu hu=>by
     rcases iY.1 hu with hu|hu
     .grind
     .simp at hu;subst hu;rfl)
   (by simp only[ak3];rw[sG (by simp[hlen]),pF (by simp[hlen])])
 generalize hC:aN l=C at hO fresh h1 hlen;generalize hn:l.length=n at hO fresh h1 hlen hl;cases hO with
 |e a=>
  have⟨m,hm,hmx,hr⟩:=hA.grow 26 a 0 0 [] (by cases a<;>rfl) (by omega) (by omega)
  exact⟨_,_,some W.heap.size,hr,by simpa using fresh m hm hmx,((Fr.refl _ W).drew).alloc _,λc hc=>.inr (by injection hc with hc;omega)⟩
 |b b c n arr hh hs hnc hm h1'=>
  subst hn;by_cases hroom:l.length+1<=c
  .have hr:=hA.room 26 b 0 l.length c 3 arr hh hroom (by simp only[show rW.size=1 from rfl,hs,List.length_singleton];omega);refine⟨_,_,some b,hr,?_,(Fr.refl _ W).setRow (.inl rfl),λc hc=>.inl hc⟩;refine vP (rU W b arr _ 3 (0,0) hh) (by simp only[show rW.size=1 from rfl,oZ,cO,Y1,nH,iW,hs,List.length_singleton];omega) hroom hm (λu hu=>?_) ?_
   .rcases iY.1 hu with hu|hu
    .grind
    .simp at hu;subst hu;rfl
   .simp only[X9,yC,show rW.size=1 from rfl]
    grind
  .have hrow:=TF (P:=prog) (W:=W.drew) hh 1 l.length 0 l.length c (by rw[hs];omega);have⟨m,hm',hmx,hr⟩:=hA.grow 26 (some ⟨b,0,none⟩) l.length c (arr.toList.take (l.length*1)) (by rw[show rW.size=1 from rfl];simpa using hrow) (by omega) (by omega);exact⟨_,_,some W.heap.size,hr,fresh m hm' hmx,((Fr.refl _ W).drew).alloc _,λc hc=>.inr (by injection hc with hc;omega)⟩
def BI(X n0:Nat)(pre:F6)(ob:E8)(W:World):Prop:=∃v,W.heap[X]?=some (.cells #[v] 26 (0,0))/\P8 W 3 1 v pre.length (aN pre) ob/\Gw W/\ob≠some X/\∀c,ob=some c->n0<=c
def bw2{W W':World}(h:Gw W)(hb:∀k arr el fr,W.heap[k]?=some (.cells arr el fr)->k=0->W'.heap[k]?=W.heap[k]?):Gw W':=by
 have⟨m,hm⟩:=h;refine⟨m,?_⟩;rcases ho:W.heap[0]? with _|o
 .simp[World.cell?,ho]at hm
 .cases o with
  |cells arr el fr=>rw[FK (a:=⟨0,0,none⟩) (w:=W) (w':=W') (hb _ _ _ _ ho rfl)];exact hm
  |_=>simp[World.cell?,ho]at hm
def BI.putObj{X n0:Nat}{pre:F6}{ob:E8}{W:World}(h:BI X n0 pre ob W){l:Nat}{o o':Obj}(hl:W.heap[l]?=some o)(ho:o.isCells=false):BI X n0 pre ob (W.putObj l o'):=by
 have⟨v,h1,h2,h3,h4,h5⟩:=h;have ne:∀k arr el fr,W.heap[k]?=some (.cells arr el fr)->k≠l:=λk arr el fr hk e=>by subst e;rw[hl]at hk;injection hk with hk;rw[hk]at ho;cases ho
 exact⟨v,(jA (ne _ _ _ _ h1)).trans h1,h2.keep λk hk=>by have⟨arr,ha⟩:=h2.heap hk;exact jA (ne _ _ _ _ ha),bw2 h3 λk arr el fr hk _=>jA (ne _ _ _ _ hk),h4,h5⟩
def BI.below{X n0:Nat}{pre:F6}{ob:E8}{W W':World}(h:BI X n0 pre ob W)(hb:Below W.heap.size W W'):BI X n0 pre ob W':=by
 have⟨v,h1,h2,h3,h4,h5⟩:=h;exact⟨v,(hb.block X (X6.1 h1).1).trans h1,h2.keep λk hk=>hb.block k (h2.lt hk),Gs W W' h3 hb,h4,h5⟩
def BI.lt{X n0:Nat}{pre:F6}{ob:E8}{W:World}(h:BI X n0 pre ob W):X<W.heap.size/\∀c,ob=some c->c<W.heap.size:=by
 have⟨v,h1,h2,_⟩:=h;exact⟨(X6.1 h1).1,λc hc=>h2.lt hc⟩
def dd3{g:Operand}{ps:Array Tmp}{assign body:Code}{Q:dD}{a:Act}{w:World}{lb:S9}{X n0 M:Nat}{new:F6}(hg:a.eval g=.func (.func 104) #[] lb)(hps:ps.size=2)(h0:BI X n0 [] none w)
    (a₁:Int->Int->Act)
    (hassign:∀m l x ab W K,K (a₁ x ab) W->assign.wpIn (Fence.wide.inRound l) m prog (Exit.then K (λ_ _ _=>False)) { tmps:=(ps.zip #[Value.int .i64 x,Value.int .i64 ab]).foldl (λt (p,v)=>t.setIfInBounds p v) a.tmps,defers:=[] } W)
    (hbody:∀m l(pre:F6) ob x ab W,BI X n0 pre ob W->pre.length<M->body.wpIn (Fence.wide.inRound l) m prog (λe _ W'=>e=.normal/\∃ob',KeepsOthers W W'/\BI X n0 (pre++[x]) ob' W'/\Fr (λk=>k=X\/ob=some k) W W'/\∀c,ob'=some c->ob=some c\/W.heap.size<=c) (a₁ x ab) W)
    (hit:∀(J:F6->E8->World->Prop)(l:Nat)(W:World),(∀pre ob W W',J pre ob W->Below W.heap.size W W'->J pre ob W')->(∀pre ob W,J pre ob W->X<W.heap.size/\l<W.heap.size/\∀c,ob=some c->c<W.heap.size)->(∀pre ob W,J pre ob W->Gw W)->
      (∀m(pre:F6) ob W x ab,pre.length<M->J pre ob W->YieldAt Fence.wide m prog l #[.int .i64 x,.int .i64 ab] W (qR J X l pre [x] ob W (.bool true)))->J [] none W->Below w.heap.size w W->w.heap.size<=l->Calls prog 104 (#[.func (.yield l) #[] #[]]++lb) W (qR J X l [] new none W (.tuple #[])))
    (hdone:∀(D:Nat)(ob:E8)(W:World),w.heap.size<=D->BI X n0 new ob W->W.heap[D]?=some (.deferred (some []))->Fr (λk=>k=X) w W->Q .normal { a with defers:={ target:=.collected D,args:=#[] }::a.defers } W) (n:Nat):
    (Code.rangeFunc g ps assign body).wpIn Fence.wide n prog Q a w:=by
 refine wpIn_rangeFunc ?_;intro fn hfn;obtain⟨rec,hrec⟩:∃rec:LoopState->Loop,rec=λst=>{ state:=st,pending:=none,fn,tmps:=a.tmps,params:=ps,assign,body,defers:=w.heap.size }:=⟨_,rfl⟩;obtain⟨W1,hW1⟩:∃W1,(w.alloc (.deferred (some []))).alloc (.loop (rec .ready))=W1:=⟨_,rfl⟩;have hL1:W1.heap[w.heap.size+1]?=some (.loop (rec .ready)):=by
  rw[<-hW1];have:=World.alloc_heap_new (w.alloc (.deferred (some []))) (.loop (rec .ready));rwa [World.size_alloc]at this
 have hb1:Below w.heap.size w W1:=by rw[<-hW1];exact Below.and (al w _) (al _ _)
 have hK1:W1.heap[w.heap.size]?=some (.deferred (some [])):=by
  rw[<-hW1];exact(Below.heap_alloc _ _ _ (by simp)).trans (World.alloc_heap_new w _)
 have hz1:W1.heap.size=w.heap.size+2:=by rw[<-hW1];simp
 have hI1:BI X n0 [] none W1:=h0.below hb1
 refine⟨w.heap.size+1,[{ target:=.collected w.heap.size,args:=#[] }],W1,{ target:=.fn (.func 104) lb,args:=#[.func (.yield (w.heap.size+1)) #[] #[]] },W1,104,
  #[.func (.yield (w.heap.size+1)) #[] #[]]++lb,W1,?_,?_,?_,?_,(λh=>nomatch h),?_⟩
 .rw[<-hW1,hrec];exact run_enterLoop_outer _ _ _ _ _
 .simp only[resolve,hg];simp[go_sem]
 .intro f' hf';trivial
 .have eg:=enters_of func104 (by kernel_rfl) rfl;simp[invoke,go_sem,eg]
 .have hcall:=hit (λpre ob W=>BI X n0 pre ob W/\W.heap[w.heap.size+1]?=some (.loop (rec .ready))/\W.heap[w.heap.size]?=some (.deferred (some []))) (w.heap.size+1) W1
   (λpre ob W W' hj hb=>⟨hj.1.below hb,(hb.block _ (X6.1 hj.2.1).1).trans hj.2.1,(hb.block _ (X6.1 hj.2.2).1).trans hj.2.2⟩)
   (λpre ob W hj=>⟨hj.1.lt.1,(X6.1 hj.2.1).1,hj.1.lt.2⟩)
   (λpre ob W hj=>by have⟨v,_,_,h3,_⟩:=hj.1;exact h3) ?_ ⟨hI1,hL1,hK1⟩ hb1 (by omega)
  .refine(callsIn_wide.2 hcall).mono ?_;rintro e W2 ⟨rfl,uD,⟨hI2,hL2,hK2⟩,hF2,_⟩;refine⟨none,_,by have:=run_endLoop (P:=prog) hL2 (by rw[hrec];simp);rw[hrec]at this;exact this,?_⟩;refine hdone w.heap.size uD _ (N8 _) (hI2.putObj hL2 rfl) ((jA (by omega)).trans hK2) ?_;refine⟨hF2.os.trans hb1.os,hF2.tape.trans hb1.tape,hF2.output.trans hb1.output,by rw[World.putObj_size];exact Y2 hb1.size hF2.size,λk hk hn=>?_⟩;rw[jA (by omega),hF2.block k (by omega) (λhw=>by rcases hw with h|h|h;exact hn h;omega;cases h)];exact hb1.block k hk
  .rintro m pre ob W x ab hlen ⟨hi,hl,hk⟩;have hlt:w.heap.size+1<W.heap.size:=(X6.1 hl).1;have hy:=run_yield (P:=prog) (args:=#[.int .i64 x,.int .i64 ab]) hl (by rw[hrec];exact hps.symm);rw[hrec]at hy;refine⟨fn,_,assign,body,hy,roundIn_of_wpIn hfn (hassign _ _ x ab W _ ⟨_,run_beginRound hl (by rw[hrec]),?_⟩)⟩;have hl2:(W.putObj (w.heap.size+1) (.loop { rec .ready with state:=.busy })).heap[w.heap.size+1]?=some (.loop { rec .ready with state:=.busy }):=World.putObj_heap_same hlt;have hk2:(W.putObj (w.heap.size+1) (.loop { rec .ready with state:=.busy })).heap[w.heap.size]?=some (.deferred (some [])):=(jA (by omega)).trans hk;refine wpIn_mono (hbody _ _ pre ob x ab _ (hi.putObj hl rfl) hlen) ?_;rintro e a3 W3 ⟨rfl,ob',hk3,hi3,hf3,ho3⟩;have hl3:=hk3.same _ _ hl2 rfl;have hr:=run_endRound (P:=prog) none hl3;refine⟨_,_,hr,rfl,ob',⟨hi3.putObj hl3 rfl,?_,(jA (by omega)).trans (hk3.same _ _ hk2 rfl)⟩,?_,λc hc=>?_⟩
   .rw[World.putObj_heap_same (X6.1 hl3).1,hrec];rfl
   .refine⟨hf3.os,hf3.tape,hf3.output,by rw[World.putObj_size];have:=hf3.size;rw[World.putObj_size]at this;exact this,λk hk hn=>?_⟩;rw[jA (λe=>hn (.inr (.inl e))),hf3.block k (by rw[World.putObj_size];exact hk) (λhw=>hw.elim (λh=>hn (.inl h)) (λh=>hn (.inr (.inr h)))),jA (λe=>hn (.inr (.inl e)))]
   .have:=ho3 c hc;rwa [World.putObj_size]at this
end
section
open Go Go.F7 Go.RowKit Go.Ev Go.Shelf Proofs.Tryz
set_option maxRecDepth 100000
set_option maxHeartbeats 4000000
attribute [local go_sem] Oper.semAt_some
def dF1{F:Fence}{n:Nat}{P:Program}(w:World){ops:pJ}{rest:Y4}{o:Oper}{a:Act}{Q:dD}
    (hg:o.guard=none) (s x:Operand) (t:TypeId) (hop:o.op=Op.call { callee:=Callee.builtin Builtin.append,args:=#[s,x],argTypes:=#[t,t] }) (vs vx:Value) (hs:a.eval s=vs) (hx:a.eval x=vx) (v':Value) (w':World)
    (hrun:(Builtin.append_ #[t,t] o.type #[vs,vx]).run P w=.ok v' w') (h:wpListIn F n P ops Q rest (a.put o.dst v') w'):wpListIn F n P ops Q (o::rest) a w:=by
 refine wpListIn_plain hg λK hK'=>?_;unfold Oper.wpIn;refine⟨?_,?_⟩
 .simp[Oper.about,hop,resolve,Target.leads,U5]
 .rw[Oper.semAt_plain F _ _ (by rw[hop];intro c hc';cases hc')];simp[execOp,hop,resolve,invoke,builtin,hs,hx,hrun,Result.andThen];exact hK' _ _ h
def dD1{w:World}{rv bv:Value}{id:Int}:Calls prog 54 #[.agg #[rv,bv],.int .i64 id] w λe w'=>e=.returned (.func (.func 104) #[] #[ptr w.heap.size 0,ptr (w.heap.size+1) 0])/\w'=(w.alloc (.cells #[rv,bv] 36)).alloc (.cells #[.int .i64 id] 3):=by
 go_enter func54,ntmps54
 go_wp2
 go_ret
 exact⟨rfl,rfl⟩
def ar0{f:FuncId}{args:G9}{u:Value}(h:Holds prog Gw f args (.v u)){Z:Zone}{w:World}(hg:Gw w){vs:H6}(hr:U0 Z w args vs)(hz:∀b o,Z b o->b<w.heap.size):Calls prog f vs.toArray w λe w'=>e=.returned u/\Below w.heap.size w w':=
 (h.2 Z w vs hr hz (λw' hb=>Gs w w' hg hb)).mono λ_ _ ⟨x,Z',h1,h2,_,_,h5⟩=>by
   have h3:=h2.pure rfl;cases h3;exact⟨h1,h5⟩
def cs8{Z:Zone}{w:World}{t:Tree}{rv bv:Value}{id e9:Int}(hg:Gw w)(hrep:Rep Z w (.agg (gW t)) (.agg #[rv,bv]))(hz:∀b o,Z b o->b<w.heap.size)(hor:XI t id=some e9)(he:e9≠0):
    Calls prog 21 #[.agg #[rv,bv],.int .i64 id] w λe w'=>e=.returned (.tuple #[.slice none 0 0,.int .i64 e9])/\Below w.heap.size w w':=by
 have b0:=al w (.cells #[rv,bv] 36);have h53:=ar0 (cc8 hor) (Gs w _ hg b0) (U0.cons (hrep.keep (CP hz b0)) (U0.cons (.v (.int .i64 id)) (U0.nil _ _))) (λb o h=>aH (hz b o h) b0.size);have he':(e9 !=0)=true:=by simp[he]
 have c0:=(Q5 (o:=0) (bJ w (.cells #[rv,bv] 36)) rfl).1;have c1:=(Q5 (o:=1) (bJ w (.cells #[rv,bv] 36)) rfl).1;refine(callsIn_wide (n:=5)).1 ?_;refine callsIn_of_wp_marks func21 rfl trivial ?_ rfl;simp only[ntmps21,oZ,sD,List.length_nil,Nat.reduceAdd,Nat.reduceSub,Array.replicate_succ,Array.replicate_zero,List.push_toArray,List.append_toArray,uS,List.cons_append]
 gi_wp2_with (refine⟨trivial,?_⟩;gi_at_call 53;refine(callsIn_wide.2 h53).mono ?_;rintro e w1 ⟨rfl,hw1⟩)
 exact⟨_,results_tmp2 rfl _ _ _,rfl,Below.and b0 hw1⟩
def cs9{Z:Zone}{w:World}{t:Tree}{rv bv:Value}{id:Int}{N:Nat}{new:F6}(hg:Gw w)(hrep:Rep Z w (.agg (gW t)) (.agg #[rv,bv]))(hz:∀b o,Z b o->b<w.heap.size)(hor:XI t id=some 0)(hid:id≠0)
    (hpre:uG t N id=some new) (hn:new.length<=4000) (hks:∀id ks,qI t id=some ks->ks.length<=1000000):
    Calls prog 21 #[.agg #[rv,bv],.int .i64 id] w λe w'=>∃v ob,e=.returned (.tuple #[v,.int .i64 0])/\P8 w' 3 1 v new.length (aN new) ob/\Below w.heap.size w w':=by
 have b0:=al w (.cells #[rv,bv] 36);have hB:=bJ w (.cells #[rv,bv] 36);have h53:=ar0 (cc8 hor) (Gs w _ hg b0) (U0.cons (hrep.keep (CP hz b0)) (U0.cons (.v (.int .i64 id)) (U0.nil _ _))) (λb o h=>aH (hz b o h) b0.size);have hs0:w.heap.size<(w.alloc (.cells #[rv,bv] 36)).heap.size:=by simp
 have c0:=(Q5 (o:=0) hB rfl).1;have c1:=(Q5 (o:=1) hB rfl).1;refine(callsIn_wide (n:=5)).1 ?_;refine callsIn_of_wp_marks func21 rfl trivial ?_ rfl;simp only[ntmps21,oZ,sD,List.length_nil,Nat.reduceAdd,Nat.reduceSub,Array.replicate_succ,Array.replicate_zero,List.push_toArray,List.append_toArray,uS,List.cons_append]
 gi_wp2_with (first|(refine⟨trivial,?_⟩;gi_at_call 53;refine(callsIn_wide.2 h53).mono ?_;rintro e w1 ⟨rfl,hw1⟩;have d0:=(Q5 (o:=0) ((hw1.block _ hs0).trans hB) rfl).1;have d1:=(Q5 (o:=1) ((hw1.block _ hs0).trans hB) rfl).1;have l1:=aH hs0 hw1.size;have e0:=((al w1 (.cells #[.slice none 0 0] 26)).cell (p:=⟨w.heap.size,0,none⟩) l1).trans d0;have e1:=((al w1 (.cells #[.slice none 0 0] 26)).cell (p:=⟨w.heap.size,1,none⟩) l1).trans d1)|(refine⟨trivial,?_⟩;gi_at_call 54;refine(callsIn_wide.2 dD1).mono ?_;rintro e w3 ⟨rfl,hw3⟩;have H3:=Lib.hid hw3;clear hw3))
 have s1:w.heap.size<w1.heap.size:=l1;have b01:Below w.heap.size w w1:=Below.and b0 hw1;have b13:Below w1.heap.size w1 w3:=by rw[H3.out];exact Below.and (al w1 _) (Below.and (al _ _) (al _ _))
 have hz3:w3.heap.size=w1.heap.size+3:=by rw[H3.out];simp
 have x3:w3.heap[w1.heap.size]?=some (.cells #[.slice none 0 0] 26 (0,0)):=by
  rw[H3.out,<-bJ w1 (.cells #[.slice none 0 0] 26)];exact(Below.and (al (w1.alloc (.cells #[.slice none 0 0] 26)) (.cells #[rv,bv] 36)) (al _ _)).block _ (by simp)
 have t3:w3.heap[w1.heap.size+1]?=some (.cells #[rv,bv] 36 (0,0)):=by
  have:=bJ (w1.alloc (.cells #[.slice none 0 0] 26)) (.cells #[rv,bv] 36);rw[World.size_alloc]at this;rw[H3.out,<-this];exact(al _ _).block _ (by simp)
 have i3:w3.heap[w1.heap.size+2]?=some (.cells #[.int .i64 id] 3 (0,0)):=by
  have:=bJ ((w1.alloc (.cells #[.slice none 0 0] 26)).alloc (.cells #[rv,bv] 36)) (.cells #[.int .i64 id] 3);rw[World.size_alloc,World.size_alloc]at this;rw[H3.out];exact this
 have g3:Gw w3:=Gs w w3 hg (Below.and b01 b13);clear c0 c1 d0 d1 e0 e1;refine dd3 (X:=w1.heap.size) (n0:=w.heap.size) (M:=4000) (new:=new) rfl rfl ⟨.slice none 0 0,x3,.e none,g3,by simp,λc h=>nomatch h⟩
  (λx ab=>⟨#[.agg #[rv,bv],.int .i64 id,.pointer (some ⟨w.heap.size,0,none⟩),undef,.slice none 0 0,.int .i64 0,.int .i64 0,.pointer (some ⟨w1.heap.size,0,none⟩),.int .i64 x,.agg #[rv,bv],.int .i64 id,.int .i64 0,.int .i64 0,.bool false,undef,.agg #[rv,bv],.int .i64 id,.func (.func 104) #[] #[ptr (w1.heap.size+1) 0,ptr (w1.heap.size+1+1) 0],.int .i64 x,.int .i64 ab,undef,undef,undef,undef,undef],[]⟩) ?assign ?body ?it ?done 5
 case assign=>
  intro m l x ab W K hK
  gi_wp2
  exact hK
 case body=>
  intro m l pre ob x ab W hI hlen;have⟨v,h1,h2,h3,h4,h5⟩:=hI;obtain⟨va,vc,rfl,_⟩:=h2.sl;have c:=(Q5 (o:=0) h1 rfl).1;have vI:=(X6.1 h1).1;have hal:=al W (.cells #[.int .i64 x] 3);have⟨v',W2,ob',hr,hO2,hF,ho⟩:=cq2 (h2.keep λk hk=>hal.block k (h2.lt hk)) (by omega) (bJ W (.cells #[.int .i64 x] 3));obtain⟨va',vc',rfl,_⟩:=hO2.sl;have ZR:Fr (λk=>ob=some k) W W2:=(Fr.of_below hal).trans hF;have x2:=(ZR.block _ vI h4).trans h1;have c2:=(Q5 (o:=0) x2 rfl).1;have f2:=(Q5 (o:=0) x2 rfl).2;have hoW:∀c,ob'=some c->ob=some c\/W.heap.size<=c:=λc hc=>(ho c hc).imp_right (Y2 hal.size);have HR:=Lib.hid hoW
  gi_wp2_with (gi_at_builtin;refine dF1 _ rfl _ _ 26 rfl _ _ rfl rfl _ _ hr ?_)
  refine⟨⟨by rw[ah4];exact ZR.size,λk o hk ho'=>?_⟩,ob',⟨_,PN W2 w1.heap.size 0 _ x2,?_,?_,?_,?_⟩,?_,HR.out⟩
  .have hkX:k≠w1.heap.size:=λe=>by rw[e,h1]at hk;injection hk with hk;rw[<-hk]at ho';cases ho'
   have hko:ob≠some k:=λe=>by have⟨arr,ha⟩:=h2.heap e;rw[ha]at hk;injection hk with hk;rw[<-hk]at ho';cases ho'
   exact(lT W2 _ _ k _ hkX).trans ((ZR.block k (X6.1 hk).1 hko).trans hk)
  .have hne:∀k,ob'=some k->k≠w1.heap.size:=λk hk e=>by
    subst e;rcases HR.out _ hk with h|h
    .exact h4 h
    .omega
   have key:=hO2.keep (w':=W2.setCell ⟨w1.heap.size,0,none⟩ (.slice va' (pre.length+1) vc')) λk hk=>lT W2 _ _ k _ (hne k hk);have hlx:(pre++[x]).length=pre.length+1:=by simp
   rw[hlx]at key⊢;exact key
  .exact bw2 h3 λk arr el fr hk hkm=>by
    have hk0:k<w.heap.size:=by
     have⟨q,hq⟩:=hg;rw[hkm];exact cell_lt (a:=⟨0,0,none⟩) hq
    refine(lT W2 _ _ k _ (by omega)).trans (ZR.block k (X6.1 hk).1 λe=>?_);have:=h5 k e;omega
  .intro e;rcases HR.out _ e with h|h
   .exact h4 h
   .omega
  .intro c hc;rcases HR.out _ hc with h|h
   .exact h5 c h
   .omega
  .exact Fr.WI (ZR.mono λk hk=>.inr hk) (.inl (.inl rfl))
 case it=>
  intro J l W GX BP hJg hR hJ0 hb hl;have hc:∀k arr el,w3.heap[k]?=some (Obj.cells arr el (0,0))->W.heap[k]?=some (Obj.cells arr el (0,0)):=λk arr el h=>(hb.block k (X6.1 h).1).trans h;have hbW:=Below.and (Below.and b01 b13) hb;have hX:=BP _ _ _ hJ0;refine f104 (M:=4000) (t:=t) (rv:=rv) (bv:=bv) (Z:=Z) (id:=id) GX BP (λBy Bt Bv Z' pre ob W hM hJ hV=>visit (M:=4000) GX BP hJg hR hks N id new hpre 0 pre ob W hM hJ hV) (by simpa using hn) hJ0 hid (Q5 (o:=0) (hc _ _ _ t3) rfl).1 (Q5 (o:=1) (hc _ _ _ t3) rfl).1 (Q5 (o:=0) (hc _ _ _ i3) rfl).1 (λhw=>?_) (hrep.keep (CP hz hbW)) (λb o h=>⟨aH (hz b o h) hbW.size,λhw=>?_⟩)
  .rcases hw with h|h|h
   .omega
   .omega
   .cases h
  .have:=hz b o h;rcases hw with h|h|h
   .omega
   .omega
   .cases h
 case done=>
  intro D ob W hD hI hK hF;have⟨v,h1,h2,h3,h4,h5⟩:=hI;obtain⟨va,vc,rfl,_⟩:=h2.sl;have c:=(Q5 (o:=0) h1 rfl).1;have vI:=(X6.1 h1).1;have HF:=Lib.hid hF;clear hF
  gi_wp2
  refine⟨by simp,.inl ⟨_,_,rfl,run_takeDeferred hK,?_⟩⟩;refine⟨_,results_tmp2 rfl _ _ _,_,ob,rfl,h2.keep λk hk=>jA (λe=>?_),?_⟩
  .subst e;have⟨arr,ha⟩:=h2.heap hk;rw[hK]at ha;cases ha
  .have hBW:Below w.heap.size w W:=(HF.out.mono λk hk=>hk).base (Below.and b01 b13) λk hk=>by rw[hk];exact b01.size
   exact⟨hBW.os,hBW.tape,hBW.output,by rw[World.putObj_size];exact hBW.size,λk hk=>(jA (by omega)).trans (hBW.block k hk)⟩
end
section
open Go Go.F7 Proofs.Tryz
set_option maxRecDepth 10000
set_option maxHeartbeats 400000
abbrev bs2(y:Int):CV:=I y
def ZF(b:Branch)(id:Int):gQ:=Option.bind (yK b.Unit.ID id) λy1=>some (y1)
def cE1{b:Branch}{id:Int}{r:Int}(hF:ZF b id=some r):Holds prog Gw 130 [.agg (I4 b),I id] (bs2 r):=by
 refine V9 O9 mixed func130 (by decide) rfl (I8 rfl) ?_;refine l9 ?_;refine E5 hF λy1 h2 hF=>?_;refine l9 ⟨_,aH0 h2,rfl,?_⟩;exact l9 ⟨rfl,congrArg (Option.map bs2) hF⟩
end
section
open Go Go.F7 Go.RowKit Proofs.Tryz
set_option maxRecDepth 100000
set_option maxHeartbeats 4000000
attribute [local go_sem ↓] Go.wp_at_zero Go.wp_at_succ
def zN(w:World)(x:Nat)(o:Opn)(r:Bool):Prop:=o.Before=0\/(o.Before≠0/\∃(pb po:Nat) (hv:Value),At w 75 #[ptr x 0,.int .i64 o.Parent] (ptr pb po)/\pb<w.heap.size/\w.cell? ⟨pb,po,none⟩=some hv/\At w 10 #[hv,.int .i64 o.Before] (.bool r))
def cy5{w:World}{x:Nat}{o:Opn}{i:Int}(h72:At w 72 #[ptr x 0,.int .i64 o.Unit] (.tuple #[.int .i64 i,.bool false]))(hp:D9 w x o.Parent)(aS:At w 74 #[ptr x 0,.int .i64 o.Parent,.int .i64 o.Level] (.int .i64 0))(hb0:o.Before≠0)(hb:zN w x o false):
    Calls prog 32 #[ptr x 0,oval o] w λe' w'=>e'=.returned (.int .i64 7)/\Below w.heap.size w w':=by
 unfold D9 at hp;unfold zN at hb;rcases hp with hp|⟨hp,qb,qo,Y6⟩<;>rcases hb with hb|⟨hb,pb,po,hv,iQ,hpb,hc,h10⟩
 all_goals
  try exact absurd hb hb0
 all_goals
  have bx:=kC w o;have k3:=bx.k3
  first
   |(have hp':(o.Parent !=0)=false:=by simp[hp])
   |(have hp':(o.Parent !=0)=true:=by simp[hp])
  first
   |(have hb':(o.Before !=0)=false:=by simp[hb])
   |(have hb':(o.Before !=0)=true:=by simp[hb])
  clear hp hb hb0
  go_enter func32,ntmps32
  go_wp2_with (first|(go_at_call 72;refine(h72 _ (al w _)).mono ?_;rintro e w1 ⟨rfl,hw1⟩;have k4:=(bx.below hw1).k4;have k6:=(bx.below hw1).k6)|(go_at_call 73;refine(Y6 _ (Below.and (al w _) hw1)).mono ?_;rintro e wp ⟨rfl,hwp⟩;have IE:=(bx.below (Below.and hw1 hwp)).k4;have NT:=(bx.below (Below.and hw1 hwp)).k6)|(go_at_call 74;refine(aS _ (Below.and (al w _) (Below.and hw1 hwp))).mono ?_;rintro e w2 ⟨rfl,hw2⟩)|(go_at_call 74;refine(aS _ (Below.and (al w _) hw1)).mono ?_;rintro e w2 ⟨rfl,hw2⟩))
  first
   |(have Y5:=bx.below (Below.and hw1 (Below.and hwp hw2))
     have hS:=Below.and (al w _) (Below.and hw1 (Below.and hwp hw2))
     clear k3 k4 k6 hw1 hw2 hwp IE NT Y6 h72 aS bx)
   |(have Y5:=bx.below (Below.and hw1 hw2)
     have hS:=Below.and (al w _) (Below.and hw1 hw2)
     clear k3 k4 k6 hw1 hw2 h72 aS bx)
  have g4:=Y5.k4;have g5:=Y5.k5
  first
   |(have hc2:=(hS.cell (p:=⟨pb,po,none⟩) hpb).trans hc
     go_region_held3 (λw'=>w'.cell? ⟨w.heap.size,4,none⟩=some (.int .i64 o.Parent)/\w'.cell? ⟨w.heap.size,5,none⟩=some (.int .i64 o.Before)/\w'.cell? ⟨pb,po,none⟩=some hv) (go_keep) (first|(go_at_call 75;refine(iQ _ (Below.and hS (dr _))).mono ?_;rintro e w3 ⟨rfl,hw3⟩;have bV:=Y5.below (Below.and (dr _) hw3);have MO:=bV.k4;have MR:=bV.k5;have MV:=((Below.and hS (Below.and (dr _) hw3)).cell (p:=⟨pb,po,none⟩) hpb).trans hc)|(go_at_call 10;refine(h10 _ (Below.and hS (Below.and (dr _) hw3))).mono ?_;rintro e w4 ⟨rfl,hw4⟩;have dZ:=bV.below hw4;have MQ:=dZ.k4;have MS:=dZ.k5;have MW:=((Below.and hS (Below.and (dr _) (Below.and hw3 hw4))).cell (p:=⟨pb,po,none⟩) hpb).trans hc))
     have hT:=Below.and hS (Below.and (dr w2) (Below.and hw3 hw4))
     clear hc2 g4 g5 MO MR MV MQ MS MW bV Y5 hw3 hw4 hS iQ h10)
   |(go_quiet (fail)
     rename_i nq;have dZ:=Y5.below (dn w2 nq);have hT:=Below.and hS (dn w2 nq)
     clear g4 g5 hS Y5)
  (go_wp2;go_ret;exact⟨rfl,hT⟩)
def cy6{w:World}{x:Nat}{o:Opn}{i:Int}(h72:At w 72 #[ptr x 0,.int .i64 o.Unit] (.tuple #[.int .i64 i,.bool false]))(hp:D9 w x o.Parent)(aS:At w 74 #[ptr x 0,.int .i64 o.Parent,.int .i64 o.Level] (.int .i64 0))(hb:zN w x o true)(nP:At w 76 #[ptr x 0,.string ⟨⟨o.Mark⟩⟩,.int .i64 0] (.bool true)):
    Calls prog 32 #[ptr x 0,oval o] w λe' w'=>e'=.returned (.int .i64 19)/\Below w.heap.size w w':=by
 unfold D9 at hp;unfold zN at hb;rcases hp with hp|⟨hp,qb,qo,Y6⟩<;>rcases hb with hb|⟨hb,pb,po,hv,iQ,hpb,hc,h10⟩
 all_goals
  have bx:=kC w o;have k3:=bx.k3
  first
   |(have hp':(o.Parent !=0)=false:=by simp[hp])
   |(have hp':(o.Parent !=0)=true:=by simp[hp])
  first
   |(have hb':(o.Before !=0)=false:=by simp[hb])
   |(have hb':(o.Before !=0)=true:=by simp[hb])
  clear hp hb
  go_enter func32,ntmps32
  go_wp2_with (first|(go_at_call 72;refine(h72 _ (al w _)).mono ?_;rintro e w1 ⟨rfl,hw1⟩;have k4:=(bx.below hw1).k4;have k6:=(bx.below hw1).k6)|(go_at_call 73;refine(Y6 _ (Below.and (al w _) hw1)).mono ?_;rintro e wp ⟨rfl,hwp⟩;have IE:=(bx.below (Below.and hw1 hwp)).k4;have NT:=(bx.below (Below.and hw1 hwp)).k6)|(go_at_call 74;refine(aS _ (Below.and (al w _) (Below.and hw1 hwp))).mono ?_;rintro e w2 ⟨rfl,hw2⟩)|(go_at_call 74;refine(aS _ (Below.and (al w _) hw1)).mono ?_;rintro e w2 ⟨rfl,hw2⟩))
  first
   |(have Y5:=bx.below (Below.and hw1 (Below.and hwp hw2))
     have hS:=Below.and (al w _) (Below.and hw1 (Below.and hwp hw2))
     clear k3 k4 k6 hw1 hw2 hwp IE NT Y6 h72 aS bx)
   |(have Y5:=bx.below (Below.and hw1 hw2)
     have hS:=Below.and (al w _) (Below.and hw1 hw2)
     clear k3 k4 k6 hw1 hw2 h72 aS bx)
  have g4:=Y5.k4;have g5:=Y5.k5
  first
   |(have hc2:=(hS.cell (p:=⟨pb,po,none⟩) hpb).trans hc
     go_region_held3 (λw'=>w'.cell? ⟨w.heap.size,4,none⟩=some (.int .i64 o.Parent)/\w'.cell? ⟨w.heap.size,5,none⟩=some (.int .i64 o.Before)/\w'.cell? ⟨pb,po,none⟩=some hv) (go_keep) (first|(go_at_call 75;refine(iQ _ (Below.and hS (dr _))).mono ?_;rintro e w3 ⟨rfl,hw3⟩;have bV:=Y5.below (Below.and (dr _) hw3);have MO:=bV.k4;have MR:=bV.k5;have MV:=((Below.and hS (Below.and (dr _) hw3)).cell (p:=⟨pb,po,none⟩) hpb).trans hc)|(go_at_call 10;refine(h10 _ (Below.and hS (Below.and (dr _) hw3))).mono ?_;rintro e w4 ⟨rfl,hw4⟩;have dZ:=bV.below hw4;have MQ:=dZ.k4;have MS:=dZ.k5;have MW:=((Below.and hS (Below.and (dr _) (Below.and hw3 hw4))).cell (p:=⟨pb,po,none⟩) hpb).trans hc))
     have hT:=Below.and hS (Below.and (dr w2) (Below.and hw3 hw4))
     clear hc2 g4 g5 MO MR MV MQ MS MW bV Y5 hw3 hw4 hS iQ h10)
   |(go_quiet (fail)
     rename_i nq;have dZ:=Y5.below (dn w2 nq);have hT:=Below.and hS (dn w2 nq)
     clear g4 g5 hS Y5)
  have m8:=dZ.k8
  go_wp2_with (go_at_call 76;refine(nP _ hT).mono ?_;rintro e w5 ⟨rfl,hw5⟩)
  go_ret
  exact⟨rfl,Below.and hT hw5⟩
def cy7{w:World}{x:Nat}{o:Opn}{i:Int}(h72:At w 72 #[ptr x 0,.int .i64 o.Unit] (.tuple #[.int .i64 i,.bool false]))(hp:D9 w x o.Parent)(aS:At w 74 #[ptr x 0,.int .i64 o.Parent,.int .i64 o.Level] (.int .i64 0))(hb:zN w x o true)(nP:At w 76 #[ptr x 0,.string ⟨⟨o.Mark⟩⟩,.int .i64 0] (.bool false)){ad:qP}{n cp:Nat}(hx:x<w.heap.size)(hl:w.cell? ⟨x,1,none⟩=some (.slice ad n cp))(hn:256<=n):
    Calls prog 32 #[ptr x 0,oval o] w λe' w'=>e'=.returned (.int .i64 8)/\Below w.heap.size w w':=by
 have hn':(n:Int)>=256:=by omega
 unfold D9 at hp;unfold zN at hb;rcases hp with hp|⟨hp,qb,qo,Y6⟩<;>rcases hb with hb|⟨hb,pb,po,hv,iQ,hpb,hc,h10⟩
 all_goals
  have bx:=kC w o;have k3:=bx.k3
  first
   |(have hp':(o.Parent !=0)=false:=by simp[hp])
   |(have hp':(o.Parent !=0)=true:=by simp[hp])
  first
   |(have hb':(o.Before !=0)=false:=by simp[hb])
   |(have hb':(o.Before !=0)=true:=by simp[hb])
  clear hp hb
  go_enter func32,ntmps32
  go_wp2_with (first|(go_at_call 72;refine(h72 _ (al w _)).mono ?_;rintro e w1 ⟨rfl,hw1⟩;have k4:=(bx.below hw1).k4;have k6:=(bx.below hw1).k6)|(go_at_call 73;refine(Y6 _ (Below.and (al w _) hw1)).mono ?_;rintro e wp ⟨rfl,hwp⟩;have IE:=(bx.below (Below.and hw1 hwp)).k4;have NT:=(bx.below (Below.and hw1 hwp)).k6)|(go_at_call 74;refine(aS _ (Below.and (al w _) (Below.and hw1 hwp))).mono ?_;rintro e w2 ⟨rfl,hw2⟩)|(go_at_call 74;refine(aS _ (Below.and (al w _) hw1)).mono ?_;rintro e w2 ⟨rfl,hw2⟩))
  first
   |(have Y5:=bx.below (Below.and hw1 (Below.and hwp hw2))
     have hS:=Below.and (al w _) (Below.and hw1 (Below.and hwp hw2))
     clear k3 k4 k6 hw1 hw2 hwp IE NT Y6 h72 aS bx)
   |(have Y5:=bx.below (Below.and hw1 hw2)
     have hS:=Below.and (al w _) (Below.and hw1 hw2)
     clear k3 k4 k6 hw1 hw2 h72 aS bx)
  have g4:=Y5.k4;have g5:=Y5.k5
  first
   |(have hc2:=(hS.cell (p:=⟨pb,po,none⟩) hpb).trans hc
     go_region_held3 (λw'=>w'.cell? ⟨w.heap.size,4,none⟩=some (.int .i64 o.Parent)/\w'.cell? ⟨w.heap.size,5,none⟩=some (.int .i64 o.Before)/\w'.cell? ⟨pb,po,none⟩=some hv) (go_keep) (first|(go_at_call 75;refine(iQ _ (Below.and hS (dr _))).mono ?_;rintro e w3 ⟨rfl,hw3⟩;have bV:=Y5.below (Below.and (dr _) hw3);have MO:=bV.k4;have MR:=bV.k5;have MV:=((Below.and hS (Below.and (dr _) hw3)).cell (p:=⟨pb,po,none⟩) hpb).trans hc)|(go_at_call 10;refine(h10 _ (Below.and hS (Below.and (dr _) hw3))).mono ?_;rintro e w4 ⟨rfl,hw4⟩;have dZ:=bV.below hw4;have MQ:=dZ.k4;have MS:=dZ.k5;have MW:=((Below.and hS (Below.and (dr _) (Below.and hw3 hw4))).cell (p:=⟨pb,po,none⟩) hpb).trans hc))
     have hT:=Below.and hS (Below.and (dr w2) (Below.and hw3 hw4))
     clear hc2 g4 g5 MO MR MV MQ MS MW bV Y5 hw3 hw4 hS iQ h10)
   |(go_quiet (fail)
     rename_i nq;have dZ:=Y5.below (dn w2 nq);have hT:=Below.and hS (dn w2 nq)
     clear g4 g5 hS Y5)
  have m8:=dZ.k8
  go_wp2_with (go_at_call 76;refine(nP _ hT).mono ?_;rintro e w5 ⟨rfl,hw5⟩;have c1:=((Below.and hT hw5).cell (p:=⟨x,1,none⟩) hx).trans hl)
  go_ret
  exact⟨rfl,Below.and hT hw5⟩
end
section
open Go Go.F7 Go.RowKit Proofs.Tryz
set_option maxRecDepth 100000
set_option maxHeartbeats 4000000
attribute [local go_sem ↓] Go.wp_at_zero Go.wp_at_succ
def cy8{w0:World}{L:Lay}{Q Q':aB}{z:Int}{a:Nat}{w:World}{o:Opn}(h72:At w 72 #[ptr L.x 0,.int .i64 o.Unit] (.tuple #[.int .i64 a,.bool false]))(hp:D9 w L.x o.Parent)(aS:At w 74 #[ptr L.x 0,.int .i64 o.Parent,.int .i64 o.Level] (.int .i64 0))(hb:zN w L.x o true)(nP:At w 76 #[ptr L.x 0,.string ⟨⟨o.Mark⟩⟩,.int .i64 0] (.bool false))(hE:Ed w0 w L)(hn:L.rows.length<256)(ha:a<=L.rows.length)(hins:RF 77 52 6)
    (hput:∀(W:World)(v':Value)(o':E8),Ed w0 W { L with bv:=v',bo:=o',rows:=L.rows.take a++[newRow o]++L.rows.drop a }->Calls prog 78 #[ptr L.x 0,.int .i64 o.Unit,.int .i64 o.Parent,.int .i64 o.Before] W λe W'=>e=.returned (.tuple #[])/\Q W')
    (hlim:∀W,Q W->Calls prog 79 #[ptr L.x 0] W λe W'=>e=.returned (.int .i64 z)/\Q' W'):
    Calls prog 32 #[ptr L.x 0,oval o] w λe' w'=>e'=.returned (.int .i64 z)/\Q' w':=by
 obtain⟨ad,cp,hbv,hcp⟩:=hE.hb.sl;have hx:=hE.dI (p:=.x) rfl;have hl:=hE.c1;rw[hbv]at hl;have hn':¬((L.rows.length:Int)>=256):=by omega
 have hI':∀W:World,Below w.heap.size w W->Calls prog 77 #[.slice ad L.rows.length cp,.int .i64 a,.slice (some ⟨W.heap.size,0,none⟩) 1 1] (W.drew.alloc (.cells #[.int .i64 o.Unit,.int .i64 o.Parent,.int .i64 o.Level,.string ⟨⟨o.Title⟩⟩,.string ⟨⟨o.Mark⟩⟩,.slice none 0 0] 52)) λe W'=>
  ∃ad' cp' o',e=.returned (.slice ad' (L.rows.length+1) cp')/\(∀c k,w.heap.size<=c->c<W.heap.size->W'.cell? ⟨c,k,none⟩=W.cell? ⟨c,k,none⟩)/\W'.cell? ⟨L.x,1,none⟩=some (.slice ad L.rows.length cp)/\W'.frozen? ⟨L.x,1,none⟩=false/\
  Ed w0 (W'.setCell ⟨L.x,1,none⟩ (.slice ad' (L.rows.length+1) cp')) { L with bv:=.slice ad' (L.rows.length+1) cp',bo:=o',rows:=L.rows.take a++[newRow o]++L.rows.drop a }:=λW hW=>by
  have hb:Below w.heap.size w (W.drew.alloc (.cells #[.int .i64 o.Unit,.int .i64 o.Parent,.int .i64 o.Level,.string ⟨⟨o.Title⟩⟩,.string ⟨⟨o.Mark⟩⟩,.slice none 0 0] 52)):=Below.and hW (Below.and (dr W) (al W.drew _));have hE':=hE.below hb;rw[<-hbv];refine(hins hE'.hb ha (by omega) (bJ W.drew _) (by simp) (λv hv=>?_) (λh=>by have:=hE.hb.lt h;have:=hW.size;have e:W.drew.heap.size=W.heap.size:=rfl;omega)).mono ?_
  .simp at hv;rcases hv with rfl|rfl|rfl|rfl|rfl|rfl<;>rfl
  .rintro e W' ⟨v',o',rfl,hO,ho',hf⟩;obtain⟨ad',cp',rfl,dR9⟩:=hO.sl;have hkx:W'.heap[L.x]?=_:=(hf.block L.x (hE'.dI (p:=.x) rfl) (λh=>by have:=hE.nd .b .x L.x h rfl;cases this)).trans hE'.hx;have hsz:W.heap.size<=(W.drew.alloc (.cells #[.int .i64 o.Unit,.int .i64 o.Parent,.int .i64 o.Level,.string ⟨⟨o.Title⟩⟩,.string ⟨⟨o.Mark⟩⟩,.slice none 0 0] 52)).heap.size:=(Below.and (dr W) (al W.drew _)).size;refine⟨ad',cp',o',rfl,λc k h1 h2=>?_,(Q5 hkx rfl).1,(Q5 hkx rfl).2,?_⟩
   .refine FK (a:=⟨c,k,none⟩) ((hf.block c (aH h2 hsz) (λh=>by have:=hE.hb.lt h;omega)).trans ((Below.and (dr W) (al W.drew _)).block c h2))
   .refine hE'.setB (rows':=L.rows.take a++[newRow o]++L.rows.drop a) (by rw[cR2 ha,aY7,aY7,bQ6,bQ5];exact hO) (λc hc=>?_) hf (NQ a) (λi r hr=>?_) (cR1 a)
    .rcases ho' with rfl|⟨b',rfl,hsz⟩
     .exact .inl hc
     .injection hc with hc;subst hc;exact .inr hsz
    .rcases cQ9 ha hr with⟨j,h1,h2⟩|⟨h1,rfl⟩
     .exact .inl ⟨j,h1,h2⟩
     .exact .inr ⟨h1,rfl,rfl,rfl⟩
 have H:=Lib.hid hbv;clear hbv;unfold D9 at hp;unfold zN at hb;rcases hp with hp|⟨hp,qb,qo,Y6⟩<;>rcases hb with hb|⟨hb,pb,po,hv,iQ,hpb,hc,h10⟩
 all_goals
  have bx:=kC w o;have k3:=bx.k3
  first
   |(have hp':(o.Parent !=0)=false:=by simp[hp])
   |(have hp':(o.Parent !=0)=true:=by simp[hp])
  first
   |(have hb':(o.Before !=0)=false:=by simp[hb])
   |(have hb':(o.Before !=0)=true:=by simp[hb])
  clear hp hb
  go_enter func32,ntmps32
  go_wp2_with (first|(go_at_call 72;refine(h72 _ (al w _)).mono ?_;rintro e w1 ⟨rfl,hw1⟩;have k4:=(bx.below hw1).k4;have k6:=(bx.below hw1).k6)|(go_at_call 73;refine(Y6 _ (Below.and (al w _) hw1)).mono ?_;rintro e wp ⟨rfl,hwp⟩;have IE:=(bx.below (Below.and hw1 hwp)).k4;have NT:=(bx.below (Below.and hw1 hwp)).k6)|(go_at_call 74;refine(aS _ (Below.and (al w _) (Below.and hw1 hwp))).mono ?_;rintro e w2 ⟨rfl,hw2⟩)|(go_at_call 74;refine(aS _ (Below.and (al w _) hw1)).mono ?_;rintro e w2 ⟨rfl,hw2⟩))
  first
   |(have Y5:=bx.below (Below.and hw1 (Below.and hwp hw2))
     have hS:=Below.and (al w _) (Below.and hw1 (Below.and hwp hw2))
     clear k3 k4 k6 hw1 hw2 hwp IE NT Y6 h72 aS bx)
   |(have Y5:=bx.below (Below.and hw1 hw2)
     have hS:=Below.and (al w _) (Below.and hw1 hw2)
     clear k3 k4 k6 hw1 hw2 h72 aS bx)
  have g4:=Y5.k4;have g5:=Y5.k5
  first
   |(have hc2:=(hS.cell (p:=⟨pb,po,none⟩) hpb).trans hc
     go_region_held3 (λw'=>w'.cell? ⟨w.heap.size,4,none⟩=some (.int .i64 o.Parent)/\w'.cell? ⟨w.heap.size,5,none⟩=some (.int .i64 o.Before)/\w'.cell? ⟨pb,po,none⟩=some hv) (go_keep) (first|(go_at_call 75;refine(iQ _ (Below.and hS (dr _))).mono ?_;rintro e w3 ⟨rfl,hw3⟩;have bV:=Y5.below (Below.and (dr _) hw3);have MO:=bV.k4;have MR:=bV.k5;have MV:=((Below.and hS (Below.and (dr _) hw3)).cell (p:=⟨pb,po,none⟩) hpb).trans hc)|(go_at_call 10;refine(h10 _ (Below.and hS (Below.and (dr _) hw3))).mono ?_;rintro e w4 ⟨rfl,hw4⟩;have dZ:=bV.below hw4;have MQ:=dZ.k4;have MS:=dZ.k5;have MW:=((Below.and hS (Below.and (dr _) (Below.and hw3 hw4))).cell (p:=⟨pb,po,none⟩) hpb).trans hc))
     have hT:=Below.and hS (Below.and (dr w2) (Below.and hw3 hw4))
     clear hc2 g4 g5 MO MR MV MQ MS MW bV Y5 hw3 hw4 hS iQ h10)
   |(go_quiet (fail)
     rename_i nq;have dZ:=Y5.below (dn w2 nq);have hT:=Below.and hS (dn w2 nq)
     clear g4 g5 hS Y5)
  have m8:=dZ.k8
  go_wp2_with (go_at_call 76;refine(nP _ hT).mono ?_;rintro e w5 ⟨rfl,hw5⟩;have c1:=((Below.and hT hw5).cell (p:=⟨L.x,1,none⟩) hx).trans hl;have iL:=dZ.below hw5;have q3:=iL.k3;have q4:=iL.k4;have q6:=iL.k6;have q7:=iL.k7;have q8:=iL.k8)
  have jC:Below w.heap.size w (w5.alloc (.cells #[.int .i64 o.Unit,.int .i64 o.Parent,.int .i64 o.Level,.string ⟨⟨o.Title⟩⟩,.string ⟨⟨o.Mark⟩⟩] 50)):=Below.and hT (Below.and hw5 (al w5 _));have hu:=bJ w5 (.cells #[.int .i64 o.Unit,.int .i64 o.Parent,.int .i64 o.Level,.string ⟨⟨o.Title⟩⟩,.string ⟨⟨o.Mark⟩⟩] 50);have mO:=iL.below (al w5 (.cells #[.int .i64 o.Unit,.int .i64 o.Parent,.int .i64 o.Level,.string ⟨⟨o.Title⟩⟩,.string ⟨⟨o.Mark⟩⟩] 50));have hx5:=(Below.and hT hw5).size;clear m8 q3 q4 q6 q7 q8 dZ iL c1 hw5 hT nP;generalize w5.alloc (.cells #[.int .i64 o.Unit,.int .i64 o.Parent,.int .i64 o.Level,.string ⟨⟨o.Title⟩⟩,.string ⟨⟨o.Mark⟩⟩] 50)=W5 at jC hu mO⊢;generalize w5.heap.size=u at hu hx5⊢;have c1:=(jC.cell (p:=⟨L.x,1,none⟩) hx).trans hl;have u0:=(Q5 (o:=0) hu rfl).1;have u1:=(Q5 (o:=1) hu rfl).1;have u2:=(Q5 (o:=2) hu rfl).1;have u3:=(Q5 (o:=3) hu rfl).1;have u4:=(Q5 (o:=4) hu rfl).1;have hu5:u<W5.heap.size:=(X6.1 hu).1;have hx6:L.x<W5.heap.size:=aH hx jC.size;have hI:=hI' W5 jC;have hb6:=mO.lt;have hxo:w.heap.size≠L.x:=by omega
  go_region_with
   (first|(go_at_call 77;refine hI.mono ?_;rintro e w7 ⟨ad',cp',o',rfl,hold,c7,f7,hE7⟩;have v3:=(SI w7 1 (.slice ad' (L.rows.length+1) cp') hxo 3).trans ((hold _ 3 (N8 _) hb6).trans mO.k3);have v4:=(SI w7 1 (.slice ad' (L.rows.length+1) cp') hxo 4).trans ((hold _ 4 (N8 _) hb6).trans mO.k4);have v5:=(SI w7 1 (.slice ad' (L.rows.length+1) cp') hxo 5).trans ((hold _ 5 (N8 _) hb6).trans mO.k5);clear hold))
  all_goals
   go_wp2_with (first|(go_at_call 78;refine(hput _ _ _ hE7).mono ?_;rintro e w8 ⟨rfl,hQ⟩)|(go_at_call 79;refine(hlim _ hQ).mono ?_;rintro e w9 ⟨rfl,hQ'⟩))
   go_ret
   exact⟨rfl,hQ'⟩
end
section
open Go Go.F7 Go.RowKit Proofs.Tryz
set_option maxRecDepth 100000
set_option maxHeartbeats 4000000
attribute [local go_sem ↓] Go.wp_at_zero Go.wp_at_succ
def Bx.hold{w w':World}{p:Nat}{o:Opn}(h:Bx w p o)(hw:∀k,w'.cell? ⟨p,k,none⟩=w.cell? ⟨p,k,none⟩):Bx w' p o:=
 ⟨(hw 3).trans h.k3,(hw 4).trans h.k4,(hw 5).trans h.k5,(hw 6).trans h.k6,(hw 7).trans h.k7,(hw 8).trans h.k8⟩
def cZ2{w:World}{x:Nat}{o:Opn}(Y6:At w 73 #[ptr x 0,.int .i64 o.Unit] (.pointer none)):
    Calls prog 33 #[ptr x 0,oval o] w λe w'=>e=.returned (.int .i64 7)/\Below w.heap.size w w':=by
 have k3:=(kC w o).k3
 go_enter func33,ntmps33
 go_wp2_with (go_at_call 73;refine(Y6 _ (al w _)).mono ?_;rintro e w1 ⟨rfl,hw1⟩)
 go_ret
 exact⟨rfl,Below.and (al w _) hw1⟩
def cZ3{w:World}{x b p:Nat}{o:Opn}(Y6:At w 73 #[ptr x 0,.int .i64 o.Unit] (ptr b p))(hp:o.Parent≠0)(nO:At w 73 #[ptr x 0,.int .i64 o.Parent] (.pointer none)):
    Calls prog 33 #[ptr x 0,oval o] w λe w'=>e=.returned (.int .i64 7)/\Below w.heap.size w w':=by
 have bx:=kC w o;have k3:=bx.k3;have hp':(o.Parent !=0)=true:=by simp[hp]
 clear hp
 go_enter func33,ntmps33
 go_wp2_with fail
 refine(Y6 _ (al w _)).mono ?_;rintro e w1 ⟨rfl,hw1⟩;have k4:=(bx.below hw1).k4;clear Y6
 go_wp2_with (go_at_call 73;refine(nO _ (Below.and (al w _) hw1)).mono ?_;rintro e w2 ⟨rfl,hw2⟩)
 go_ret
 exact⟨rfl,Below.and (Below.and (al w _) hw1) hw2⟩
def cZ4{w:World}{x:Nat}{o:Opn}{b k:Nat}{rv bv:Value}(hx:x<w.heap.size)(hc0:w.cell? ⟨x,0,none⟩=some rv)(hc1:w.cell? ⟨x,1,none⟩=some bv)(Y6:At w 73 #[ptr x 0,.int .i64 o.Unit] (ptr b (k*6)))(hp:D9 w x o.Parent)(h21:∀W,Below w.heap.size w W->Calls prog 21 #[.agg #[rv,bv],.int .i64 o.Unit] W λe W'=>∃v e9,e=.returned (.tuple #[v,.int .i64 e9])/\Below W.heap.size W W'/\At W' 10 #[v,.int .i64 o.Parent] (.bool true)):
    Calls prog 33 #[ptr x 0,oval o] w λe' w'=>e'=.returned (.int .i64 17)/\Below w.heap.size w w':=by
 unfold D9 at hp;rcases hp with hp|⟨hp,qb,qo,nO⟩
 all_goals
  have bx:=kC w o;have k3:=bx.k3
  first
   |(have hp':(o.Parent !=0)=false:=by simp[hp])
   |(have hp':(o.Parent !=0)=true:=by simp[hp])
  clear hp
  go_enter func33,ntmps33
  go_wp2_with fail
  refine(Y6 _ (al w _)).mono ?_;rintro e w1 ⟨rfl,hw1⟩;have k4:=(bx.below hw1).k4;clear Y6
  first
   |(have g0:=nO
     go_wp2_with (go_at_call 73;refine(nO _ (Below.and (al w _) hw1)).mono ?_;rintro e w2 ⟨rfl,hw2⟩)
     have hS:=Below.and (al w _) (Below.and hw1 hw2);have Y5:=bx.below (Below.and hw1 hw2)
     clear g0 hw2 nO)
   |(go_wp2_with fail
     have hS:=Below.and (al w _) hw1;have Y5:=bx.below hw1;obtain⟨w2,hw2⟩:∃w2,w2=w1:=⟨_,rfl⟩;rw[<-hw2]at hS Y5⊢
     clear hw2)
  clear k3 k4 hw1 bx;have g3:=Y5.k3;have d0:=(hS.cell (p:=⟨x,0,none⟩) hx).trans hc0;have d1:=(hS.cell (p:=⟨x,1,none⟩) hx).trans hc1
  go_region_held3 (λw'=>w'.cell? ⟨w.heap.size,3,none⟩=some (.int .i64 o.Unit)/\w'.cell? ⟨x,0,none⟩=some rv/\w'.cell? ⟨x,1,none⟩=some bv) (go_keep)
   (first|(go_at_call 21;refine(h21 _ (Below.and hS (dr _))).mono ?_;rintro e w3 ⟨v,e9,rfl,hw3,h10⟩;have bV:=Y5.below (Below.and (dr _) hw3);have MN:=bV.k3;have LW:=((Below.and hS (Below.and (dr _) hw3)).cell (p:=⟨x,0,none⟩) hx).trans hc0;have d13:=((Below.and hS (Below.and (dr _) hw3)).cell (p:=⟨x,1,none⟩) hx).trans hc1))
  have hT:=Below.and hS (Below.and (dr w2) hw3);clear g3 d0 d1 MN LW d13 Y5 h21 hw3 hS;have m4:=bV.k4
  go_wp2_with (go_at_call 10;refine h10.here.mono ?_;rintro e w4 ⟨rfl,hw4⟩)
  go_ret
  exact⟨rfl,Below.and hT hw4⟩
def cZ5{w:World}{x:Nat}{o:Opn}{b k:Nat}{rv bv:Value}(hx:x<w.heap.size)(hc0:w.cell? ⟨x,0,none⟩=some rv)(hc1:w.cell? ⟨x,1,none⟩=some bv)(Y6:At w 73 #[ptr x 0,.int .i64 o.Unit] (ptr b (k*6)))(hp:D9 w x o.Parent)(h21:∀W,Below w.heap.size w W->Calls prog 21 #[.agg #[rv,bv],.int .i64 o.Unit] W λe W'=>∃v e9,e=.returned (.tuple #[v,.int .i64 e9])/\Below W.heap.size W W'/\At W' 10 #[v,.int .i64 o.Parent] (.bool false))(hb:b<w.heap.size){xB z:Int}(rD:w.cell? ⟨b,k*6+2,none⟩=some (.int .i64 xB))(aS:At w 74 #[ptr x 0,.int .i64 o.Parent,.int .i64 xB] (.int .i64 z))(hz:z≠0):
    Calls prog 33 #[ptr x 0,oval o] w λe' w'=>e'=.returned (.int .i64 z)/\Below w.heap.size w w':=by
 unfold D9 at hp;rcases hp with hp|⟨hp,qb,qo,nO⟩
 all_goals
  have bx:=kC w o;have k3:=bx.k3
  first
   |(have hp':(o.Parent !=0)=false:=by simp[hp])
   |(have hp':(o.Parent !=0)=true:=by simp[hp])
  clear hp;have hz':(z !=0)=true:=by simp[hz]
  clear hz
  go_enter func33,ntmps33
  go_wp2_with fail
  refine(Y6 _ (al w _)).mono ?_;rintro e w1 ⟨rfl,hw1⟩;have k4:=(bx.below hw1).k4;clear Y6
  first
   |(have g0:=nO
     go_wp2_with (go_at_call 73;refine(nO _ (Below.and (al w _) hw1)).mono ?_;rintro e w2 ⟨rfl,hw2⟩)
     have hS:=Below.and (al w _) (Below.and hw1 hw2);have Y5:=bx.below (Below.and hw1 hw2)
     clear g0 hw2 nO)
   |(go_wp2_with fail
     have hS:=Below.and (al w _) hw1;have Y5:=bx.below hw1;obtain⟨w2,hw2⟩:∃w2,w2=w1:=⟨_,rfl⟩;rw[<-hw2]at hS Y5⊢
     clear hw2)
  clear k3 k4 hw1 bx;have g3:=Y5.k3;have d0:=(hS.cell (p:=⟨x,0,none⟩) hx).trans hc0;have d1:=(hS.cell (p:=⟨x,1,none⟩) hx).trans hc1
  go_region_held3 (λw'=>w'.cell? ⟨w.heap.size,3,none⟩=some (.int .i64 o.Unit)/\w'.cell? ⟨x,0,none⟩=some rv/\w'.cell? ⟨x,1,none⟩=some bv) (go_keep)
   (first|(go_at_call 21;refine(h21 _ (Below.and hS (dr _))).mono ?_;rintro e w3 ⟨v,e9,rfl,hw3,h10⟩;have bV:=Y5.below (Below.and (dr _) hw3);have MN:=bV.k3;have LW:=((Below.and hS (Below.and (dr _) hw3)).cell (p:=⟨x,0,none⟩) hx).trans hc0;have d13:=((Below.and hS (Below.and (dr _) hw3)).cell (p:=⟨x,1,none⟩) hx).trans hc1))
  have hT:=Below.and hS (Below.and (dr w2) hw3);clear g3 d0 d1 MN LW d13 Y5 h21 hw3 hS;have m4:=bV.k4
  go_wp2_with (go_at_call 10;refine h10.here.mono ?_;rintro e w4 ⟨rfl,hw4⟩)
  have hT2:=Below.and hT hw4;have dZ:=bV.below hw4;have n4:=dZ.k4;have l4:=(hT2.cell (p:=⟨b,k*6+2,none⟩) hb).trans rD;clear m4 hT bV hw4 h10
  go_region_held3 (λw'=>w'.cell? ⟨w.heap.size,4,none⟩=some (.int .i64 o.Parent)/\w'.cell? ⟨b,k*6+2,none⟩=some (.int .i64 xB)) (go_keep)
   (first|(go_at_call 74;refine(aS _ (Below.and hT2 (dr _))).mono ?_;rintro e w5 ⟨rfl,hw5⟩;have iL:=dZ.below (Below.and (dr _) hw5);have n5:=iL.k4;have l5:=((Below.and hT2 (Below.and (dr _) hw5)).cell (p:=⟨b,k*6+2,none⟩) hb).trans rD))
  have jC:=Below.and hT2 (Below.and (dr w4) hw5);clear n4 l4 n5 l5 dZ hT2 hw5 aS
  go_wp2_with fail
  go_ret
  exact⟨rfl,jC⟩
def bG9{w:World}{x:Nat}{o:Opn}{b k:Nat}{rv bv:Value}(hx:x<w.heap.size)(hc0:w.cell? ⟨x,0,none⟩=some rv)(hc1:w.cell? ⟨x,1,none⟩=some bv)(Y6:At w 73 #[ptr x 0,.int .i64 o.Unit] (ptr b (k*6)))(hp:D9 w x o.Parent)(h21:∀W,Below w.heap.size w W->Calls prog 21 #[.agg #[rv,bv],.int .i64 o.Unit] W λe W'=>∃v e9,e=.returned (.tuple #[v,.int .i64 e9])/\Below W.heap.size W W'/\At W' 10 #[v,.int .i64 o.Parent] (.bool false))(hb:b<w.heap.size){xB:Int}(rD:w.cell? ⟨b,k*6+2,none⟩=some (.int .i64 xB))(aS:At w 74 #[ptr x 0,.int .i64 o.Parent,.int .i64 xB] (.int .i64 0))(hb0:o.Before≠0)(hb:o.Before=o.Unit\/(o.Before≠o.Unit/\∃(pb po:Nat) (hv:Value),At w 75 #[ptr x 0,.int .i64 o.Parent] (ptr pb po)/\pb<w.heap.size/\w.cell? ⟨pb,po,none⟩=some hv/\At w 10 #[hv,.int .i64 o.Before] (.bool false))):
    Calls prog 33 #[ptr x 0,oval o] w λe' w'=>e'=.returned (.int .i64 7)/\Below w.heap.size w w':=by
 unfold D9 at hp;rcases hp with hp|⟨hp,qb,qo,nO⟩<;>rcases hb with hbu|⟨hbu,pb,po,hv,iQ,hpb,hc,aL5⟩
 all_goals
  have bx:=kC w o;have k3:=bx.k3
  first
   |(have hp':(o.Parent !=0)=false:=by simp[hp])
   |(have hp':(o.Parent !=0)=true:=by simp[hp])
  clear hp;have hb':(o.Before !=0)=true:=by simp[hb0]
  first
   |(have hu':(o.Before==o.Unit)=true:=by simp[hbu])
   |(have hu':(o.Before==o.Unit)=false:=by simp[hbu])
  clear hb0 hbu
  go_enter func33,ntmps33
  go_wp2_with fail
  refine(Y6 _ (al w _)).mono ?_;rintro e w1 ⟨rfl,hw1⟩;have k4:=(bx.below hw1).k4;clear Y6
  first
   |(have g0:=nO
     go_wp2_with (go_at_call 73;refine(nO _ (Below.and (al w _) hw1)).mono ?_;rintro e w2 ⟨rfl,hw2⟩)
     have hS:=Below.and (al w _) (Below.and hw1 hw2);have Y5:=bx.below (Below.and hw1 hw2)
     clear g0 hw2 nO)
   |(go_wp2_with fail
     have hS:=Below.and (al w _) hw1;have Y5:=bx.below hw1;obtain⟨w2,hw2⟩:∃w2,w2=w1:=⟨_,rfl⟩;rw[<-hw2]at hS Y5⊢
     clear hw2)
  clear k3 k4 hw1 bx;have g3:=Y5.k3;have d0:=(hS.cell (p:=⟨x,0,none⟩) hx).trans hc0;have d1:=(hS.cell (p:=⟨x,1,none⟩) hx).trans hc1
  go_region_held3 (λw'=>w'.cell? ⟨w.heap.size,3,none⟩=some (.int .i64 o.Unit)/\w'.cell? ⟨x,0,none⟩=some rv/\w'.cell? ⟨x,1,none⟩=some bv) (go_keep)
   (first|(go_at_call 21;refine(h21 _ (Below.and hS (dr _))).mono ?_;rintro e w3 ⟨v,e9,rfl,hw3,h10⟩;have bV:=Y5.below (Below.and (dr _) hw3);have MN:=bV.k3;have LW:=((Below.and hS (Below.and (dr _) hw3)).cell (p:=⟨x,0,none⟩) hx).trans hc0;have d13:=((Below.and hS (Below.and (dr _) hw3)).cell (p:=⟨x,1,none⟩) hx).trans hc1))
  have hT:=Below.and hS (Below.and (dr w2) hw3);clear g3 d0 d1 MN LW d13 Y5 h21 hw3 hS;have m4:=bV.k4
  go_wp2_with (go_at_call 10;refine h10.here.mono ?_;rintro e w4 ⟨rfl,hw4⟩)
  have hT2:=Below.and hT hw4;have dZ:=bV.below hw4;have n4:=dZ.k4;have l4:=(hT2.cell (p:=⟨b,k*6+2,none⟩) hb).trans rD;clear m4 hT bV hw4 h10
  go_region_held3 (λw'=>w'.cell? ⟨w.heap.size,4,none⟩=some (.int .i64 o.Parent)/\w'.cell? ⟨b,k*6+2,none⟩=some (.int .i64 xB)) (go_keep)
   (first|(go_at_call 74;refine(aS _ (Below.and hT2 (dr _))).mono ?_;rintro e w5 ⟨rfl,hw5⟩;have iL:=dZ.below (Below.and (dr _) hw5);have n5:=iL.k4;have l5:=((Below.and hT2 (Below.and (dr _) hw5)).cell (p:=⟨b,k*6+2,none⟩) hb).trans rD))
  have jC:=Below.and hT2 (Below.and (dr w4) hw5);clear n4 l4 n5 l5 dZ hT2 hw5 aS
  go_wp2_with fail
  have r5:=iL.k5;have r3:=iL.k3;have r4:=iL.k4
  first
   |(have hc2:=(jC.cell (p:=⟨pb,po,none⟩) hpb).trans hc
     go_region_held3 (λw'=>w'.cell? ⟨w.heap.size,3,none⟩=some (.int .i64 o.Unit)/\w'.cell? ⟨w.heap.size,4,none⟩=some (.int .i64 o.Parent)/\w'.cell? ⟨w.heap.size,5,none⟩=some (.int .i64 o.Before)/\w'.cell? ⟨pb,po,none⟩=some hv) (go_keep)
      (first|(go_at_call 75;refine(iQ _ (Below.and jC (dr _))).mono ?_;rintro e w6 ⟨rfl,hw6⟩;have mO:=iL.below (Below.and (dr _) hw6);have g36:=mO.k3;have g46:=mO.k4;have g56:=mO.k5;have gc6:=((Below.and jC (Below.and (dr _) hw6)).cell (p:=⟨pb,po,none⟩) hpb).trans hc)|(go_at_call 10;refine(aL5 _ (Below.and jC (Below.and (dr _) hw6))).mono ?_;rintro e w7 ⟨rfl,hw7⟩;have sN:=mO.below hw7;have g37:=sN.k3;have g47:=sN.k4;have g57:=sN.k5;have gc7:=((Below.and jC (Below.and (dr _) (Below.and hw6 hw7))).cell (p:=⟨pb,po,none⟩) hpb).trans hc))
     all_goals (have ZT:=Below.and jC (Below.and (dr w5) (Below.and hw6 hw7))))
   |(go_quiet (fail)
     rename_i nq;have mO:=iL.below (dn w5 nq);have ZT:=Below.and jC (dn w5 nq)
     clear r5 r3 r4 iL jC)
  all_goals (go_wp2;go_ret;exact⟨rfl,ZT⟩)
end
section
open Go Go.F7 Go.RowKit Proofs.Tryz
set_option maxRecDepth 100000
set_option maxHeartbeats 4000000
attribute [local go_sem ↓] Go.wp_at_zero Go.wp_at_succ
def bH0{w:World}{x:Nat}{o:Opn}{b k:Nat}{rv bv:Value}(hx:x<w.heap.size)(hc0:w.cell? ⟨x,0,none⟩=some rv)(hc1:w.cell? ⟨x,1,none⟩=some bv)(Y6:At w 73 #[ptr x 0,.int .i64 o.Unit] (ptr b (k*6)))(hp:D9 w x o.Parent)(h21:∀W,Below w.heap.size w W->Calls prog 21 #[.agg #[rv,bv],.int .i64 o.Unit] W λe W'=>∃v e9,e=.returned (.tuple #[v,.int .i64 e9])/\Below W.heap.size W W'/\At W' 10 #[v,.int .i64 o.Parent] (.bool false))(hb:b<w.heap.size){xB:Int}(rD:w.cell? ⟨b,k*6+2,none⟩=some (.int .i64 xB))(aS:At w 74 #[ptr x 0,.int .i64 o.Parent,.int .i64 xB] (.int .i64 0))(hb:o.Before=0\/(o.Before≠0/\o.Before≠o.Unit/\∃(pb po:Nat) (hv:Value),At w 75 #[ptr x 0,.int .i64 o.Parent] (ptr pb po)/\pb<w.heap.size/\w.cell? ⟨pb,po,none⟩=some hv/\At w 10 #[hv,.int .i64 o.Before] (.bool true))){w0:World}{R:Lay->Prop}{Q Q':aB}{z:Int}
    (htake:∀W,Below w.heap.size w W->Calls prog 80 #[ptr x 0,.int .i64 o.Unit] W λe W'=>e=.returned (.tuple #[])/\(∀c j,w.heap.size<=c->c<W.heap.size->W'.cell? ⟨c,j,none⟩=W.cell? ⟨c,j,none⟩)/\∃L2 r2,Ed w0 W' L2/\L2.bo=some b/\R L2/\L2.rows[k]?=some r2)
    (hput:∀W L2 r2,R L2->L2.rows[k]?=some r2->Ed w0 W { L2 with rows:=L2.rows.set k ⟨{ r2.b with Unit:={ r2.b.Unit with Parent:=o.Parent } },r2.k,r2.o⟩ }->Calls prog 78 #[ptr x 0,.int .i64 o.Unit,.int .i64 o.Parent,.int .i64 o.Before] W λe W'=>e=.returned (.tuple #[])/\Q W')
    (hlim:∀W,Q W->Calls prog 79 #[ptr x 0] W λe W'=>e=.returned (.int .i64 z)/\Q' W'):
    Calls prog 33 #[ptr x 0,oval o] w λe' w'=>e'=.returned (.int .i64 z)/\Q' w':=by
 unfold D9 at hp;rcases hp with hp|⟨hp,qb,qo,nO⟩<;>rcases hb with hb0|⟨hb0,hbu,pb,po,hv,iQ,hpb,hc,aL5⟩
 all_goals
  have bx:=kC w o;have k3:=bx.k3
  first
   |(have hp':(o.Parent !=0)=false:=by simp[hp])
   |(have hp':(o.Parent !=0)=true:=by simp[hp])
  clear hp
  first
   |(have hu':(o.Before==o.Unit)=false:=by simp[hbu]
     have hb':(o.Before !=0)=true:=by simp[hb0]
     clear hbu)
   |(have hb':(o.Before !=0)=false:=by simp[hb0])
  clear hb0
  go_enter func33,ntmps33
  go_wp2_with fail
  refine(Y6 _ (al w _)).mono ?_;rintro e w1 ⟨rfl,hw1⟩;have k4:=(bx.below hw1).k4;clear Y6
  first
   |(have g0:=nO
     go_wp2_with (go_at_call 73;refine(nO _ (Below.and (al w _) hw1)).mono ?_;rintro e w2 ⟨rfl,hw2⟩)
     have hS:=Below.and (al w _) (Below.and hw1 hw2);have Y5:=bx.below (Below.and hw1 hw2)
     clear g0 hw2 nO)
   |(go_wp2_with fail
     have hS:=Below.and (al w _) hw1;have Y5:=bx.below hw1;obtain⟨w2,hw2⟩:∃w2,w2=w1:=⟨_,rfl⟩;rw[<-hw2]at hS Y5⊢
     clear hw2)
  clear k3 k4 hw1 bx;have g3:=Y5.k3;have d0:=(hS.cell (p:=⟨x,0,none⟩) hx).trans hc0;have d1:=(hS.cell (p:=⟨x,1,none⟩) hx).trans hc1
  go_region_held3 (λw'=>w'.cell? ⟨w.heap.size,3,none⟩=some (.int .i64 o.Unit)/\w'.cell? ⟨x,0,none⟩=some rv/\w'.cell? ⟨x,1,none⟩=some bv) (go_keep)
   (first|(go_at_call 21;refine(h21 _ (Below.and hS (dr _))).mono ?_;rintro e w3 ⟨v,e9,rfl,hw3,h10⟩;have bV:=Y5.below (Below.and (dr _) hw3);have MN:=bV.k3;have LW:=((Below.and hS (Below.and (dr _) hw3)).cell (p:=⟨x,0,none⟩) hx).trans hc0;have d13:=((Below.and hS (Below.and (dr _) hw3)).cell (p:=⟨x,1,none⟩) hx).trans hc1))
  have hT:=Below.and hS (Below.and (dr w2) hw3);clear g3 d0 d1 MN LW d13 Y5 h21 hw3 hS;have m4:=bV.k4
  go_wp2_with (go_at_call 10;refine h10.here.mono ?_;rintro e w4 ⟨rfl,hw4⟩)
  have hT2:=Below.and hT hw4;have dZ:=bV.below hw4;have n4:=dZ.k4;have l4:=(hT2.cell (p:=⟨b,k*6+2,none⟩) hb).trans rD;clear m4 hT bV hw4 h10
  go_region_held3 (λw'=>w'.cell? ⟨w.heap.size,4,none⟩=some (.int .i64 o.Parent)/\w'.cell? ⟨b,k*6+2,none⟩=some (.int .i64 xB)) (go_keep)
   (first|(go_at_call 74;refine(aS _ (Below.and hT2 (dr _))).mono ?_;rintro e w5 ⟨rfl,hw5⟩;have iL:=dZ.below (Below.and (dr _) hw5);have n5:=iL.k4;have l5:=((Below.and hT2 (Below.and (dr _) hw5)).cell (p:=⟨b,k*6+2,none⟩) hb).trans rD))
  have jC:=Below.and hT2 (Below.and (dr w4) hw5);clear n4 l4 n5 l5 dZ hT2 hw5 aS
  go_wp2_with fail
  have r5:=iL.k5;have r3:=iL.k3;have r4:=iL.k4
  first
   |(have hc2:=(jC.cell (p:=⟨pb,po,none⟩) hpb).trans hc
     go_region_held3 (λw'=>w'.cell? ⟨w.heap.size,3,none⟩=some (.int .i64 o.Unit)/\w'.cell? ⟨w.heap.size,4,none⟩=some (.int .i64 o.Parent)/\w'.cell? ⟨w.heap.size,5,none⟩=some (.int .i64 o.Before)/\w'.cell? ⟨pb,po,none⟩=some hv) (go_keep)
      (first|(go_at_call 75;refine(iQ _ (Below.and jC (dr _))).mono ?_;rintro e w6 ⟨rfl,hw6⟩;have mO:=iL.below (Below.and (dr _) hw6);have g36:=mO.k3;have g46:=mO.k4;have g56:=mO.k5;have gc6:=((Below.and jC (Below.and (dr _) hw6)).cell (p:=⟨pb,po,none⟩) hpb).trans hc)|(go_at_call 10;refine(aL5 _ (Below.and jC (Below.and (dr _) hw6))).mono ?_;rintro e w7 ⟨rfl,hw7⟩;have sN:=mO.below hw7;have g37:=sN.k3;have g47:=sN.k4;have g57:=sN.k5;have gc7:=((Below.and jC (Below.and (dr _) (Below.and hw6 hw7))).cell (p:=⟨pb,po,none⟩) hpb).trans hc))
     all_goals (have ZT:=Below.and jC (Below.and (dr w5) (Below.and hw6 hw7))))
   |(go_quiet (fail)
     rename_i nq;have mO:=iL.below (dn w5 nq);have ZT:=Below.and jC (dn w5 nq)
     clear r5 r3 r4 iL jC)
  all_goals
   have hbx:w.heap.size≠b:=by have:=hb;omega
   first|have sN:=sN|have sN:=mO
   have s3:=sN.k3
   go_wp2_with (first|(go_at_call 80;refine(htake _ ZT).mono ?_;rintro e w8 ⟨rfl,hold,L2,r2,hE2,hb2,hR2,hr2⟩;have bx8:=Bx.hold sN (λj=>hold _ j (N8 _) sN.lt);have t4:=bx8.k4;have c8:=hE2.cell hr2 hb2 (j:=1) (by omega) rfl;have f8:=hE2.TK hb2 (k*6+1);have TL:=hE2.a08 hr2 hb2 (j:=1) (u:=.int .i64 o.Parent) (b':={ r2.b with Unit:={ r2.b.Unit with Parent:=o.Parent } }) rfl (by omega) rfl rfl;have v3:=(SI w8 (k*6+1) (.int .i64 o.Parent) hbx 3).trans bx8.k3;have v4:=(SI w8 (k*6+1) (.int .i64 o.Parent) hbx 4).trans bx8.k4;have v5:=(SI w8 (k*6+1) (.int .i64 o.Parent) hbx 5).trans bx8.k5;clear hold)|(go_at_call 78;refine(hput _ L2 r2 hR2 hr2 TL).mono ?_;rintro e w9 ⟨rfl,hQ⟩)|(go_at_call 79;refine(hlim _ hQ).mono ?_;rintro e w10 ⟨rfl,hQ'⟩))
   go_ret
   exact⟨rfl,hQ'⟩
end
section
open Go Go.F7 Go.RowKit Go.Ev Proofs.Tryz
def kW(bs:X8)(id:Int):dH:=(ai0 bs id (λz0 z1=>ZF z0 z1)).bind λp=>bif decide (0<=p.1/\p.1<=(bs.length:Int)/\(p.2=true->p.1<(bs.length:Int)))then some (p.1.toNat,p.2)else none
def eList(t:Tree):Option Nat->List Int
 |none=>t.Q7
 |some k=>((t.Branches[k]?).map Branch.Kids).getD []
def FY(t:Tree)(p:Option Nat)(l:List Int):Tree:=
 match p with
 |none=>{ t with Q7:=l }
 |some k=>match t.Branches[k]? with
  |some b=>{ t with Branches:=t.Branches.set k { b with Kids:=l } }
  |none=>t
def wQ(t:Tree)(id:Int):Option E8:=bif id==0 then some none else(kW t.Branches id).bind λp=>bif p.2 then some (some p.1)else none
def FX(t:Tree)(id parent before:Int):Option Tree:=(wQ t parent).bind λp=>(ah9 (eList t p) before).bind λj=>
 bif decide ((eList t p).length<=4000/\ -1<=j/\j<=((eList t p).length:Int))then(let a:=if j<0 then(eList t p).length else j.toNat;some (FY t p ((eList t p).take a++[id]++(eList t p).drop a)))else none
def LY(t:Tree)(id:Int):Option Tree:=(kW t.Branches id).bind λq=>bif q.2 then(t.Branches[q.1]?).bind λb=>(wQ t b.Unit.Parent).bind λp=>
 bif decide (0<(eList t p).length/\(eList t p).length<=4000)then some (FY t p ((eList t p).filter λx=> !(x==id)))else none else none
def SY(t:Tree)(parent level:Int):Option Int:=bif parent==0 then some (bif level==1 then 0 else 18)else(kW t.Branches parent).bind λq=>bif q.2 then(t.Branches[q.1]?).bind λb=>(WX b.Unit.Level level).bind λf=>some (bif !(level==1)&&f then 0 else 18)else none
def TA(t:Tree)(mark:Str)(but:Int):U7:=(ai4 t mark).bind λr=>some (r.2&& !(r.1==but))
def LX(t:Tree):Option Int:=(JM t).bind λr=>some (bif r.2==15 then 15 else 0)
def LZ{w0 w:World}{L:Lay}(hE:Ed w0 w L)(hg:Gw w0):Gw w:=Gs w0 w hg hE.base
def BF{w0 w:World}{L:Lay}(hE:Ed w0 w L)(hg:Gw w0){id:Int}{k:Nat}{ok:Bool}(h:kW L.tree.Branches id=some (k,ok)):XV w L.bv id k ok/\k<=L.rows.length/\(ok=true->∃r,L.rows[k]?=some r):=by
 unfold kW at h;cases hs:ai0 L.tree.Branches id (λz0 z1=>ZF z0 z1)with
 |none=>grind
 |some p=>
  obtain⟨i,o⟩:=p;rw[hs,F9]at h;refine mV h λhd h=>?_;have hd:=iR hd;injection h with h
  injection h with h1 h2
  simp only[Lay.tree,X0]at hd;subst h1;subst h2;have hi:((i.toNat:Nat):Int)=i:=Int.toNat_of_nonneg hd.1;refine⟨λw1 h1=>?_,by omega,λho=>⟨_,J9 (show i.toNat<L.rows.length by have:=hd.2.2 ho;omega)⟩⟩;rw[hi];have hE1:=hE.below h1;exact aN9 (bY6 (λ_ _ _ h=>cE1 h) hs) (LZ hE1 hg) (U0.cons hE1.bR9 (U0.cons (.v (.int .i64 id)) (U0.cons (.fn 130 [] [] rfl (λi c x h=>nomatch h)) (U0.nil _ _))))
structure bj3(w0 w:World)(L:Lay)(p:Option Nat)(pb po:Nat)(hv:Value)(o:Option Nat):Prop where
 row:∃arr el,w.heap[pb]?=some (.cells arr el (0,0))/\arr[po]?=some hv
 own:P8 w 3 1 hv (eList L.tree p).length (aN (eList L.tree p)) o
 ne:o≠some pb
 isB:∃q,L.at q=some pb
 isO:∀c,o=some c->∃q,L.at q=some c
 set:∀w1 v' l' o',P8 w1 3 1 v' l'.length (aN l') o'->(∀c,o'=some c->o=some c\/w.heap.size<=c)->Fr (λk=>o=some k) w w1->∃L',Ed w0 (w1.setCell ⟨pb,po,none⟩ v') L'/\L'.x=L.x/\L'.bo=L.bo/\L'.tree=FY L.tree p l'
def EG{L:Lay}{k:Nat}{r:Row}(h:L.rows[k]?=some r):L.tree.Branches[k]?=some r.b:=by simp[Lay.tree,h]
def av1{w0 w:World}{L:Lay}(hE:Ed w0 w L)(hg:Gw w0){id:Int}{p:E8}(h:wQ L.tree id=some p):∃pb po hv o,bj3 w0 w L p pb po hv o/\At w 75 #[ptr L.x 0,.int .i64 id] (ptr pb po):=by
 unfold wQ at h;cases hid:(id==0)with
 |true=>
  rw[hid]at h;cases h;have:=mP hid;subst this;refine⟨L.x,0,L.rv,L.ro,⟨⟨_,_,hE.hx,rfl⟩,hE.hr,λh=>?_,⟨.x,rfl⟩,λc hc=>⟨.r,hc⟩,λw1 v' l' o' h1 h2 h3=>⟨_,hE.dm1 h1 h2 h3,rfl,rfl,rfl⟩⟩,cA8 w L⟩;have:=hE.nd .r .x L.x h rfl;cases this
 |false=>
  rw[hid]at h;cases hq:kW L.tree.Branches id with
  |none=>grind
  |some q=>
   obtain⟨k,ok⟩:=q;rw[hq]at h;cases ok with
   |false=>cases h
   |true=>
    cases h;obtain⟨hf,_,hr⟩:=BF hE hg hq;obtain⟨r,hr⟩:=hr rfl;obtain⟨b,c,U3,hbv,hc⟩:=hE.sK hr;have hB:=hE.hb;rw[U3]at hB;obtain⟨arr,ha⟩:=hE.hb.heap U3;have hcell:=hE.cell hr U3 (j:=5) (u:=r.k) (by omega) rfl;rw[kU w b _ arr 52 (0,0) ha]at hcell;have hl:eList L.tree (some k)=r.b.Kids:=by simp[eList,EG hr]
    refine⟨b,k*6+5,r.k,r.o,⟨⟨arr,52,ha,hcell⟩,by rw[hl];exact hE.hk k r hr,λh=>?_,⟨.b,U3⟩,λc hc=>⟨.k k,by simp[Lay.at,hr,hc]⟩,λw1 v' l' o' h1 h2 h3=>⟨_,hE.dm0 hr U3 h1 h2 h3,rfl,rfl,?_⟩⟩,cA7 hE (by intro e;rw[e]at hid;cases hid) hr U3 hf⟩
    .have:=hE.nd (.k k) .b b (by simp[Lay.at,hr,h]) U3;cases this
    .simp only[FY,EG hr];simp only[Lay.tree,List.map_set]
def aQ0{w:World}{v:Value}{l:F6}{o:E8}(h:P8 w 3 1 v l.length (aN l) o){w1:World}(hb:Below w.heap.size w w1):Rep (jZ w1) w1 (.sl 1 (l.map F8)) v:=aZ1 (h.keep λk hk=>hb.block k (h.lt hk))
def Left(w0 w:World)(L:Lay)(t':Tree)(w':World):Prop:=(∃L',Ed w0 w' L'/\L'.x=L.x/\L'.bo=L.bo/\L'.tree=t')/\∀c,c<w.heap.size->(∀q,L.at q≠some c)->w'.heap[c]?=w.heap[c]?
def bP8{w0 w:World}{L:Lay}(hE:Ed w0 w L)(hg:Gw w0){id parent before:Int}{t':Tree}(h:FX L.tree id parent before=some t'):
    Calls prog 78 #[ptr L.x 0,.int .i64 id,.int .i64 parent,.int .i64 before] w λe w'=>e=.returned (.tuple #[])/\Left w0 w L t' w':=by
 unfold FX at h;cases hp:wQ L.tree parent with
 |none=>grind
 |some p=>
  rw[hp,F9]at h;cases hj:ah9 (eList L.tree p) before with
  |none=>grind
  |some j=>
   rw[hj,F9]at h;refine mV h λhd h=>?_;have hd:=iR hd;obtain⟨pb,po,hv,o,P,iQ⟩:=av1 hE hg hp;obtain⟨arr,el,hr,hc⟩:=P.row;have hidx:∀w1,Below w.heap.size w w1->Calls prog 31 #[hv,.int .i64 before] w1 λe w'=>e=.returned (.int .i64 j)/\Below w1.heap.size w1 w':=λw1 hb=>
    ZY (bY3 hj) (LZ (hE.below hb) hg) (U0.cons (aQ0 P.own hb) (U0.cons (.v (.int .i64 before)) (U0.nil _ _)))
   have key:=λa ha=>cB7 (id:=id) (before:=before) (a:=a) cQ8 iQ.here hr hc P.own P.ne hd.1 hidx ha;obtain⟨a,ha,hae⟩:∃a:Nat,((j=a/\a<=(eList L.tree p).length)\/(j= -1/\a=(eList L.tree p).length))/\a=if j<0 then(eList L.tree p).length else j.toNat:=by grind
   refine(key a ha).mono ?_;rintro e w' ⟨rfl,v',o',w1,h1,h2,h3,rfl⟩;have hlen:((eList L.tree p).take a++[id]++(eList L.tree p).drop a).length=(eList L.tree p).length+1:=by grind
   rw[<-hlen]at h1;obtain⟨L',hE',hx',hb',ht'⟩:=P.set w1 v' _ o' h1 h2 h3;injection h with h
   subst h;refine⟨rfl,⟨L',hE',hx',hb',by rw[ht',hae]⟩,λc hc hn=>?_⟩;obtain⟨q,hq⟩:=P.isB;exact(lT w1 pb po c v' (λe=>hn q (e▸hq))).trans (h3.block c hc λe=>by obtain⟨q,hq⟩:=P.isO c e;exact hn q hq)
def b24{w0 w:World}{L:Lay}(hE:Ed w0 w L)(hg:Gw w0){id:Int}{t':Tree}(h:LY L.tree id=some t'):
    Calls prog 80 #[ptr L.x 0,.int .i64 id] w λe w'=>e=.returned (.tuple #[])/\Left w0 w L t' w':=by
 unfold LY at h;cases hq:kW L.tree.Branches id with
 |none=>grind
 |some q=>
  obtain⟨k,ok⟩:=q;rw[hq,F9]at h;cases ok with
  |false=>cases h
  |true=>
   obtain⟨hf,_,hr⟩:=BF hE hg hq;obtain⟨r,hr⟩:=hr rfl;simp only[H9]at h;rw[EG hr,F9]at h;cases hp:wQ L.tree r.b.Unit.Parent with
   |none=>grind
   |some p=>
    rw[hp,F9]at h;refine mV h λhd h=>?_;have hd:=iR hd;injection h with h
    subst h;obtain⟨pb,po,hv,o,P,iQ⟩:=av1 hE hg hp;obtain⟨arr,el,hrow,hc⟩:=P.row;obtain⟨b,c,U3,hbv,_⟩:=hE.sK hr;obtain⟨g,cp,rfl,rfl,_⟩:=P.own.form hd.1;refine(cC1 (YZ hE hr U3 hf) (hE.dI (p:=.b) U3) (hE.cell hr U3 (j:=1) (by omega) rfl) iQ hrow hc P.own (λe=>P.ne (by rw[e])) hd.2).mono ?_;rintro e w' ⟨rfl,v',w1,h1,h2,rfl⟩;obtain⟨L',hE',hx',hb',ht'⟩:=P.set w1 v' _ _ h1 (λc hc=>.inl hc) h2;refine⟨rfl,⟨L',hE',hx',hb',ht'⟩,λc hc hn=>?_⟩;obtain⟨q,hq⟩:=P.isB;exact(lT w1 pb po c v' (λe=>hn q (e▸hq))).trans (h2.block c hc λe=>by obtain⟨q,hq⟩:=P.isO c e;exact hn q hq)
def b03{w0 w:World}{L:Lay}(hE:Ed w0 w L)(hg:Gw w0){parent level s:Int}(h:SY L.tree parent level=some s):At w 74 #[ptr L.x 0,.int .i64 parent,.int .i64 level] (.int .i64 s):=by
 unfold SY at h;cases hid:(parent==0)with
 |true=>
  rw[hid]at h;have:=mP hid;subst this;injection h with h
  subst h;exact cB8 w L level
 |false=>
  rw[hid]at h;cases hq:kW L.tree.Branches parent with
  |none=>grind
  |some q=>
   obtain⟨k,ok⟩:=q;rw[hq]at h;cases ok with
   |false=>cases h
   |true=>
    obtain⟨hf,_,hr⟩:=BF hE hg hq;obtain⟨r,hr⟩:=hr rfl;simp only[H9,G6,F9]at h;rw[EG hr,F9]at h;cases hfit:WX r.b.Unit.Level level with
    |none=>grind
    |some f=>
     rw[hfit]at h;injection h with h
     subst h;obtain⟨b,c,U3,_⟩:=hE.sK hr;intro w1 h1;exact cC0 (hE.below h1) (by intro e;rw[e]at hid;cases hid) hr U3 (hf w1 h1) (λW hW=>ZY (b21 hfit) (LZ ((hE.below h1).below hW) hg) (U0.cons (.v _) (U0.cons (.v _) (U0.nil _ _))))
def cg3{w0 w:World}{L:Lay}(hE:Ed w0 w L)(hg:Gw w0){mark:Str}{but:Int}{u:Bool}(h:TA L.tree mark but=some u):At w 76 #[ptr L.x 0,.string ⟨⟨mark⟩⟩,.int .i64 but] (.bool u):=by
 unfold TA at h;cases hm:ai4 L.tree mark with
 |none=>grind
 |some r=>
  rw[hm]at h;injection h with h
  subst h;exact cC3 hE λw1 h1=>aN9 (du7 hm) (LZ (hE.below h1) hg) (U0.cons (hE.below h1).rep (U0.cons (.v _) (U0.nil _ _)))
def bF2{w0 w:World}{L:Lay}(hE:Ed w0 w L)(hg:Gw w0){z:Int}(h:LX L.tree=some z):At w 79 #[ptr L.x 0] (.int .i64 z):=by
 unfold LX at h;cases hm:JM L.tree with
 |none=>grind
 |some r=>
  rw[hm]at h;injection h with h
  subst h;exact cB5 hE λw1 h1=>aN9 (bc7 hm) (LZ (hE.below h1) hg) (U0.cons (hE.below h1).rep (U0.nil _ _))
def bw9{w0 w:World}{L:Lay}(hE:Ed w0 w L)(hg:Gw w0){p:E8}{pb po:Nat}{hv:Value}{o:E8}(P:bj3 w0 w L p pb po hv o){x:Int}{c:Bool}(h:vX (eList L.tree p) x=some c):At w 10 #[hv,.int .i64 x] (.bool c):=λ_ hb=>
 ZY (ba1 h) (LZ (hE.below hb) hg) (U0.cons (aQ0 P.own hb) (U0.cons (.v (.int .i64 x)) (U0.nil _ _)))
abbrev E0:Tree:=⟨[],[]⟩
def YT(t:Tree)(o:Opn):KW:=
 (kW t.Branches o.Unit).bind λf=>bif f.2 then some (E0,6)else
 (bif o.Parent==0 then some true else(kW t.Branches o.Parent).bind λq=>some q.2).bind λpar=>bif !par then some (E0,7)else
 (SY t o.Parent o.Level).bind λs=>bif !(s==0)then some (E0,s)else
 (bif o.Before==0 then some true else(wQ t o.Parent).bind λp=>vX (eList t p) o.Before).bind λhas=>bif !has then some (E0,7)else
 (TA t o.Mark 0).bind λu=>bif u then some (E0,19)else
 bif decide (256<=t.Branches.length)then some (E0,8)else
 (FX { t with Branches:=t.Branches.take f.1++[⟨⟨o.Unit,o.Parent,o.Level,o.Title,o.Mark⟩,[]⟩]++t.Branches.drop f.1 } o.Unit o.Parent o.Before).bind λt3=>(LX t3).bind λz=>some (t3,z)
def Sz(t:Tree):Bool:=decide (t.Q7.length<=4000)&&(decide (t.Branches.length<=4000)&&t.Branches.all λb=>decide (b.Kids.length<=4000))
def YS(t:Tree)(id:Int):qQ:=bif id==0 then none else(XI t id).bind λe9=>bif e9==0 then(uG t 1000 id).bind λl=>bif decide (l.length<=4000)then some l else none else some []
def YV(t:Tree)(o:Opn):KW:=
 (kW t.Branches o.Unit).bind λf=>bif !f.2 then some (E0,7)else
 (bif o.Parent==0 then some true else(kW t.Branches o.Parent).bind λq=>some q.2).bind λpar=>bif !par then some (E0,7)else
 (YS t o.Unit).bind λl=>(vX l o.Parent).bind λc=>bif c then some (E0,17)else
 (t.Branches[f.1]?).bind λb=>(SY t o.Parent b.Unit.Level).bind λs=>bif !(s==0)then some (E0,s)else
 (bif o.Before==0 then some true else bif o.Before==o.Unit then some false else(wQ t o.Parent).bind λp=>vX (eList t p) o.Before).bind λhas=>bif !has then some (E0,7)else
 (LY t o.Unit).bind λt2=>(t2.Branches[f.1]?).bind λb2=>(FX { t2 with Branches:=t2.Branches.set f.1 { b2 with Unit:={ b2.Unit with Parent:=o.Parent } } } o.Unit o.Parent o.Before).bind λt3=>(LX t3).bind λz=>some (t3,z)
def YX(t:Tree)(o:Opn):KW:=
 (kW t.Branches o.Unit).bind λf=>bif !f.2 then some (E0,7)else(t.Branches[f.1]?).bind λb=>some ({ t with Branches:=t.Branches.set f.1 { b with Unit:={ b.Unit with Title:=o.Title } } },0)
def YU(t:Tree)(o:Opn):KW:=
 (kW t.Branches o.Unit).bind λf=>bif !f.2 then some (E0,7)else(TA t o.Mark o.Unit).bind λu=>bif u then some (E0,19)else(t.Branches[f.1]?).bind λb=>some ({ t with Branches:=t.Branches.set f.1 { b with Unit:={ b.Unit with Mark:=o.Mark } } },0)
def YW(t:Tree)(o:Opn):KW:=
 (kW t.Branches o.Unit).bind λf=>bif !f.2 then some (E0,7)else(t.Branches[f.1]?).bind λb=>bif !b.Kids.isEmpty then some (E0,11)else
 (LY t o.Unit).bind λt2=>bif decide (f.1<t2.Branches.length/\t2.Branches.length<=4000)then some ({ t2 with Branches:=t2.Branches.take f.1++t2.Branches.drop (f.1+1) },0)else none
def wE(w0:World)(x:Nat)(r:Tree×Int)(e:Ending)(w':World):Prop:=e=.returned (.int .i64 r.2)/\Below w0.heap.size w0 w'/\(r.2=0->∃L',Ed w0 w' L'/\L'.x=x/\L'.tree=r.1)
def nV{w0 w:World}{L:Lay}(hE:Ed w0 w L){x:Nat}{f:FuncId}{args:S9}{t:Tree}{z:Int}(hz:z≠0)(h:Calls prog f args w λe w'=>e=.returned (.int .i64 z)/\Below w.heap.size w w'):Calls prog f args w (wE w0 x (t,z)):=
 h.mono λ_ _ ⟨h1,h2⟩=>⟨h1,hE.base.trans (h2.mono hE.base.size),λh=>absurd h hz⟩
def bW{α β:Type}{o:Option α}{f:α->Option β}{r:β}(h:o.bind f=some r):∃x,o=some x/\f x=some r:=by
 rcases o with _|x
 .exact nomatch h
 .exact⟨x,rfl,h⟩
def UL{s:Int}(h:(!(s==0))=true):s≠0:=by intro e;subst e;cases h
def eq0{s:Int}(h:(!(s==0))=false):s=0:=by
 rcases hs:(s==0)with _|_
 .rw[hs]at h;cases h
 .exact mP hs
def nU{a b:Int}(h:(a==b)=false):a≠b:=λe=>by rw[e]at h;simp at h
def au6{w0 w:World}{L:Lay}(hE:Ed w0 w L)(hg:Gw w0){p:Int}{par:Bool}(hp:p≠0)(h:(kW L.tree.Branches p).bind (λq=>some q.2)=some par):
    (par=false->At w 73 #[ptr L.x 0,.int .i64 p] (.pointer none))/\(par=true->∃b o,At w 73 #[ptr L.x 0,.int .i64 p] (ptr b o)):=by
 have⟨q,hq,h⟩:=bW h;have⟨k,ok⟩:=q;injection h with h
 subst h;have⟨hf,_,hr⟩:=BF hE hg hq;refine⟨λe=>?_,λe=>?_⟩
 .have e:ok=false:=e;subst e;exact ao7 hE hf
 .have e:ok=true:=e;subst e;have⟨r,hr⟩:=hr rfl;have⟨b,c,U3,_⟩:=hE.sK hr;exact⟨b,k*6,YZ hE hr U3 hf⟩
def dA2{L:Lay}{a:Nat}{o:Opn}{v:Value}{ob:E8}:Lay.tree { L with bv:=v,bo:=ob,rows:=L.rows.take a++[newRow o]++L.rows.drop a }={ L.tree with Branches:=L.tree.Branches.take a++[⟨⟨o.Unit,o.Parent,o.Level,o.Title,o.Mark⟩,[]⟩]++L.tree.Branches.drop a }:=by
 simp[Lay.tree,newRow,List.map_take,List.map_drop]
def cy9{w0 w:World}{L:Lay}(hE:Ed w0 w L)(hg:Gw w0){o:Opn}{r:Tree×Int}(h:YT L.tree o=some r):Calls prog 32 #[ptr L.x 0,oval o] w (wE w0 L.x r):=by
 unfold YT at h;have⟨f,hf,h⟩:=bW h;have⟨a,fo⟩:=f;have⟨hF,ha,_⟩:=BF hE hg hf;have h72:=br6 hE hF;rcases fo with _|_
 .simp only[G6]at h;have⟨par,hpar,h⟩:=bW h;have hx:=hE.dI (p:=.x) rfl;have⟨ad,cp,hbv,_⟩:=hE.hb.sl;have hl:=hE.c1;rw[hbv]at hl;have hlen:L.tree.Branches.length=L.rows.length:=by simp[Lay.tree]
  have fin:∀(h:(FX { L.tree with Branches:=L.tree.Branches.take a++[⟨⟨o.Unit,o.Parent,o.Level,o.Title,o.Mark⟩,[]⟩]++L.tree.Branches.drop a } o.Unit o.Parent o.Before).bind (λt3=>(LX t3).bind λz=>some (t3,z))=some r),
   (∀(W:World)(v':Value)(o':E8),Ed w0 W { L with bv:=v',bo:=o',rows:=L.rows.take a++[newRow o]++L.rows.drop a }->Calls prog 78 #[ptr L.x 0,.int .i64 o.Unit,.int .i64 o.Parent,.int .i64 o.Before] W λe W'=>e=.returned (.tuple #[])/\∃L3,Ed w0 W' L3/\L3.x=L.x/\L3.tree=r.1)/\
   (∀W,(∃L3,Ed w0 W L3/\L3.x=L.x/\L3.tree=r.1)->Calls prog 79 #[ptr L.x 0] W λe W'=>e=.returned (.int .i64 r.2)/\(Below w0.heap.size w0 W'/\(r.2=0->∃L',Ed w0 W' L'/\L'.x=L.x/\L'.tree=r.1))):=λh=>by
   have⟨t3,h3,h⟩:=bW h;have⟨z,hz,h⟩:=bW h;cases h;refine⟨λW v' o' hE'=>?_,λW hQ=>?_⟩
   .refine(bP8 hE' hg (by rw[dA2];exact h3)).mono ?_;rintro e W' ⟨rfl,⟨L',h1,h2,_,h4⟩,_⟩;exact⟨rfl,L',h1,h2,h4⟩
   .have⟨L3,h1,h2,h4⟩:=hQ;rw[<-h2];refine(bF2 h1 hg (by rw[h4];exact hz)).here.mono ?_;rintro e W' ⟨rfl,hb⟩;exact⟨rfl,h1.base.trans (hb.mono h1.base.size),λ_=>⟨L3,h1.below hb,rfl,h4⟩⟩
  have okk:∀{f:FuncId}{args:S9},(Calls prog f args w λe' w'=>e'=.returned (.int .i64 r.2)/\(Below w0.heap.size w0 w'/\(r.2=0->∃L',Ed w0 w' L'/\L'.x=L.x/\L'.tree=r.1)))->Calls prog f args w (wE w0 L.x r):=λh=>h;rcases par with _|_
  .cases hp0:(o.Parent==0)with
   |true=>rw[hp0]at hpar;cases hpar
   |false=>
    rw[hp0]at hpar;cases h;exact nV hE (by decide) (cy3 h72 (nU hp0) ((au6 hE hg (nU hp0) hpar).1 rfl))
  .have hP:D9 w L.x o.Parent:=by
    cases hp0:(o.Parent==0)with
    |true=>exact .inl (mP hp0)
    |false=>rw[hp0]at hpar;exact .inr ⟨nU hp0,(au6 hE hg (nU hp0) hpar).2 rfl⟩
   simp only[fG,G6]at h;have⟨s,hs,h⟩:=bW h;have aS:=b03 hE hg hs;rcases hs0:(!(s==0))with _|_
   .rw[hs0]at h;have:=eq0 hs0;subst this;simp only[G6]at h;have⟨has,hh,h⟩:=bW h;have hB:zN w L.x o has:=by
     cases hb0:(o.Before==0)with
     |true=>exact .inl (mP hb0)
     |false=>
      rw[hb0]at hh;have⟨p,hpl,hh⟩:=bW hh;have⟨pb,po,hv,oo,P,iQ⟩:=av1 hE hg hpl;have⟨arr,el,hrow,hc⟩:=P.row;exact .inr ⟨nU hb0,pb,po,hv,iQ,(X6.1 hrow).1,(Q5 hrow hc).1,bw9 hE hg P hh⟩
    rcases has with _|_
    .have hb0:o.Before≠0:=λe=>by rw[e]at hh;cases hh
     cases h;exact nV hE (by decide) (cy5 h72 hP aS hb0 hB)
    .simp only[fG,G6]at h;have⟨u,hu,h⟩:=bW h;have nP:=cg3 hE hg hu;rcases u with _|_
     .simp only[G6]at h;by_cases hn:256<=L.tree.Branches.length
      .rw[aI hn]at h;cases h;exact nV hE (by decide) (cy7 h72 hP aS hB nP hx hl (by omega))
      .rw[fZ hn]at h;have⟨f1,f2⟩:=fin h;exact okk (cy8 h72 hP aS hB nP hE (by omega) ha cQ6 f1 f2)
     .cases h;exact nV hE (by decide) (cy6 h72 hP aS hB nP)
   .rw[hs0]at h;cases h;exact nV hE (UL hs0) (cy4 h72 hP aS (UL hs0))
 .cases h;exact nV hE (by decide) (cy2 h72)
def b07{t:Tree}(h:Sz t=true):t.Q7.length<=4000/\t.Branches.length<=4000/\∀b∈t.Branches,b.Kids.length<=4000:=by
 unfold Sz at h;simp only[Z4,pU,oW]at h;exact⟨h.1,h.2.1,h.2.2⟩
def cU1{t:Tree}(h:Sz t=true):∀id ks,qI t id=some ks->ks.length<=1000000:=λid ks hk=>by
 obtain⟨h1,h2,h3⟩:=b07 h;unfold qI at hk;cases hid:(id==0)with
 |true=>rw[hid]at hk;cases hk;omega
 |false=>
  rw[hid]at hk;obtain⟨y,_,hk⟩:=bW hk;obtain⟨b,hb,hk⟩:=bW hk;cases hk;have:=h3 b (iZ (aQ5 hb));omega
def ct2{w0 w:World}{L:Lay}(hE:Ed w0 w L)(hg:Gw w0)(hsz:Sz L.tree=true){id par:Int}{l:F6}{c:Bool}(h:YS L.tree id=some l)(hc:vX l par=some c):∀W,Below w.heap.size w W->Calls prog 21 #[.agg #[L.rv,L.bv],.int .i64 id] W λe W'=>∃v e9,e=.returned (.tuple #[v,.int .i64 e9])/\Below W.heap.size W W'/\At W' 10 #[v,.int .i64 par] (.bool c):=λW hW=>by
 have hE1:=hE.below hW;have hg1:=LZ hE1 hg;unfold YS at h;cases hid:(id==0)with
 |true=>rw[hid]at h;cases h
 |false=>
  rw[hid]at h;simp only[G6]at h;obtain⟨e9,he,h⟩:=bW h;cases h9:(e9==0)with
  |true=>
   rw[h9]at h;have:=mP h9;subst this;simp only[H9]at h;obtain⟨l',hl,h⟩:=bW h;refine mV h λhd h=>?_;injection h with h
   subst h;refine(cs9 hg1 hE1.rep (λb o h=>h) he (nU hid) hl (iR hd) (cU1 hsz)).mono ?_;rintro e W' ⟨v,ob,rfl,hO,hb⟩;refine⟨v,0,rfl,hb,λw1 hw1=>ZY (ba1 hc) (Gs _ _ (Gs _ _ hg1 hb) hw1) (U0.cons (aQ0 hO hw1) (U0.cons (.v _) (U0.nil _ _)))⟩
  |false=>
   rw[h9]at h;injection h with h
   subst h;refine(cs8 hg1 hE1.rep (λb o h=>h) he (nU h9)).mono ?_;rintro e W' ⟨rfl,hb⟩;exact⟨_,e9,rfl,hb,λw1 hw1=>ZY (ba1 hc) (Gs _ _ (Gs _ _ hg1 hb) hw1) (U0.cons (.nil 1 none 0) (U0.cons (.v _) (U0.nil _ _)))⟩
def a09{L:Lay}{k:Nat}{r:Row}{b':Branch}:Lay.tree { L with rows:=L.rows.set k ⟨b',r.k,r.o⟩ }={ L.tree with Branches:=L.tree.Branches.set k b' }:=by simp[Lay.tree,List.map_set]
def df4{w0 w:World}{L:Lay}(hE:Ed w0 w L)(hg:Gw w0){o:Opn}{r:Tree×Int}(h:YX L.tree o=some r):Calls prog 34 #[ptr L.x 0,oval o] w (wE w0 L.x r):=by
 unfold YX at h;obtain⟨f,hf,h⟩:=bW h;obtain⟨a,fo⟩:=f;obtain⟨hF,_,hr⟩:=BF hE hg hf;cases fo with
 |false=>cases h;exact nV hE (by decide) (df1 (ao7 hE hF))
 |true=>
  obtain⟨q,hr⟩:=hr rfl;obtain⟨b,c,U3,_⟩:=hE.sK hr;simp only[fG,G6]at h;rw[EG hr]at h;cases h;refine(df3 hE hr U3 (YZ hE hr U3 hF)).mono ?_;rintro e w' ⟨rfl,hE'⟩;exact⟨rfl,hE'.base,λ_=>⟨_,hE',rfl,a09⟩⟩
def cY5{w0 w:World}{L:Lay}(hE:Ed w0 w L)(hg:Gw w0){o:Opn}{r:Tree×Int}(h:YU L.tree o=some r):Calls prog 35 #[ptr L.x 0,oval o] w (wE w0 L.x r):=by
 unfold YU at h;obtain⟨f,hf,h⟩:=bW h;obtain⟨a,fo⟩:=f;obtain⟨hF,_,hr⟩:=BF hE hg hf;cases fo with
 |false=>cases h;exact nV hE (by decide) (cY3 (ao7 hE hF))
 |true=>
  obtain⟨q,hr⟩:=hr rfl;obtain⟨b,c,U3,_⟩:=hE.sK hr;simp only[fG,G6]at h;obtain⟨u,hu,h⟩:=bW h;have nP:=cg3 hE hg hu;have Y6:=YZ hE hr U3 hF;cases u with
  |true=>cases h;exact nV hE (by decide) (cY7 Y6 nP)
  |false=>
   simp only[G6]at h;rw[EG hr]at h;cases h;refine(cY4 hE hr U3 Y6 nP).mono ?_;rintro e w' ⟨rfl,hE'⟩;exact⟨rfl,hE'.base,λ_=>⟨_,hE',rfl,a09⟩⟩
def de8{w0 w:World}{L:Lay}(hE:Ed w0 w L)(hg:Gw w0){o:Opn}{r:Tree×Int}(h:YW L.tree o=some r):Calls prog 36 #[ptr L.x 0,oval o] w (wE w0 L.x r):=by
 unfold YW at h;obtain⟨f,hf,h⟩:=bW h;obtain⟨a,fo⟩:=f;obtain⟨hF,_,hr⟩:=BF hE hg hf;have h72:=br6 hE hF;cases fo with
 |false=>cases h;exact nV hE (by decide) (de6 h72)
 |true=>
  obtain⟨q,hr⟩:=hr rfl;simp only[fG,G6]at h;rw[EG hr,F9]at h;cases hk:q.b.Kids.isEmpty with
  |false=>rw[hk]at h;cases h;exact nV hE (by decide) (de5 hE hr (by intro e;rw[e]at hk;cases hk) h72)
  |true=>
   rw[hk]at h;simp only[fG,G6]at h;obtain⟨t2,h2,h⟩:=bW h;refine mV h λhd h=>?_;have hd:=iR hd;cases h;have hlen:∀L2:Lay,L2.tree=t2->L2.rows.length=t2.Branches.length:=λL2 e=>by rw[<-e];simp[Lay.tree]
   refine(de7 (R:=λL2=>L2.tree=t2) hE hr (List.isEmpty_iff.1 hk) h72 (λW hW=>?_) (λL2 e=>by rw[hlen L2 e];exact hd)).mono ?_
   .refine(b24 (hE.below hW) hg h2).mono ?_;rintro e W' ⟨rfl,⟨L',q1,q2,_,q4⟩,_⟩;exact⟨rfl,L',q1,q2,q4⟩
   .rintro e w' ⟨rfl,L2,L3,e2,TL,hx3,hr3,hw3⟩;refine⟨rfl,TL.base,λ_=>⟨L3,TL,hx3,?_⟩⟩;simp only[Lay.tree,hr3,hw3,<-e2,List.map_append,List.map_take,List.map_drop]
def cZ6{w0 w:World}{L:Lay}(hE:Ed w0 w L)(hg:Gw w0)(hsz:Sz L.tree=true){o:Opn}{r:Tree×Int}(h:YV L.tree o=some r):Calls prog 33 #[ptr L.x 0,oval o] w (wE w0 L.x r):=by
 unfold YV at h;obtain⟨f,hf,h⟩:=bW h;obtain⟨a,fo⟩:=f;obtain⟨hF,_,hr⟩:=BF hE hg hf;cases fo with
 |false=>cases h;exact nV hE (by decide) (cZ2 (ao7 hE hF))
 |true=>
  obtain⟨q,hr⟩:=hr rfl;obtain⟨b,cb,U3,_⟩:=hE.sK hr;have Y6:=YZ hE hr U3 hF;have hx:=hE.dI (p:=.x) rfl;have hbl:=hE.dI (p:=.b) U3;have c0:=hE.c0;have c1:=hE.c1;have rD:=hE.cell hr U3 (j:=2) (by omega) rfl;simp only[fG,G6]at h;obtain⟨par,hpar,h⟩:=bW h;have fin:∀(h:(LY L.tree o.Unit).bind (λt2=>(t2.Branches[a]?).bind λb2=>(FX { t2 with Branches:=t2.Branches.set a { b2 with Unit:={ b2.Unit with Parent:=o.Parent } } } o.Unit o.Parent o.Before).bind λt3=>(LX t3).bind λz=>some (t3,z))=some r),∃t2,
   (∀W,Below w.heap.size w W->Calls prog 80 #[ptr L.x 0,.int .i64 o.Unit] W λe W'=>e=.returned (.tuple #[])/\(∀c j,w.heap.size<=c->c<W.heap.size->W'.cell? ⟨c,j,none⟩=W.cell? ⟨c,j,none⟩)/\∃L2 r2,Ed w0 W' L2/\L2.bo=some b/\(L2.tree=t2/\L2.x=L.x)/\L2.rows[a]?=some r2)/\
   (∀W(L2:Lay)(r2:Row),(L2.tree=t2/\L2.x=L.x)->L2.rows[a]?=some r2->Ed w0 W { L2 with rows:=L2.rows.set a ⟨{ r2.b with Unit:={ r2.b.Unit with Parent:=o.Parent } },r2.k,r2.o⟩ }->Calls prog 78 #[ptr L.x 0,.int .i64 o.Unit,.int .i64 o.Parent,.int .i64 o.Before] W λe W'=>e=.returned (.tuple #[])/\∃L3,Ed w0 W' L3/\L3.x=L.x/\L3.tree=r.1)/\
   (∀W,(∃L3,Ed w0 W L3/\L3.x=L.x/\L3.tree=r.1)->Calls prog 79 #[ptr L.x 0] W λe W'=>e=.returned (.int .i64 r.2)/\(Below w0.heap.size w0 W'/\(r.2=0->∃L',Ed w0 W' L'/\L'.x=L.x/\L'.tree=r.1))):=λh=>by
   obtain⟨t2,h2,h⟩:=bW h;obtain⟨b2,hb2,h⟩:=bW h;obtain⟨t3,h3,h⟩:=bW h;obtain⟨z,hz,h⟩:=bW h;cases h;refine⟨t2,λW hW=>?_,λW L2 r2 e2 hr2 hE'=>?_,λW hQ=>?_⟩
   .refine(b24 (hE.below hW) hg h2).mono ?_;rintro e W' ⟨rfl,⟨L',q1,q2,q3,q4⟩,hk⟩;have hrow:∃r2,L'.rows[a]?=some r2:=by
     rw[<-q4]at hb2;simp only[Lay.tree,P9]at hb2;cases hx:L'.rows[a]? with
     |none=>rw[hx]at hb2;cases hb2
     |some r2=>exact⟨r2,rfl⟩
    obtain⟨r2,hr2⟩:=hrow;refine⟨rfl,λc j h1 h2=>FK (a:=⟨c,j,none⟩) (hk c h2 λq hq=>?_),L',r2,q1,q3.trans U3,⟨q4,q2⟩,hr2⟩;have:=hE.dI (p:=q) hq;omega
   .rw[<-e2.2];refine(bP8 hE' hg (t':=t3) ?_).mono ?_
    .rw[a09,e2.1];have hb2':t2.Branches[a]?=some r2.b:=by rw[<-e2.1];exact EG hr2
     rw[hb2]at hb2';injection hb2' with hb2'
     rw[<-hb2'];exact h3
    .rintro e W' ⟨rfl,⟨L',q1,q2,_,q4⟩,_⟩;exact⟨rfl,L',q1,q2,q4⟩
   .obtain⟨L3,q1,q2,q4⟩:=hQ;rw[<-q2];refine(bF2 q1 hg (by rw[q4];exact hz)).here.mono ?_;rintro e W' ⟨rfl,hb⟩;exact⟨rfl,q1.base.trans (hb.mono q1.base.size),λ_=>⟨L3,q1.below hb,rfl,q4⟩⟩
  have okk:∀{f:FuncId}{args:S9},(Calls prog f args w λe' w'=>e'=.returned (.int .i64 r.2)/\(Below w0.heap.size w0 w'/\(r.2=0->∃L',Ed w0 w' L'/\L'.x=L.x/\L'.tree=r.1)))->Calls prog f args w (wE w0 L.x r):=λh=>h;cases par with
  |false=>
   cases hp0:(o.Parent==0)with
   |true=>rw[hp0]at hpar;cases hpar
   |false=>
    rw[hp0]at hpar;cases h;exact nV hE (by decide) (cZ3 Y6 (nU hp0) ((au6 hE hg (nU hp0) hpar).1 rfl))
  |true=>
   have hP:D9 w L.x o.Parent:=by
    cases hp0:(o.Parent==0)with
    |true=>exact .inl (mP hp0)
    |false=>rw[hp0]at hpar;exact .inr ⟨nU hp0,(au6 hE hg (nU hp0) hpar).2 rfl⟩
   simp only[fG,G6]at h;obtain⟨l,hl,h⟩:=bW h;obtain⟨c,hc,h⟩:=bW h;have h21:=ct2 hE hg hsz hl hc;cases c with
   |true=>cases h;exact nV hE (by decide) (cZ4 hx c0 c1 Y6 hP h21)
   |false=>
    simp only[G6]at h;rw[EG hr,F9]at h;obtain⟨s,hs,h⟩:=bW h;have aS:=b03 hE hg hs;cases hs0:(!(s==0))with
    |true=>rw[hs0]at h;cases h;exact nV hE (UL hs0) (cZ5 hx c0 c1 Y6 hP h21 hbl rD aS (UL hs0))
    |false=>
     rw[hs0]at h;have:=eq0 hs0;subst this;simp only[G6]at h;obtain⟨has,hh,h⟩:=bW h;cases hb0:(o.Before==0)with
     |true=>
      rw[hb0]at hh;cases hh;simp only[fG,G6]at h;obtain⟨t2,f0,f1,f2⟩:=fin h;exact okk (bH0 hx c0 c1 Y6 hP h21 hbl rD aS (.inl (mP hb0)) f0 f1 f2)
     |false=>
      have hb:=nU hb0;rw[hb0]at hh;simp only[G6]at hh;cases hu0:(o.Before==o.Unit)with
      |true=>
       rw[hu0]at hh;cases hh;cases h;exact nV hE (by decide) (bG9 hx c0 c1 Y6 hP h21 hbl rD aS hb (.inl (mP hu0)))
      |false=>
       rw[hu0]at hh;obtain⟨p,hpl,hh⟩:=bW hh;obtain⟨pb,po,hv,oo,P,iQ⟩:=av1 hE hg hpl;obtain⟨arr,el,hrow,hc'⟩:=P.row;have ex:∃(pb po:Nat) (hv:Value),At w 75 #[ptr L.x 0,.int .i64 o.Parent] (ptr pb po)/\pb<w.heap.size/\w.cell? ⟨pb,po,none⟩=some hv/\At w 10 #[hv,.int .i64 o.Before] (.bool has):=⟨pb,po,hv,iQ,(X6.1 hrow).1,(Q5 hrow hc').1,bw9 hE hg P hh⟩;cases has with
       |false=>cases h;exact nV hE (by decide) (bG9 hx c0 c1 Y6 hP h21 hbl rD aS hb (.inr ⟨nU hu0,ex⟩))
       |true=>
        simp only[fG,G6]at h;obtain⟨t2,f0,f1,f2⟩:=fin h;exact okk (bH0 hx c0 c1 Y6 hP h21 hbl rD aS (.inr ⟨hb,nU hu0,ex⟩) f0 f1 f2)
end
section
open Go Go.F7 Go.RowKit Go.Ev Proofs.Tryz
set_option maxRecDepth 100000
set_option maxHeartbeats 4000000
def bS3{Z:Zone}{w:World}{v:Value}{l:F6}{o:E8}(h:P8 w 3 1 v l.length (aN l) o)(hZ:∀b,o=some b->∀k,Z b k):Rep Z w (.sl 1 (l.map F8)) v:=by
 rcases l with _|⟨n,l⟩
 .cases h with
  |e a=>exact .nil _ _ _
  |b b c n arr hh hs hn hm h1=>exact .nil _ _ _
 .obtain⟨b,c,rfl,rfl,hc⟩:=h.form (by simp);have hlt:=hZ b rfl;refine cast (by rw[X0]) (Rep.sl (Z:=Z) (w:=w) 1 ((n::l).map F8) b 0 c (λi _=>.int .i64 ((n::l)[i]?.getD 0)) (by simpa using hc) (λi d hd=>?_) (λi j d e hd he=>?_) (λi j d e hd he=>?_))
  .rw[P9]at hd;cases hi:(n::l)[i]? with
   |none=>rw[hi]at hd;cases hd
   |some m=>rw[hi]at hd;cases hd;rfl
  .rw[P9]at hd;cases hi:(n::l)[i]? with
   |none=>rw[hi]at hd;cases hd
   |some m=>
    rw[hi]at hd;cases hd
    match j,he with
    |0,he=>
     cases he;refine⟨hlt _,?_,rfl⟩;refine h.cell ?_;simp only[aN,P9,X9,yC,pG,hi];rfl
  .rw[P9]at hd;rcases hi:(n::l)[i]? with _|m
   .rw[hi]at hd;cases hd
   .rw[hi]at hd;cases hd
    match j,he with
    |0,he=>cases he;exact .v _
def Ed.df7{Z:Zone}{w0 w:World}{L:Lay}(h:Ed w0 w L)(hZ:∀q b,L.at q=some b->∀k,Z b k):Rep Z w (.sl 6 ((L.rows.map Row.b).map I4)) L.bv:=by
 rcases hr:L.rows with _|⟨r0,rs⟩
 .have hb:=h.hb;rw[hr]at hb;generalize rcs []=C at hb;generalize L.bo=o at hb;generalize L.bv=v at hb;cases hb with
  |e a=>exact .nil _ _ _
  |b b c n arr hh hs hn hm h1=>exact .nil _ _ _
 .have⟨b,c,U3,hbv,hc⟩:=h.sK (i:=0) (r:=r0) (by rw[hr];rfl);have hlt:=hZ .b b U3;rw[hbv,<-hr];have hg:∀(i j:Nat)(d:G9)(e:CV),((L.rows.map Row.b).map I4)[i]?=some d->d[j]?=some e->∃r,L.rows[i]?=some r/\d=I4 r.b/\j<6:=λi j d e hd he=>by
   rw[P9,P9]at hd;cases hi:L.rows[i]? with
   |none=>rw[hi]at hd;cases hd
   |some r=>
    rw[hi]at hd;cases hd;exact⟨r,rfl,rfl,(P7.1 he).1⟩
  refine cast (by simp) (Rep.sl (Z:=Z) (w:=w) 6 ((L.rows.map Row.b).map I4) b 0 c (λi j=>((L.rows[i]?).bind λr=>r.cs[j]?).getD undef) (by simpa using hc) (λi d hd=>?_) (λi j d e hd he=>?_) (λi j d e hd he=>?_))
  .rw[P9,P9]at hd;cases hi:L.rows[i]? with
   |none=>rw[hi]at hd;cases hd
   |some r=>rw[hi]at hd;cases hd;rfl
  .obtain⟨r,hi,rfl,hj⟩:=hg i j d e hd he;obtain⟨u,hu⟩:∃u,r.cs[j]?=some u:=⟨_,J9 (show j<r.cs.length from hj)⟩;refine⟨hlt _,?_,?_⟩
   .rw[X9,h.cell hi U3 hj hu];simp[hi,hu]
   .match j,he with
    |0,he=>cases he;rfl
    |1,he=>cases he;rfl
    |2,he=>cases he;rfl
    |3,he=>cases he;rfl
    |4,he=>cases he;rfl
    |5,he=>cases he;rfl
  .obtain⟨r,hi,rfl,hj⟩:=hg i j d e hd he;simp only[hi,F9]
   match j,he with
   |0,he=>cases he;exact .v _
   |1,he=>cases he;exact .v _
   |2,he=>cases he;exact .v _
   |3,he=>cases he;exact .v _
   |4,he=>cases he;exact .v _
   |5,he=>cases he;exact bS3 (h.hk i r hi) λb hb=>hZ (.k i) b (by simp[Lay.at,hi,hb])
theorem Ed.df6{Z:Zone}{w0 w:World}{L:Lay}(h:Ed w0 w L)(hZ:∀q b,L.at q=some b->∀k,Z b k):Rep Z w (.agg (gW L.tree)) (.agg #[L.rv,L.bv]):=
 .agg _ [L.rv,L.bv] rfl (λi c x h1 h2=>by
  match i,h1,h2 with
  |0,h1,h2=>cases h1;cases h2;exact bS3 h.hr λb hb=>hZ .r b hb
  |1,h1,h2=>cases h1;cases h2;exact h.df7 hZ) (λi c h1=>by
  match i,h1 with
  |0,h1=>cases h1;rfl
  |1,h1=>cases h1;rfl)
def ent(k:Int)(f:Nat)(c:Nat):MapEntry:={ key:=.int .i64 k,val:=.func (.func f) #[] #[],born:=c }
theorem ag3{W:World}{b clock:Nat}{arr:lH}{k:Int}{f:Nat}(h:W.heap[b]?=some (.map arr clock))(hf:Instr.findNow (.int .i64) (.int .i64 k) arr.toList 0=some none):
 (Instr.mapUpdate 93 (.map (some b)) (.int .i64 k) (.func (.func f) #[] #[])).run prog W=.ok () (W.putObj b (.map (arr.push (ent k f clock)) (clock+1))):=by
 have hc:(Instr.checkKey false 10000 3 (.int .i64 k)).run prog W=.ok () W:=MapKept.run_checkKey underlying3 ((IG .i64).key k) false 9999;simp only[Instr.mapUpdate,J6,O4 underlying93,O8,qN h,hc,MapKept.run_findKey underlying3 hf,KQ _ h];rfl
def UA:lH:=#[ent 1 32 0,ent 2 33 1,ent 3 34 2,ent 4 35 3,ent 5 36 4]
def cX9(W:World)(b:Nat)(h:W.heap[b]?=some (.map #[] 0)):∃P1 P2 P3 P4 P5:World,
    (Instr.mapUpdate 93 (.map (some b)) (.int .i64 1) (.func (.func 32) #[] #[])).run prog W=.ok () P1/\(Instr.mapUpdate 93 (.map (some b)) (.int .i64 2) (.func (.func 33) #[] #[])).run prog P1=.ok () P2/\
    (Instr.mapUpdate 93 (.map (some b)) (.int .i64 3) (.func (.func 34) #[] #[])).run prog P2=.ok () P3/\(Instr.mapUpdate 93 (.map (some b)) (.int .i64 4) (.func (.func 35) #[] #[])).run prog P3=.ok () P4/\
    (Instr.mapUpdate 93 (.map (some b)) (.int .i64 5) (.func (.func 36) #[] #[])).run prog P4=.ok () P5/\P5.heap[b]?=some (.map UA 5)/\(∀k,k≠b->P5.heap[k]?=W.heap[k]?)/\P5.heap.size=W.heap.size/\P5.os=W.os/\P5.tape=W.tape/\P5.output=W.output:=by
 have hb:b<W.heap.size:=(X6.1 h).1;have s:∀(V:World)(o:Obj),b<V.heap.size->(V.putObj b o).heap[b]?=some o:=λV o h=>World.putObj_heap_same h;have h1:=ag3 (k:=1) (f:=32) h rfl;have g1:=s W (.map (#[].push (ent 1 32 0)) 1) hb;have h2:=ag3 (k:=2) (f:=33) g1 rfl;have g2:=s (W.putObj b (.map (#[].push (ent 1 32 0)) 1)) (.map ((#[].push (ent 1 32 0)).push (ent 2 33 1)) 2) (by simpa using hb);have h3:=ag3 (k:=3) (f:=34) g2 rfl;have g3:=s ((W.putObj b (.map (#[].push (ent 1 32 0)) 1)).putObj b (.map ((#[].push (ent 1 32 0)).push (ent 2 33 1)) 2)) (.map (((#[].push (ent 1 32 0)).push (ent 2 33 1)).push (ent 3 34 2)) 3) (by simpa using hb);have h4:=ag3 (k:=4) (f:=35) g3 rfl;have g4:=s (((W.putObj b (.map (#[].push (ent 1 32 0)) 1)).putObj b (.map ((#[].push (ent 1 32 0)).push (ent 2 33 1)) 2)).putObj b (.map (((#[].push (ent 1 32 0)).push (ent 2 33 1)).push (ent 3 34 2)) 3)) (.map ((((#[].push (ent 1 32 0)).push (ent 2 33 1)).push (ent 3 34 2)).push (ent 4 35 3)) 4) (by simpa using hb);have h5:=ag3 (k:=5) (f:=36) g4 rfl;refine⟨_,_,_,_,_,h1,h2,h3,h4,h5,World.putObj_heap_same (by simpa using hb),λk hk=>?_,by simp,rfl,rfl,rfl⟩;rw[jA hk,jA hk,jA hk,jA hk,jA hk]
def ac0{W:World}{b:Nat}(h:W.heap[b]?=some (.map UA 5))(n:Int):(Instr.lookup 93 (.map (some b)) (.int .i64 n) true).run prog W=
    .ok (.tuple #[if n=1 then .func (.func 32) #[] #[]else if n=2 then .func (.func 33) #[] #[]else if n=3 then .func (.func 34) #[] #[]else if n=4 then .func (.func 35) #[] #[]else if n=5 then .func (.func 36) #[] #[]else .nilFunc,.bool (decide (1<=n/\n<=5))]) W:=by
 have hc:∀q,(Instr.checkKey q 10000 3 (.int .i64 n)).run prog W=.ok () W:=λq=>MapKept.run_checkKey underlying3 ((IG .i64).key n) q 9999;have hit:∀(k:Nat)(v:Value),Instr.findNow (.int .i64) (.int .i64 n) UA.toList 0=some (some (k,v))->(Instr.lookup 93 (.map (some b)) (.int .i64 n) true).run prog W=.ok (.tuple #[v,.bool true]) W:=λk v hf=>by
  simp only[Instr.lookup,J6,O4 underlying93,O8,U5,qN h,hc,MapKept.run_findKey underlying3 hf,if_true]
 by_cases h1:n=1
 .subst h1;exact hit 0 _ rfl
 by_cases h2:n=2
 .subst h2;exact hit 1 _ rfl
 by_cases h3:n=3
 .subst h3;exact hit 2 _ rfl
 by_cases h4:n=4
 .subst h4;exact hit 3 _ rfl
 by_cases h5:n=5
 .subst h5;exact hit 4 _ rfl
 have hf:Instr.findNow (.int .i64) (.int .i64 n) UA.toList 0=some none:=by
  have e1:(n==1)=false:=FN.2 h1;have e2:(n==2)=false:=FN.2 h2;have e3:(n==3)=false:=FN.2 h3;have e4:(n==4)=false:=FN.2 h4;have e5:(n==5)=false:=FN.2 h5;simp[UA,ent,Instr.findNow,Instr.sameNow,e1,e2,e3,e4,e5]
 rw[H7 h1,H7 h2,H7 h3,H7 h4,H7 h5,show decide (1<=n/\n<=5)=false from fZ (by omega)];simp only[Instr.lookup,J6,O4 underlying93,O8,U5,qN h,hc,MapKept.run_findKey underlying3 hf,zeroValue90,if_true]
structure AB(w W:World)(rv bv:Value)(o:Opn):Prop where
 b:Below w.heap.size w W
 t:W.heap[w.heap.size]?=some (.cells #[rv,bv] 36 (0,0))
 o:W.heap[w.heap.size+1]?=some (.cells (DF o) 33 (0,0))
 r:W.heap[w.heap.size+2]?=some (.cells #[.slice none 0 0,.slice none 0 0] 36 (0,0))
 s:w.heap.size+4<=W.heap.size
def AB.below{w W W':World}{rv bv:Value}{o:Opn}(h:AB w W rv bv o)(hb:Below W.heap.size W W'):AB w W' rv bv o:=
 ⟨Below.and h.b (hb.mono (by omega)) |>λ_=>h.b.trans (hb.mono h.b.size),(hb.block _ (by have:=h.s;omega)).trans h.t,(hb.block _ (by have:=h.s;omega)).trans h.o,(hb.block _ (by have:=h.s;omega)).trans h.r,Y2 h.s hb.size⟩
def YB(w:World)(rv bv:Value)(o:Opn):∃P1 P2 P3 P4 P5:World,(Instr.mapUpdate 93 (.map (some (w.heap.size+3))) (.int .i64 1) (.func (.func 32) #[] #[])).run prog ((((w.alloc (.cells #[rv,bv] 36)).alloc (.cells (DF o) 33)).alloc (.cells #[.slice none 0 0,.slice none 0 0] 36)).alloc (.map #[] 0))=.ok () P1/\
    (Instr.mapUpdate 93 (.map (some (w.heap.size+3))) (.int .i64 2) (.func (.func 33) #[] #[])).run prog P1=.ok () P2/\
    (Instr.mapUpdate 93 (.map (some (w.heap.size+3))) (.int .i64 3) (.func (.func 34) #[] #[])).run prog P2=.ok () P3/\(Instr.mapUpdate 93 (.map (some (w.heap.size+3))) (.int .i64 4) (.func (.func 35) #[] #[])).run prog P3=.ok () P4/\
    (Instr.mapUpdate 93 (.map (some (w.heap.size+3))) (.int .i64 5) (.func (.func 36) #[] #[])).run prog P4=.ok () P5/\P5.heap[w.heap.size+3]?=some (.map UA 5)/\AB w P5 rv bv o:=by
 obtain⟨W1,hW1⟩:∃W1,W1=w.alloc (.cells #[rv,bv] 36):=⟨_,rfl⟩;obtain⟨W2,hW2⟩:∃W2,W2=W1.alloc (.cells (DF o) 33):=⟨_,rfl⟩;obtain⟨W3,hW3⟩:∃W3,W3=W2.alloc (.cells #[.slice none 0 0,.slice none 0 0] 36):=⟨_,rfl⟩;rw[<-hW1,<-hW2,<-hW3];have s1:W1.heap.size=w.heap.size+1:=by rw[hW1];simp
 have s2:W2.heap.size=w.heap.size+2:=by rw[hW2];simp[s1]
 have s3:W3.heap.size=w.heap.size+3:=by rw[hW3];simp[s2]
 have h1:W1.heap[w.heap.size]?=some (.cells #[rv,bv] 36 (0,0)):=by rw[hW1];exact bJ w _
 have h2:W2.heap[w.heap.size+1]?=some (.cells (DF o) 33 (0,0)):=by rw[<-s1,hW2];exact bJ W1 _
 have h3:W3.heap[w.heap.size+2]?=some (.cells #[.slice none 0 0,.slice none 0 0] 36 (0,0)):=by rw[<-s2,hW3];exact bJ W2 _
 have hm:(W3.alloc (.map #[] 0)).heap[w.heap.size+3]?=some (.map #[] 0):=by rw[<-s3];exact bJ W3 _
 have b1:Below w.heap.size w W1:=hW1▸al w _;have b2:Below W1.heap.size W1 W2:=hW2▸al W1 _;have b3:Below W2.heap.size W2 W3:=hW3▸al W2 _;obtain⟨P1,P2,P3,P4,P5,q1,q2,q3,q4,q5,q6,q7,q8,q9,q10,q11⟩:=cX9 _ _ hm;have bm:=al W3 (.map #[] 0);have hk:∀k,k<w.heap.size+3->P5.heap[k]?=W3.heap[k]?:=λk hk=>(q7 k (by omega)).trans (bm.block k (by omega));have hb:Below w.heap.size w W3:=Below.and b1 (Below.and b2 b3);refine⟨P1,P2,P3,P4,P5,q1,q2,q3,q4,q5,q6,⟨q9.trans hb.os,q10.trans hb.tape,q11.trans hb.output,by rw[q8];exact Y2 hb.size bm.size,λk h=>(hk k (by omega)).trans (hb.block k h)⟩,(hk _ (by omega)).trans (((Below.and b2 b3).block _ (by omega)).trans h1),(hk _ (by omega)).trans ((b3.block _ (by omega)).trans h2),(hk _ (by omega)).trans h3,by rw[q8];simp[s3]⟩
structure AC(w W:World)(rv bv:Value)(o:Opn):Prop where
 t0:W.cell? ⟨w.heap.size,0,none⟩=some rv
 t1:W.cell? ⟨w.heap.size,1,none⟩=some bv
 o0:W.cell? ⟨w.heap.size+1,0,none⟩=some (.int .i64 o.ID)
 o1:W.cell? ⟨w.heap.size+1,1,none⟩=some (.int .i64 o.Day)
 o2:W.cell? ⟨w.heap.size+1,2,none⟩=some (.int .i64 o.Kind)
 o3:W.cell? ⟨w.heap.size+1,3,none⟩=some (.int .i64 o.Unit)
 o4:W.cell? ⟨w.heap.size+1,4,none⟩=some (.int .i64 o.Parent)
 o5:W.cell? ⟨w.heap.size+1,5,none⟩=some (.int .i64 o.Before)
 o6:W.cell? ⟨w.heap.size+1,6,none⟩=some (.int .i64 o.Level)
 o7:W.cell? ⟨w.heap.size+1,7,none⟩=some (.string ⟨⟨o.Title⟩⟩)
 o8:W.cell? ⟨w.heap.size+1,8,none⟩=some (.string ⟨⟨o.Mark⟩⟩)
 o9:W.cell? ⟨w.heap.size+1,9,none⟩=some (.int .i64 o.Origin.bQ)
 oa:W.cell? ⟨w.heap.size+1,10,none⟩=some (.int .i64 o.Origin.X3)
 ob:W.cell? ⟨w.heap.size+1,11,none⟩=some (.int .i64 o.Origin.Number)
 r0:W.cell? ⟨w.heap.size+2,0,none⟩=some (.slice none 0 0)
 r1:W.cell? ⟨w.heap.size+2,1,none⟩=some (.slice none 0 0)
 f0:W.frozen? ⟨w.heap.size+2,0,none⟩=false
 f1:W.frozen? ⟨w.heap.size+2,1,none⟩=false
def AB.c{w W:World}{rv bv:Value}{o:Opn}(h:AB w W rv bv o):AC w W rv bv o:=
 ⟨(Q5 h.t rfl).1,(Q5 h.t rfl).1,(Q5 h.o rfl).1,(Q5 h.o rfl).1,(Q5 h.o rfl).1,(Q5 h.o rfl).1,(Q5 h.o rfl).1,(Q5 h.o rfl).1,(Q5 h.o rfl).1,(Q5 h.o rfl).1,(Q5 h.o rfl).1,(Q5 h.o rfl).1,(Q5 h.o rfl).1,(Q5 h.o rfl).1,(Q5 h.r rfl).1,(Q5 h.r rfl).1,(Q5 (o:=0) h.r rfl).2,(Q5 (o:=1) h.r rfl).2⟩
def AB.res{w W:World}{rv bv:Value}{o:Opn}(h:AB w W rv bv o)(x y:Value):Below w.heap.size w ((W.setCell ⟨w.heap.size+2,0,none⟩ x).setCell ⟨w.heap.size+2,1,none⟩ y):=
 Below.xE (Below.xE h.b (by omega)) (by omega)
def cq6{w:World}{rv bv:Value}{o:Opn}(hk:¬(1<=o.Kind/\o.Kind<=5)):
    Calls prog 11 #[.agg #[rv,bv],oval o] w λe w'=>e=.returned (.tuple #[.agg #[.slice none 0 0,.slice none 0 0],.int .i64 1])/\Below w.heap.size w w':=by
 obtain⟨P1,P2,P3,P4,P5,q1,q2,q3,q4,q5,q6,A⟩:=YB w rv bv o;have hl:=ac0 q6 o.Kind;rw[show decide (1<=o.Kind/\o.Kind<=5)=false from fZ hk,H7 (by omega),H7 (by omega),H7 (by omega),H7 (by omega),H7 (by omega)]at hl;have k2:=A.c.o2;have r0:=A.c.r0;have r1:=A.c.r1;have f0:=A.c.f0;have f1:=A.c.f1;have hmm:=@ax2 prog;have HA:=Lib.hid A;clear A q6
 go_enter func11,ntmps11
 go_wp2
 have s0:=(Q5 (o:=0) (rP (rv:=.slice none 0 0) (bv:=.slice none 0 0) HA.out.r) rfl).1;have s1:=(Q5 (o:=1) (rP (rv:=.slice none 0 0) (bv:=.slice none 0 0) HA.out.r) rfl).1;exact am3 (v:=.tuple #[.agg #[.slice none 0 0,.slice none 0 0],.int .i64 1]) (by simp[results,Tryz.results11,go_sem,s0,s1]) rfl ⟨rfl,HA.out.res _ _⟩
def AP(w:World)(r:Tree×Int)(e:Ending)(w':World):Prop:=∃rv' bv',e=.returned (.tuple #[.agg #[rv',bv'],.int .i64 r.2])/\Below w.heap.size w w'/\Rep (λb _=>w.heap.size<=b/\b<w'.heap.size) w' (.agg (gW r.1)) (.agg #[rv',bv'])
def KF(o:Opn)(F:FuncId):Prop:=(o.Kind=1/\F=32)\/(o.Kind=2/\F=33)\/(o.Kind=3/\F=34)\/(o.Kind=4/\F=35)\/(o.Kind=5/\F=36)
def al2{w w':World}{z:Int}{e:Ending}(h1:e=.returned (.tuple #[.agg #[.slice none 0 0,.slice none 0 0],.int .i64 z]))(h2:Below w.heap.size w w'):AP w (E0,z) e w':=
 ⟨_,_,h1,h2,.agg _ [.slice none 0 0,.slice none 0 0] rfl (λi c x q1 q2=>by
   match i,q1,q2 with
   |0,q1,q2=>cases q1;cases q2;exact .nil _ _ _
   |1,q1,q2=>cases q1;cases q2;exact .nil _ _ _) (λi c q1=>by
   match i,q1 with
   |0,q1=>cases q1;rfl
   |1,q1=>cases q1;rfl)⟩
def cq7{w:World}{rv bv:Value}{o:Opn}{F:FuncId}(hk:KF o F)(h37:∀W,Below w.heap.size w W->Calls prog 37 #[oval o] W λe W'=>e=.returned (.bool false)/\Below W.heap.size W W'):
    Calls prog 11 #[.agg #[rv,bv],oval o] w (AP w (E0,1)):=by
 unfold KF at hk;obtain⟨P1,P2,P3,P4,P5,q1,q2,q3,q4,q5,q6,A⟩:=YB w rv bv o;have hl:=ac0 q6 o.Kind;have hmm:=@ax2 prog;obtain⟨t0,t1,o0,o1,o2,o3,o4,o5,o6,o7,o8,o9,oa,ob,r0,r1,f0,f1⟩:=A.c;clear q6;rcases hk with⟨hk,rfl⟩|⟨hk,rfl⟩|⟨hk,rfl⟩|⟨hk,rfl⟩|⟨hk,rfl⟩
 all_goals
  conv at hl=>rhs;simp only[hk,I9,reduceIte,Int.reduceEq,Int.reduceLE,and_self,pV]
  have HK:=Lib.hid hk;clear hk
  go_enter func11,ntmps11
  go_wp2_with (go_at_call 37;refine(h37 _ A.b).mono ?_;rintro e w6 ⟨rfl,hw6⟩;have A6:=A.below hw6;obtain⟨t06,t16,o06,o16,o26,o36,o46,o56,o66,o76,o86,o96,oa6,ob6,r06,r16,f06,f16⟩:=A6.c)
  have s0:=(Q5 (o:=0) (rP (rv:=.slice none 0 0) (bv:=.slice none 0 0) A6.r) rfl).1;have s1:=(Q5 (o:=1) (rP (rv:=.slice none 0 0) (bv:=.slice none 0 0) A6.r) rfl).1;exact am3 (v:=.tuple #[.agg #[.slice none 0 0,.slice none 0 0],.int .i64 1]) (by simp[results,Tryz.results11,go_sem,s0,s1]) rfl (al2 rfl (A6.res _ _))
def cq8{w:World}{rv bv:Value}{o:Opn}{F:FuncId}(hk:KF o F)(h37:∀W,Below w.heap.size w W->Calls prog 37 #[oval o] W λe W'=>e=.returned (.bool true)/\Below W.heap.size W W')(h38:∀W,Below w.heap.size w W->Calls prog 38 #[.agg #[rv,bv]] W λe W'=>e=.returned (.bool false)/\Below W.heap.size W W'):
    Calls prog 11 #[.agg #[rv,bv],oval o] w (AP w (E0,1)):=by
 unfold KF at hk;obtain⟨P1,P2,P3,P4,P5,q1,q2,q3,q4,q5,q6,A⟩:=YB w rv bv o;have hl:=ac0 q6 o.Kind;have hmm:=@ax2 prog;obtain⟨t0,t1,o0,o1,o2,o3,o4,o5,o6,o7,o8,o9,oa,ob,r0,r1,f0,f1⟩:=A.c;clear q6;rcases hk with⟨hk,rfl⟩|⟨hk,rfl⟩|⟨hk,rfl⟩|⟨hk,rfl⟩|⟨hk,rfl⟩
 all_goals
  conv at hl=>rhs;simp only[hk,I9,reduceIte,Int.reduceEq,Int.reduceLE,and_self,pV]
  have HK:=Lib.hid hk;clear hk
  go_enter func11,ntmps11
  go_wp2_with (first|(go_at_call 37;refine(h37 _ A.b).mono ?_;rintro e w6 ⟨rfl,hw6⟩;have A6:=A.below hw6;obtain⟨t06,t16,o06,o16,o26,o36,o46,o56,o66,o76,o86,o96,oa6,ob6,r06,r16,f06,f16⟩:=A6.c)|(go_at_call 38;refine(h38 _ A6.b).mono ?_;rintro e w7 ⟨rfl,hw7⟩;have A7:=A6.below hw7;obtain⟨t07,t17,o07,o17,o27,o37,o47,o57,o67,o77,o87,o97,oa7,ob7,r07,r17,f07,f17⟩:=A7.c))
  have s0:=(Q5 (o:=0) (rP (rv:=.slice none 0 0) (bv:=.slice none 0 0) A7.r) rfl).1;have s1:=(Q5 (o:=1) (rP (rv:=.slice none 0 0) (bv:=.slice none 0 0) A7.r) rfl).1;exact am3 (v:=.tuple #[.agg #[.slice none 0 0,.slice none 0 0],.int .i64 1]) (by simp[results,Tryz.results11,go_sem,s0,s1]) rfl (al2 rfl (A7.res _ _))
def cq9{w:World}{rv bv:Value}{o:Opn}{F:FuncId}(hk:KF o F){t:Tree}{r:Tree×Int}(h37:∀W,Below w.heap.size w W->Calls prog 37 #[oval o] W λe W'=>e=.returned (.bool true)/\Below W.heap.size W W')(h38:∀W,Below w.heap.size w W->Calls prog 38 #[.agg #[rv,bv]] W λe W'=>e=.returned (.bool true)/\Below W.heap.size W W')(hed:∀W,Below w.heap.size w W->Calls prog 39 #[.agg #[rv,bv]] W λe W'=>∃L,e=.returned (ptr L.x 0)/\Ed W W' L/\L.tree=t)(hdo:∀W W' L,Ed W W' L->Below w.heap.size w W->L.tree=t->Calls prog F #[ptr L.x 0,oval o] W' (wE W L.x r))(hr:r.2≠0):
    Calls prog 11 #[.agg #[rv,bv],oval o] w (AP w (E0,r.2)):=by
 unfold KF at hk;obtain⟨P1,P2,P3,P4,P5,q1,q2,q3,q4,q5,q6,A⟩:=YB w rv bv o;have hl:=ac0 q6 o.Kind;have hmm:=@ax2 prog;obtain⟨t0,t1,o0,o1,o2,o3,o4,o5,o6,o7,o8,o9,oa,ob,r0,r1,f0,f1⟩:=A.c;clear q6;have hr':(r.2 !=0)=true:=by simp[hr]
 clear hr;rcases hk with⟨hk,rfl⟩|⟨hk,rfl⟩|⟨hk,rfl⟩|⟨hk,rfl⟩|⟨hk,rfl⟩
 all_goals
  conv at hl=>rhs;simp only[hk,I9,reduceIte,Int.reduceEq,Int.reduceLE,and_self,pV]
  have HK:=Lib.hid hk;clear hk
  go_enter func11,ntmps11
  go_wp2_with (first|(go_at_call 37;refine(h37 _ A.b).mono ?_;rintro e w6 ⟨rfl,hw6⟩;have A6:=A.below hw6;obtain⟨t06,t16,o06,o16,o26,o36,o46,o56,o66,o76,o86,o96,oa6,ob6,r06,r16,f06,f16⟩:=A6.c)|(go_at_call 38;refine(h38 _ A6.b).mono ?_;rintro e w7 ⟨rfl,hw7⟩;have A7:=A6.below hw7;obtain⟨t07,t17,o07,o17,o27,o37,o47,o57,o67,o77,o87,o97,oa7,ob7,r07,r17,f07,f17⟩:=A7.c)|(go_at_call 39;refine(hed _ A7.b).mono ?_;rintro e w8 ⟨L,rfl,hE,ht⟩;have A8:=A7.below hE.base;have aM8:=hdo _ _ _ hE A7.b ht;obtain⟨t08,t18,o08,o18,o28,o38,o48,o58,o68,o78,o88,o98,oa8,ob8,r08,r18,f08,f18⟩:=A8.c)|((first|go_at_call 32|go_at_call 33|go_at_call 34|go_at_call 35|go_at_call 36);refine aM8.mono ?_;rintro e w9 ⟨rfl,hb9,hr9⟩;have A9:=A7.below hb9;obtain⟨t09,t19,o09,o19,o29,o39,o49,o59,o69,o79,o89,o99,oa9,ob9,r09,r19,f09,f19⟩:=A9.c))
  have s0:=(Q5 (o:=0) (rP (rv:=.slice none 0 0) (bv:=.slice none 0 0) A9.r) rfl).1;have s1:=(Q5 (o:=1) (rP (rv:=.slice none 0 0) (bv:=.slice none 0 0) A9.r) rfl).1;exact am3 (v:=.tuple #[.agg #[.slice none 0 0,.slice none 0 0],.int .i64 r.2]) (by simp[results,Tryz.results11,go_sem,s0,s1]) rfl (al2 rfl (A9.res _ _))
def cr0{w:World}{rv bv:Value}{o:Opn}{F:FuncId}(hk:KF o F){t:Tree}{r:Tree×Int}(h37:∀W,Below w.heap.size w W->Calls prog 37 #[oval o] W λe W'=>e=.returned (.bool true)/\Below W.heap.size W W')(h38:∀W,Below w.heap.size w W->Calls prog 38 #[.agg #[rv,bv]] W λe W'=>e=.returned (.bool true)/\Below W.heap.size W W')(hed:∀W,Below w.heap.size w W->Calls prog 39 #[.agg #[rv,bv]] W λe W'=>∃L,e=.returned (ptr L.x 0)/\Ed W W' L/\L.tree=t)(hdo:∀W W' L,Ed W W' L->Below w.heap.size w W->L.tree=t->Calls prog F #[ptr L.x 0,oval o] W' (wE W L.x r))(hr:r.2=0):
    Calls prog 11 #[.agg #[rv,bv],oval o] w (AP w r):=by
 unfold KF at hk;obtain⟨P1,P2,P3,P4,P5,q1,q2,q3,q4,q5,q6,A⟩:=YB w rv bv o;have hl:=ac0 q6 o.Kind;have hmm:=@ax2 prog;obtain⟨t0,t1,o0,o1,o2,o3,o4,o5,o6,o7,o8,o9,oa,ob,r0,r1,f0,f1⟩:=A.c;clear q6;have hr':(r.2 !=0)=false:=by simp[hr]
 have hz:r.2=0:=hr;have HZ:=Lib.hid hr;clear hr;rcases hk with⟨hk,rfl⟩|⟨hk,rfl⟩|⟨hk,rfl⟩|⟨hk,rfl⟩|⟨hk,rfl⟩
 all_goals
  conv at hl=>rhs;simp only[hk,I9,reduceIte,Int.reduceEq,Int.reduceLE,and_self,pV]
  have HK:=Lib.hid hk;clear hk
  go_enter func11,ntmps11
  go_wp2_with (first|(go_at_call 37;refine(h37 _ A.b).mono ?_;rintro e w6 ⟨rfl,hw6⟩;have A6:=A.below hw6;obtain⟨t06,t16,o06,o16,o26,o36,o46,o56,o66,o76,o86,o96,oa6,ob6,r06,r16,f06,f16⟩:=A6.c)|(go_at_call 38;refine(h38 _ A6.b).mono ?_;rintro e w7 ⟨rfl,hw7⟩;have A7:=A6.below hw7;obtain⟨t07,t17,o07,o17,o27,o37,o47,o57,o67,o77,o87,o97,oa7,ob7,r07,r17,f07,f17⟩:=A7.c)|(go_at_call 39;refine(hed _ A7.b).mono ?_;rintro e w8 ⟨L,rfl,hE,ht⟩;have A8:=A7.below hE.base;have aM8:=hdo _ _ _ hE A7.b ht;obtain⟨t08,t18,o08,o18,o28,o38,o48,o58,o68,o78,o88,o98,oa8,ob8,r08,r18,f08,f18⟩:=A8.c)|((first|go_at_call 32|go_at_call 33|go_at_call 34|go_at_call 35|go_at_call 36);refine aM8.mono ?_;rintro e w9 ⟨rfl,hb9,hr9⟩;have A9:=A7.below hb9;obtain⟨t09,t19,o09,o19,o29,o39,o49,o59,o69,o79,o89,o99,oa9,ob9,r09,r19,f09,f19⟩:=A9.c;obtain⟨L9,ND,hx9,ht9⟩:=hr9 hz;obtain⟨va,vc,hva,_⟩:=ND.hr.sl;obtain⟨ba,bc,hba,_⟩:=ND.hb.sl;have y0:=ND.c0;have y1:=ND.c1;rw[hx9,hva]at y0;rw[hx9,hba]at y1;have HV:=Lib.hid hva;have HB:=Lib.hid hba;clear hva hba))
  have s0:=(Q5 (o:=0) (rP (rv:=.slice va L9.roots.length vc) (bv:=.slice ba L9.rows.length bc) A9.r) rfl).1;have s1:=(Q5 (o:=1) (rP (rv:=.slice va L9.roots.length vc) (bv:=.slice ba L9.rows.length bc) A9.r) rfl).1;refine am3 (v:=.tuple #[.agg #[.slice va L9.roots.length vc,.slice ba L9.rows.length bc],.int .i64 0]) (by simp[results,Tryz.results11,go_sem,s0,s1]) rfl ⟨_,_,by rw[HZ.out],A9.res _ _,?_⟩;have hR:=ND.df6 (Z:=λb _=>w7.heap.size<=b/\b<w9.heap.size) λq b hq _=>⟨ND.lo q b hq,ND.dI hq⟩;rw[HV.out,HB.out,ht9]at hR;have hs7:=A7.s;have hb7:=A7.b.size;exact hR.keep λb o hb=>⟨⟨by omega,by rw[ah4,ah4];exact hb.2⟩,jM (ah3 (by omega))⟩
end
section
open Go Go.F7 Go.RowKit Go.Ev Proofs.Tryz
def rH(t:Tree)(o:Opn):KW:=
 bif decide (1<=o.Kind/\o.Kind<=5)then(JE o).bind λfo=>bif !fo then some (E0,1)else(bU6 t).bind λri=>bif !ri then some (E0,1)else
  bif Sz t then(bif o.Kind==1 then YT t o else bif o.Kind==2 then YV t o else bif o.Kind==3 then YX t o else bif o.Kind==4 then YU t o else YW t o).bind λr=>bif r.2==0 then some r else some (E0,r.2)
  else none
 else some (E0,1)
def df9{Z:Zone}{w:World}{xs:H6}{v:Value}(h:Rep Z w (.agg (xs.map CV.v)) v):v=.agg xs.toArray:=by
 generalize hc:xs.map CV.v=cs at h;cases h with
 |agg cs vs hl h ha=>
  subst hc;congr 2;apply nZ;intro i;rw[X0]at hl;cases hx:xs[i]? with
  |none=>rw[ak6]at hx⊢;omega
  |some x=>
   have hi:=(P7.1 hx).1;obtain⟨y,hy⟩:∃y,vs[i]?=some y:=⟨_,J9 (by omega)⟩;rw[hy];exact congrArg some (vS (h i (.v x) y (by rw[P9,hx];rfl) hy))
def dd0{Z:Zone}{w:World}{t:Tree}{o:Opn}{rv bv:Value}{r:Tree×Int}(hg:Gw w)(hz:∀b o,Z b o->b<w.heap.size)(hrep:Rep Z w (.agg (gW t)) (.agg #[rv,bv]))(ho:Rep Z w (.agg (G7 o)) (oval o))(h:rH t o=some r):
    Calls prog 11 #[.agg #[rv,bv],oval o] w (AP w r):=by
 unfold rH at h;by_cases hk:1<=o.Kind/\o.Kind<=5
 .rw[aI hk]at h;simp only[H9]at h;obtain⟨fo,hfo,h⟩:=bW h;have h37:∀W,Below w.heap.size w W->Calls prog 37 #[oval o] W λe W'=>e=.returned (.bool fo)/\Below W.heap.size W W':=λW hW=>
   ar0 (bT4 hfo) (Gs w W hg hW) (U0.cons (ho.keep (CP hz hW)) (U0.nil _ _)) λb o hb=>aH (hz b o hb) hW.size
  obtain⟨F,hF⟩:∃F,KF o F:=by
   have five:o.Kind=1\/o.Kind=2\/o.Kind=3\/o.Kind=4\/o.Kind=5:=by omega
   unfold KF;rcases five with h|h|h|h|h
   .exact⟨32,.inl ⟨h,rfl⟩⟩
   .exact⟨33,.inr (.inl ⟨h,rfl⟩)⟩
   .exact⟨34,.inr (.inr (.inl ⟨h,rfl⟩))⟩
   .exact⟨35,.inr (.inr (.inr (.inl ⟨h,rfl⟩)))⟩
   .exact⟨36,.inr (.inr (.inr (.inr ⟨h,rfl⟩)))⟩
  cases fo with
  |false=>cases h;exact cq7 hF h37
  |true=>
   simp only[fG,G6]at h;obtain⟨ri,hri,h⟩:=bW h;have h38:∀W,Below w.heap.size w W->Calls prog 38 #[.agg #[rv,bv]] W λe W'=>e=.returned (.bool ri)/\Below W.heap.size W W':=λW hW=>
    ar0 (dh3 hri) (Gs w W hg hW) (U0.cons (hrep.keep (CP hz hW)) (U0.nil _ _)) λb o hb=>aH (hz b o hb) hW.size
   cases ri with
   |false=>cases h;exact cq8 hF h37 h38
   |true=>
    simp only[fG,G6]at h;refine mV h λhsz h=>?_;obtain⟨s1,s2,s3⟩:=b07 hsz;have hed:∀W,Below w.heap.size w W->Calls prog 39 #[.agg #[rv,bv]] W λe W'=>∃L,e=.returned (ptr L.x 0)/\Ed W W' L/\L.tree=t:=λW hW=>by
     have hr:=hrep.keep (CP hz hW);have hzW:∀b o,Z b o->b<W.heap.size:=λb o hb=>aH (hz b o hb) hW.size;cases hr with
     |agg cs vs hl hh ha=>
      exact cA6 hzW (hh 0 _ rv rfl rfl) (hh 1 _ bv rfl rfl) s1 s2 s3
    obtain⟨q,hq,h⟩:=bW h;have hdo:∀W W' L,Ed W W' L->Below w.heap.size w W->L.tree=t->Calls prog F #[ptr L.x 0,oval o] W' (wE W L.x q):=λW W' L hE hW ht=>by
     have hgw:=Gs w W hg hW;unfold KF at hF;subst ht;rcases hF with⟨hk,rfl⟩|⟨hk,rfl⟩|⟨hk,rfl⟩|⟨hk,rfl⟩|⟨hk,rfl⟩
     all_goals rw[hk]at hq
     .exact cy9 hE hgw hq
     .exact cZ6 hE hgw hsz hq
     .exact df4 hE hgw hq
     .exact cY5 hE hgw hq
     .exact de8 hE hgw hq
    cases hz0:(q.2==0)with
    |true=>rw[hz0]at h;cases h;exact cr0 hF h37 h38 hed hdo (mP hz0)
    |false=>rw[hz0]at h;cases h;exact cq9 hF h37 h38 hed hdo (nU hz0)
 .rw[fZ hk]at h;cases h;exact(cq6 hk).mono λe w' ⟨h1,h2⟩=>al2 h1 h2
def bQ4{t:Tree}{o:Opn}{r:Tree×Int}(h:rH t o=some r):Holds prog Gw 11 [.agg (gW t),.agg (G7 o)] (.U6 [.agg (gW r.1),I r.2]):=by
 refine aO0 ⟨_,func11,by decide,rfl⟩ λZ w vs h1 h2 h3=>?_
 match vs,h1 with
 |[tv,ov],h1=>
  have ht:=h1.head;have ho:=h1.tail.head;have eo:=df9 (xs:=(DF o).toList) ho;subst eo;have key:∃rv bv,tv=.agg #[rv,bv]:=by
   cases ht with
   |agg cs vs hl hh ha=>
    match vs,hl with
    |[a,c],_=>exact⟨a,c,rfl⟩
  obtain⟨rv,bv,rfl⟩:=key;refine(dd0 h3 h2 ht ho h).mono ?_;rintro e w' ⟨rv',bv',rfl,hb,hr⟩;refine⟨_,λb o=>Z b o\/(w.heap.size<=b/\b<w'.heap.size),rfl,?_,λ_ _ hz=>.inl hz,λb o hz=>?_,hb⟩
  .refine .U6 _ [.agg #[rv',bv'],.int .i64 r.2] rfl (λi c x q1 q2=>?_)
   match i,q1,q2 with
   |0,q1,q2=>cases q1;cases q2;exact hr.keep λb o hz=>⟨.inr hz,rfl,λ_ _ h=>h⟩
   |1,q1,q2=>cases q1;cases q2;exact .v _
  .rcases hz with hz|hz
   .exact⟨.inl hz,aH (h2 b o hz) hb.size⟩
   .exact⟨.inr hz.1,hz.2⟩
end
section
open Go Go.F7 Proofs.Tryz
set_option maxRecDepth 10000
set_option maxHeartbeats 400000
abbrev bO6(y:Bool):CV:=B y
def ad7(x:Came)(c0:Came):U7:=some ((x.Origin.X3==c0.Origin.X3))
def bO7{x:Came}{c0:Came}{r:Bool}(hF:ad7 x c0=some r):Holds prog Gw 276 [.agg (N9 x),.pi (N9 c0) 0] (bO6 r):=by
 refine V9 O9 mixed func276 (by decide) rfl (I8 rfl) ?_;refine l9 ?_;exact l9 ⟨rfl,congrArg (Option.map bO6) hF⟩
abbrev aX7(y:Bool):CV:=B y
def au8(x:Came)(c0:Came)(c1:Came):U7:=Option.bind (ad7 x c0) λy1=>bif y1 then some ((x.Origin.Number==c1.Origin.Number))else some (false)
def db1{x:Came}{c0:Came}{c1:Came}{r:Bool}(hF:au8 x c0 c1=some r):Holds prog Gw 277 [.agg (N9 x),.pi [.fn 276 [.pi (N9 c0) 0]] 0,.pi (N9 c1) 0] (aX7 r):=by
 refine V9 O9 mixed func277 (by decide) rfl (I8 rfl) ?_;refine l9 ?_;refine P6 ?_;refine E5 hF λy1 h2 hF=>?_;refine l9 ⟨_,bO7 h2,rfl,?_⟩;refine C9 (λh3=>?_) (λh3=>?_)
 .have hF:=D6 h3 hF;exact l9 ⟨rfl,congrArg (Option.map aX7) hF⟩
 .have hF:=D5 h3 hF;exact l9 ⟨rfl,congrArg (Option.map aX7) hF⟩
abbrev aX8(y:Bool):CV:=B y
def au9(x:Came)(c0:Came)(c1:Came):U7:=Option.bind (ad7 x c0) λy1=>bif y1 then some ((x.Origin.bQ !=c1.Origin.bQ))else some (false)
def db2{x:Came}{c0:Came}{c1:Came}{r:Bool}(hF:au9 x c0 c1=some r):Holds prog Gw 278 [.agg (N9 x),.pi [.fn 276 [.pi (N9 c0) 0]] 0,.pi (N9 c1) 0] (aX8 r):=by
 refine V9 O9 mixed func278 (by decide) rfl (I8 rfl) ?_;refine l9 ?_;refine P6 ?_;refine E5 hF λy1 h2 hF=>?_;refine l9 ⟨_,bO7 h2,rfl,?_⟩;refine C9 (λh3=>?_) (λh3=>?_)
 .have hF:=D6 h3 hF;exact l9 ⟨rfl,congrArg (Option.map aX8) hF⟩
 .have hF:=D5 h3 hF;exact l9 ⟨rfl,congrArg (Option.map aX8) hF⟩
abbrev ad8(y:Int):CV:=I y
def VU(l:N7)(c:Came):gQ:=bif (c.Origin.X3==0)then some (0)else(Option.bind (ah5 l (λz0=>au8 z0 c c)) λy2=>bif y2 then some (6)else(Option.bind (ah5 l (λz0=>au9 z0 c c)) λy5=>bif y5 then some (10)else some (0)))
def aX9{l:N7}{c:Came}{r:Int}(hF:VU l c=some r):Holds prog Gw 192 [.sl 4 (l.map N9),.agg (N9 c)] (ad8 r):=by
 refine V9 O9 mixed func192 (by decide) rfl (I8 rfl) ?_;refine l9 ?_;refine C9 (λh1=>?_) (λh1=>?_)
 .have hF:=D6 h1 hF;exact l9 ⟨rfl,congrArg (Option.map ad8) hF⟩
 .have hF:=D5 h1 hF;refine l9 ?_;refine l9 ?_;refine E5 hF λy2 h3 hF=>?_;refine l9 ⟨_,bX1 (λ_ _ h=>db1 h) h3,rfl,?_⟩;refine C9 (λh4=>?_) (λh4=>?_)
  .have hF:=D6 h4 hF;exact l9 ⟨rfl,congrArg (Option.map ad8) hF⟩
  .have hF:=D5 h4 hF;refine E5 hF λy5 h6 hF=>?_;refine l9 ⟨_,bX1 (λ_ _ h=>db2 h) h6,rfl,?_⟩;refine C9 (λh7=>?_) (λh7=>?_)
   .have hF:=D6 h7 hF;exact l9 ⟨rfl,congrArg (Option.map ad8) hF⟩
   .have hF:=D5 h7 hF;exact l9 ⟨rfl,congrArg (Option.map ad8) hF⟩
abbrev OM(y:Int×Int):CV:=.U6 [I y.1,I y.2]
def OQ(l:List Came):Nat->Int->Option (Int×Int)
 |0,_=>none
 |fu1+1,v2=>bif decide (v2<((l.map N9).length:Int))then(Option.bind (ix l v2) λx4=>Option.bind (ad6 (⟨x4.Unit,x4.Origin⟩:Came)) λy6=>bif (!y6)then some (v2,2)else(bif decide (v2>0)then(Option.bind (ix l (IntKind.i64.wrap (v2-1))) λx10=>bif decide (x4.Unit<=x10.Unit)then some (v2,5)else(Option.bind (slc l 0 v2) λy13=>Option.bind (VU y13 (⟨x4.Unit,x4.Origin⟩:Came)) λjW=>bif (jW !=0)then some (v2,jW)else OQ l fu1 (IntKind.i64.wrap (v2+1))))else(Option.bind (slc l 0 v2) λlW=>Option.bind (VU lW (⟨x4.Unit,x4.Origin⟩:Came)) λy20=>bif (y20 !=0)then some (v2,y20)else OQ l fu1 (IntKind.i64.wrap (v2+1)))))else some ((-1),0)
def aW9(N:Nat)(l:N7):Option (Int×Int):=bif decide (((l.map N9).length:Int)>256)then some ((-1),8)else OQ l N 0
def da5{N:Nat}{l:N7}{r:Int×Int}(hF:aW9 N l=some r):Holds prog Gw 110 [.sl 4 (l.map N9)] (OM r):=by
 refine V9 O9 mixed func110 (by decide) rfl (I8 rfl) ?_;refine C9 (λh1=>?_) (λh1=>?_)
 .have hF:=D6 h1 hF;exact l9 ⟨rfl,congrArg (Option.map OM) hF⟩
 .have hF:=D5 h1 hF;refine iE (λp:Nat×Int=>[(0,.c (.sl 4 (l.map N9))),(10,.c (.sl 4 (l.map N9))),(11,.c (I ((l.map N9).length:Int))),(12,.c (I p.2))]) (λ_=>[]) (λp=>OQ l p.1 p.2=some r) (λp=>p.1) (N,0) hF ⟨rfl,rfl,rfl,rfl,trivial⟩ trivial ?_;rintro⟨fu1,v2⟩ hF;cases fu1 with
  |zero=>exact nomatch hF
  |succ fu1=>
   refine P6 ?_;refine C9 (λh3=>?_) (λh3=>?_)
   .have hF:=D6 h3 hF;refine P6 ?_;refine E5 hF λx4 h5 hF=>?_;refine⟨aT h5,.inl rfl,_,bK N9 h5,?_⟩;refine l9 ?_;refine E5 hF λy6 h7 hF=>?_;refine l9 ⟨_,bN9 h7,rfl,?_⟩;refine C9 (λh8=>?_) (λh8=>?_)
    .have hF:=D6 h8 hF;exact l9 ⟨rfl,congrArg (Option.map OM) hF⟩
    .have hF:=D5 h8 hF;refine P6 ?_;refine C9 (λh9=>?_) (λh9=>?_)
     .have hF:=D6 h9 hF;refine E5 hF λx10 h11 hF=>?_;refine⟨aT h11,.inl rfl,_,bK N9 h11,?_⟩;refine C9 (by kernel_rfl) ?_;refine C9 (λh12=>?_) (λh12=>?_)
      .have hF:=D6 h12 hF;exact l9 ⟨rfl,congrArg (Option.map OM) hF⟩
      .have hF:=D5 h12 hF;refine E5 hF λy13 dL hF=>?_;refine J5 ⟨[],0,_,_,_,_,rfl,rfl,MC (cf:=N9) XH.u XD dL,rfl,?_⟩;refine E5 hF λjW h16 hF=>?_;refine l9 ⟨_,aX9 h16,rfl,?_⟩;refine C9 (by kernel_rfl) ?_;refine C9 (λh17=>?_) (λh17=>?_)
       .have hF:=D6 h17 hF;exact l9 ⟨rfl,congrArg (Option.map OM) hF⟩
       .have hF:=D5 h17 hF;exact⟨(fu1,(IntKind.i64.wrap (v2+1))),aP _,hF,⟨rfl,rfl,rfl,rfl,trivial⟩,trivial⟩
     .have hF:=D5 h9 hF;refine C9 (by kernel_rfl) ?_;refine E5 hF λlW h19 hF=>?_;refine J5 ⟨[],0,_,_,_,_,rfl,rfl,MC (cf:=N9) XH.u XD h19,rfl,?_⟩;refine E5 hF λy20 h21 hF=>?_;refine l9 ⟨_,aX9 h21,rfl,?_⟩;refine C9 (by kernel_rfl) ?_;refine C9 (λh22=>?_) (λh22=>?_)
      .have hF:=D6 h22 hF;exact l9 ⟨rfl,congrArg (Option.map OM) hF⟩
      .have hF:=D5 h22 hF;exact⟨(fu1,(IntKind.i64.wrap (v2+1))),aP _,hF,⟨rfl,rfl,rfl,rfl,trivial⟩,trivial⟩
   .have hF:=D5 h3 hF;exact l9 ⟨rfl,congrArg (Option.map OM) hF⟩
abbrev bN5:=aW9 1000
abbrev da6:=@da5 1000
abbrev bP4(y:Bool):CV:=B y
def av2(l:N7):U7:=Option.bind (bN5 l) λy1=>some ((y1.2==0))
def db4{l:N7}{r:Bool}(hF:av2 l=some r):Holds prog Gw 56 [.sl 4 (l.map N9)] (bP4 r):=by
 refine V9 O9 mixed func56 (by decide) rfl (I8 rfl) ?_;refine E5 hF λy1 h2 hF=>?_;refine l9 ⟨_,da6 h2,rfl,?_⟩;exact l9 ⟨rfl,congrArg (Option.map bP4) hF⟩
end
section
open Go Go.F7 Go.RowKit Proofs.Tryz
def ba5(s:List Came)(i:Int)(v:List Came):Option (List Came):=match v with
 |[c]=>bif decide (0<=i/\i<=s.length/\s.length<=4000)then some (s.take i.toNat++[c]++s.drop i.toNat)else none
 |_=>none
def do4{s:N7}{i:Int}{v r:N7}(h:ba5 s i v=some r):gI prog Gw 239 [.rs 0 0,.c (I i),.rs 1 0] [(0,.arr 134 4 (s.map N9) none),(0,.arr 134 4 (v.map N9) none)] (.rs 0 1) [(1,.arr 134 4 (r.map N9) none),(0,.arr 134 4 (v.map N9) none)]:=by
 match v,h with
 |[c],h=>
  refine mV h λhl h=>?_;have hl:=iR hl;have:=cD2 (G:=Gw) ⟨_,func239,by decide,rfl⟩ cQ7 (s.map N9) (N9 c) i.toNat (by simp;omega) (by simp;omega);rw[<-jJ h];rw[show((i.toNat:Nat):Int)=i from Int.toNat_of_nonneg hl.1]at this;simpa[List.map_take,List.map_drop]using this
end
end Go.Proofs.YtibiibjbmhckgaaGreatDoor
namespace Go.F7
open Go Go.RowKit
section
variable{P:Program}{G:aB}
def cI2{Z:Zone}{w:World}{os:Y0}{Eo:Q8}(hg:uP Z w os Eo){j g el sz:Nat}{ds:dS}{ts:O1}(ho:I5 os j=(g,.arr el sz ds none))(ht:j∈ts){x:Value}(hE:Eo j=x):
    Rep (Zf Z (I5 os) Eo ts) w (.sl sz ds) x:=by
 have hk:Keeps Z w (Zf Z (I5 os) Eo ts) w:=AA _ _ _;have hot:=hg.ok j;rw[ho]at hot;obtain⟨xs,hsz,hown,hfoc,hdl,hcl,hz⟩:=hot;rw[hE]at hown;refine PE hown rfl (λi d hd=>hdl i d (P7.1 hd).1 hd) (λi j d c h1 h2=>?_) (λb o hb _=>.inr ⟨j,ht,by rw[ho,hE,jK];exact hb⟩);obtain⟨hat,u,hu,hr⟩:=hcl i d (P7.1 h1).1 h1 j c h2;exact⟨hat,u,hu,(hr.closed (mY (hfoc.2 i d h1 (λm d' he=>by cases he)) h2)).keep hk⟩
def TD{x:Operand}{k:Nat}{ty:TypeId}{cs:G9}{c:CV}{os:Y0}(hc:cs[k]?=some c):fD P G (.extract x k) ty [.fC cs] os (zG c) os:=by
 intro Z w Eo a o next Q ho hty hg hzl hl hargs hgs hnext
 have hx:=hargs 0 (.fC cs) x rfl rfl;obtain⟨dst,op,type,pos,after,guard⟩:=o;simp only at ho hty;subst ho;subst hty;generalize hax:a.eval x=y at hx;cases hx with
 |fC _ us hl h ha=>
  have hlt:k<cs.length:=(P7.1 hc).1;have hu:us[k]?=some (us[k]'(by omega)):=J9 (by omega);have hex:(execOp a.eval ⟨dst,.extract x k,type,pos,after,guard⟩).run P w=.ok (.value (us[k]'(by omega))) w:=by
   simp[execOp,hax,Instr.extract,hu]
  refine bP hex (hnext _ Z w Eo ?_);exact
   { res:=b04 (h k c _ hc hu) (λcs e=>by have:=ha k c hc;rw[e]at this;simp[CV.atom]at this)
     grp:=hg
     keeps:=Keeps.refl _ _
     X5:=hzl
     iH:=λ_ _ hz=>.inl hz
     kept:=Kept.refl _ _
     own:=λ_ hb=>.inr hb
     ok:=eY.refl _ _ }
end
section
variable{P:Program}{G:aB}
def cC8{α:Type}{t e:TypeId}{i:TI}{cf:α->G9}{a:α}(ht:P.underlying t=some (.slice e))(hi:O6 P e i)(hcf:∀x,(cf x).length=i.size)(h0:0<i.size)(dR7:i.size<=4096){x:Operand}{ty:TypeId}:
    fD P G (.buildSlice t 1 ⟨[(0,x)]⟩) ty [.c (.agg (cf a))] [] (.rs 0 1) [(1,.arr e i.size ([a].map cf) none)]:=by
 intro Z w Eo ac o next Q ho hty hg hzl hl hargs hgs hnext
 have hx:Rep Z w (.agg (cf a)) (ac.eval x):=by
  have:=hargs 0 (.c (.agg (cf a))) x rfl rfl;cases this with|c _ _ h=>exact h
 generalize hax:ac.eval x=xv at hx;obtain⟨j,hj,hjs,hjb,hjz⟩:=hi.gX;cases hx with
 |agg _ vs hl hr ha=>
  have hvl:vs.length=i.size:=by rw[<-hl,hcf]
  have hcells:(Value.agg vs.toArray).cells=vs.toArray:=rfl
  let zero:S9:=(Q9 i).cells
  let z0:S9:=(Array.range (1*i.size)).map (zero[· % zero.size]!)
  have hz0:z0.size=i.size:=by simp[z0]
  have hfold:=foldl_set (0*i.size) vs 0 z0 (by simp[hz0,hvl]);have heq:vs.toArray.zipIdx.foldl (λcs (p:Value×Nat)=>cs.setIfInBounds (0*i.size+p.2) p.1) z0=(vs.zipIdx 0).foldl (λcs (p:Value×Nat)=>cs.setIfInBounds (0*i.size+p.2) p.1) z0:=by
   rw[<-zL,Array.toList_zipIdx]
  let cells:=(vs.zipIdx 0).foldl (λcs (p:Value×Nat)=>cs.setIfInBounds (0*i.size+p.2) p.1) z0
  have hcs:cells.size=1*i.size:=hfold.1.trans (by rw[hz0,nI]);have hget:∀k,k<i.size->cells[k]?=vs[k]?:=λk hk=>by
   refine(hfold.2 k).trans ?_;rw[I9 (by omega)];congr 1;omega
  have yR:Instr.fill (λi'=>some (i'*i.size,i.size)) z0 [(0,Value.agg vs.toArray)]=some cells:=by
   simp only[Instr.fill,hcells];rw[H7 (by simp[hz0,hvl])];rw[heq]
  have hlim:¬(1*i.size>2^24):=by omega
  have h0':¬(1*i.size=0):=by omega
  have hex:(execOp ac.eval o).run P w=.ok (.value (.slice (some ⟨w.heap.size,0,none⟩) 1 1)) (w.alloc (.cells cells e)):=by
   obtain⟨dst,op,type,pos,after,guard⟩:=o;simp only at ho;subst ho;have hzv:(zeroValue e).run P w=.ok (Q9 i) w:=by simp[zeroValue,typeInfo,hj,hjz]
   have tJ:Instr.fill (λi'=>some (i'*i.size,i.size)) ((Array.range (1*i.size)).map ((Q9 i).cells[· % (Q9 i).cells.size]!)) (#[(0,x)].map λ(i,x)=>(i,ac.eval x)).toList=some cells:=by
    simp only[List.map_toArray,kP,List.map_nil,hax];exact yR
   simp only[execOp,Instr.buildSlice,J6,O4 ht,O8,hi.sizeOf w,H7 hlim,U5,H7 h0',hzv,tJ];rfl
  have hown:=World.ownsRow_lit (base:=0) (e:=e) (size:=i.size) w cells 1 (aF _) (by simp only[maxLen];omega) hcs;refine bP hex (hnext _ Z _ (λ_=>.slice (some ⟨w.heap.size,0,none⟩) 1 1) (ao9 (.inl rfl) hzl (Keeps.alloc hzl _) (by simp) ((Kept.refl _ _).alloc (λ_ h=>h.1) _) ?_ (λb hb=>?_) (.rs 0 1 _ ⟨_,_,_,rfl⟩ (N8 _) λ_ _ _ _ _=>rfl)))
  .refine aE6 (l:=[a]) (λx=>hcf x) h0 hown (λi' j' a' c' ha' hc'=>?_) (λb o hb hz=>by
    simp[Value.ownBlock]at hb;have:=hzl b o hz
    omega)
   match i',ha' with
   |0,ha'=>
    simp at ha';subst ha';have hjl:j'<i.size:=by rw[<-hcf a];exact(P7.1 hc').1
    obtain⟨u,hu⟩:∃u,vs[j']?=some u:=⟨_,J9 (by omega)⟩;exact⟨ha j' c' hc',u,by rw[Nat.zero_mul,X9,kM,hget j' hjl];exact hu,(hr j' c' u hc' hu).keep (Keeps.alloc hzl _)⟩
   |n+1,ha'=>simp at ha'
  .simp[G8.blk]at hb;exact .inl (by omega)
def cD4{ty:TypeId}(z:Nat):fD P G (.assign (.const (.slice .none 0 0))) ty [.c (.sl 0 [])] [] (.c (.sl z [])) []:=by
 intro Z w Eo ac o next Q ho hty hg hzl hl hargs hgs hnext
 have hex:(execOp ac.eval o).run P w=.ok (.value (.slice none 0 0)) w:=by
  obtain⟨dst,op,type,pos,after,guard⟩:=o;simp only at ho;subst ho;simp[execOp,Act.eval]
 exact bP hex (hnext _ Z w Eo (MF hg hzl (.c _ _ (.nil _ _ _))))
def cD7{op:Op}{ty:TypeId}{args:dG}{os:Y0}{el sz:Nat}{es:dS}(h:fD P G op ty args os (.rs 0 1) [(1,.arr el sz es none)]):fD P G op ty args os (.c (.sl sz es)) [(1,.spent)]:=by
 intro Z w Eo ac o next Q ho hty hg hzl hl hargs hgs hnext
 refine h Z w Eo ac o next Q ho hty hg hzl hl hargs hgs λx Z' w' bZ hp=>hnext x (Zf Z' (I5 [(1,G8.arr el sz es none)]) bZ [0]) w' bZ ?_
 have hE:bZ 0=x:=by
  cases hp.res with
  |rs _ _ _ _ _ h=>exact h _ _ _ _ rfl
 have hob:I5 [(1,G8.arr el sz es none)] 0=(1,.arr el sz es none):=rfl;have hrep:=cI2 hp.grp hob (ts:=[0]) (by simp) hE;have hlt:∀b,GB [(1,G8.arr el sz es none)] bZ b->b<w'.heap.size:=λb ⟨j,hj⟩=>(hp.grp.ok j).lt hj;have hnb:∀j b,¬(I5 [(1,G8.spent)] j).2.blk (bZ j) b:=λj b hb=>by
  match j,hb with
  |0,hb=>simp[I5,G8.blk]at hb
  |j+1,hb=>simp[I5,G8.blk]at hb
 exact
  { res:=.c _ _ hrep
    grp:=⟨λj=>by
       match j with
       |0=>trivial
       |j+1=>trivial,λj j' b _ h1=>absurd h1 (hnb j b)⟩
    keeps:=hp.keeps.trans (AA _ _ _)
    X5:=λb o hz=>hz.elim (hp.X5 b o) λ⟨s,_,hb⟩=>hlt b ⟨s,hb⟩
    iH:=λb o hz=>hz.elim (hp.iH b o) λ⟨s,_,hb⟩=>.inr (hp.own b ⟨s,hb⟩)
    kept:=hp.kept
    own:=λb ⟨j,hj⟩=>absurd hj (hnb j b)
    ok:=
     { gen:=λt=>by
        match t with
        |0=>exact hp.ok.gen 0
        |t+1=>exact Y2 (hp.ok.gen (t+1)) (by simp[I5])
       var:=λt g _ hlv=>by
        obtain⟨cs,hlv⟩:=hlv
        match t,hlv with
        |0,hlv=>simp[I5]at hlv
        |t+1,hlv=>simp[I5]at hlv
       tok:=λt g el s _ hlv=>by
        match t,hlv with
        |0,hlv=>simp[I5]at hlv
        |t+1,hlv=>simp[I5]at hlv
       arr:=λt g el sz ds D7 _ hlv=>by
        match t,hlv with
        |0,hlv=>simp[I5]at hlv
        |t+1,hlv=>simp[I5]at hlv
       map:=λt g es _ hlv=>by
        match t,hlv with
        |0,hlv=>simp[I5]at hlv
        |t+1,hlv=>simp[I5]at hlv } }
end
end Go.F7
namespace Go.Proofs.YtibiibjbmhckgaaGreatDoor
section
open Go Go.F7 Proofs.Tryz
set_option maxRecDepth 10000
set_option maxHeartbeats 400000
def ax7(s:N7):Option N7:=bif s.isEmpty then OH (some (([]:N7))) (bif decide (([]:N7).length+s.length<=4294967296)then some ((([]:N7)++s))else none)else(bif decide (([]:N7).length+s.length<=4294967296)then some ((([]:N7)++s))else none)
abbrev a95(y:N7):CV:=.wo (.ow 0) [(134,4,y.map N9,none)]
def dn1{s:N7}{r:N7}(hF:ax7 s=some r):Holds prog Gw 59 [.sl 4 (s.map N9)] (a95 r):=by
 refine V9 O9 mixed func59 (by decide) rfl (I8 rfl) ?_;refine J5 ⟨[],0,_,_,_,_,rfl,rfl,MB (e:=134) (ie:=JQ) (by decide),rfl,?_⟩;refine aT7 (cf:=N9) hF ?_ ?_
 .intro hF;refine J5 ⟨[],0,_,_,_,_,rfl,rfl,MB (e:=134) (ie:=JQ) (by decide),rfl,?_⟩;refine Z9 (p:=λr=>vT tab _ (a95 r) _) hF ?_;exact J5 ⟨[(2,2)],rfl,⟨rfl,rfl⟩,rfl⟩
 .intro hF;refine J5 ⟨[],0,_,_,_,_,rfl,rfl,aI9 XH.u XD (by decide),rfl,?_⟩;refine mV hF λh1 hF=>?_;refine J5 ⟨[(5,1)],0,_,_,_,_,rfl,rfl,TB (cf:=N9) (l:=([]:N7)) (ns:=s) XH.u XD (by decide) (by decide) (λ_=>rfl) h1,rfl,?_⟩;refine Z9 (p:=λr=>vT tab _ (a95 r) _) hF ?_;exact J5 ⟨[(5,2)],rfl,⟨rfl,rfl⟩,rfl⟩
abbrev bN4(y:Int):CV:=I y
def au2(x:Came)(unit:Int):gQ:=Option.bind (yK x.Unit unit) λy1=>some (y1)
def da2{x:Came}{unit:Int}{r:Int}(hF:au2 x unit=some r):Holds prog Gw 238 [.agg (N9 x),I unit] (bN4 r):=by
 refine V9 O9 mixed func238 (by decide) rfl (I8 rfl) ?_;refine l9 ?_;refine E5 hF λy1 h2 hF=>?_;refine l9 ⟨_,aH0 h2,rfl,?_⟩;exact l9 ⟨rfl,congrArg (Option.map bN4) hF⟩
abbrev ba7(y:Int×Bool):CV:=.U6 [I y.1,B y.2]
def JI(x:List Came)(target:Int)(cmp:Came->Int->Option Int):Nat->Int->Int->Option (Int×Bool)
 |0,_,_=>none
 |fu1+1,i1,j2=>bif decide (i1<j2)then(Option.bind (ix x (IntKind.i64.wrap (Int.fdiv (IntKind.u64.wrap (IntKind.i64.wrap (i1+j2))) 2))) λx4=>Option.bind (cmp (⟨x4.Unit,x4.Origin⟩:Came) target) λy6=>bif decide (y6<0)then JI x target cmp fu1 (IntKind.i64.wrap ((IntKind.i64.wrap (Int.fdiv (IntKind.u64.wrap (IntKind.i64.wrap (i1+j2))) 2))+1)) j2 else JI x target cmp fu1 i1 (IntKind.i64.wrap (Int.fdiv (IntKind.u64.wrap (IntKind.i64.wrap (i1+j2))) 2)))else(bif decide (i1<((x.map N9).length:Int))then(Option.bind (ix x i1) λx10=>Option.bind (cmp x10 target) λnY=>some (i1,(nY==0)))else some (i1,false))
def bY7(N:Nat)(x:N7)(target:Int)(cmp:Came->Int->Option Int):Option (Int×Bool):=JI x target cmp N 0 ((x.map N9).length:Int)
def do7{N:Nat}{x:N7}{target:Int}{cmp:Came->Int->Option Int}{r:Int×Bool}{LU:FuncId}{LQ:G9}(YL:∀z0 z1 y,cmp z0 z1=some y->Holds prog Gw LU (.agg (N9 z0)::I z1::LQ) (I y))(hF:bY7 N x target cmp=some r):Holds prog Gw 237 [.sl 4 (x.map N9),I target,.fn LU LQ] (ba7 r):=by
 refine V9 O9 mixed func237 (by decide) rfl (I8 rfl) ?_;refine P6 ?_;refine iE (λp:Nat×Int×Int=>[(0,.c (.sl 4 (x.map N9))),(1,.c (I target)),(2,.c (.fn LU LQ)),(8,.c (I ((x.map N9).length:Int))),(9,.c (I p.2.1)),(10,.c (I p.2.2))]) (λ_=>[]) (λp=>JI x target cmp p.1 p.2.1 p.2.2=some r) (λp=>p.1) (N,0,((x.map N9).length:Int)) hF ⟨rfl,rfl,rfl,rfl,rfl,rfl,trivial⟩ trivial ?_;rintro⟨fu1,i1,j2⟩ hF;cases fu1 with
 |zero=>exact nomatch hF
 |succ fu1=>
  refine C9 (λh3=>?_) (λh3=>?_)
  .have hF:=D6 h3 hF;refine⟨by decide,?_⟩;refine E5 hF λx4 h5 hF=>?_;refine⟨aT h5,.inl rfl,_,bK N9 h5,?_⟩;refine E5 hF λy6 h7 hF=>?_;refine l9 ⟨_,YL _ _ _ h7,rfl,?_⟩;refine C9 (λh8=>?_) (λh8=>?_)
   .have hF:=D6 h8 hF;exact⟨(fu1,(IntKind.i64.wrap ((IntKind.i64.wrap (Int.fdiv (IntKind.u64.wrap (IntKind.i64.wrap (i1+j2))) 2))+1)),j2),aP _,hF,⟨rfl,rfl,rfl,rfl,rfl,rfl,trivial⟩,trivial⟩
   .have hF:=D5 h8 hF;exact⟨(fu1,i1,(IntKind.i64.wrap (Int.fdiv (IntKind.u64.wrap (IntKind.i64.wrap (i1+j2))) 2))),aP _,hF,⟨rfl,rfl,rfl,rfl,rfl,rfl,trivial⟩,trivial⟩
  .have hF:=D5 h3 hF;refine P6 ?_;refine C9 (λh9=>?_) (λh9=>?_)
   .have hF:=D6 h9 hF;refine E5 hF λx10 h11 hF=>?_;refine⟨aT h11,.inl rfl,_,bK N9 h11,?_⟩;refine E5 hF λnY h13 hF=>?_;refine l9 ⟨_,YL _ _ _ h13,rfl,?_⟩;exact l9 ⟨rfl,congrArg (Option.map ba7) hF⟩
   .have hF:=D5 h9 hF;exact l9 ⟨rfl,congrArg (Option.map ba7) hF⟩
abbrev bY8:=bY7 1000
abbrev do8:=@do7 1000
abbrev OJ(y:N7×Int):CV:=.U6 [.sl 4 (y.1.map N9),I y.2]
def au3(l:N7)(c:Came):Option (N7×Int):=Option.bind (av2 l) λy1=>bif (!y1)then some (([]:N7),1)else(Option.bind (ad6 c) λy4=>bif (!y4)then some (([]:N7),2)else(Option.bind (bY8 l c.Unit (λz0 z1=>au2 z0 z1)) λy7=>Option.bind (VU l c) λy9=>bif y7.2 then some (([]:N7),6)else(bif (y9 !=0)then some (([]:N7),y9)else(bif decide (((l.map N9).length:Int)>=256)then some (([]:N7),8)else(Option.bind (ax7 l) λdQ=>Option.bind (ba5 dQ y7.1 ([c]:N7)) λzJ=>some (zJ,0))))))
def da3{l:N7}{c:Came}{r:N7×Int}(hF:au3 l c=some r):Holds prog Gw 149 [.sl 4 (l.map N9),.agg (N9 c)] (OJ r):=by
 refine V9 O9 mixed func149 (by decide) rfl (I8 rfl) ?_;refine l9 ?_;refine l9 ?_;refine E5 hF λy1 h2 hF=>?_;refine l9 ⟨_,db4 h2,rfl,?_⟩;refine C9 (λh3=>?_) (λh3=>?_)
 .have hF:=D6 h3 hF;refine l9 ?_;exact l9 ⟨rfl,congrArg (Option.map OJ) hF⟩
 .have hF:=D5 h3 hF;refine E5 hF λy4 h5 hF=>?_;refine l9 ⟨_,bN9 h5,rfl,?_⟩;refine C9 (λh6=>?_) (λh6=>?_)
  .have hF:=D6 h6 hF;refine l9 ?_;exact l9 ⟨rfl,congrArg (Option.map OJ) hF⟩
  .have hF:=D5 h6 hF;refine E5 hF λy7 h8 hF=>?_;refine l9 ⟨_,do8 (λ_ _ _ h=>da2 h) h8,rfl,?_⟩;refine E5 hF λy9 h10 hF=>?_;refine l9 ⟨_,aX9 h10,rfl,?_⟩;refine P6 ?_;refine C9 (λh11=>?_) (λh11=>?_)
   .have hF:=D6 h11 hF;refine l9 ?_;exact l9 ⟨rfl,congrArg (Option.map OJ) hF⟩
   .have hF:=D5 h11 hF;refine C9 (λh12=>?_) (λh12=>?_)
    .have hF:=D6 h12 hF;refine l9 ?_;exact l9 ⟨rfl,congrArg (Option.map OJ) hF⟩
    .have hF:=D5 h12 hF;refine C9 (λh13=>?_) (λh13=>?_)
     .have hF:=D6 h13 hF;refine l9 ?_;exact l9 ⟨rfl,congrArg (Option.map OJ) hF⟩
     .have hF:=D5 h13 hF;refine E5 hF λdQ h15 hF=>?_;refine J5 (l9 ⟨_,_,dn1 h15,?_⟩);refine J5 ⟨[],0,_,_,_,_,rfl,rfl,cC8 (cf:=N9) (a:=c) XH.u XD (λ_=>rfl) (by decide) (by decide),rfl,?_⟩;refine E5 hF λzJ h17 hF=>?_;refine J5 (J5 ⟨[(36,1),(39,1)],0,_,_,_,_,rfl,rfl,pW rfl (J5 ⟨_,rfl,rfl⟩) (do4 h17),rfl,?_⟩);refine C9 (by kernel_rfl) ?_;refine Z9 (p:=λr=>vT tab _ (OJ r) _) hF ?_;exact J5 ⟨⟨⟨rfl,_,rfl,rfl⟩,rfl,rfl⟩,by decide⟩
end
section
open Go Go.F7
def okI(n:Int):Prop:= -9223372036854775808<=n/\n<=9223372036854775807
def oU{n:Int}(h:okI n):IntKind.i64.wrap n=n:=by
 obtain⟨h1,h2⟩:=h;show(if(true&&decide (n % (2^64:Int)>=(2^63:Int)))=true then n % (2^64:Int)-(2^64:Int)else n % (2^64:Int))=n;simp only[rX,pU];split<;>omega
theorem wrap_succ{n i:Nat}(hn:n<=9223372036854775807)(hi:i<n):IntKind.i64.wrap ((i:Int)+1)=((i+1:Nat):Int):=by
 rw[oU (by unfold okI;omega)];rfl
def aJ{α:Type}{l:List α}{i:Nat}(h:i<l.length):ix l (i:Int)=some l[i]:=by
 unfold ix;rw[H7 (by omega),Int.toNat_natCast,J9 h]
def bC7{α:Type}{l:List α}{i:Nat}(h:i<l.length)(h0:0<i):ix l ((i:Int)-1)=some (l[i-1]'(by omega)):=by
 have:(i:Int)-1=((i-1:Nat):Int):=by omega
 rw[this];exact aJ _
def ah0{α β:Type}(b:Nat->α->Option β)(done:β):Nat->List α->β
 |_,[]=>done
 |i,x::r=>match b i x with
  |some y=>y
  |none=>ah0 b done (i+1) r
def ac1{α β:Type}(L:Nat->Int->Option β)(l:List α)(b:Nat->α->Option β)(done:β)(hl:l.length<=9223372036854775807)
    (hs:∀(fu i:Nat)(hi:i<l.length),L (fu+1) (i:Int)=match b i l[i]with|some y=>some y|none=>L fu ((i+1:Nat):Int))
    (he:∀fu,L (fu+1) (l.length:Int)=some done):∀(n i fu:Nat),l.length-i=n->i<=l.length->n<fu->L fu (i:Int)=some (ah0 b done i (l.drop i))
 |n,i,0,_,_,h=>by omega
 |0,i,fu+1,h,hi,_=>by
  have:i=l.length:=by omega
  subst this;rw[he,List.drop_length];rfl
 |n+1,i,fu+1,h,_,hf=>by
  have hi:i<l.length:=by omega
  rw[hs fu i hi,zU hi];simp only[ah0];cases b i l[i]with
  |some y=>rfl
  |none=>exact ac1 L l b done hl hs he n (i+1) fu (by omega) (by omega) (by omega)
def ah1{α:Type}(p:α->Bool):∀(l:List α)(i:Nat),ah0 (λi x=>bif p x then some (i:Int)else none) (-1) i l=match l.findIdx? p with|some k=>((i+k:Nat):Int)|none=> -1
 |[],_=>rfl
 |x::r,i=>by
  simp only[ah0,List.findIdx?_cons];cases p x with
  |true=>simp
  |false=>
   simp only[G6,ah1 p r (i+1),Bool.false_eq_true,if_false];cases r.findIdx? p with
   |none=>rfl
   |some k=>show(((i+1+k:Nat)):Int)=((i+(k+1):Nat):Int);omega
def idxOf{α:Type}(p:α->Bool)(l:List α):Int:=match l.findIdx? p with|some k=>(k:Int)|none=> -1
def ba3{l:X8}{f:Branch->U7}{p:Branch->Bool}(h:l.length<=9223372036854775807)(hf:∀x∈l,f x=some (p x)):ah7 l f=some (idxOf p l):=by
 have h1:=ac1 (PO l f) l (λi x=>bif p x then some (i:Int)else none) (-1) h (λfu i hi=>by
  have h0:decide ((i:Int)<(l.length:Int))=true:=aI (by omega);simp only[PO,X0,aJ hi,F9,h0,H9,wrap_succ h hi,hf _ (gK hi)]
  cases p l[i]<;>rfl)
  (λfu=>by
    have h0:decide ((l.length:Int)<(l.length:Int))=false:=fZ (by omega)
    simp only[PO,X0,h0,G6]) l.length 0 (l.length+1) (by omega) (by omega) (by omega)
 show PO l f (l.length+1) 0=_;rw[show(0:Int)=((0:Nat):Int)from rfl,h1,List.drop_zero,ah1];unfold idxOf;cases l.findIdx? p<;>simp
def dn5{l:X8}{f:Branch->U7}{p:Branch->Bool}(h:l.length<=9223372036854775807)(hf:∀x∈l,f x=some (p x)):DZ l f=some (l.any p):=by
 simp only[DZ,ba3 h hf,F9,aQ];unfold idxOf;cases hq:l.findIdx? p with
 |none=>
  rw[List.findIdx?_eq_none_iff]at hq;have:l.any p=false:=by rw[ET];intro x hx;simp[hq x hx]
  rw[this];decide
 |some k=>
  have hk:=List.findIdx?_eq_some_iff_getElem.1 hq;obtain⟨h1,h2,_⟩:=hk;have:l.any p=true:=List.any_eq_true.2 ⟨l[k],gK h1,h2⟩;rw[this];exact aI (show(k:Int)>=0 by omega)
def bX7{l:N7}{f:Came->U7}{p:Came->Bool}(h:l.length<=9223372036854775807)(hf:∀x∈l,f x=some (p x)):ay2 l f=some (idxOf p l):=by
 have h1:=ac1 (PS l f) l (λi x=>bif p x then some (i:Int)else none) (-1) h (λfu i hi=>by
  have h0:decide ((i:Int)<(l.length:Int))=true:=aI (by omega);simp only[PS,X0,aJ hi,F9,h0,H9,wrap_succ h hi,hf _ (gK hi)]
  cases p l[i]<;>rfl)
  (λfu=>by
    have h0:decide ((l.length:Int)<(l.length:Int))=false:=fZ (by omega)
    simp only[PS,X0,h0,G6]) l.length 0 (l.length+1) (by omega) (by omega) (by omega)
 show PS l f (l.length+1) 0=_;rw[show(0:Int)=((0:Nat):Int)from rfl,h1,List.drop_zero,ah1];unfold idxOf;cases l.findIdx? p<;>simp
def bX0{l:N7}{f:Came->U7}{p:Came->Bool}(h:l.length<=9223372036854775807)(hf:∀x∈l,f x=some (p x)):ah5 l f=some (l.any p):=by
 simp only[ah5,bX7 h hf,F9,aQ];unfold idxOf;cases hq:l.findIdx? p with
 |none=>
  rw[List.findIdx?_eq_none_iff]at hq;have:l.any p=false:=by rw[ET];intro x hx;simp[hq x hx]
  rw[this];decide
 |some k=>
  have hk:=List.findIdx?_eq_some_iff_getElem.1 hq;obtain⟨h1,h2,_⟩:=hk;have:l.any p=true:=List.any_eq_true.2 ⟨l[k],gK h1,h2⟩;rw[this];exact aI (show(k:Int)>=0 by omega)
def bY0{l:F5}{f:Opn->U7}{p:Opn->Bool}(h:l.length<=9223372036854775807)(hf:∀x∈l,f x=some (p x)):ah8 l f=some (idxOf p l):=by
 have h1:=ac1 (PU l f) l (λi x=>bif p x then some (i:Int)else none) (-1) h (λfu i hi=>by
  have h0:decide ((i:Int)<(l.length:Int))=true:=aI (by omega);simp only[PU,X0,aJ hi,F9,h0,H9,wrap_succ h hi,hf _ (gK hi)]
  cases p l[i]<;>rfl)
  (λfu=>by
    have h0:decide ((l.length:Int)<(l.length:Int))=false:=fZ (by omega)
    simp only[PU,X0,h0,G6]) l.length 0 (l.length+1) (by omega) (by omega) (by omega)
 show PU l f (l.length+1) 0=_;rw[show(0:Int)=((0:Nat):Int)from rfl,h1,List.drop_zero,ah1];unfold idxOf;cases l.findIdx? p<;>simp
def bY2{l:F6}(h:l.length<=9223372036854775807)(v:Int):ah9 l v=some (idxOf (λx=>v==x) l):=by
 have h1:=ac1 (PV l v) l (λi x=>bif v==x then some (i:Int)else none) (-1) h (λfu i hi=>by
  have h0:decide ((i:Int)<(l.length:Int))=true:=aI (by omega);simp only[PV,X0,aJ hi,F9,h0,H9,wrap_succ h hi]
  cases v==l[i]<;>rfl)
  (λfu=>by
    have h0:decide ((l.length:Int)<(l.length:Int))=false:=fZ (by omega)
    simp only[PV,X0,h0,G6]) l.length 0 (l.length+1) (by omega) (by omega) (by omega)
 show PV l v (l.length+1) 0=_;rw[show(0:Int)=((0:Nat):Int)from rfl,h1,List.drop_zero,ah1 (λx=>v==x)];unfold idxOf;cases l.findIdx? (λx=>v==x)<;>simp
def cQ2{α:Type}(p:α->Bool)(l:List α):decide (idxOf p l>=0)=l.any p:=by
 unfold idxOf;cases hq:l.findIdx? p with
 |none=>
  rw[List.findIdx?_eq_none_iff]at hq;have:l.any p=false:=by rw[ET];intro x hx;simp[hq x hx]
  rw[this];decide
 |some k=>
  obtain⟨h1,h2,_⟩:=List.findIdx?_eq_some_iff_getElem.1 hq;have:l.any p=true:=List.any_eq_true.2 ⟨l[k],gK h1,h2⟩;rw[this];exact aI (show(k:Int)>=0 by omega)
def ba0{l:F6}(h:l.length<=9223372036854775807)(v:Int):vX l v=some (l.any λx=>v==x):=by
 simp only[vX,bY2 h,F9,cQ2]
def NP{α:Type}{p:α->Bool}{l:List α}(h:l.any p=true):∃k,∃hk:k<l.length,idxOf p l=(k:Int)/\p l[k]=true/\∀j,(hj:j<k)->p (l[j]'(by omega))=false:=by
 unfold idxOf;cases hq:l.findIdx? p with
 |none=>
  rw[List.findIdx?_eq_none_iff]at hq;obtain⟨x,hx,hp⟩:=List.any_eq_true.1 h;rw[hq x hx]at hp;cases hp
 |some k=>
  obtain⟨h1,h2,h3⟩:=List.findIdx?_eq_some_iff_getElem.1 hq;exact⟨k,h1,rfl,h2,λj hj=>by simpa using h3 j hj⟩
def aa7{α:Type}{p:α->Bool}{l:List α}(h:l.any p=false):idxOf p l= -1:=by
 unfold idxOf;cases hq:l.findIdx? p with
 |none=>rfl
 |some k=>
  obtain⟨h1,h2,_⟩:=List.findIdx?_eq_some_iff_getElem.1 hq;rw[ET]at h;exact absurd h2 (by simpa using h l[k] (gK h1))
def bb5{α:Type}{l:List α}{i:Nat}(h:i<=l.length):slc l 0 (i:Int)=some (l.take i):=by
 unfold slc;rw[aI (by omega)];simp
def bh2(n a b:Int):(bif decide (a<=n)then some (decide (n<=b))else some false)=some (decide (a<=n/\n<=b)):=by
 by_cases h:a<=n<;>simp[h]
def aB2(n a b:Int):QD n a b=some (decide (a<=n/\n<=b)):=bh2 n a b
def dc3(n a b:Int):VX n a b=some (decide (a<=n/\n<=b)):=bh2 n a b
def ag5(n a b:Int):xI n a b=some (decide (a<=n/\n<=b)):=bh2 n a b
end
end Go.Proofs.YtibiibjbmhckgaaGreatDoor
namespace Go.F7
section
open Go Go.RowKit Go.ChangeShapes
def RS(w:World):Zone:=λb _=>b<w.heap.size
def cw2{w:World}{a:Addr}{v:Value}(h:w.cell? a=some v):a.block<w.heap.size:=by
 rcases fJ a.block w.heap.size with h'|h'
 .exact h'
 .simp[World.cell?,Array.getElem?_eq_none h']at h
def cell_spot{w:World}{a:Addr}{v:Value}(h:w.cell? a=some v):a.spot=none:=by
 unfold World.cell? at h;split at h
 .split at h
  .exact nomatch h
  .rename_i hs;simpa using hs
 .exact nomatch h
def RC(w:World)(zs:G9)(cs:H6):Prop:=cs.length=zs.length/\∀(j:Nat)(c:CV),zs[j]?=some c->c.atom=true/\∃x,cs[j]?=some x/\Rep (RS w) w c x
def RC.one{w:World}{c:CV}{x:Value}(ha:c.atom=true)(h:Rep (RS w) w c x):RC w [c] [x]:=
 ⟨rfl,λj d hj=>by
   cases j with
   |zero=>simp at hj;subst hj;exact⟨ha,x,rfl,h⟩
   |succ j=>simp at hj⟩
def RC.append{w:World}{zs ys:G9}{cs ds:H6}(h:RC w zs cs)(k:RC w ys ds):RC w (zs++ys) (cs++ds):=by
 refine⟨by simp[h.1,k.1],λj c hj=>?_⟩;by_cases hl:j<zs.length
 .rw[dX hl]at hj;rw[dX (h.1▸hl)];exact h.2 j c hj
 .rw[dN (zW hl)]at hj;rw[dN (h.1▸zW hl),h.1];exact k.2 _ c hj
section
variable{H:Type}(enc:TypeId×Value->H)(P:Program)(w:World)
def Reads(t:TypeId){α:Type}(f:α->G9)(Q:α->Prop):Prop:=
 ∀(fuel:Nat)(cs:H6)(y:DataW H×List MemPlace),DataW.trod enc P w 0 (λ_=>true) true fuel t cs=some y->∃x,RC w (f x) cs/\Q x
variable{enc P w}
def dd9{t:TypeId}{k:IntKind}(ht:P.underlying t=some (.int k)):Reads enc P w t (λn=>[.v (.int k n)]) (λn=>(Lit.int k n).wf=true):=λfuel cs y h=>by
 obtain⟨n,rfl,_,hw⟩:=DataW.trod_int ht h;exact⟨n,.one rfl (.v _),hw⟩
def bQ9{t:TypeId}(ht:P.underlying t=some .string):Reads enc P w t cStr (λs=>s.length<=9223372036854775807):=λfuel cs y h=>by
 obtain⟨s,rfl,_,hs⟩:=DataW.trod_string ht h;exact⟨s.data.toList,.one rfl (.v _),hs⟩
def bQ8{t:TypeId}{α β:Type}{f:α->G9}{Q:α->Prop}{g:β->G9}{R:β->Prop}(φ:α->β)(hf:∀x,g (φ x)=f x)(hQ:∀x,Q x->R (φ x))(h:Reads enc P w t f Q):Reads enc P w t g R:=λfuel cs y hy=>by
 obtain⟨x,h1,h2⟩:=h fuel cs y hy;exact⟨φ x,by rw[hf];exact h1,hQ x h2⟩
def Reads.turn{t:TypeId}{α β:Type}{f:α->G9}{Q:α->Prop}{g:β->G9}{R:β->Prop}(h:Reads enc P w t f Q)(φ:α->β)(hf:∀x,g (φ x)=f x)(hQ:∀x,Q x->R (φ x)):Reads enc P w t g R:=bQ8 φ hf hQ h
def bO9{α:Type}{p:Nat->α->Prop}:∀(n:Nat),(∀i,i<n->∃x,p i x)->∃l:List α,l.length=n/\∀(i:Nat)(x:α),l[i]?=some x->p i x
 |0,_=>⟨[],rfl,λi x h=>by simp at h⟩
 |n+1,h=>by
  obtain⟨l,hl,hp⟩:=bO9 n λi hi=>h i (Nat.lt_succ_of_lt hi);obtain⟨x,hx⟩:=h n (aP n);refine⟨l++[x],by simp[hl],λi y hy=>?_⟩;by_cases hi:i<l.length
  .rw[dX hi]at hy;exact hp i y hy
  .rw[dN (zW hi)]at hy;have:i-l.length=0:=by
    rcases Nat.eq_zero_or_pos (i-l.length)with h0|h0
    .exact h0
    .obtain⟨m,hm⟩:∃m,i-l.length=m+1:=⟨i-l.length-1,by omega⟩;rw[hm]at hy;simp at hy
   rw[this]at hy;simp at hy;subst hy;have:i=n:=by omega
   rw[this];exact hx
theorem bk7{a:Addr}(h:a.spot=none)(n:Nat):a.add n=⟨a.block,a.off+n,none⟩:=by
 obtain⟨b,o,s⟩:=a;simp only at h;subst h;unfold Addr.add;split
 .rename_i h0;rw[h0];rfl
 .rfl
def de0{t e:TypeId}{α:Type}{f:α->G9}{Q:α->Prop}{sz:Nat}(ht:P.underlying t=some (.slice e))(hsz:P.cellsOf e=sz)(hpos:0<sz)(hf:∀x,(f x).length=sz)(h:Reads enc P w e f Q):
    Reads enc P w t (λl=>[.sl sz (l.map f)]) (λl:List α=>l.length<=9223372036854775807/\∀x∈l,Q x):=λfuel cs y hy=>by
 rcases DataW.trod_slice ht hy with⟨rfl,_⟩|⟨a,len,cap,elems,rest,n,_,rfl,_,_,hlc,hcm,hel,hat,_,_⟩
 .exact⟨[],.one rfl (.nil _ _ _),by simp,λx hx=>by simp at hx⟩
 .have hone:∀i,i<len->∃x:α,(∃cs',w.cells? 0 (a.add (i*sz)) sz=some cs'/\RC w (f x) cs')/\Q x:=by
   intro i hi;have h1:=hat i hi;rw[J9 (by omega),hsz]at h1;obtain⟨cs',h2,h3⟩:=Option.bind_eq_some_iff.1 h1;obtain⟨x,h4,h5⟩:=h n cs' _ h3;exact⟨x,⟨cs',h2,h4⟩,h5⟩
  obtain⟨l,hl,hp⟩:=bO9 len hone;refine⟨l,.one rfl ?_,by rw[hl];exact Y2 hlc hcm,λx hx=>?_⟩
  .cases l with
   |nil=>simp only[List.length_nil]at hl;subst hl;exact .nil _ _ _
   |cons x0 l0=>
    have hcell:∀(i j:Nat)(d:G9)(c:CV),((x0::l0).map f)[i]?=some d->d[j]?=some c->∃u,w.cell? ((a.add (i*sz)).add j)=some u/\c.atom=true/\Rep (RS w) w c u:=by
     intro i j d c hd hc;rw[P9]at hd;obtain⟨x,hx,rfl⟩:=Option.map_eq_some_iff.1 hd;obtain⟨⟨cs',h2,h4⟩,_⟩:=hp i x hx;obtain⟨ha,u,hu,hr⟩:=h4.2 j c hc;unfold World.cells? at h2;rw[I9 (aF _)]at h2;have hjlt:j<sz:=by have:=(P7.1 hc).1;rw[hf]at this;exact this
     obtain⟨b,hb1,hb2⟩:=Lib.mapM_at h2 j j (by simp[hjlt]);rw[hu]at hb1;exact⟨u,by rw[hb2];exact hb1.symm,ha,hr⟩
    have hspot:a.spot=none:=by
     have h0:0<(f x0).length:=by rw[hf];exact hpos
     obtain⟨u,hu,_,_⟩:=hcell 0 0 (f x0) ((f x0)[0]) rfl (J9 h0);have:=cell_spot hu;simpa[Addr.add]using this
    obtain⟨b,o,s⟩:=a;simp only at hspot;subst hspot;have hcell':∀(i j:Nat)(d:G9)(c:CV),((x0::l0).map f)[i]?=some d->d[j]?=some c->∃u,w.cell? ⟨b,o+i*sz+j,none⟩=some u/\c.atom=true/\Rep (RS w) w c u:=by
     intro i j d c hd hc;obtain⟨u,hu,h3⟩:=hcell i j d c hd hc;rw[bk7 (a:=⟨b,o,none⟩) rfl,bk7 (a:=⟨b,o+i*sz,none⟩) rfl]at hu;exact⟨u,hu,h3⟩
    have hlen:((x0::l0).map f).length=len:=by rw[X0];exact hl
    rw[<-hlen];refine .sl sz _ b o cap (λi j=>(w.cell? ⟨b,o+i*sz+j,none⟩).getD undef) (by rw[hlen];exact hlc) (λi d hd=>?_) (λi j d c hd hc=>?_) (λi j d c hd hc=>?_)
    .rw[P9]at hd;obtain⟨x,_,rfl⟩:=Option.map_eq_some_iff.1 hd;exact hf x
    .obtain⟨u,hu,ha,_⟩:=hcell' i j d c hd hc;exact⟨cw2 hu,by rw[hu];rfl,ha⟩
    .obtain⟨u,hu,_,hr⟩:=hcell' i j d c hd hc;rw[hu];exact hr
  .obtain⟨i,hi,rfl⟩:=eX hx;exact(hp i _ (J9 hi)).2
def ak4(enc:TypeId×Value->H)(P:Program)(w:World)(fs:List Field)(off tot:Nat){α:Type}(f:α->G9)(Q:α->Prop):Prop:=
 ∀(fuel:Nat)(cs:H6),cs.length=tot->(∀g∈fs,∃y,DataW.trod enc P w 0 (λ_=>true) true fuel g.type ((cs.drop g.offset).take (P.cellsOf g.type))=some y)->∃x,RC w (f x) (cs.drop off)/\Q x
def bu8{tot:Nat}:ak4 enc P w [] tot tot (λ_:Unit=>[]) (λ_=>True):=λfuel cs hl _=>
 ⟨(),by rw[EU (Nat.le_of_eq hl)];exact⟨rfl,λj c hj=>by simp at hj⟩,trivial⟩
def sU{g:Field}{fs:List Field}{off n tot:Nat}{α β:Type}{f:α->G9}{Q:α->Prop}{f':β->G9}{R:β->Prop}(ho:g.offset=off)(hn:P.cellsOf g.type=n)(h:Reads enc P w g.type f Q)
    (hr:ak4 enc P w fs (off+n) tot f' R):ak4 enc P w (g::fs) off tot (λp:α×β=>f p.1++f' p.2) (λp=>Q p.1/\R p.2):=λfuel cs hl hall=>by
 obtain⟨y,hy⟩:=hall g (by simp);rw[ho,hn]at hy;obtain⟨x,hx,hq⟩:=h fuel _ y hy;obtain⟨z,hz,hr⟩:=hr fuel cs hl λg' hg'=>hall g' (by simp[hg']);refine⟨(x,z),?_,hq,hr⟩;have:cs.drop off=(cs.drop off).take n++cs.drop (off+n):=by
  rw[<-List.drop_drop];exact(List.take_append_drop n _).symm
 rw[this];exact hx.append hz
def bR0{t:TypeId}{fs:Array Field}{n:Nat}{α:Type}{f:α->G9}{Q:α->Prop}(ht:P.underlying t=some (.struct fs))(hn:P.cellsOf t=n)(h:ak4 enc P w fs.toList 0 n f Q):Reads enc P w t f Q:=λfuel cs y hy=>by
 obtain⟨xs,m,rfl,_,hl,hxs,hat⟩:=DataW.trod_struct ht hy;obtain⟨x,h1,h2⟩:=h m cs (hn▸hl) λg hg=>by
  obtain⟨i,hi,rfl⟩:=eX hg;have hi':i<fs.size:=by simpa using hi
  have:=hat i fs[i] (by simp[hi']);rw[J9 (by omega)]at this;exact⟨_,by simpa using this⟩
 exact⟨x,by simpa using h1,h2⟩
def cr1{t:TypeId}{b0:Nat}{v:Value}{d:DataW H}{ps:List MemPlace}{α:Type}{f:α->G9}{g:α->CV}{Q:α->Prop}(hu:∀cs,¬Value.okWide P w .any b0 t (.agg cs))(hfg:∀x,f x=[g x])(h:Reads enc P w t f Q)
    (hval:Value.okWide P w .any b0 t v) (hd:DataW.Trod enc P w 0 (λ_=>true) true t v d ps):∃x,Rep (RS w) w (g x) v/\Q x:=by
 obtain⟨fuel,hd⟩:=hd;obtain⟨x,h1,h2⟩:=h fuel _ _ hd;rw[hfg]at h1;have hc:v.cells.toList=[v]:=by
  cases v with
  |agg cs=>exact absurd hval (hu cs)
  |_=>rfl
 rw[hc]at h1;obtain⟨_,u,hu',hr⟩:=h1.2 0 (g x) rfl;simp at hu';subst hu';exact⟨x,hr,h2⟩
def c42{t e:TypeId}{b0:Nat}(hu:P.underlying t=some (.slice e)):∀cs,¬Value.okWide P w .any b0 t (.agg cs):=by
 intro cs h;simp[Value.okWide,Cell.okWide,Cell.ok,hu]at h
def cd1(hl:laidOutB P=true){W W':World}{sp':mJ}:∀(ts:List TypeId)(vs:H6)(ds:List (DataW H))(ps:List MemPlace),ts.all (λt=>P.readableRec t&&decide (t<P.types.size))=true->
    DataW.TrodAll enc P W 0 (λ_=>true) true ts vs ds ps->(∀p∈ps,W.sameAt W' p)->(∀p∈ps,sp' p.block=true)->DataW.TrodAll enc P W' 0 sp' true ts vs ds ps
 |[],vs,ds,ps,_,h,_,_=>by
  obtain⟨rfl,rfl,rfl⟩:=trodAll_nil h;exact trodAll_mk0
 |t::ts,vs,ds,ps,ho,h,h1,h2=>by
  obtain⟨v,vs1,d,ds1,a,b,rfl,rfl,rfl,k1,k2⟩:=trodAll_cons h;simp only[List.all_cons,Z4,pU]at ho
  exact⟨a,b,WideElems.Trod_stays hl ho.1.1 ho.1.2 k1 (λp hp=>h1 p (by simp[hp])) (λp hp=>h2 p (by simp[hp])),
   cd1 hl ts vs1 ds1 b (by simpa using ho.2) k2 (λp hp=>h1 p (by simp[hp])) (λp hp=>h2 p (by simp[hp])),rfl⟩
def db3{f:Func}{s:ChangeSpec}{apart fresh handsOn again:Bool}{W W':World}{args:S9}{ds gs:List (DataW H)}{before:List MemPlace}{tb:TypeId}
    (hl:laidOutB P=true) (hW:DataW.Whole enc P f.params.toList s.vars apart W args.toList ds gs before) (hv:s.vars=[]) (hok:f.params.toList.all (λt=>P.readableRec t&&decide (t<P.types.size))=true)
    (hrt:f.resultTypes=#[tb]) (htb:P.underlying tb=some .bool) (h1:(s.fn H (ds++gs)).results=[.lit (.bool true)]) (h2:(s.fn H (ds++gs)).args=ds) (h3:(s.fn H (ds++gs)).vars=[]) (hb:Below W.heap.size W W'):
    s.post enc P f apart fresh handsOn again W args (.bool true) W':=by
 have hlt:=hW.lt;obtain⟨p,q,hA,hV,rfl,hz,hn⟩:=id hW;rw[hv]at hV;obtain⟨rfl,rfl⟩:=trodVars_none hV;have hargs:∀sp:Nat->Bool,(∀x∈p++[],sp x.block=true)->DataW.TrodAll enc P W' 0 sp true f.params.toList args.toList (s.fn H (ds++[])).args p:=λsp hsp=>by
  rw[h2];exact cd1 hl _ _ _ _ hok hA (λx hx=>hb.same (hlt x (by simp[hx]))) (λx hx=>hsp x (by simp[hx]))
 have hvars:∀sp:Nat->Bool,DataW.TrodVars enc P W' sp s.vars (s.fn H (ds++[])).vars []:=λsp=>by
  rw[hv,h3];rfl
 have hres:∀(b:Nat)(sp:mJ)(hd:Bool),DataW.TrodAll enc P W' b sp hd f.resultTypes.toList ((Value.bool true).resultList f.resultTypes.size) (s.fn H (ds++[])).results []:=λb sp hd=>by
  rw[h1,hrt];exact trodAll_cons_mk (shut_bool htb _) trodAll_mk0
 have hold:∀x∈p++[],(λb=>decide (b<W.heap.size)) x.block=true:=λx hx=>by simpa using hlt x hx
 refine⟨ds,[],p++[],[],p,[],hW,hres _ _ _,hargs _ hold,hvars _,World.keptBut_mono (λx hx=>⟨hx,J5 (by simpa using hx)⟩) (hb.frame _),λ_=>?_⟩;refine⟨ok_one hrt rfl (okWide_bool_mk htb _),_,_,([]++p)++[],⟨[]++p,[],trodAll_append (hargs _ (λ_ _=>rfl)) (hres _ _ _),hvars _,rfl,?_,?_⟩,?_⟩
 .intro b off hp;have hp':MemPlace.cell b off∈p++[]:=by simpa using hp
  rw[hb.frozen (p:=⟨b,off,none⟩) (hlt _ hp')];exact hz b off hp'
 .intro ha;simpa using hn ha
 .intro x hx _;simpa using hx
end
end
section
open Go
def rowsOf(bs:dU):List MemPlace:=bs.flatMap λx=>MemPlace.row ⟨x.1,0,none⟩ x.2
def cu2(P:Program)(w:World)(bs:List (Nat×Nat)):Bool:=bs.all λx=>match w.heap[x.1]? with
 |some (.cells c _ (0,0))=>c.toList.all λ|.iface u v=>Value.okWideB P w u v|_=>true
 |_=>false
def bG4{bs:dU}{b off:Nat}(h:MemPlace.cell b off∈rowsOf bs):∃n,(b,n)∈bs:=by
 obtain⟨x,hx,hm⟩:=List.mem_flatMap.1 h;obtain⟨i,_,hi⟩:=jH.1 hm;obtain⟨h1,h2⟩:=MemPlace.cell.inj hi;exact⟨x.2,by rw[<-h1];exact hx⟩
def bI5:∀{bs:dU},(bs.map (·.1)).Nodup->(rowsOf bs).Nodup
 |[],_=>List.nodup_nil
 |(b,n)::r,h=>by
  rw[kP,List.nodup_cons]at h;show(MemPlace.row ⟨b,0,none⟩ n++rowsOf r).Nodup;rw[List.nodup_append];refine⟨?_,bI5 h.2,λx hx y hy he=>?_⟩
  .refine List.Pairwise.map _ (λx y hxy=>?_) List.nodup_range;intro hq;have:=(MemPlace.cell.inj hq).2;exact hxy (by omega)
  .obtain⟨i,_,rfl⟩:=jH.1 hx;rw[<-he]at hy;obtain⟨m,hm⟩:=bG4 hy;exact h.1 (jH.2 ⟨_,hm,rfl⟩)
def laidMet_of_blocks{P:Program}{w:World}{l:List (String×DataW Unit)}(bs:dU)(fuel:Nat)(h:DataW.laidRun P w fuel (l.map (·.1))=some (l,rowsOf bs))
    (hn:decide (bs.map (·.1)).Nodup=true) (hr:cu2 P w bs=true):laidMet P l w:=by
 refine⟨rowsOf bs,DataW.LaidVars_of_laidRun h,bI5 (iR hn),λb off hp=>?_⟩;obtain⟨n,hb⟩:=bG4 hp;have h1:=oW.1 hr _ hb;simp only at h1;split at h1
 .rename_i c t hh;refine⟨⟨c,t,hh⟩,λu v hc=>?_⟩;simp only[World.cell?,hh,Option.isSome_none,Bool.false_eq_true,if_false]at hc;have:=oW.1 h1 (.iface u v) (Array.mem_toList_iff.2 (Array.mem_of_getElem? hc));exact Value.okWide_of_okWideB this
 .cases h1
end
end Go.F7
namespace Go.Proofs.YtibiibjbmhckgaaGreatDoor
open Go Go.F7 Go.RowKit Go.ChangeShapes Go.WideShapes Go.ChangeAt Proofs.Tryz
def c96{n:Int}(h:(Lit.int .i64 n).wf=true):okI n:=by
 simp only[Lit.wf,Z4,pU]at h;exact h
def okS(s:Str):Prop:=s.length<=9223372036854775807
def bM1(x:Origin):Prop:=okI x.bQ/\okI x.X3/\okI x.Number
def bM0(x:Opn):Prop:=okI x.ID/\okI x.Day/\okI x.Kind/\okI x.Unit/\okI x.Parent/\okI x.Before/\okI x.Level/\okS x.Title/\okS x.Mark/\bM1 x.Origin
def aV8(l:F5):Prop:=l.length<=9223372036854775807/\∀x∈l,bM0 x
section
variable{H:Type}{enc:TypeId×Value->H}{w:World}
def zC:Reads enc prog w 3 F8 okI:=bQ8 id (λ_=>rfl) (λ_=>c96) (dd9 underlying3)
def dd8:Reads enc prog w 31 aG2 bM1:=by
 have h:=bR0 (enc:=enc) (w:=w) underlying31 (n:=3) (by kernel_rfl) (sU (g:=(⟨ "Office",3,0,false,"","",0⟩:Field)) (off:=0) (n:=1) rfl (by kernel_rfl) zC (sU (g:=(⟨ "Accession",3,1,false,"","",8⟩:Field)) (off:=1) (n:=1) rfl (by kernel_rfl) zC (sU (g:=(⟨ "Number",3,2,false,"","",16⟩:Field)) (off:=2) (n:=1) rfl (by kernel_rfl) zC (bu8 (tot:=3)))));exact h.turn (λp=>(⟨p.1,p.2.1,p.2.2.1⟩:Origin)) (λ_=>rfl) (λ_ h=>⟨h.1,h.2.1,h.2.2.1⟩)
def dd6:Reads enc prog w 33 G7 bM0:=by
 have h:=bR0 (enc:=enc) (w:=w) underlying33 (n:=12) (by kernel_rfl) (sU (g:=(⟨ "ID",3,0,false,"","",0⟩:Field)) (off:=0) (n:=1) rfl (by kernel_rfl) zC (sU (g:=(⟨ "Day",3,1,false,"","",8⟩:Field)) (off:=1) (n:=1) rfl (by kernel_rfl) zC (sU (g:=(⟨ "Kind",3,2,false,"","",16⟩:Field)) (off:=2) (n:=1) rfl (by kernel_rfl) zC (sU (g:=(⟨ "Unit",3,3,false,"","",24⟩:Field)) (off:=3) (n:=1) rfl (by kernel_rfl) zC (sU (g:=(⟨ "Parent",3,4,false,"","",32⟩:Field)) (off:=4) (n:=1) rfl (by kernel_rfl) zC (sU (g:=(⟨ "Before",3,5,false,"","",40⟩:Field)) (off:=5) (n:=1) rfl (by kernel_rfl) zC (sU (g:=(⟨ "Level",3,6,false,"","",48⟩:Field)) (off:=6) (n:=1) rfl (by kernel_rfl) zC (sU (g:=(⟨ "Title",9,7,false,"","",56⟩:Field)) (off:=7) (n:=1) rfl (by kernel_rfl) (bQ9 underlying9) (sU (g:=(⟨ "Mark",9,8,false,"","",72⟩:Field)) (off:=8) (n:=1) rfl (by kernel_rfl) (bQ9 underlying9) (sU (g:=(⟨ "Origin",31,9,false,"","",88⟩:Field)) (off:=9) (n:=3) rfl (by kernel_rfl) dd8 (bu8 (tot:=12))))))))))));exact h.turn (λp=>(⟨p.1,p.2.1,p.2.2.1,p.2.2.2.1,p.2.2.2.2.1,p.2.2.2.2.2.1,p.2.2.2.2.2.2.1,p.2.2.2.2.2.2.2.1,p.2.2.2.2.2.2.2.2.1,p.2.2.2.2.2.2.2.2.2.1⟩:Opn)) (λ_=>rfl) (λ_ h=>⟨h.1,h.2.1,h.2.2.1,h.2.2.2.1,h.2.2.2.2.1,h.2.2.2.2.2.1,h.2.2.2.2.2.2.1,h.2.2.2.2.2.2.2.1,h.2.2.2.2.2.2.2.2.1,h.2.2.2.2.2.2.2.2.2.1⟩)
def dd7:Reads enc prog w 22 (λl:F5=>[.sl 12 (l.map G7)]) aV8:=de0 underlying22 (by kernel_rfl) (by decide) (λ_=>rfl) dd6
end
def own:ownKnob prog.godebug=none:=by kernel_rfl
def laidOut:laidOutB prog=true:=by kernel_rfl
abbrev bE3:List (String×DataW Unit):=[("math/bits.deBruijn32tab",Rows.laid_math_bits_deBruijn32tab),("math/bits.deBruijn64tab",Rows.laid_math_bits_deBruijn64tab),("internal/strconv.uint64pow10",Rows.laid_internal_strconv_uint64pow10),("unicode/utf8.acceptRanges",Rows.laid_unicode_utf8_acceptRanges),("unicode/utf8.first",Rows.laid_unicode_utf8_first)]
def cI3{W:World}(_:laidMetH prog bE3 W)(hs:W.ShapedOpen prog):Gw W:=
 Go.Proofs.cell_of_shapedOpen_int (zero:=#[.int .i64 0]) (t:=3) hs (iR (by kernel_rfl)) (by kernel_rfl) rfl (by kernel_rfl) (by kernel_rfl) underlying3
def aR9:DataW Unit->Array Value
 |.agg l=>(l.map λ|.lit (.int k n)=>Value.int k n|_=>undef).toArray
 |_=>#[]
noncomputable def laidWorld (os:Os):World:=
 let w0:=World.holding prog os ⟨#[],#[],[]⟩
 let put (h:Array Obj) (g:Nat) (cs:Array Value):Array Obj:=h.modify g fun
  |.cells _ t frozen=>.cells cs t frozen
  |o=>o
 let h2:=put w0.heap 2 (Lib.firstTab.map λz=>Value.int .u8 z).toArray
 let h3:=put h2 3 ((List.range 16).flatMap λi=>[Value.int .u8 (Lib.accLo i),Value.int .u8 (Lib.accHi i)]).toArray
 let h7:=put h3 1 (aR9 Rows.laid_internal_strconv_uint64pow10)
 let h8:=put h7 4 (aR9 Rows.laid_math_bits_deBruijn32tab)
 let h9:=put h8 5 (aR9 Rows.laid_math_bits_deBruijn64tab)
 { w0 with heap:=h9 }
abbrev blocks:dU:=[(4,32),(5,64),(1,20),(3,32),(2,256)]
def cU5(os:Os)(args:S9):laidMet prog bE3 ((laidWorld os).forCall (λ_ _=>0) ⟨#[],args,[]⟩).memory:=
 laidMet_of_blocks blocks 8 (by kernel_rfl) (by kernel_rfl) (by kernel_rfl)
end Go.Proofs.YtibiibjbmhckgaaGreatDoor
section
set_option maxRecDepth 100000
namespace Go.Proofs.YtibiibjbmhckgaaGreatDoor
open Go Proofs.Tryz
def gk(P:Program)(lo n:Nat):Bool:=(List.range n).all λi=> !((P.funcs[lo+i]?).any Func.goes)
theorem bI3:∀i:Nat,(prog.funcs[i]?).any Func.goes=false:=λi=>by
 have h1:gk prog 0 200=true:=by as_aux_lemma=>kernel_rfl
 have h2:gk prog 200 200=true:=by as_aux_lemma=>kernel_rfl
 have h3:gk prog 400 128=true:=by as_aux_lemma=>kernel_rfl
 have hs:prog.funcs.size=528:=by kernel_rfl
 have key:∀lo n,gk prog lo n=true->lo<=i->i<lo+n->(prog.funcs[i]?).any Func.goes=false:=λlo n h a b=>by
  have:=oW.1 h (i-lo) (List.mem_range.2 (by omega));rw[show lo+(i-lo)=i by omega]at this;simpa using this
 by_cases a:i<200
 .exact key 0 200 h1 (by omega) (by omega)
 by_cases b:i<400
 .exact key 200 200 h2 (by omega) (by omega)
 by_cases c:i<528
 .exact key 400 128 h3 (by omega) (by omega)
 rw[Array.getElem?_eq_none (by omega)];rfl
theorem c41(f:FuncId):prog.goes f=false:=by
 unfold Program.goes;have h1:prog.funcs.any Func.goes=false:=by
  rw[Array.any_eq_false];intro i hi;have:=bI3 i;rw[lY hi]at this;simpa using this
 have h2:((prog.closure f).any λg=>(prog.funcs[g]?).any Func.goes)=false:=by
  simp only[bI3];simp
 rw[h1,h2,Bool.and_false];rfl
def cH9{c:OpenClaim}(h:c.start=.entering):false=c.goesBy prog:=by
 unfold OpenClaim.goesBy Program.goesAt Program.goesFrom;rw[h];cases prog.funcNamed c.func with
 |none=>rfl
 |some f=>simp[c41 f]
end Go.Proofs.YtibiibjbmhckgaaGreatDoor
end
namespace Go
abbrev qM:=@List.pairwise_iff_getElem
abbrev vC:=@bne_self_eq_false
end Go
namespace Go.Proofs.YtibiibjbmhckgaaGreatDoor
section
open Go Go.F7
def Tot{α:Type}(o:Option α)(P:α->Prop):Prop:=∃b,o=some b/\P b
section
variable{α β:Type}{P:α->Prop}
def H8{b:α}(h:P b):Tot (some b) P:=⟨b,rfl,h⟩
theorem L8{c:Bool}{x y:Option α}(h1:c=true->Tot x P)(h2:c=false->Tot y P):Tot (bif c then x else y) P:=by
 cases c
 .exact h2 rfl
 .exact h1 rfl
def X4{o:Option β}{f:β->Option α}{Q:β->Prop}(h:Tot o Q)(g:∀a,o=some a->Q a->Tot (f a) P):Tot (o.bind f) P:=by
 obtain⟨a,ha,hq⟩:=h;have:=g a ha hq;rw[ha];exact this
def Tot.mono{o:Option α}{Q:α->Prop}(h:Tot o Q)(g:∀a,Q a->P a):Tot o P:=by
 obtain⟨a,ha,hq⟩:=h;exact⟨a,ha,g a hq⟩
def Tot.of{o:Option α}{a:α}(h:Tot o P)(e:o=some a):P a:=by
 obtain⟨b,hb,hp⟩:=h;rw[hb]at e;cases e;exact hp
end
def nz{n:Int}{P:Prop}(h:n≠0):n=0->P:=λe=>absurd e h
def a03(lo:Nat)(s:Str):Tot (xJ lo s) λ_=>True:=⟨_,rfl,trivial⟩
def bH7(s:Str):Tot (bif decide ((s.length:Int)<1)then some (false)else(bif decide ((s.length:Int)>64)then some (false)else(Option.bind (ix s 0) λb3=>bif ((b3.toNat:Int)==32)then some (false)else(Option.bind (ix s (IntKind.i64.wrap ((s.length:Int)-1))) λb6=>bif ((b6.toNat:Int)==32)then some (false)else(Option.bind (ag6 s ([32,32]:Str)) λy9=>bif y9 then some (false)else(Option.bind (xJ 32 s) λnY=>some ((!nY)))))))) λ_=>True:=by
 refine L8 (λ_=>H8 trivial) λh1=>?_;refine L8 (λ_=>H8 trivial) λh2=>?_;have h1:=DI h1;have h2:=DI h2;refine X4 (Q:=λ_=>True) ⟨_,aJ (i:=0) (by omega),trivial⟩ λb _ _=>?_;refine L8 (λ_=>H8 trivial) λ_=>?_;rw[show IntKind.i64.wrap ((s.length:Int)-1)=((s.length-1:Nat):Int) by rw[oU (by unfold okI;omega)];omega];refine X4 (Q:=λ_=>True) ⟨_,aJ (i:=s.length-1) (by omega),trivial⟩ λb _ _=>?_;refine L8 (λ_=>H8 trivial) λ_=>?_;refine X4 (Q:=λ_=>True) ?_ λb _ _=>L8 (λ_=>H8 trivial) λ_=>X4 (a03 _ _) λ_ _ _=>H8 trivial;unfold ag6;rw[aI (by omega)];exact H8 trivial
def cc4(s:Str):Tot (aB0 s) λ_=>True:=bH7 s
def dg3(s:Str):Tot (aw7 s) λ_=>True:=bH7 s
def dz4(s:Str):Tot (XB s) λ_=>True:=by
 unfold XB;rw[aB2];exact L8 (λ_=>X4 (a03 _ _) λ_ _ _=>H8 trivial) λ_=>H8 trivial
def dg2(s:Str):Tot (aw6 s) λ_=>True:=L8 (λ_=>X4 (a03 _ _) λ_ _ _=>H8 trivial) λ_=>H8 trivial
def Al(t:Tree)(i:Nat):Prop:=∀b,t.Branches[i]?=some b->1<=b.Unit.ID/\(∀j c,j+1=i->t.Branches[j]?=some c->c.Unit.ID<b.Unit.ID)/\(b.Unit.Mark≠[]->∀c∈t.Branches.take i,c.Unit.Mark≠b.Unit.Mark)
def az4{t:Tree}{i:Nat}(hi:i<t.Branches.length)(hl:t.Branches.length<=4000):Tot (ai5 t i) λe=>e=0->Al t i:=by
 unfold ai5;have hb:=J9 hi;rw[aJ hi];generalize t.Branches[i]=b at hb;simp only[F9,aB2];refine L8 (λ_=>H8 (nz (by decide))) λh1=>?_;have h1:1<=b.Unit.ID/\b.Unit.ID<=1073741824:=by simpa using h1
 refine L8 (λ_=>H8 (nz (by decide))) λh2=>?_
 have tail:∀(hp:∀j c,j+1=i->t.Branches[j]?=some c->c.Unit.ID<b.Unit.ID),Tot (bif (!(b.Unit.Mark==([]:Str)))then(Option.bind (XB b.Unit.Mark) λKE=>bif (!KE)then some (1)else(bif (!(b.Unit.Mark==([]:Str)))then(Option.bind (slc t.Branches 0 i) λy21=>Option.bind (DZ y21 (λz0=>JO z0 b.Unit)) λy23=>bif y23 then some (19)else some (0))else some (0)))
  else(bif (!(b.Unit.Mark==([]:Str)))then(Option.bind (slc t.Branches 0 i) λy27=>Option.bind (DZ y27 (λz0=>JO z0 b.Unit)) λy29=>bif y29 then some (19)else some (0))else some (0))) λe:Int=>e=0->Al t i:=λhp=>by
  refine L8 (λh5=>?_) (λh5=>?_)
  .refine X4 (dz4 _) λy _ _=>L8 (λ_=>H8 (nz (by decide))) λ_=>?_;have e:=dn5 (l:=t.Branches.take i) (f:=λz0=>JO z0 b.Unit) (p:=λz=>z.Unit.Mark==b.Unit.Mark) (by rw[Y1];omega) (λ_ _=>rfl);rw[h5,H9,bb5 (by omega),F9,e,F9];refine L8 (λ_=>H8 (nz (by decide))) λh7=>H8 λ_ b' hb'=>?_;rw[hb]at hb';cases hb';refine⟨h1.1,hp,λ_ c hc=>?_⟩;rw[ET]at h7;simpa using h7 c hc
  .rw[h5,G6];refine H8 λ_ b' hb'=>?_;rw[hb]at hb';cases hb';exact⟨h1.1,hp,λh=>absurd (by simpa using h5) h⟩
 refine L8 (λh3=>?_) (λh3=>?_)
 .have h3:=iR h3;rw[oU (by unfold okI;omega),bC7 hi (by omega),F9];refine L8 (λ_=>H8 (nz (by decide))) λh4=>?_;have h4:=DI h4;refine X4 (cc4 _) λy _ _=>?_;refine L8 (λ_=>H8 (nz (by decide))) λ_=>tail λj c hj hc=>?_;obtain rfl:j=i-1:=by omega
  rw[J9 (by omega)]at hc;cases hc;omega
 .have h3:=DI h3;refine X4 (cc4 _) λy _ _=>?_;refine L8 (λ_=>H8 (nz (by decide))) λ_=>tail λj c hj hc=>?_;omega
theorem ca9{t:Tree}(hl:t.Branches.length<=4000)(id:Int):ai7 t id=some (idxOf (λz=>z.Unit.ID==id) t.Branches):=by
 have e:=ba3 (l:=t.Branches) (f:=λz0=>bd5 z0 id) (p:=λz=>z.Unit.ID==id) (by omega) (λ_ _=>rfl);unfold ai7;rw[e];rfl
def b23(a b:Int):Tot (WX a b) λ_=>True:=by
 unfold WX;rw[aB2];refine L8 (λ_=>H8 trivial) λ_=>?_;rw[aB2];exact L8 (λ_=>H8 trivial) λ_=>L8 (λ_=>H8 trivial) λ_=>L8 (λ_=>H8 trivial) λ_=>H8 trivial
def Plc(t:Tree)(i:Nat):Prop:=∀b,t.Branches[i]?=some b->b.Unit.Parent≠0->t.Branches.any (λz=>z.Unit.ID==b.Unit.Parent)=true
def cc9{t:Tree}{i:Nat}(hi:i<t.Branches.length)(hl:t.Branches.length<=4000):Tot (ai9 t i) λe=>e=0->Plc t i:=by
 unfold ai9;have hb:=J9 hi;rw[aJ hi];generalize t.Branches[i]=b at hb;simp only[F9,ca9 hl];refine L8 (λh1=>?_) λh1=>?_
 .have h1:b.Unit.Parent=0:=by simpa using h1
  refine L8 (λ_=>H8 (nz (by decide))) λh2=>H8 λ_ b' hb' hp=>?_;rw[hb]at hb';cases hb';exact absurd h1 hp
 .refine L8 (λ_=>H8 (nz (by decide))) λh2=>?_;have h2:=DI h2;have hany:t.Branches.any (λz=>z.Unit.ID==b.Unit.Parent)=true:=by
   cases h:t.Branches.any (λz=>z.Unit.ID==b.Unit.Parent)with
   |true=>rfl
   |false=>rw[aa7 h]at h2;exact absurd (by decide) h2
  obtain⟨k,hk,hik,_⟩:=NP hany;refine L8 (λ_=>H8 (nz (by decide))) λ_=>?_;rw[hik,aJ hk,F9];refine X4 (b23 _ _) λy _ _=>L8 (λ_=>H8 (nz (by decide))) λ_=>H8 λ_ b' hb' hp=>?_;rw[hb]at hb';cases hb';exact hany
def bq1{u:F6}(h:u.length<=900):∀(n i fu:Nat)(v:F6),u.length-i=n->i<=u.length->n<fu->v=u.take i->WQ u fu (i:Int) v=some u
 |_,i,0,_,_,_,hf,_=>by omega
 |0,i,fu+1,v,hn,hi,_,hv=>by
  have h0:decide ((i:Int)<((u.map F8).length:Int))=false:=fZ (by rw[X0];omega);simp only[WQ,h0,G6];rw[hv,pF (by omega)]
 |n+1,i,fu+1,v,hn,hi,hf,hv=>by
  have hi':i<u.length:=by omega
  have h0:decide ((i:Int)<((u.map F8).length:Int))=true:=aI (by rw[X0];omega);have hvl:v.length=i:=by rw[hv,Y1];omega
  have h1:decide (v.length+([u[i]]:F6).length<=4294967296)=true:=aI (by simp;omega);simp only[WQ,h0,H9,aJ hi',F9,a90,h1,wrap_succ (n:=u.length) (by omega) hi'];exact bq1 h n (i+1) fu _ (by omega) (by omega) (by omega) (by rw[hv,List.take_append_getElem hi'])
theorem dp2{l:F6}(h:l.length<=900):ay5 l=some (tN l):=by
 have e:bZ0 [] l=some l:=bq1 h l.length 0 1000 [] (by omega) (by omega) (by omega) rfl;simp only[ay5,a99,a94];rw[e];simp only[F9,ba9];rw[aI (by omega)];rfl
def bX4{a b:F6}(hl:a.length=b.length)(h:a.length<=900):∀(n i fu:Nat),a.length-i=n->i<=a.length->n<fu->Tot (WM a b fu (i:Int)) λr=>r=true->a.drop i=b.drop i
 |_,i,0,_,_,hf=>by omega
 |0,i,fu+1,hn,hi,_=>by
  have h0:decide ((i:Int)<((a.map F8).length:Int))=false:=fZ (by rw[X0];omega);simp only[WM,h0,G6];exact H8 λ_=>by rw[EU (by omega),EU (by omega)]
 |n+1,i,fu+1,hn,hi,hf=>by
  have hi':i<a.length:=by omega
  have by6:i<b.length:=by omega
  have h0:decide ((i:Int)<((a.map F8).length:Int))=true:=aI (by rw[X0];omega);simp only[WM,h0,H9,aJ hi',aJ by6,F9,wrap_succ (n:=a.length) (by omega) hi'];refine L8 (λ_=>H8 λe=>by cases e) λhne=>?_;refine(bX4 hl h n (i+1) fu (by omega) (by omega) (by omega)).mono λr hr he=>?_;have he':a[i]=b[i]:=by simpa using hne
  rw[zU hi',zU by6,he',hr he]
def dn8{a b:F6}(h:a.length<=900):Tot (ax9 a b) λr=>r=true->a=b:=by
 unfold ax9 ba2;refine L8 (λ_=>H8 λe=>by cases e) λhl=>?_;have hl:a.length=b.length:=by simp at hl;omega
 exact(bX4 hl h a.length 0 _ (by omega) (by omega) (by omega)).mono λr hr he=>by simpa using hr he
def yX(t:Tree)(p:Int):F6:=(t.Branches.filter λb=>b.Unit.Parent==p).map λb=>b.Unit.ID
def bd6{t:Tree}{p:Int}{l:F6}(hl:l.length<=900)(hb:t.Branches.length<=900):∀(n i fu:Nat)(want:F6),t.Branches.length-i=n->i<=t.Branches.length->n<fu->want.length<=i->
    Tot (PY t p l fu want (i:Int)) λr=>r=true->tN l=want++((t.Branches.drop i).filter λb=>b.Unit.Parent==p).map λb=>b.Unit.ID
 |_,i,0,_,_,_,hf,_=>by omega
 |0,i,fu+1,want,hn,hi,_,_=>by
  have h0:decide ((i:Int)<((t.Branches.map I4).length:Int))=false:=fZ (by rw[X0];omega);simp only[PY,h0,G6,dp2 hl,F9];refine X4 (dn8 (by rw[(ab1 l).length_eq];exact hl)) λr _ hr=>H8 λhe=>?_;rw[hr he,EU (by omega)];simp
 |n+1,i,fu+1,want,hn,hi,hf,hw=>by
  have hi':i<t.Branches.length:=by omega
  have h0:decide ((i:Int)<((t.Branches.map I4).length:Int))=true:=aI (by rw[X0];omega);simp only[PY,h0,H9,aJ hi',F9,wrap_succ (n:=t.Branches.length) (by omega) hi'];refine L8 (λh1=>?_) λh1=>?_
  .rw[aI (by simp;omega),H9];refine(bd6 hl hb n (i+1) fu _ (by omega) (by omega) (by omega) (by simp;omega)).mono λr hr he=>?_;rw[hr he,zU hi',List.filter_cons_of_pos (by simpa using h1)];simp
  .refine(bd6 hl hb n (i+1) fu _ (by omega) (by omega) (by omega) (by omega)).mono λr hr he=>?_;rw[hr he,zU hi',List.filter_cons_of_neg (by simpa using h1)]
def cb8{t:Tree}{p:Int}{l:F6}(hl:l.length<=900)(hb:t.Branches.length<=900):Tot (aA8 t p l) λr=>r=true->tN l=yX t p:=
 (bd6 hl hb t.Branches.length 0 1000 [] (by omega) (by omega) (by omega) (by simp)).mono λr hr he=>by simpa[yX]using hr he
def Dp(t:Tree):Nat->Branch->Prop
 |0,_=>False
 |n+1,b=>(n=0/\b.Unit.Parent=0)\/(b.Unit.Parent≠0/\∃p∈t.Branches,p.Unit.ID=b.Unit.Parent/\Dp t n p)
def b34{t:Tree}(hb:t.Branches.length<=900)(hp:∀b∈t.Branches,b.Unit.Parent≠0->t.Branches.any (λz=>z.Unit.ID==b.Unit.Parent)=true):∀(n m fu:Nat)(b:Branch)(i4 i6:Int)(i7 i8:Str),b∈t.Branches->t.Branches.length+2-m=n->n<fu->m<=t.Branches.length+1->
    Tot (ai6 t fu (m:Int) i4 b.Unit.Parent i6 i7 i8) λe=>e=0->∃k,Dp t k b/\m+k<=13
 |_,m,0,b,_,_,_,_,_,_,hf,_=>by omega
 |0,m,fu+1,b,_,_,_,_,_,hn,_,hm=>by omega
 |n+1,m,fu+1,b,_,_,_,_,hmem,hn,hf,hm=>by
  simp only[ai6];refine L8 (λh1=>?_) λh1=>?_
  .have h1:b.Unit.Parent≠0:=by simpa using h1
   refine L8 (λ_=>H8 (nz (by decide))) λh2=>?_;have h2:=DI h2;rw[X0]at h2;obtain⟨k,hk,hik,hpk,_⟩:=NP (hp b hmem h1);rw[ca9 (by omega),F9,hik,aJ hk,F9,oU (by unfold okI;omega)];refine(b34 hb hp n (m+1) fu t.Branches[k] _ _ _ _ (gK hk) (by omega) (by omega) (by omega)).mono λe he h0=>?_;obtain⟨d,hd,hle⟩:=he h0;exact⟨d+1,.inr ⟨h1,_,gK hk,by simpa using hpk,hd⟩,by omega⟩
  .have h1:b.Unit.Parent=0:=by simpa using h1
   refine L8 (λ_=>H8 (nz (by decide))) λh2=>H8 λ_=>⟨1,.inl ⟨rfl,h1⟩,?_⟩;have h2:=DI h2;omega
def b35{t:Tree}{i:Nat}(hi:i<t.Branches.length)(hb:t.Branches.length<=900)(hp:∀b∈t.Branches,b.Unit.Parent≠0->t.Branches.any (λz=>z.Unit.ID==b.Unit.Parent)=true):Tot (az8 t i) λe=>e=0->∃k,k<=12/\Dp t k t.Branches[i]:=by
 unfold az8 bd1;rw[aJ hi,F9];refine(b34 hb hp (t.Branches.length+1) 1 1000 t.Branches[i] _ _ _ _ (gK hi) (by omega) (by omega) (by omega)).mono λe he h0=>?_;obtain⟨k,hk,hle⟩:=he h0;exact⟨k,by omega,hk⟩
structure Right(t:Tree):Prop where
 len:t.Branches.length<=256
 pos:∀b∈t.Branches,1<=b.Unit.ID
 gZ:t.Branches.Pairwise λa b=>a.Unit.ID<b.Unit.ID
 mks:t.Branches.Pairwise λa b=>b.Unit.Mark≠[]->a.Unit.Mark≠b.Unit.Mark
 par:∀b∈t.Branches,b.Unit.Parent≠0->t.Branches.any (λz=>z.Unit.ID==b.Unit.Parent)=true
 kids:∀b∈t.Branches,tN b.Kids=yX t b.Unit.ID
 roots:tN t.Q7=yX t 0
 depth:∀b∈t.Branches,∃k,k<=12/\Dp t k b
def au7{t:Tree}{v2:Int}{x:FuncId}{k:Int->Option (Int×Int)}(hb:t.Branches.length<=900):∀(n i fu:Nat),t.Branches.length-i=n->i<=t.Branches.length->n<fu->(∀j:Nat,j<t.Branches.length->∃y,vY x t j=some y)->
    (∃a y,JL t v2 x k fu (i:Int)=some (a,y)/\y≠0)\/((∀j:Nat,i<=j->j<t.Branches.length->vY x t j=some 0)/\JL t v2 x k fu (i:Int)=k (IntKind.i64.wrap (v2+1)))
 |_,i,0,_,_,hf,_=>by omega
 |0,i,fu+1,hn,hi,_,_=>by
  have h0:decide ((i:Int)<((t.Branches.map I4).length:Int))=false:=fZ (by rw[X0];omega);refine .inr ⟨λj h1 h2=>by omega,?_⟩;simp only[JL,h0,G6]
 |n+1,i,fu+1,hn,hi,hf,hd=>by
  have hi':i<t.Branches.length:=by omega
  have h0:decide ((i:Int)<((t.Branches.map I4).length:Int))=true:=aI (by rw[X0];omega);obtain⟨y,hy⟩:=hd i hi';simp only[JL,h0,H9,hy,F9,wrap_succ (n:=t.Branches.length) (by omega) hi'];by_cases hy0:y=0
  .subst hy0;simp only[vC,G6];rcases au7 hb n (i+1) fu (by omega) (by omega) (by omega) hd with h|⟨h1,h2⟩
   .exact .inl h
   .refine .inr ⟨λj h3 h4=>?_,h2⟩;rcases Nat.eq_or_lt_of_le h3 with rfl|h
    .exact hy
    .exact h1 j h h4
  .refine .inl ⟨i,y,?_,hy0⟩;rw[show(y !=0)=true by simpa using hy0,H9]
def bO5{t:Tree}{v2:Int}{x:FuncId}{k:Int->Option (Int×Int)}(hb:t.Branches.length<=900):∀(n i fu:Nat),t.Branches.length-i=n->i<=t.Branches.length->n<fu->(∀j:Nat,j<t.Branches.length->∃y,vY x t j=some y)->
    (∃a y,JK t v2 x k fu (i:Int)=some (a,y)/\y≠0)\/((∀j:Nat,i<=j->j<t.Branches.length->vY x t j=some 0)/\JK t v2 x k fu (i:Int)=k (IntKind.i64.wrap (v2+1)))
 |_,i,0,_,_,hf,_=>by omega
 |0,i,fu+1,hn,hi,_,_=>by
  have h0:decide ((i:Int)<((t.Branches.map I4).length:Int))=false:=fZ (by rw[X0];omega);refine .inr ⟨λj h1 h2=>by omega,?_⟩;simp only[JK,h0,G6]
 |n+1,i,fu+1,hn,hi,hf,hd=>by
  have hi':i<t.Branches.length:=by omega
  have h0:decide ((i:Int)<((t.Branches.map I4).length:Int))=true:=aI (by rw[X0];omega);obtain⟨y,hy⟩:=hd i hi';simp only[JK,h0,H9,hy,F9,wrap_succ (n:=t.Branches.length) (by omega) hi'];by_cases hy0:y=0
  .subst hy0;simp only[vC,G6];rcases bO5 hb n (i+1) fu (by omega) (by omega) (by omega) hd with h|⟨h1,h2⟩
   .exact .inl h
   .refine .inr ⟨λj h3 h4=>?_,h2⟩;rcases Nat.eq_or_lt_of_le h3 with rfl|h
    .exact hy
    .exact h1 j h h4
  .refine .inl ⟨i,y,?_,hy0⟩;rw[show(y !=0)=true by simpa using hy0,H9]
structure Sm(n:Nat)(t:Tree):Prop where
 r:t.Q7.length<=n
 b:t.Branches.length<=n
 k:∀b∈t.Branches,b.Kids.length<=n
theorem b09{t:Tree}(h:Sm 900 t):Tot (JM t) λr=>r.2=0->Right t:=by
 obtain⟨hr,hb,hk⟩:=h;unfold JM bc6;refine L8 (λ_=>H8 (nz (by decide))) λh1=>?_;have h1:=DI h1;rw[X0]at h1;have d0:∀j:Nat,vY 144 t j=ai5 t j:=λ_=>rfl;have d1:∀j:Nat,vY 145 t j=ai9 t j:=λ_=>rfl;have d2:∀j:Nat,vY 142 t j=ai2 t j:=λ_=>rfl;have d3:∀j:Nat,vY 146 t j=az8 t j:=λ_=>rfl;have step:∀(fu:Nat)(v:Nat)(x:FuncId),v<4->v≠3->ix ([(144:FuncId),(145:FuncId),(142:FuncId),(146:FuncId)]:List FuncId) (v:Int)=some x->qH t 1000 (fu+1) (v:Int)=JL t v x (λq=>qH t 1000 fu q) 1000 0:=λfu v x hv hv3 hx=>by
  have h0:decide ((v:Int)<((([(144:FuncId),(145:FuncId),(142:FuncId),(146:FuncId)]:List FuncId).map AY).length:Int))=true:=aI (by simp;omega);have h3:((v:Int)==3)=false:=by simp;omega
  simp only[qH,h0,H9,hx,F9,h3,G6]
 have w:∀v:Nat,v<4->IntKind.i64.wrap ((v:Int)+1)=((v+1:Nat):Int):=λv hv=>wrap_succ (n:=4) (by omega) hv;rw[show(0:Int)=((0:Nat):Int)from rfl,step 999 0 144 (by omega) (by omega) rfl];rcases au7 (v2:=((0:Nat):Int)) (x:=144) (k:=λq=>qH t 1000 999 q) hb t.Branches.length 0 1000 (by omega) (by omega) (by omega) (λj hj=>by rw[d0];obtain⟨y,hy,_⟩:=az4 hj (by omega);exact⟨y,hy⟩)with⟨a,y,he,hy⟩|⟨a0,he⟩
 .exact⟨_,he,nz hy⟩
 rw[show(0:Int)=((0:Nat):Int)from rfl,he,w 0 (by omega),step 998 1 145 (by omega) (by omega) rfl];rcases au7 (v2:=((1:Nat):Int)) (x:=145) (k:=λq=>qH t 1000 998 q) hb t.Branches.length 0 1000 (by omega) (by omega) (by omega) (λj hj=>by rw[d1];obtain⟨y,hy,_⟩:=cc9 hj (by omega);exact⟨y,hy⟩)with⟨a,y,he,hy⟩|⟨a1,he⟩
 .exact⟨_,he,nz hy⟩
 rw[show(0:Int)=((0:Nat):Int)from rfl,he,w 1 (by omega),step 997 2 142 (by omega) (by omega) rfl];have par:∀b∈t.Branches,b.Unit.Parent≠0->t.Branches.any (λz=>z.Unit.ID==b.Unit.Parent)=true:=λb hbm=>by
  obtain⟨j,hj,rfl⟩:=eX hbm;have:=(cc9 hj (by omega)).of ((d1 j).symm.trans (a1 j (by omega) hj)) rfl;exact this _ (J9 hj)
 have t2:∀j(hj:j<t.Branches.length),Tot (ai2 t j) λe=>e=0->tN t.Branches[j].Kids=yX t t.Branches[j].Unit.ID:=λj hj=>by
  unfold ai2;rw[aJ hj,F9];refine X4 (cb8 (hk _ (gK hj)) hb) λy _ hy=>L8 (λ_=>H8 (nz (by decide))) λh=>H8 λ_=>hy (by simpa using h)
 rcases au7 (v2:=((2:Nat):Int)) (x:=142) (k:=λq=>qH t 1000 997 q) hb t.Branches.length 0 1000 (by omega) (by omega) (by omega) (λj hj=>by rw[d2];obtain⟨y,hy,_⟩:=t2 j hj;exact⟨y,hy⟩)with⟨a,y,he,hy⟩|⟨a2,he⟩
 .exact⟨_,he,nz hy⟩
 rw[show(0:Int)=((0:Nat):Int)from rfl,he,w 2 (by omega)];have e3:qH t 1000 997 (((2+1:Nat)):Int)=Option.bind (aA8 t 0 t.Q7) λy7=>bif (!y7)then some ((-1),10)else JK t 3 146 (λq=>qH t 1000 996 q) 1000 0:=rfl
 rw[e3];refine X4 (cb8 hr hb) λy _ hy=>?_;refine L8 (λ_=>H8 (nz (by decide))) λhy'=>?_;have cO7:=hy (by simpa using hy');rcases bO5 (v2:=((3:Nat):Int)) (x:=146) (k:=λq=>qH t 1000 996 q) hb t.Branches.length 0 1000 (by omega) (by omega) (by omega) (λj hj=>by rw[d3];obtain⟨y,hy,_⟩:=b35 hj hb par;exact⟨y,hy⟩)with⟨a,y,he,hy⟩|⟨a3,he⟩
 .exact⟨_,he,nz hy⟩
 refine⟨((-1),0),?_,λ_=>⟨by omega,λb hbm=>?_,?_,?_,par,λb hbm=>?_,cO7,λb hbm=>?_⟩⟩
 .refine(Eq.trans ?_ he).trans ?_
  .rfl
  .rw[w 3 (by omega)];rfl
 .obtain⟨j,hj,rfl⟩:=eX hbm;exact((az4 hj (by omega)).of ((d0 j).symm.trans (a0 j (by omega) hj)) rfl _ (J9 hj)).1
 .have adj:∀j(hj:j+1<t.Branches.length),t.Branches[j].Unit.ID<t.Branches[j+1].Unit.ID:=λj hj=>
   ((az4 hj (by omega)).of ((d0 (j+1)).symm.trans (a0 (j+1) (by omega) hj)) rfl _ (J9 hj)).2.1 j _ rfl (J9 (by omega))
  rw[qM];intro i j hi hj hij;induction j with
  |zero=>omega
  |succ j ih=>
   rcases fJ i j with h|h
   .exact Int.lt_trans (ih (by omega) h) (adj j hj)
   .obtain rfl:i=j:=by omega
    exact adj i hj
 .rw[qM];intro i j hi hj hij hm
  have:=((az4 hj (by omega)).of ((d0 j).symm.trans (a0 j (by omega) hj)) rfl _ (J9 hj)).2.2 hm t.Branches[i] (by
   rw[List.mem_take_iff_getElem]
   exact⟨i,by omega,rfl⟩)
  exact this
 .obtain⟨j,hj,rfl⟩:=eX hbm;exact(t2 j hj).of ((d2 j).symm.trans (a2 j (by omega) hj)) rfl
 .obtain⟨j,hj,rfl⟩:=eX hbm;exact(b35 hj hb par).of ((d3 j).symm.trans (a3 j (by omega) hj)) rfl
def wrap_u64{n:Int}(h:0<=n/\n<=9223372036854775807):IntKind.u64.wrap n=n:=by
 have⟨h1,h2⟩:=h;show(if(false&&decide (n % (2^64:Int)>=(2^63:Int)))=true then n % (2^64:Int)-(2^64:Int)else n % (2^64:Int))=n;simp only[Bool.false_and,Bool.false_eq_true,if_false];omega
def bG6{i j:Nat}(hi:i<=1000)(hj:j<=1000):IntKind.i64.wrap (Int.fdiv (IntKind.u64.wrap (IntKind.i64.wrap ((i:Int)+(j:Int)))) 2)=(((i+j)/2:Nat):Int):=by
 rw[oU (n:=(i:Int)+j) (by unfold okI;omega),wrap_u64 (by omega),Int.fdiv_eq_ediv_of_nonneg _ (by decide),oU (by unfold okI;omega)];omega
def ax5{x:X8}{tg:Int}{cmp:Branch->Int->Option Int}(hc:∀b,∃s,cmp b tg=some s/\(s<0↔b.Unit.ID<tg)/\(s=0↔b.Unit.ID=tg))(hs:x.Pairwise λa b=>a.Unit.ID<b.Unit.ID)(hl:x.length<=900):
    ∀(fu i j:Nat),j-i<fu->i<=j->j<=x.length->(∀q(hq:q<x.length),q<i->x[q].Unit.ID<tg)->(∀q(hq:q<x.length),j<=q->tg<=x[q].Unit.ID)->
    ∃(k:Nat) (ok:Bool),EC x tg cmp fu (i:Int) (j:Int)=some ((k:Int),ok)/\k<=x.length/\(∀q(hq:q<x.length),x[q].Unit.ID<tg↔q<k)/\(ok=true↔∃hk:k<x.length,x[k].Unit.ID=tg)
 |0,_,_,h,_,_,_,_=>by omega
 |fu+1,i,j,hf,hij,hj,hlo,hhi=>by
  have hs':=qM.1 hs;by_cases h:i<j
  .have h0:decide ((i:Int)<(j:Int))=true:=aI (by omega);have hm:(i+j)/2<x.length:=by omega
   have⟨s,h1,h2,h3⟩:=hc x[(i+j)/2];simp only[EC,h0,H9,bG6 (i:=i) (j:=j) (by omega) (by omega),aJ hm,F9,h1];by_cases hlt:s<0
   .rw[aI hlt,H9,wrap_succ (n:=x.length) (by omega) hm];refine ax5 hc hs hl fu ((i+j)/2+1) j (by omega) (by omega) hj (λq hq hqi=>?_) hhi;have hmid:=h2.1 hlt;rcases fJ q ((i+j)/2)with h|h
    .exact Int.lt_trans (hs' q _ hq hm h) hmid
    .obtain rfl:q=(i+j)/2:=by omega
     exact hmid
   .rw[fZ hlt,G6];refine ax5 hc hs hl fu i ((i+j)/2) (by omega) (by omega) (by omega) hlo (λq hq hqi=>?_);have hmid:tg<=x[(i+j)/2].Unit.ID:=Int.not_lt.1 (λh=>hlt (h2.2 h));rcases fJ ((i+j)/2) q with h|h
    .exact Int.le_of_lt (Int.lt_of_le_of_lt hmid (hs' _ q hm hq h))
    .obtain rfl:q=(i+j)/2:=by omega
     exact hmid
  .obtain rfl:i=j:=by omega
   have h0:decide ((i:Int)<(i:Int))=false:=fZ (by omega);simp only[EC,h0,G6,X0];have hiff:∀q(hq:q<x.length),x[q].Unit.ID<tg↔q<i:=λq hq=>⟨λh=>Nat.lt_of_not_le λhle=>Int.not_lt.2 (hhi q hq hle) h,λh=>hlo q hq h⟩;by_cases hi:i<x.length
   .rw[aI (by omega),H9,aJ hi,F9];have⟨s,h1,h2,h3⟩:=hc x[i];rw[h1,F9];refine⟨i,_,rfl,by omega,hiff,?_⟩;rw[beq_iff_eq,h3];exact⟨λh=>⟨hi,h⟩,λ⟨_,h⟩=>h⟩
   .rw[fZ (by omega),G6];exact⟨i,false,rfl,by omega,hiff,⟨λh=>by simp at h,λ⟨h,_⟩=>absurd h hi⟩⟩
def cx3(x y:Int):yK x y=some (if x<y then -1 else if y<x then 1 else 0):=by
 simp only[yK,ao2,F9,vC,G6];by_cases h1:x<y
 .simp[h1]
 .by_cases h2:y<x<;>simp[h1,h2]
def aH1(x y:Int):∃s,yK x y=some s/\(s<0↔x<y)/\(s=0↔x=y):=by
 refine⟨_,cx3 x y,?_,?_⟩
 .split
  .simp;assumption
  .split<;>simp<;>omega
 .split
  .simp;omega
  .split<;>simp<;>omega
structure At'(bs:List Branch)(id:Int)(k:Nat)(ok:Bool):Prop where
 le:k<=bs.length
 lt:∀q(hq:q<bs.length),bs[q].Unit.ID<id↔q<k
 ok:ok=true↔∃hk:k<bs.length,bs[k].Unit.ID=id
abbrev pI(bs:X8):Prop:=bs.Pairwise λa b=>a.Unit.ID<b.Unit.ID
def SX{bs:X8}(hs:pI bs)(hl:bs.length<=900)(id:Int):∃(k:Nat) (ok:Bool),kW bs id=some (k,ok)/\At' bs id k ok:=by
 have⟨k,ok,h1,h2,h3,h4⟩:=ax5 (x:=bs) (tg:=id) (cmp:=λz0 z1=>ZF z0 z1) (λb=>by
  have⟨s,e1,e2⟩:=aH1 b.Unit.ID id;refine⟨s,?_,e2⟩;show(yK b.Unit.ID id).bind _=_
  rw[e1];rfl) hs hl 1000 0 bs.length (by omega) (by omega) (by omega) (λq hq h=>by omega) (λq hq h=>by omega)
 refine⟨k,ok,?_,h2,h3,h4⟩;have h1':ai0 bs id (λz0 z1=>ZF z0 z1)=some ((k:Int),ok):=by
  show EC bs id _ 1000 0 ((bs.map I4).length:Int)=_;rw[X0];exact h1
 unfold kW;rw[h1',F9];rw[aI ⟨by omega,by omega,λh=>by have⟨hk,_⟩:=h4.1 h;omega⟩];simp
theorem b31{t:Tree}(hs:pI t.Branches)(hl:t.Branches.length<=900)(id:Int):∃(k:Nat) (ok:Bool),XA t id=some ((k:Int),ok)/\At' t.Branches id k ok:=by
 have⟨k,ok,h1,h2,h3,h4⟩:=ax5 (x:=t.Branches) (tg:=id) (cmp:=λz0 z1=>az5 z0 z1) (λb=>by
  have⟨s,e1,e2⟩:=aH1 b.Unit.ID id;refine⟨s,?_,e2⟩;show(yK b.Unit.ID id).bind _=_
  rw[e1];rfl) hs hl 1000 0 t.Branches.length (by omega) (by omega) (by omega) (λq hq h=>by omega) (λq hq h=>by omega)
 refine⟨k,ok,?_,h2,h3,h4⟩;have h1':ai0 t.Branches id (λz0 z1=>az5 z0 z1)=some ((k:Int),ok):=by
  show EC t.Branches id _ 1000 0 ((t.Branches.map I4).length:Int)=_;rw[X0];exact h1
 unfold XA;rw[h1'];rfl
def At'.mem{bs:X8}{id:Int}{k:Nat}{ok:Bool}(h:At' bs id k ok)(hs:pI bs):ok=true↔∃b∈bs,b.Unit.ID=id:=by
 rw[h.ok];constructor
 .rintro⟨hk,e⟩;exact⟨_,gK hk,e⟩
 .rintro⟨b,hb,e⟩;obtain⟨j,hj,rfl⟩:=eX hb;have h1:¬j<k:=λhlt=>by have:=(h.lt j hj).2 hlt;omega
  have hk:k<bs.length:=by omega
  refine⟨hk,?_⟩;rcases fJ k j with hkj|hkj
  .have h2:=qM.1 hs k j hk hj hkj;have:=(h.lt k hk).1 (by omega);omega
  .obtain rfl:j=k:=by omega
   exact e
def a04{x:N7}{tg:Int}{cmp:Came->Int->Option Int}(hc:∀b,∃s,cmp b tg=some s)(hl:x.length<=900):
    ∀(fu i j:Nat),j-i<fu->i<=j->j<=x.length->∃(k:Nat) (ok:Bool),JI x tg cmp fu (i:Int) (j:Int)=some ((k:Int),ok)/\k<=x.length
 |0,_,_,h,_,_=>by omega
 |fu+1,i,j,hf,hij,hj=>by
  by_cases h:i<j
  .have h0:decide ((i:Int)<(j:Int))=true:=aI (by omega);have hm:(i+j)/2<x.length:=by omega
   have⟨s,h1⟩:=hc x[(i+j)/2];simp only[JI,h0,H9,bG6 (i:=i) (j:=j) (by omega) (by omega),aJ hm,F9,h1];by_cases hlt:s<0
   .rw[aI hlt,H9,wrap_succ (n:=x.length) (by omega) hm];exact a04 hc hl fu ((i+j)/2+1) j (by omega) (by omega) hj
   .rw[fZ hlt,G6];exact a04 hc hl fu i ((i+j)/2) (by omega) (by omega) (by omega)
  .obtain rfl:i=j:=by omega
   have h0:decide ((i:Int)<(i:Int))=false:=fZ (by omega);simp only[JI,h0,G6,X0];by_cases hi:i<x.length
   .rw[aI (by omega),H9,aJ hi,F9];have⟨s,h1⟩:=hc x[i];rw[h1,F9];exact⟨i,_,rfl,by omega⟩
   .rw[fZ (by omega),G6];exact⟨i,false,rfl,by omega⟩
def um(bs:X8):List (Int×Str):=bs.map λb=>(b.Unit.ID,b.Unit.Mark)
def bZ7{bs:X8}:pI bs↔(um bs).Pairwise λa b=>a.1<b.1:=by unfold um;rw[List.pairwise_map]
def JX(bs:X8):(um bs).length=bs.length:=X0 _
def ce6{bs:X8}{i:Int}:(∃b∈bs,b.Unit.ID=i)↔∃p∈um bs,p.1=i:=by
 unfold um;constructor
 .rintro⟨b,hb,e⟩;exact⟨_,List.mem_map_of_mem hb,e⟩
 .grind
def dt3{bs bs':X8}(h:um bs=um bs')(hs:pI bs):pI bs':=bZ7.2 (h▸bZ7.1 hs)
def cQ0{bs bs':X8}(h:um bs=um bs'){i:Int}(hi:∃b∈bs,b.Unit.ID=i):∃b∈bs',b.Unit.ID=i:=ce6.2 (h▸ce6.1 hi)
def bf1{bs:X8}{k:Nat}{b b':Branch}(h:bs[k]?=some b)(h1:b'.Unit.ID=b.Unit.ID)(h2:b'.Unit.Mark=b.Unit.Mark):um (bs.set k b')=um bs:=by
 unfold um;rw[List.map_set];apply nZ;intro i;rw[xY];by_cases hi:k=i
 .grind
 .grind
def Sm.mono{n m:Nat}{t:Tree}(h:Sm n t)(hm:n<=m):Sm m t:=⟨Y2 h.r hm,Y2 h.b hm,λb hb=>Y2 (h.k b hb) hm⟩
def aI3{t:Tree}(hs:pI t.Branches)(hl:t.Branches.length<=900){id:Int}(h:id=0\/∃b∈t.Branches,b.Unit.ID=id):Tot (wQ t id) λp=>(p=none/\id=0)\/∃k b,p=some k/\t.Branches[k]?=some b/\b.Unit.ID=id:=by
 unfold wQ;refine L8 (λh0=>H8 (.inl ⟨rfl,by simpa using h0⟩)) λh0=>?_;have h0:id≠0:=by grind
 have⟨k,ok,e,ha⟩:=SX hs hl id;have hok:=(ha.mem hs).2 (h.resolve_left h0);rw[e,F9,hok];have⟨hk,hid⟩:=ha.ok.1 hok;exact H8 (.inr ⟨k,_,rfl,J9 hk,hid⟩)
def aI2{n:Nat}{t:Tree}(h:Sm n t)(p:E8):(eList t p).length<=n:=by
 rcases p with _|k
 .exact h.r
 .show((t.Branches[k]?.map Branch.Kids).getD []).length<=n;rcases hb:t.Branches[k]? with _|b
  .simp
  .exact h.k b (iZ hb)
theorem br2(t:Tree)(p:E8)(l:F6):um (FY t p l).Branches=um t.Branches:=by
 unfold FY;rcases p with _|k
 .rfl
 .simp only[];rcases hb:t.Branches[k]? with _|b
  .rfl
  .exact bf1 hb rfl rfl
def aS8{α:Type}{l:List α}{k:Nat}{a x:α}(h:x∈l.set k a):x∈l\/x=a:=by grind
def br1{n m:Nat}{t:Tree}(h:Sm n t)(hm:n<=m){l:F6}(hl:l.length<=m)(p:E8):Sm m (FY t p l):=by
 have h':=h.mono hm;unfold FY;rcases p with _|k
 .exact⟨hl,h'.b,h'.k⟩
 .simp only[];rcases hb:t.Branches[k]? with _|b
  .exact h'
  .refine⟨h'.r,by simpa using h'.b,λx hx=>?_⟩;rcases aS8 hx with hx|rfl
   .exact h'.k x hx
   .exact hl
def br0{n:Nat}{t:Tree}(h:Sm n t)(hn:n<=890)(hs:pI t.Branches){id parent before:Int}(hp:parent=0\/∃b∈t.Branches,b.Unit.ID=parent):Tot (FX t id parent before) λt'=>Sm (n+1) t'/\um t'.Branches=um t.Branches:=by
 unfold FX;refine X4 (aI3 hs (by have:=h.b;omega) hp) λp _ _=>?_;have hl:=aI2 h p;rw[bY2 (by omega),F9];have hr: -1<=idxOf (λx=>before==x) (eList t p)/\idxOf (λx=>before==x) (eList t p)<=((eList t p).length:Int):=by
  cases ha:(eList t p).any λx=>before==x with
  |false=>rw[aa7 ha];omega
  |true=>have⟨k,hk,e,_⟩:=NP ha;rw[e];omega
 rw[aI ⟨by omega,hr.1,hr.2⟩,H9];exact H8 ⟨br1 h (by omega) (by simp;omega) p,br2 t p _⟩
def br3{t:Tree}(hs:pI t.Branches)(hl:t.Branches.length<=900){parent:Int}(level:Int)(hp:parent=0\/∃b∈t.Branches,b.Unit.ID=parent):Tot (SY t parent level) λ_=>True:=by
 unfold SY;refine L8 (λ_=>H8 trivial) λh0=>?_;have h0:parent≠0:=by grind
 have⟨k,ok,e,ha⟩:=SX hs hl parent;have hok:=(ha.mem hs).2 (hp.resolve_left h0);rw[e,F9,hok];have⟨hk,hid⟩:=ha.ok.1 hok;simp only[H9,J9 hk,F9];exact X4 (b23 _ _) λ_ _ _=>H8 trivial
def du8{t:Tree}(hl:t.Branches.length<=900)(mark:Str):Tot (ai4 t mark) λr=>(r.2=false->mark≠[]->∀b∈t.Branches,b.Unit.Mark≠mark)/\(r.2=true->mark≠[]/\∃b∈t.Branches,b.Unit.Mark=mark/\b.Unit.ID=r.1):=by
 unfold ai4;have hf:∀b∈t.Branches,(λz0=>ai3 z0 mark) b=some (!(mark==([]:Str))&&(b.Unit.Mark==mark)):=λb _=>by
  simp only[ai3]
  grind
 have e:=ba3 (l:=t.Branches) (f:=λz0=>ai3 z0 mark) (by omega) hf;rw[e,F9];rcases ha:t.Branches.any λb=> !(mark==([]:Str))&&(b.Unit.Mark==mark)with _|_
 .rw[aa7 ha];refine H8 ⟨λ_ hm b hb hbm=>?_,λh=>Bool.noConfusion h⟩
  grind
 .have⟨k,hk,e,hp,_⟩:=NP ha;rw[e,fZ (by omega),G6,aJ hk,F9];simp only[Z4,Bool.not_eq_true',FN,beq_iff_eq]at hp;exact H8 ⟨λh=>Bool.noConfusion h,λ_=>⟨hp.1,_,gK hk,hp.2,rfl⟩⟩
def br5{t:Tree}(hl:t.Branches.length<=900)(mark:Str)(but:Int):Tot (TA t mark but) λu=>u=false->mark≠[]->(∀b∈t.Branches,b.Unit.Mark≠mark)\/∃b∈t.Branches,b.Unit.Mark=mark/\b.Unit.ID=but:=by
 unfold TA;refine X4 (du8 hl mark) λr _ ⟨h1,h2⟩=>H8 λhu hm=>?_;rcases h:r.2 with _|_
 .grind
 .grind
def bq9{t:Tree}(h:Sm 900 t):Tot (LX t) λ_=>True:=X4 (b09 h) λ_ _ _=>H8 trivial
def aS7{l:F6}{x:Int}:x∈tN l↔x∈l:=(ab1 l).mem_iff
def Right.kid{t:Tree}(h:Right t){b:Branch}(hb:b∈t.Branches):(b.Unit.Parent=0->b.Unit.ID∈t.Q7)/\∀p∈t.Branches,p.Unit.ID=b.Unit.Parent->b.Unit.ID∈p.Kids:=by
 have key:∀q,b.Unit.Parent=q->b.Unit.ID∈yX t q:=λq hq=>by
  unfold yX
  grind
 refine⟨λh0=>?_,λp hp hq=>?_⟩
 .have:=key 0 h0;rw[<-h.roots,aS7]at this;exact this
 .have:=key _ hq.symm;rw[<-h.kids p hp,aS7]at this;exact this
def br4{n:Nat}{t:Tree}(h:Sm n t)(hn:n<=890)(hR:Right t){id:Int}(hid:∃b∈t.Branches,b.Unit.ID=id):Tot (LY t id) λt'=>Sm n t'/\um t'.Branches=um t.Branches:=by
 unfold LY;have hl:=h.b;have⟨k,ok,e,ha⟩:=SX hR.gZ (by omega) id;have hok:=(ha.mem hR.gZ).2 hid;have⟨hk,cM1⟩:=ha.ok.1 hok;rw[e,F9,hok];simp only[H9,J9 hk,F9];have hb:=gK hk;generalize t.Branches[k]=b at hb cM1;have hpar:b.Unit.Parent=0\/∃p∈t.Branches,p.Unit.ID=b.Unit.Parent:=by
  by_cases h0:b.Unit.Parent=0
  .grind
  .have⟨p,hp,hpe⟩:=List.any_eq_true.1 (hR.par b hb h0)
   grind
 refine X4 (aI3 hR.gZ (by omega) hpar) λp _ hp=>?_;have hll:=aI2 h p;have hmem:b.Unit.ID∈eList t p:=by
  rcases hp with⟨rfl,h0⟩|⟨q,c,rfl,hc,hce⟩
  .exact(hR.kid hb).1 h0
  .show b.Unit.ID∈(t.Branches[q]?.map Branch.Kids).getD [];rw[hc];exact(hR.kid hb).2 c (iZ hc) hce
 rw[aI ⟨List.length_pos_of_mem hmem,by omega⟩,H9];exact H8 ⟨br1 h (N8 _) (Y2 (List.length_filter_le _ _) hll) p,br2 t p _⟩
def bI4:∀(s V:F6),s.Nodup->(∀x∈s,x∈V)->s.length<=V.length
 |[],_,_,_=>aF _
 |x::s,V,hn,hs=>by
  have⟨h1,h2⟩:=List.nodup_cons.1 hn;have hx:x∈V:=hs x (by simp)
  have:=bI4 s (V.erase x) h2 (λy hy=>by
   have hne:y≠x:=λe=>h1 (e▸hy)
   exact(List.mem_erase_of_ne hne).2 (hs y (by simp[hy])))
  rw[List.length_erase_of_mem hx]at this;have:=List.length_pos_of_mem hx;simp;omega
def ay8{bs:X8}(hs:pI bs){b c:Branch}(hb:b∈bs)(hc:c∈bs)(h:b.Unit.ID=c.Unit.ID):b=c:=by
 obtain⟨i,hi,rfl⟩:=eX hb;obtain⟨j,hj,rfl⟩:=eX hc;have hs':=qM.1 hs;rcases yB i j with h'|rfl|h'
 .have:=hs' i j hi hj h';omega
 .rfl
 .have:=hs' j i hj hi h';omega
def bq7{t:Tree}(hs:pI t.Branches):∀(n m:Nat)(b:Branch),Dp t n b->Dp t m b->n=m
 |0,_,_,h,_=>h.elim
 |n+1,0,_,_,h=>h.elim
 |n+1,m+1,b,h,h'=>by
  rcases h with⟨rfl,h0⟩|⟨h0,p,hp,hpe,hd⟩<;>rcases h' with⟨rfl,h0'⟩|⟨h0',p',hp',cN8,hd'⟩
  .rfl
  .exact absurd h0 h0'
  .exact absurd h0' h0
  .obtain rfl:=ay8 hs hp hp' (hpe.trans cN8.symm);rw[bq7 hs n m p hd hd']
def cb9{t:Tree}(hR:Right t){b:Branch}(hb:b∈t.Branches):qI t b.Unit.ID=some b.Kids:=by
 have hl:=hR.len;have⟨k,ok,e,ha⟩:=b31 hR.gZ (by omega) b.Unit.ID;have⟨hk,hid⟩:=ha.ok.1 ((ha.mem hR.gZ).2 ⟨b,hb,rfl⟩);have hp:=hR.pos b hb;unfold qI;rw[show(b.Unit.ID==0)=false by simp;omega,G6,e,F9,aJ hk,F9,ay8 hR.gZ (gK hk) hb hid]
def aR5{t:Tree}(hR:Right t){b:Branch}(hb:b∈t.Branches){x:Int}(hx:x∈b.Kids):∃c∈t.Branches,c.Unit.ID=x/\c.Unit.Parent=b.Unit.ID:=by
 rw[<-aS7,hR.kids b hb]at hx;unfold yX at hx;have⟨c,hc,e⟩:=jH.1 hx;have⟨hc1,hc2⟩:=List.mem_filter.1 hc;exact⟨c,hc1,e,by simpa using hc2⟩
def cU0{t:Tree}(hR:Right t){b:Branch}(hb:b∈t.Branches):b.Kids.Nodup:=by
 have h1:(yX t b.Unit.ID).Nodup:=by
  unfold yX;rw[List.Nodup,List.pairwise_map];exact(hR.gZ.filter _).imp λh=>Int.ne_of_lt h
 rw[<-hR.kids b hb]at h1;exact(ab1 b.Kids).nodup_iff.1 h1
def bP1(f:Int->qQ):∀(a b:F6),iG f (a++b)=(iG f a).bind λx=>(iG f b).map (x++·)
 |[],b=>by simp[iG]
 |k::a,b=>by
  rw[List.cons_append,iG,iG,bP1 f a b];rcases f k with _|l
  .rfl
  .rcases iG f a with _|x
   .rfl
   .cases iG f b<;>simp
def bP2{t:Tree}{n:Nat}{kd:Int->F6}:∀(ks L:F6),(∀k∈ks,qI t k=some (kd k))->iG (uG t n) (ks.flatMap kd)=some L->∃l,iG (uG t (n+1)) ks=some l/\l.length=ks.length+L.length
 |[],L,_,h=>by simp[iG]at h;subst h;exact⟨[],rfl,rfl⟩
 |k::ks,L,hk,h=>by
  rw[KO,bP1]at h;have⟨L1,h1,h⟩:=bW h;rcases h2:iG (uG t n) (ks.flatMap kd)with _|L2
  .rw[h2]at h;cases h
  .rw[h2]at h;simp only[FB,aQ]at h;subst h;have⟨l,e,hl⟩:=bP2 ks L2 (λk hk'=>hk k (by simp[hk'])) h2;refine⟨(k::L1)++l,?_,by simp;omega⟩;rw[iG,uG,hk k (by simp),F9,h1];simp[e]
def bP3{t:Tree}(hR:Right t):∀(r n:Nat)(ks:F6),ks.Nodup->(∀k∈ks,∃b∈t.Branches,b.Unit.ID=k/\∃d,Dp t d b/\13<=d+r)->r<=n->∃l,iG (uG t n) ks=some l/\l.length<=r*t.Branches.length
 |0,n,ks,_,h,_=>by
  cases ks with
  |nil=>exact⟨[],rfl,aF _⟩
  |cons k ks=>
   have⟨b,hb,_,d,hd,hle⟩:=h k (by simp);have⟨d',h1,h2⟩:=hR.depth b hb;have:=bq7 hR.gZ d d' b hd h2;omega
 |r+1,0,_,_,_,h=>by omega
 |r+1,n+1,ks,hn,h,hle=>by
  have hkd:∀k∈ks,qI t k=some ((qI t k).getD []):=λk hk=>by
   obtain⟨b,hb,rfl,_⟩:=h k hk;rw[cb9 hR hb];rfl
  have aq5:∀k∈ks,∃b∈t.Branches,b.Unit.ID=k/\(qI t k).getD []=b.Kids/\∃d,Dp t d b/\13<=d+(r+1):=λk hk=>by
   obtain⟨b,hb,rfl,hd⟩:=h k hk;exact⟨b,hb,rfl,by rw[cb9 hR hb];rfl,hd⟩
  have hnd:(ks.flatMap λk=>(qI t k).getD []).Nodup:=by
   rw[List.Nodup,List.pairwise_flatMap];refine⟨λk hk=>?_,?_⟩
   .obtain⟨b,hb,rfl,e,_⟩:=aq5 k hk;rw[e];exact cU0 hR hb
   .have:ks.Pairwise λa b=>a∈ks/\b∈ks/\a≠b:=by
     rw[qM];intro i j hi hj hij;exact⟨gK hi,gK hj,qM.1 hn i j hi hj hij⟩
    refine this.imp λ{a c} ⟨ha,hc,hne⟩ x hx y hy e=>?_;subst e;obtain⟨b,hb,rfl,e,_⟩:=aq5 a ha;obtain⟨b',hb',rfl,e',_⟩:=aq5 c hc;rw[e]at hx;rw[e']at hy;have⟨q,hq,hq1,hq2⟩:=aR5 hR hb hx;have⟨q',hq',hq1',cO1⟩:=aR5 hR hb' hy;obtain rfl:=ay8 hR.gZ hq hq' (hq1.trans hq1'.symm);exact hne (hq2.symm.trans cO1)
  have⟨L,hL,hLl⟩:=bP3 hR r n (ks.flatMap λk=>(qI t k).getD []) hnd (λx hx=>by
   have⟨k,hk,hx⟩:=List.mem_flatMap.1 hx;obtain⟨b,hb,rfl,e,d,hd,hle⟩:=aq5 k hk;rw[e]at hx;have⟨c,hc,hc1,hc2⟩:=aR5 hR hb hx;have:=hR.pos b hb
   exact⟨c,hc,hc1,d+1,.inr ⟨by omega,b,hb,hc2.symm,hd⟩,by omega⟩) (by omega)
  have⟨l,e,hl⟩:=bP2 ks L hkd hL;refine⟨l,e,?_⟩
  have:ks.length<=(t.Branches.map λb=>b.Unit.ID).length:=bI4 ks _ hn (λx hx=>by
   obtain⟨b,hb,rfl,_⟩:=h x hx
   exact List.mem_map_of_mem hb)
  rw[X0]at this;rw[mF,nI];omega
theorem dA0{t:Tree}(hR:Right t)(hr:QC t=some true){id:Int}(h0:id≠0)(hid:∃b∈t.Branches,b.Unit.ID=id):XI t id=some 0:=by
 have hl:=hR.len;have⟨k,ok,e,ha⟩:=b31 hR.gZ (by omega) id;have hok:=(ha.mem hR.gZ).2 hid;subst hok;have e1:bd8 t [id]=some 0:=by
  show Option.bind (QC t) (λy1=>bif (!y1)then some (1)else PZ t [id] 1000 0)=some 0;rw[hr];show PZ t [id] 1000 0=some 0;have e2:PZ t [id] 1000 0=Option.bind (XA t id) λy8=>bif (!y8.2)then some (7)else PZ t [id] 999 1:=rfl
  rw[e2,e];rfl
 unfold XI;rw[show(id==0)=false by simp[h0],G6,e1];rfl
def cA4{t:Tree}(hR:Right t)(hr:QC t=some true){id:Int}(h0:id≠0)(hid:∃b∈t.Branches,b.Unit.ID=id):Tot (YS t id) λl=>l.length<=4000:=by
 unfold YS;rw[show(id==0)=false by simp[h0],G6,dA0 hR hr h0 hid,F9];have⟨b,hb,he⟩:=hid;have⟨d,hd1,hd2⟩:=hR.depth b hb;have⟨l,e,hl⟩:=bP3 hR 13 1000 [id] (by simp) (λk hk=>by simp at hk;subst hk;exact⟨b,hb,he,d,hd2,by omega⟩) (by omega);rw[iG]at e;have⟨l1,e1,e⟩:=bW e;simp[iG]at e;subst e;have:=hR.len;rw[show((0:Int)==0)=true from rfl,H9,e1,F9,aI (by omega),H9];exact H8 (by omega)
def Has(t:Tree)(u:Int)(m:Str):Prop:=m≠[]/\(u,m)∈um t.Branches
def uT(l:List (Int×Str)):Prop:=l.Pairwise λa b=>b.2≠[]->a.2≠b.2
def jX(o:Opn):Prop:=(o.Kind=1\/o.Kind=4)/\o.Mark≠[]
structure ER(n:Nat)(t:Tree)(o:Opn)(t':Tree):Prop where
 sm:Sm (n+2) t'
 old:∀u m,Has t' u m->Has t u m\/(jX o/\u=o.Unit/\m=o.Mark)
 new:jX o->Has t' o.Unit o.Mark
 mkd:uT (um t'.Branches)
def Right.UJ{t:Tree}(h:Right t):uT (um t.Branches):=by
 unfold uT um;rw[List.pairwise_map];exact h.mks
def bl1{n:Nat}{t t':Tree}{o:Opn}(hsm:Sm (n+2) t')(hu:um t'.Branches=um t.Branches)(hR:Right t)(hg:¬jX o):ER n t o t':=
 ⟨hsm,λu m h=>.inl (by unfold Has at*;rwa [hu]at h),λh=>absurd h hg,by rw[hu];exact hR.UJ⟩
def bO3{t:Tree}(hR:Right t)(p:Int):Tot (bif p==0 then some true else(kW t.Branches p).bind λq=>some q.2) λpar=>par=true->p=0\/∃b∈t.Branches,b.Unit.ID=p:=by
 refine L8 (λh=>H8 λ_=>.inl (by simpa using h)) λ_=>?_;have hl:=hR.len;obtain⟨k,ok,e,ha⟩:=SX hR.gZ (by omega) p;rw[e,F9];exact H8 λh=>.inr ((ha.mem hR.gZ).1 h)
def bC1{n:Nat}{t:Tree}(hn:n<=880)(hs:Sm n t)(hR:Right t){p:Int}(hp:p=0\/∃b∈t.Branches,b.Unit.ID=p)(v:Int):Tot ((wQ t p).bind λq=>vX (eList t q) v) λ_=>True:=by
 have hl:=hR.len;refine X4 (aI3 hR.gZ (by omega) hp) λq _ _=>?_;have:=aI2 hs q;rw[ba0 (by omega)];exact H8 trivial
def cZ0{l:List (Int×Str)}(h:uT l){p:Int×Str}(hp:p.2≠[]->∀q∈l,q.2≠p.2)(k:Nat):uT (l.take k++[p]++l.drop k):=by
 unfold uT at*
 have h':(l.take k++l.drop k).Pairwise λa b=>b.2≠[]->a.2≠b.2:=by rw[List.take_append_drop];exact h
 rw[List.pairwise_append]at h';rw[lC,List.pairwise_append];refine⟨h'.1,?_,λa ha b hb=>?_⟩
 .grind
 .grind
def dt2{bs:X8}(h:pI bs){id:Int}{k:Nat}{ok:Bool}(ha:At' bs id k ok)(hok:ok=false){b:Branch}(hb:b.Unit.ID=id):pI (bs.take k++[b]++bs.drop k):=by
 have h':pI (bs.take k++bs.drop k):=by rw[List.take_append_drop];exact h
 have hgt:∀c∈bs.drop k,id<c.Unit.ID:=λc hc=>by
  obtain⟨j,hj,rfl⟩:=eX hc;rw[nH]at hj;rw[List.getElem_drop];have h1:=ha.lt (k+j) (by omega);have hne:bs[k+j].Unit.ID≠id:=λe=>by
   have:=(ha.mem h).2 ⟨_,gK (by omega),e⟩;rw[hok]at this;cases this
  omega
 have hlt:∀c∈bs.take k,c.Unit.ID<id:=λc hc=>by
  obtain⟨j,hj,rfl⟩:=eX hc;rw[Y1]at hj;rw[List.getElem_take];exact(ha.lt j (by omega)).2 (by omega)
 unfold pI at*
 rw[List.pairwise_append]at h';rw[lC,List.pairwise_append]
 grind
def cz0{n:Nat}{t:Tree}{o:Opn}(hn:n<=880)(hs:Sm n t)(hR:Right t)(hk:o.Kind=1):Tot (YT t o) λr=>r.2=0->ER n t o r.1:=by
 have hl:=hR.len;obtain⟨k,ok,e,ha⟩:=SX hR.gZ (by omega) o.Unit;unfold YT;rw[e,F9];refine L8 (λ_=>H8 (nz (by decide))) λhok=>?_;have hok:ok=false:=hok;refine X4 (bO3 hR o.Parent) λpar _ hpar=>L8 (λ_=>H8 (nz (by decide))) λh=>?_;have hp:=hpar (by simpa using h);refine X4 (br3 hR.gZ (by omega) _ hp) λs _ _=>L8 (λh=>H8 (nz (UL h))) λ_=>?_;refine X4 (Q:=λ_=>True) (L8 (λ_=>H8 trivial) λ_=>bC1 hn hs hR hp _) λhas _ _=>L8 (λ_=>H8 (nz (by decide))) λ_=>?_;refine X4 (br5 (by omega) _ _) λu _ hu=>L8 (λ_=>H8 (nz (by decide))) λhu0=>?_;have hu:=hu hu0;refine L8 (λ_=>H8 (nz (by decide))) λh256=>?_;have hkl:=ha.le;have vM:um (t.Branches.take k++[(⟨⟨o.Unit,o.Parent,o.Level,o.Title,o.Mark⟩,[]⟩:Branch)]++t.Branches.drop k)=(um t.Branches).take k++[(o.Unit,o.Mark)]++(um t.Branches).drop k:=by
  simp[um,List.map_take,List.map_drop]
 have hsm:Sm (n+1) ({ t with Branches:=t.Branches.take k++[(⟨⟨o.Unit,o.Parent,o.Level,o.Title,o.Mark⟩,[]⟩:Branch)]++t.Branches.drop k }:Tree):=by
  refine⟨Nat.le_succ_of_le hs.r,?_,λb hb=>?_⟩
  .have:=hs.b
   grind
  .simp only[iY,xZ]at hb;rcases hb with(hb|rfl)|hb
   .exact Nat.le_succ_of_le (hs.k b (EY hb))
   .exact aF _
   .exact Nat.le_succ_of_le (hs.k b (KP hb))
 have hp':o.Parent=0\/∃b∈t.Branches.take k++[(⟨⟨o.Unit,o.Parent,o.Level,o.Title,o.Mark⟩,[]⟩:Branch)]++t.Branches.drop k,b.Unit.ID=o.Parent:=by
  refine hp.imp id λ⟨b,hb,he⟩=>⟨b,?_,he⟩;rw[<-List.take_append_drop k t.Branches,iY]at hb
  grind
 refine X4 (br0 hsm (by omega) (dt2 hR.gZ ha hok rfl) hp') λt3 _ ⟨h1,h2⟩=>X4 (bq9 (h1.mono (by omega))) λz _ _=>H8 λ_=>?_;have h2:um t3.Branches=(um t.Branches).take k++[(o.Unit,o.Mark)]++(um t.Branches).drop k:=h2.trans vM;have hfresh:o.Mark≠[]->∀q∈um t.Branches,q.2≠o.Mark:=λhm q hq he=>by
  obtain⟨b,hb,rfl⟩:=jH.1 hq;rcases hu hm with h|⟨c,hc,_,hc2⟩
  .exact h b hb he
  .have:=hR.pos c hc;omega
 refine⟨h1,λu m ⟨hm,h⟩=>?_,λ⟨_,hm⟩=>⟨hm,by rw[h2];simp⟩,by rw[h2];exact cZ0 hR.UJ hfresh k⟩;rw[h2]at h;simp only[iY,xZ]at h;rcases h with(h|h)|h
 .exact .inl ⟨hm,EY h⟩
 .cases h;exact .inr ⟨⟨.inl hk,hm⟩,rfl,rfl⟩
 .exact .inl ⟨hm,KP h⟩
def al4{t:Tree}(hR:Right t)(id:Int):∃k ok,kW t.Branches id=some (k,ok)/\(ok=true->(∃b∈t.Branches,b.Unit.ID=id)/\∃b,t.Branches[k]?=some b/\b.Unit.ID=id):=by
 have hl:=hR.len;obtain⟨k,ok,e,ha⟩:=SX hR.gZ (by omega) id;refine⟨k,ok,e,λh=>⟨(ha.mem hR.gZ).1 h,?_⟩⟩;obtain⟨hk,hid⟩:=ha.ok.1 h;exact⟨_,J9 hk,hid⟩
def bb8{n:Nat}{t:Tree}(hs:Sm n t){k:Nat}{b:Branch}(hb:t.Branches[k]?=some b)(u:XR):Sm n { t with Branches:=t.Branches.set k { b with Unit:=u } }:=by
 refine⟨hs.r,by simpa using hs.b,λx hx=>?_⟩;rcases aS8 hx with hx|rfl
 .exact hs.k x hx
 .exact hs.k b (iZ hb)
def OG{o:Opn}(h1:o.Kind≠1)(h4:o.Kind≠4):¬jX o:=λ⟨h,_⟩=>h.elim h1 h4
def df5{n:Nat}{t:Tree}{o:Opn}(hs:Sm n t)(hR:Right t)(hk:o.Kind=3):Tot (YX t o) λr=>r.2=0->ER n t o r.1:=by
 obtain⟨k,ok,e,ha⟩:=al4 hR o.Unit;unfold YX;rw[e,F9];refine L8 (λ_=>H8 (nz (by decide))) λhok=>?_;obtain⟨_,b,hb,hid⟩:=ha (by simpa using hok);simp only[hb,F9];exact H8 λ_=>bl1 ((bb8 hs hb _).mono (by omega)) (bf1 hb rfl rfl) hR (OG (by omega) (by omega))
def cY6{n:Nat}{t:Tree}{o:Opn}(hs:Sm n t)(hR:Right t)(hk:o.Kind=4):Tot (YU t o) λr=>r.2=0->ER n t o r.1:=by
 have hl:=hR.len;obtain⟨k,ok,e,ha⟩:=al4 hR o.Unit;unfold YU;rw[e,F9];refine L8 (λ_=>H8 (nz (by decide))) λhok=>?_;obtain⟨_,b,hb,hid⟩:=ha (by simpa using hok);refine X4 (br5 (by omega) _ _) λu _ hu=>L8 (λ_=>H8 (nz (by decide))) λhu0=>?_;have hu:=hu hu0;simp only[hb,F9];have hkl:=(P7.1 hb).1;have vM:um (t.Branches.set k { b with Unit:={ b.Unit with Mark:=o.Mark } })=(um t.Branches).set k (o.Unit,o.Mark):=by
  unfold um;rw[List.map_set];simp only[hid]
 have hget:(um t.Branches)[k]?=some (b.Unit.ID,b.Unit.Mark):=by unfold um;rw[P9,hb];rfl
 refine H8 λ_=>⟨(bb8 hs hb _).mono (by omega),λu m ⟨hm,h⟩=>?_,λ⟨_,hm⟩=>⟨hm,?_⟩,?_⟩
 .rw[vM]at h;rcases aS8 h with h|h
  .exact .inl ⟨hm,h⟩
  .cases h;exact .inr ⟨⟨.inr hk,hm⟩,rfl,rfl⟩
 .rw[vM];exact List.mem_set (by rw[JX];exact hkl) _
 .rw[vM];have hother:o.Mark≠[]->∀j(hj:j<(um t.Branches).length),j≠k->(um t.Branches)[j].2≠o.Mark:=λhm j hj hjk he=>by
   have hj':j<t.Branches.length:=by rw[JX]at hj;exact hj
   have hje:t.Branches[j].Unit.Mark=o.Mark:=by simpa[um]using he
   rcases hu hm with h|⟨c,hc,hc1,hc2⟩
   .exact h _ (gK hj') hje
   .have hcb:c=b:=ay8 hR.gZ hc (iZ hb) (hc2.trans hid.symm);subst hcb;have hck:c=t.Branches[k]:=(P7.1 hb).2.symm;have hm':=qM.1 hR.mks
    grind
  unfold uT;rw[qM];intro i j hi hj hij;rw[List.length_set]at hi hj;rw[List.getElem_set,List.getElem_set];have base:=qM.1 hR.UJ i j hi hj hij;by_cases h1:k=i<;>by_cases h2:k=j
  .omega
  .grind
  .grind
  .rw[H7 h1,H7 h2];exact base
def de9{n:Nat}{t:Tree}{o:Opn}(hn:n<=880)(hs:Sm n t)(hR:Right t)(hk:o.Kind=5):Tot (YW t o) λr=>r.2=0->ER n t o r.1:=by
 obtain⟨k,ok,e,ha⟩:=al4 hR o.Unit;unfold YW;rw[e,F9];refine L8 (λ_=>H8 (nz (by decide))) λhok=>?_;obtain⟨hm,b,hb,hid⟩:=ha (by simpa using hok);simp only[hb,F9];refine L8 (λ_=>H8 (nz (by decide))) λ_=>?_;refine X4 (br4 hs (by omega) hR hm) λt2 _ ⟨h1,h2⟩=>?_;have hkl:=(P7.1 hb).1;have hlen:t2.Branches.length=t.Branches.length:=by rw[<-JX,h2,JX]
 have hle:=h1.b;rw[aI ⟨by omega,by omega⟩,H9];have vM:um (t2.Branches.take k++t2.Branches.drop (k+1))=(um t.Branches).take k++(um t.Branches).drop (k+1):=by
  rw[<-h2];simp[um,List.map_take,List.map_drop]
 have hsub:((um t.Branches).take k++(um t.Branches).drop (k+1)).Sublist (um t.Branches):=by
  have:=List.Sublist.append (List.Sublist.refl ((um t.Branches).take k)) (List.drop_sublist_drop_left (um t.Branches) (Nat.le_succ k))
  rwa [List.take_append_drop]at this
 refine H8 λ_=>⟨⟨Y2 h1.r (by omega),?_,λx hx=>?_⟩,λu m ⟨hm,h⟩=>.inl ⟨hm,?_⟩,λh=>absurd h (OG (by omega) (by omega)),?_⟩
 .grind
 .rcases iY.1 hx with hx|hx
  .exact Y2 (h1.k x (EY hx)) (by omega)
  .exact Y2 (h1.k x (KP hx)) (by omega)
 .rw[vM]at h;exact hsub.subset h
 .show uT (um _);rw[vM];exact hR.UJ.sublist hsub
def cZ7{n:Nat}{t:Tree}{o:Opn}(hn:n<=880)(hs:Sm n t)(hR:Right t)(hr:QC t=some true)(hk:o.Kind=2):Tot (YV t o) λr=>r.2=0->ER n t o r.1:=by
 have hl:=hR.len;obtain⟨k,ok,e,ha⟩:=al4 hR o.Unit;unfold YV;rw[e,F9];refine L8 (λ_=>H8 (nz (by decide))) λhok=>?_;obtain⟨hm,b,hb,hid⟩:=ha (by simpa using hok);have hu0:o.Unit≠0:=by have:=hR.pos b (iZ hb);omega
 refine X4 (bO3 hR o.Parent) λpar _ hpar=>L8 (λ_=>H8 (nz (by decide))) λh=>?_;have hp:=hpar (by simpa using h);refine X4 (cA4 hR hr hu0 hm) λl _ hll=>?_;rw[ba0 (by omega),F9];refine L8 (λ_=>H8 (nz (by decide))) λ_=>?_;simp only[hb,F9];refine X4 (br3 hR.gZ (by omega) _ hp) λs _ _=>L8 (λh=>H8 (nz (UL h))) λ_=>?_;refine X4 (Q:=λ_=>True) (L8 (λ_=>H8 trivial) λ_=>L8 (λ_=>H8 trivial) λ_=>bC1 hn hs hR hp _) λhas _ _=>L8 (λ_=>H8 (nz (by decide))) λ_=>?_;refine X4 (br4 hs (by omega) hR hm) λt2 _ ⟨h1,h2⟩=>?_;have hkl:=(P7.1 hb).1;have hlen:t2.Branches.length=t.Branches.length:=by rw[<-JX,h2,JX]
 obtain⟨b2,hb2⟩:∃b2,t2.Branches[k]?=some b2:=⟨_,J9 (by omega)⟩;simp only[hb2,F9];have vM:um (t2.Branches.set k { b2 with Unit:={ b2.Unit with Parent:=o.Parent } })=um t.Branches:=Eq.trans (bf1 (b:=b2) (b':={ b2 with Unit:={ b2.Unit with Parent:=o.Parent } }) hb2 rfl rfl) h2;refine X4 (br0 (bb8 h1 hb2 _) (by omega) (dt3 vM.symm hR.gZ) (hp.imp id (cQ0 vM.symm))) λt3 _ ⟨h3,h4⟩=>X4 (bq9 (h3.mono (by omega))) λz _ _=>H8 λ_=>?_;exact bl1 (h3.mono (by omega)) (h4.trans vM) hR (OG (by omega) (by omega))
def dg7(o:Origin):Tot (aw8 o) λ_=>True:=by
 unfold aw8;rw[ag5];refine L8 (λ_=>?_) λ_=>H8 trivial;rw[ag5];refine L8 (λ_=>?_) λ_=>L8 (λ_=>H8 trivial) λ_=>H8 trivial;rw[ag5];exact L8 (λ_=>H8 trivial) λ_=>L8 (λ_=>H8 trivial) λ_=>H8 trivial
def bT5(o:Opn):Tot (JE o) λ_=>True:=by
 unfold JE af7;simp only[ag5,F9]
 repeat' first
  |exact H8 trivial
  |(refine L8 (λ_=>?_) (λ_=>?_))
  |(refine X4 (dg3 _) λ_ _ _=>?_)
  |(refine X4 (dg2 _) λ_ _ _=>?_)
  |(refine X4 (dg7 _) λ_ _ _=>?_)
def du2{t:Tree}(h:Sm 900 t):Sz t=true:=by
 unfold Sz;have h1:=h.r;have h2:=h.b;rw[aI (by omega),aI (by omega),rX,rX,oW];intro b hb;have:=h.k b hb;simp;omega
def bl8{n:Nat}{t:Tree}(o:Opn)(hn:n<=880)(hs:Sm n t):Tot (rH t o) λr=>r.2=0->ER n t o r.1:=by
 unfold rH;refine L8 (λhk=>?_) λ_=>H8 (nz (by decide));have hk:=iR hk;refine X4 (bT5 o) λfo _ _=>L8 (λ_=>H8 (nz (by decide))) λ_=>?_;have hs9:Sm 900 t:=hs.mono (by omega);refine X4 (Q:=λb=>b=true->QC t=some true/\Right t) ?_ λri _ hri=>L8 (λ_=>H8 (nz (by decide))) λh=>?_
 .obtain⟨r,e,hr⟩:=b09 hs9;refine⟨r.2==0,?_,λh=>⟨?_,hr (by simpa using h)⟩⟩
  .show(JM t).bind _=_;rw[e];rfl
  .show(JM t).bind _=_;rw[e,F9,h]
 obtain⟨hrt,hR⟩:=hri (by simpa using h);rw[du2 hs9,H9];refine X4 (Q:=λr=>r.2=0->ER n t o r.1) ?_ λr _ hr=>L8 (λh=>H8 hr) λh=>H8 (nz (nU h));refine L8 (λh=>cz0 hn hs hR (by simpa using h)) λh1=>L8 (λh=>cZ7 hn hs hR hrt (by simpa using h)) λh2=>L8 (λh=>df5 hs hR (by simpa using h)) λh3=>L8 (λh=>cY6 hs hR (by simpa using h)) λh4=>de9 hn hs hR ?_
 grind
end
section
open Go Go.F7 Go.RowKit Proofs.Tryz
def dp9:Go.Shelf.Ren:=⟨λ|6=>61|14=>112|15=>93|20=>193|21=>194|22=>195|23=>196|24=>197|25=>198|26=>199|27=>200|28=>160|29=>161|46=>279|47=>242|48=>243|49=>280|50=>281|57=>374|n=>n,λ|0=>0|3=>3|4=>4|5=>5|9=>9|22=>75|24=>134|25=>139|39=>108|45=>237|46=>238|50=>53|53=>174|55=>177|66=>322|70=>326|76=>387|77=>388|n=>n,λ|n=>n⟩
def bZ2:Go.Proofs.SlLaysF0.n6 prog dp9:={
 mixed:=mixed
 f6:=⟨ "slices.SortFunc[[]archivum/api.Came,archivum/api.Came]",by decide,func61.trans (congrArg some (by kernel_rfl))⟩
 f14:=⟨ "slices.pdqsortCmpFunc[archivum/api.Came]",by decide,func112.trans (congrArg some (by kernel_rfl))⟩
 f15:=func93.trans (congrArg some (by kernel_rfl))
 f20:=⟨ "slices.insertionSortCmpFunc[archivum/api.Came]",by decide,func193.trans (congrArg some (by kernel_rfl))⟩
 f21:=⟨ "slices.heapSortCmpFunc[archivum/api.Came]",by decide,func194.trans (congrArg some (by kernel_rfl))⟩
 f22:=⟨ "slices.breakPatternsCmpFunc[archivum/api.Came]",by decide,func195.trans (congrArg some (by kernel_rfl))⟩
 f23:=⟨ "slices.choosePivotCmpFunc[archivum/api.Came]",by decide,func196.trans (congrArg some (by kernel_rfl))⟩
 f24:=⟨ "slices.reverseRangeCmpFunc[archivum/api.Came]",by decide,func197.trans (congrArg some (by kernel_rfl))⟩
 f25:=⟨ "slices.partialInsertionSortCmpFunc[archivum/api.Came]",by decide,func198.trans (congrArg some (by kernel_rfl))⟩
 f26:=⟨ "slices.partitionEqualCmpFunc[archivum/api.Came]",by decide,func199.trans (congrArg some (by kernel_rfl))⟩
 f27:=⟨ "slices.partitionCmpFunc[archivum/api.Came]",by decide,func200.trans (congrArg some (by kernel_rfl))⟩
 f28:=func160.trans (congrArg some (by kernel_rfl))
 f29:=func161.trans (congrArg some (by kernel_rfl))
 f46:=⟨ "slices.siftDownCmpFunc[archivum/api.Came]",by decide,func279.trans (congrArg some (by kernel_rfl))⟩
 f47:=func242.trans (congrArg some (by kernel_rfl))
 f48:=func243.trans (congrArg some (by kernel_rfl))
 f49:=⟨ "slices.medianAdjacentCmpFunc[archivum/api.Came]",by decide,func280.trans (congrArg some (by kernel_rfl))⟩
 f50:=⟨ "slices.medianCmpFunc[archivum/api.Came]",by decide,func281.trans (congrArg some (by kernel_rfl))⟩
 f57:=⟨ "slices.order2CmpFunc[archivum/api.Came]",by decide,func374.trans (congrArg some (by kernel_rfl))⟩
 t0:=underlying0
 a0:=isAgg0
 z0:=sizeOf0
 v0:=zeroValue0
 t3:=underlying3
 a3:=isAgg3
 z3:=sizeOf3
 v3:=zeroValue3
 t4:=underlying4
 a4:=isAgg4
 z4:=sizeOf4
 v4:=zeroValue4
 t5:=underlying5
 a5:=isAgg5
 z5:=sizeOf5
 v5:=zeroValue5
 t9:=underlying9
 a9:=isAgg9
 z9:=sizeOf9
 v9:=zeroValue9
 t22:=underlying75
 a22:=isAgg75
 z22:=sizeOf75
 v22:=zeroValue75
 t25:=underlying139
 a25:=isAgg139
 z25:=sizeOf139
 v25:=zeroValue139
 t39:=underlying108
 a39:=isAgg108
 z39:=sizeOf108
 v39:=zeroValue108
 t45:=underlying237
 a45:=isAgg237
 z45:=sizeOf237
 v45:=zeroValue237
 t46:=underlying238
 a46:=isAgg238
 z46:=sizeOf238
 v46:=zeroValue238
 t50:=underlying53
 a50:=isAgg53
 z50:=sizeOf53
 v50:=zeroValue53
 t53:=underlying174
 a53:=isAgg174
 z53:=sizeOf174
 v53:=zeroValue174
 t55:=underlying177
 a55:=isAgg177
 z55:=sizeOf177
 v55:=zeroValue177
 t66:=underlying322
 a66:=isAgg322
 z66:=sizeOf322
 v66:=zeroValue322
 t70:=underlying326
 a70:=isAgg326
 z70:=sizeOf326
 v70:=zeroValue326
 t76:=underlying387
 a76:=isAgg387
 z76:=sizeOf387
 v76:=zeroValue387
 t77:=underlying388
 a77:=isAgg388
 z77:=sizeOf388
 v77:=zeroValue388 }
def dq0:Go.Shelf.Ren:=⟨λ|6=>43|14=>92|15=>93|20=>152|21=>153|22=>154|23=>155|24=>156|25=>157|26=>158|27=>159|28=>160|29=>161|46=>241|47=>242|48=>243|49=>244|50=>245|57=>315|n=>n,λ|0=>0|3=>3|4=>4|5=>5|9=>9|22=>54|24=>58|25=>107|39=>108|45=>237|46=>238|50=>53|53=>174|55=>177|66=>322|70=>326|76=>387|77=>388|n=>n,λ|n=>n⟩
def bZ3:Go.Proofs.SlLaysF0.n6 prog dq0:={
 mixed:=mixed
 f6:=⟨ "slices.SortFunc[[]archivum/api.Marking,archivum/api.Marking]",by decide,func43.trans (congrArg some (by kernel_rfl))⟩
 f14:=⟨ "slices.pdqsortCmpFunc[archivum/api.Marking]",by decide,func92.trans (congrArg some (by kernel_rfl))⟩
 f15:=func93.trans (congrArg some (by kernel_rfl))
 f20:=⟨ "slices.insertionSortCmpFunc[archivum/api.Marking]",by decide,func152.trans (congrArg some (by kernel_rfl))⟩
 f21:=⟨ "slices.heapSortCmpFunc[archivum/api.Marking]",by decide,func153.trans (congrArg some (by kernel_rfl))⟩
 f22:=⟨ "slices.breakPatternsCmpFunc[archivum/api.Marking]",by decide,func154.trans (congrArg some (by kernel_rfl))⟩
 f23:=⟨ "slices.choosePivotCmpFunc[archivum/api.Marking]",by decide,func155.trans (congrArg some (by kernel_rfl))⟩
 f24:=⟨ "slices.reverseRangeCmpFunc[archivum/api.Marking]",by decide,func156.trans (congrArg some (by kernel_rfl))⟩
 f25:=⟨ "slices.partialInsertionSortCmpFunc[archivum/api.Marking]",by decide,func157.trans (congrArg some (by kernel_rfl))⟩
 f26:=⟨ "slices.partitionEqualCmpFunc[archivum/api.Marking]",by decide,func158.trans (congrArg some (by kernel_rfl))⟩
 f27:=⟨ "slices.partitionCmpFunc[archivum/api.Marking]",by decide,func159.trans (congrArg some (by kernel_rfl))⟩
 f28:=func160.trans (congrArg some (by kernel_rfl))
 f29:=func161.trans (congrArg some (by kernel_rfl))
 f46:=⟨ "slices.siftDownCmpFunc[archivum/api.Marking]",by decide,func241.trans (congrArg some (by kernel_rfl))⟩
 f47:=func242.trans (congrArg some (by kernel_rfl))
 f48:=func243.trans (congrArg some (by kernel_rfl))
 f49:=⟨ "slices.medianAdjacentCmpFunc[archivum/api.Marking]",by decide,func244.trans (congrArg some (by kernel_rfl))⟩
 f50:=⟨ "slices.medianCmpFunc[archivum/api.Marking]",by decide,func245.trans (congrArg some (by kernel_rfl))⟩
 f57:=⟨ "slices.order2CmpFunc[archivum/api.Marking]",by decide,func315.trans (congrArg some (by kernel_rfl))⟩
 t0:=underlying0
 a0:=isAgg0
 z0:=sizeOf0
 v0:=zeroValue0
 t3:=underlying3
 a3:=isAgg3
 z3:=sizeOf3
 v3:=zeroValue3
 t4:=underlying4
 a4:=isAgg4
 z4:=sizeOf4
 v4:=zeroValue4
 t5:=underlying5
 a5:=isAgg5
 z5:=sizeOf5
 v5:=zeroValue5
 t9:=underlying9
 a9:=isAgg9
 z9:=sizeOf9
 v9:=zeroValue9
 t22:=underlying54
 a22:=isAgg54
 z22:=sizeOf54
 v22:=zeroValue54
 t25:=underlying107
 a25:=isAgg107
 z25:=sizeOf107
 v25:=zeroValue107
 t39:=underlying108
 a39:=isAgg108
 z39:=sizeOf108
 v39:=zeroValue108
 t45:=underlying237
 a45:=isAgg237
 z45:=sizeOf237
 v45:=zeroValue237
 t46:=underlying238
 a46:=isAgg238
 z46:=sizeOf238
 v46:=zeroValue238
 t50:=underlying53
 a50:=isAgg53
 z50:=sizeOf53
 v50:=zeroValue53
 t53:=underlying174
 a53:=isAgg174
 z53:=sizeOf174
 v53:=zeroValue174
 t55:=underlying177
 a55:=isAgg177
 z55:=sizeOf177
 v55:=zeroValue177
 t66:=underlying322
 a66:=isAgg322
 z66:=sizeOf322
 v66:=zeroValue322
 t70:=underlying326
 a70:=isAgg326
 z70:=sizeOf326
 v70:=zeroValue326
 t76:=underlying387
 a76:=isAgg387
 z76:=sizeOf387
 v76:=zeroValue387
 t77:=underlying388
 a77:=isAgg388
 z77:=sizeOf388
 v77:=zeroValue388 }
end
section
open Go Go.F7 Go.RowKit Go.Sort Go.Ev Proofs.Tryz
set_option maxRecDepth 100000
set_option maxHeartbeats 2000000
instance:Inhabited Came:=⟨⟨0,⟨0,0,0⟩⟩⟩
instance:Inhabited Marking:=⟨⟨[],0⟩⟩
def vG(c:Came):H6:=[.int .i64 c.Unit,.int .i64 c.Origin.bQ,.int .i64 c.Origin.X3,.int .i64 c.Origin.Number]
def oH(m:Marking):H6:=[.string ⟨⟨m.Mark⟩⟩,.int .i64 m.Unit]
def aK6{α:Type}{enc:α->H6}{k:Nat}(hk:∀x,(enc x).length=k):∀(l:List α),(l.flatMap enc).length=l.length*k
 |[]=>by simp
 |x::r=>by rw[KO,cO,aK6 hk r,hk,sD,mF,nI,Nat.add_comm]
section
variable{α:Type}[Inhabited α]{enc:α->H6}{k:Nat}
theorem flat_get(hk:∀x,(enc x).length=k)(h0:0<k):∀(l:List α)(t:Nat),t<l.length*k->(l.flatMap enc)[t]?=(enc l[t/k]!)[t % k]?
 |[],t,h=>by simp at h
 |x::r,t,h=>by
  rw[KO];by_cases ht:t<k
  .rw[dX (by rw[hk];exact ht),Nat.div_eq_of_lt ht,Nat.mod_eq_of_lt ht];rfl
  .have h':t-k<r.length*k:=by rw[sD,mF,nI]at h;omega
   have e1:t/k=(t-k)/k+1:=Nat.div_eq_sub_div h0 (by omega);have e2:t % k=(t-k) % k:=Nat.mod_eq_sub_mod (by omega);rw[dN (by rw[hk];omega),hk,flat_get hk h0 r (t-k) h',e1,e2];rfl
def bu3(hk:∀x,(enc x).length=k)(h0:0<k)(l:List α):(flatK enc k l.toArray).toList=l.flatMap enc:=by
 apply nZ;intro t;by_cases ht:t<l.length*k
 .rw[flat_get hk h0 l t ht,kM];have hs:t<(flatK enc k l.toArray).size:=by rw[size_flatK];simpa using ht
  have hm:t % k<(enc l[t/k]!).length:=by rw[hk];exact Nat.mod_lt _ h0
  rw[lY hs,<-getElem!_pos (flatK enc k l.toArray) t hs,get_flatK enc k l.toArray t (by simpa using ht),J9 hm]
  grind
 .rw[uQ (l:=(flatK enc k l.toArray).toList) (by simp;omega),uQ (l:=l.flatMap enc) (by rw[aK6 hk];omega)]
theorem bZ4{f el:Nat}{fv:Value}(hk:∀x,(enc x).length=k)(h0:0<k)(h1:∀x,∀v∈enc x,v.oneCell'=true)(R:List α->List α->Prop)(hR:R [] [])
 (hnone:∀(p:qP)(cap:Nat)(W:World),Calls prog f #[.slice p 0 cap,fv] W λe w'=>e=.returned (.tuple #[])/\w'=W)
 (hsort:∀(b cap:Nat)(l:List α)(W:World),HoldsK enc k W b 0 l.toArray->b<W.heap.size->l.length<4611686018427387904->Calls prog f #[.slice (some ⟨b,0,none⟩) l.length cap,fv] W λe w'=>e=.returned (.tuple #[])/\∃(l':List α) (n:Nat) (os:Array Obj),l'.length=l.length/\R l l'/\w'=sortWorldK enc k W b 0 n l'.toArray os)
 {W:World} {v:Value} {l:List α} {ob:E8} (hO:P8 W el k v l.length (l.flatMap enc) ob) (hl:l.length<=4000):
 Calls prog f #[v,fv] W λe w'=>e=.returned (.tuple #[])/\∃l':List α,R l l'/\l'.length=l.length/\P8 w' el k v l.length (l'.flatMap enc) ob/\Fr (λb=>ob=some b) W w':=by
 have hfk:=bu3 hk h0 l;generalize hC:l.flatMap enc=C at hO;generalize hn:l.length=n at hO⊢;cases hO with
 |e a=>
  obtain rfl:l=[]:=mD hn;refine(hnone a 0 W).mono ?_;rintro e w' ⟨rfl,rfl⟩;exact⟨rfl,[],hR,rfl,by simpa using P8.e a,Fr.refl _ _⟩
 |b b c n arr hh hs hnc hm hone=>
  subst hn;have hH:HoldsK enc k W b 0 l.toArray:=by
   intro j hj;have hj':j<l.length*k:=by simpa[size_flatK]using hj
   have e1:arr[j]?=(flatK enc k l.toArray)[j]?:=by
    rw[<-kM,<-kM,hfk,hC,kN,I9 hj']
   rw[lY hj,<-getElem!_pos (flatK enc k l.toArray) j hj]at e1;rw[X9];exact Q5 hh e1
  refine(hsort b c l W hH (X6.1 hh).1 (by omega)).mono ?_;rintro e w' ⟨rfl,l',m,os,hlen,hR',rfl⟩;have hh':(sortWorldK enc k W b 0 m l'.toArray os).heap[b]?=some (.cells (putCells id 0 (flatK enc k l'.toArray) arr) el (0,0)):=by
   have h2:(putRowK enc k (Go.Sort.ahead W m) b 0 l'.toArray).heap[b]?=some (.cells (putCells id 0 (flatK enc k l'.toArray) arr) el (0,0)):=by
    show(mapBlock (Go.Sort.ahead W m) b (putCells id 0 (flatK enc k l'.toArray))).heap[b]?=_;have:(Go.Sort.ahead W m).heap[b]?=some (.cells arr el (0,0)):=hh;simp only[mapBlock,zM,this,if_true,FB,onCells]
   have hb2:b<(putRowK enc k (Go.Sort.ahead W m) b 0 l'.toArray).heap.size:=(X6.1 h2).1;exact(QX hb2).trans h2
  have hFs:(flatK enc k l'.toArray).size=l.length*k:=by rw[size_flatK,oZ,hlen]
  have hle:l.length*k<=c*k:=iJ k hnc;have hF':=bu3 hk h0 l';refine⟨rfl,l',hR',hlen,vP hh' (by simp[putCells,hs]) hnc hm (λu hu=>?_) ?_,⟨rfl,rfl,rfl,?_,λq hq hnq=>?_⟩⟩
  .grind
  .rw[<-hF'];apply nZ;intro i;rw[kN];by_cases hi:i<l.length*k
   .rw[I9 hi,kM,kM];simp only[putCells,Array.getElem?_mapIdx,X9,aF,true_and,Nat.sub_zero]
    grind
   .grind
  .show W.heap.size<=((putRowK enc k (Go.Sort.ahead W m) b 0 l'.toArray).heap++os).size;rw[Array.size_append];have:(putRowK enc k (Go.Sort.ahead W m) b 0 l'.toArray).heap.size=W.heap.size:=by show(mapBlock _ _ _).heap.size=_;simp[mapBlock]
   omega
  .have hq2:q<(putRowK enc k (Go.Sort.ahead W m) b 0 l'.toArray).heap.size:=by
    have:(putRowK enc k (Go.Sort.ahead W m) b 0 l'.toArray).heap.size=W.heap.size:=by show(mapBlock _ _ _).heap.size=_;simp[mapBlock]
    omega
   refine(QX hq2).trans ?_;show(mapBlock (Go.Sort.ahead W m) b _).heap[q]?=_;simp only[mapBlock,zM];rw[H7 (λe=>hnq (by rw[e]))];rfl
end
section
variable{α:Type}[Inhabited α]{enc:α->H6}{cf:α->G9}{k:Nat}
def aZ3{Z:Zone}{w:World}{obj:J8}{E:Q8}{x u:Value}(h:Z5 Z w obj E (.v x) u):u=x:=by
 cases h with
 |one h=>cases h with|cl h=>exact nC h
def cr6(hk:∀x,(enc x).length=k)(h0:0<k)(hcf:∀x,cf x=(enc x).map CV.v){Z:Zone}{w:World}{obj:J8}{E:Q8}{l:List α}{xs:H6}(hl:xs.length=l.length*k)
    (h:∀(i:Nat)(d:G9),i<(l.map cf).length->aO (l.map cf) none i=some d->∀(j:Nat)(c:CV),d[j]?=some c->c.atom=true/\∃u,xs[i*k+j]?=some u/\Z5 Z w obj E c u):xs=l.flatMap enc:=by
 apply nZ;intro t;by_cases ht:t<l.length*k
 .have hq:t/k<l.length:=Nat.div_lt_of_lt_mul (by rw[Nat.mul_comm];exact ht);have hm:t % k<(enc l[t/k]).length:=by rw[hk];exact Nat.mod_lt _ h0
  have⟨_,u,hu,hr⟩:=h (t/k) (cf l[t/k]) (by simpa using hq) (by show(l.map cf)[t/k]?=_;rw[P9,J9 hq];rfl) (t % k) (.v (enc l[t/k])[t % k]) (by rw[hcf,P9,J9 hm];rfl);rw[flat_get hk h0 l t ht,getElem!_pos l _ hq,J9 hm,<-aZ3 hr,<-hu,Nat.mul_comm,Nat.div_add_mod]
 .rw[uQ (by omega),uQ (by rw[aK6 hk];omega)]
def PE(hk:∀x,(enc x).length=k)(h0:0<k)(hcf:∀x,cf x=(enc x).map CV.v)(ha:∀x,∀v∈enc x,(CV.v v).atom=true){Z:Zone}{w:World}{e:Nat}{v:Value}{l:List α}{ob:E8}(h:P8 w e k v l.length (l.flatMap enc) ob)(hZ:∀b,ob=some b->∀o,Z b o):Rep Z w (.sl k (l.map cf)) v:=by
 generalize hC:l.flatMap enc=C at h;generalize hn:l.length=n at h;cases h with
 |e a=>obtain rfl:l=[]:=mD hn;exact .nil _ _ _
 |b b c n arr hh hs hnc hm h1=>
  subst hn;have:=Rep.sl (Z:=Z) (w:=w) k (l.map cf) b 0 c (λi j=>(enc l[i]!)[j]!) (by simpa using hnc) (λi d hd=>?_) (λi j d q hd hq=>?_) (λi j d q hd hq=>?_)
  .grind
  .grind
  all_goals
   rw[P9]at hd;rcases hx:l[i]? with _|x
   .grind
   .rw[hx]at hd;cases hd;have hil:=(P7.1 hx).1;have hxi:l[i]! =x:=by grind
    rw[hcf,P9]at hq;rcases hy:(enc x)[j]? with _|y
    .grind
    .rw[hy]at hq;cases hq;have hj:=(P7.1 hy).1;have hy!:(enc l[i]!)[j]! =y:=by grind
     first
     |(refine⟨hZ b rfl _,?_,ha x y (iZ hy)⟩
       rw[hy!,X9];have hjk:j<k:=by grind
       have ht:i*k+j<l.length*k:=by have:=iJ k (show i+1<=l.length from hil);rw[mF,nI]at this;omega
       have e1:arr[i*k+j]?=some y:=by
        have e2:(l.flatMap enc)[i*k+j]?=some y:=by
         rw[flat_get hk h0 l _ ht,(blk_iff k i _ h0).1 ⟨by omega,by omega⟩,Nat.mod_eq_sub_div_mul,(blk_iff k i _ h0).1 ⟨by omega,by omega⟩,Nat.add_sub_cancel_left,hxi];exact hy
        grind
       exact(Q5 hh e1).1)
     |(simp only[hy!];exact .v _)
def cu1{e z:Nat}{l l':dS}{v:Value}{b:Nat}(h:(G8.arr e z l none).blk v b):(G8.arr e z l' none).blk v b:=by grind
def cD6{G:aB}{f g el:Nat}(hb:rZ prog f)(hk:∀x,(enc x).length=k)(h0:0<k)(hcf:∀x,cf x=(enc x).map CV.v)(h1:∀x,∀v∈enc x,v.oneCell'=true)(ha:∀x,∀v∈enc x,(CV.v v).atom=true)(hrs:∀x,qB (cf x)=true)(l l':List α)(hl:l'.length=l.length)
    (hs:∀{W:World}{v:Value}{ob:E8},P8 W el k v l.length (l.flatMap enc) ob->Calls prog f #[v,.func (.func g) #[] #[]] W λe w'=>e=.returned (.tuple #[])/\P8 w' el k v l.length (l'.flatMap enc) ob/\Fr (λb=>ob=some b) W w'):
    gI prog G f [.rs 0 0,.c (.fn g [])] [(0,.arr el k (l.map cf) none)] (.c (.U6 [])) [(0,.arr el k (l'.map cf) none)]:=by
 refine⟨hb,λZ w Eo vs hg hz hl2 hargs hgs=>?_⟩
 match vs,hl2 with
 |[v,fv],_=>
  have hx:=hargs 0 (.rs 0 0) v rfl rfl;have hf:=bS0 (hargs 1 (.c (.fn g [])) fv rfl rfl);have hE:Eo 0=v:=by cases hx with|rs _ _ _ hs _ hp=>exact hp _ _ _ _ rfl
  obtain rfl:fv=.func (.func g) #[] #[]:=by
   cases hf with
   |fn _ _ vs hl h=>grind
  have⟨xs,mW,hown,hfoc,rC,hcells,hnz⟩:=hg.ok 0;rw[hE]at hown hnz;rw[X0]at hown;obtain rfl:=cr6 hk h0 hcf hown.1 hcells;have⟨ob,hO,hob⟩:=bN0 hown (λu hu=>by have⟨x,_,hx⟩:=List.mem_flatMap.1 hu;exact h1 x u hx);have aq8:∀b o,ob=some b->¬Z b o:=λb o h=>hnz b o (hob▸h);have hblk:∀b,ob=some b->(G8.arr el k (l.map cf) none).blk (Eo 0) b:=λb h=>by
   rw[hE];rw[hob]at h;cases v with
   |slice a n c=>cases a with
    |none=>simp[Value.ownBlock]at h
    |some a=>simpa[Value.ownBlock,G8.blk]using h
   |_=>simp[Value.ownBlock]at h
  refine(hs hO).mono ?_;rintro e w' ⟨rfl,hO',hF⟩;have hkeep:Keeps Z w Z w':=λb o hzb=>⟨hzb,jM (hF.block b (hz b o hzb) λh=>aq8 b o h hzb)⟩;have hrow:w'.ownsRow 0 el k v l'.length (l'.flatMap enc):=by
   have hvo:=hown.2;rw[hl];generalize l'.flatMap enc=C at hO';generalize l.length=n at hO' hvo;clear hF hkeep hcells hown hO hblk hE hx hnz;cases hO' with
   |e a=>
    rcases hvo with⟨h,_⟩|⟨g',cap,cur,h,_⟩
    .exact⟨by simp,.inl ⟨h,rfl⟩⟩
    .rw[h]at hob;simp[Value.ownBlock]at hob
   |b b c n arr hh hs hnc hm h1=>exact⟨by rw[Y1,iW,hs];exact uU (iJ _ hnc),.inr ⟨b,c,arr,rfl,aF _,hh,hnc,hm,hs,rfl⟩⟩
  refine⟨_,Z,Eo,rfl,
   { res:=.c _ _ (.U6 [] [] rfl λi c x h=>by simp at h)
     grp:=⟨λj=>?_,λj j' b hne h1 h2=>hne ((qE h1).1.trans (qE h2).1.symm)⟩
     keeps:=hkeep
     X5:=λb o h=>aH (hz b o h) hF.size
     iH:=λb o h=>.inl h
     kept:=⟨hF.os,hF.tape,hF.output,hF.size,λq hq=>hF.block q hq.1 (λh=>hq.2 ⟨0,hblk q h⟩),λq hq=>?_⟩
     own:=λb ⟨j,hj⟩=>?_
     ok:=bm1 }⟩
  .rw[jE];by_cases hj:j=0
   .rw[I9 hj,hj,hE];refine⟨_,mW,by rw[X0];exact hrow,⟨λ_ _ h=>(nomatch h),λp q hq _=>?_⟩,λi d hi hd=>?_,λi d hi hd j c hc=>?_,hnz⟩
    .grind
    .replace hd:(l'.map cf)[i]?=some d:=hd;rw[P9]at hd;cases hy:l'[i]? with
     |none=>grind
     |some y=>grind
    .replace hd:(l'.map cf)[i]?=some d:=hd;rw[P9]at hd;cases hy:l'[i]? with
     |none=>grind
     |some y=>
      rw[hy]at hd;cases hd;rw[hcf,P9]at hc;cases hz':(enc y)[j]? with
      |none=>grind
      |some u=>
       rw[hz']at hc;cases hc;have hi':=(P7.1 hy).1;have hj':=(P7.1 hz').1;have hjk:j<k:=by grind
       have ht:i*k+j<l'.length*k:=by have:=iJ k (show i+1<=l'.length from hi');rw[mF,nI]at this;omega
       refine⟨ha y u (iZ hz'),u,?_,.cl (.v _)⟩;rw[flat_get hk h0 l' _ ht,(blk_iff k i _ h0).1 ⟨by omega,by omega⟩,Nat.mod_eq_sub_div_mul,(blk_iff k i _ h0).1 ⟨by omega,by omega⟩,Nat.add_sub_cancel_left,getElem!_pos l' i hi',(P7.1 hy).2];exact hz'
   .rw[H7 hj];trivial
  .by_cases h:ob=some q
   .have⟨arr,ha⟩:=hO.heap h;rw[ha]at hq;cases hq
   .exact(hF.block q (X6.1 hq).1 h).trans hq
  .have⟨_,h⟩:=qE hj;exact .inr ⟨0,cu1 h⟩
end
def cx1(x y:Came)(W:World):Calls prog 109 #[.agg (vG x).toArray,.agg (vG y).toArray] W λe w'=>e=.returned (.int .i64 (Lib.compareInt x.Unit y.Unit))/\∃q os',w'=grow (W.drewN q) os':=by
 have hcon:=λW'=>Tryz.cmp_Compare_int x.Unit y.Unit W';unfold vG;generalize Lib.compareInt x.Unit y.Unit=r at hcon⊢
 go_enter func109,ntmps109
 go_wp2_with (go_at_call 63;refine(hcon _).mono ?_;rintro e w' ⟨rfl,rfl⟩)
 go_ret
 exact⟨rfl,0,_,by rw[alloc_eq_grow,alloc_eq_grow,grow_grow];rfl⟩
def cx2(x y:Marking)(W:World):Calls prog 44 #[.agg (oH x).toArray,.agg (oH y).toArray] W λe w'=>e=.returned (.int .i64 (Lib.compareBytes x.Mark y.Mark))/\∃q os',w'=grow (W.drewN q) os':=by
 have hcon:=λW'=>Tryz.strings_Compare ⟨⟨x.Mark⟩⟩ ⟨⟨y.Mark⟩⟩ W';simp only[]at hcon;unfold oH;generalize Lib.compareBytes x.Mark y.Mark=r at hcon⊢
 go_enter func44,ntmps44
 go_wp2_with (go_at_call 45;refine(hcon _).mono ?_;rintro e w' ⟨rfl,rfl⟩)
 go_ret
 exact⟨rfl,0,_,by rw[alloc_eq_grow,alloc_eq_grow,grow_grow];rfl⟩
def ltC(x y:Came):ltOf (λx y:Came=>Lib.compareInt x.Unit y.Unit) x y=decide (x.Unit<y.Unit):=by
 unfold ltOf Lib.compareInt
 grind
def b05:SWO (ltOf λx y:Came=>Lib.compareInt x.Unit y.Unit) where
 irrefl x:=by rw[ltC];simp
 trans x y z h1 h2:=by rw[ltC]at*;simp at*;omega
 ntrans x y z h1 h2:=by rw[ltC]at*;simp at*;omega
def JJ(l:N7):N7:=(pdq (ltOf λx y:Came=>Lib.compareInt x.Unit y.Unit) l.toArray 0 l.length (Lib.bitLen l.length) true true).toList
def ay7(l:N7):(JJ l).length=l.length:=by
 have h:=(pdq_sorts (ltOf λx y:Came=>Lib.compareInt x.Unit y.Unit) b05 l.toArray 0 l.length (Lib.bitLen l.length) true true (aF _) (by simp) (l9 rfl)).1.1;simpa[JJ]using h
def sort_c{W:World}{v:Value}{l:N7}{ob:E8}(hO:P8 W 134 4 v l.length (l.flatMap vG) ob)(hl:l.length<=4000):
    Calls prog 61 #[v,.func (.func 109) #[] #[]] W λe w'=>e=.returned (.tuple #[])/\∃l':N7,l'=JJ l/\l'.length=l.length/\P8 w' 134 4 v l.length (l'.flatMap vG) ob/\Fr (λb=>ob=some b) W w':=by
 refine bZ4 (enc:=vG) (k:=4) (f:=61) (el:=134) (λ_=>rfl) (by decide) (λx v hv=>by simp[vG]at hv;rcases hv with rfl|rfl|rfl|rfl<;>rfl) (λl l'=>l'=JJ l) (mD (ay7 [])).symm (λp cap W=>AnyF.slices_SortFunc_none bZ2 p cap _ W) (λb cap l W hH hb hs=>?_) hO hl
 have eg:∀args w,(callFunc 109 args).run prog w=.ok (.enter 109 args) w:=enters_of func109 (by kernel_rfl) rfl;have key:=AnyQ.slices_SortFunc_eq bZ2 4 isAgg134 sizeOf134 vG (λ_=>rfl) (λx v hv=>by simp[vG]at hv;rcases hv with rfl|rfl|rfl|rfl<;>rfl) (λx y=>Lib.compareInt x.Unit y.Unit) b05 109 #[] b 0 cap l.toArray W eg (λ_ _ _ _ x y=>cx1 x y _) hH hb (by simpa using hs)
 change Calls prog 61 _ _ _ at key;refine Calls.mono (by simpa using key) ?_;rintro e w' ⟨rfl,n,os,rfl⟩;exact⟨rfl,JJ l,n,os,ay7 l,rfl,by simp[JJ]⟩
end
end Go.Proofs.YtibiibjbmhckgaaGreatDoor
namespace Go.F7
open Go Go.RowKit
section
variable{P:Program}{G:aB}
def ck3{zc:G9}{zs:H6}(hl:zc.length=zs.length){c0:CV}{x0:Value}{i:Nat}{c:CV}{x:Value}(h1:(zc++[c0])[i]?=some c)(h2:(zs++[x0])[i]?=some x):(zc[i]?=some c/\zs[i]?=some x)\/(c=c0/\x=x0):=by
 by_cases hi:i<zc.length
 .rw[dX hi]at h1;rw[dX (by omega)]at h2;exact .inl ⟨h1,h2⟩
 .rw[dN (by omega)]at h1;rw[dN (by omega)]at h2;have hi0:i-zc.length=0:=by
   have:=(P7.1 h1).1;simp at this;omega
  rw[hi0]at h1;rw[<-hl,hi0]at h2;simp at h1 h2;exact .inr ⟨h1.symm,h2.symm⟩
theorem cC9{t:TypeId}{k:Nat}{zs:H6}{zc:G9}{es:uV}(hl:zc.length=zs.length)(hz:∀(Z:Zone)(w:World)(i:Nat)(c:CV)(x:Value),zc[i]?=some c->zs[i]?=some x->Rep Z w c x/\c.atom=true)
 (aM6:∀b:E8,P.built t [(k,Value.map b)]=some (zs++[Value.map b]).toArray) {x:Operand} {ty:TypeId}:
 fD P G (.build t ⟨[(k,x)]⟩) ty [.mr 0 0] [(0,.map es)] (.aY (zc++[.mr 0 0])) [(0,.map es)]:=by
 intro Z w Eo a o next Q ho hty hg hzl hlen hargs hgs hnext
 have hx:=hargs 0 (.mr 0 0) x rfl (by simp[Op.operands]);generalize hax:a.eval x=xv at hx;cases hx with
 |mr _ _ _ hs hgn hE=>
  obtain⟨b,rfl⟩:=hs;have hex:(execOp a.eval o).run P w=.ok (.value (Value.agg (zs++[Value.map b]).toArray)) w:=by
   obtain⟨dst,op,type,pos,after,guard⟩:=o;simp only at ho;subst ho;have hb:P.built t ((#[(k,x)]:zY).map λ(i,x)=>(i,a.eval x)).toList=some (zs++[Value.map b]).toArray:=by simpa[hax]using aM6 b
   simp only[execOp,J6,run_build w t _ _ hb];rfl
  refine bP hex (hnext _ Z w Eo (MF hg hzl (.aY _ (zs++[Value.map b]) (by simp[hl]) (λi c v h1 h2=>?_) (λi c h1=>?_))))
  .rcases ck3 hl h1 h2 with⟨q1,q2⟩|⟨rfl,rfl⟩
   .exact .cl (hz Z w i c v q1 q2).1
   .exact .one (.mr 0 0 _ ⟨_,rfl⟩ hgn hE)
  .have hi:i<(zs++[Value.map b]).length:=by have:=(P7.1 h1).1;simp at this⊢;omega
   rcases ck3 hl h1 (J9 hi)with⟨q1,q2⟩|⟨rfl,_⟩
   .exact(hz Z w i c _ q1 q2).2
   .rfl
def cC6{t:TypeId}{cs:G9}{es:uV}(hbp:∀(k:Nat)(c:CV),cs[k]?=some c->c.IC=false){x:Operand}{ty:TypeId}:
    fD P G (.box t x) ty [.aY cs] [(0,.map es)] (.pm 1 1 0) [(0,.map es),(1,.varx cs)]:=by
 intro Z w Eo ac o next Q ho hty hg hzl hlen hargs hgs hnext
 have hx:=hargs 0 (.aY cs) x rfl rfl;generalize hax:ac.eval x=xv at hx;cases hx with
 |aY _ vs hl hr ha=>
  have hex:(execOp ac.eval o).run P w=.ok (.value (.pointer (some ⟨w.heap.size,0,none⟩))) (w.alloc (.cells vs.toArray t (0,0))):=by
   obtain⟨dst,op,type,pos,after,guard⟩:=o;simp only at ho;subst ho;simp[execOp,Instr.box,newVar,newRow,hax,Value.cells]
  have hnew:(w.alloc (.cells vs.toArray t (0,0))).heap[w.heap.size]?=some (.cells vs.toArray t (0,0)):=(MapKept.heap_alloc w _).1
  let Er:Nat->Value:=λj=>if j=1 then .pointer (some ⟨w.heap.size,0,none⟩)else Eo j
  have hk:Keeps Z w Z (w.alloc (.cells vs.toArray t (0,0))):=Keeps.alloc hzl _;have hok:eY (I5 [(0,G8.map es)]) Eo (I5 [(0,.map es),(1,.varx cs)]) Er:=by
   refine⟨λt=>?_,λt g hg hl=>?_,λt g el s hg ho=>?_,λt g el s ds D7 hg ho=>?_,λt g es hg ho=>?_⟩
   all_goals match t with
    |0=>first|exact N8 _|(obtain⟨cs,h|h|h⟩:=hl<;>cases h;done)|exact⟨⟨_,ho⟩,rfl⟩|(cases ho;done)
    |1=>first|exact aF _|(obtain⟨cs,h|h|h⟩:=hl<;>cases h<;>exact absurd hg (Nat.not_succ_le_zero 0))|cases ho
    |t+2=>first|(simp[I5];done)|(obtain⟨cs,h|h|h⟩:=hl<;>simp[I5]at h)|(simp[I5]at ho)
  have e0:∀j,I5 [(0,G8.map es),(1,.varx cs)] (j+2)=(0,.none):=λj=>by simp[I5]
  have hb1:∀b,(G8.varx cs).blk (Er 1) b->b=w.heap.size:=λb hb=>by simpa[Er,G8.blk]using hb.symm
  have hb0:∀b,(G8.map es).blk (Eo 0) b->b<w.heap.size:=λb hb=>(hg.ok 0).lt hb
  refine bP hex (hnext _ Z _ Er
   { res:=.pm 1 1 0 _ ⟨_,rfl⟩ (N8 _) λ_=>⟨w.heap.size,rfl,rfl⟩
     grp:=⟨λj=>?_,λj j' b hj h1 h2=>?_⟩
     keeps:=hk
     X5:=λb o hz=>aH (hzl b o hz) (by simp)
     iH:=λb o hz=>.inl hz
     kept:=(Kept.refl _ _).alloc (λ_ h=>h.1) _
     own:=λb ⟨j,hj⟩=>?_
     ok:=hok })
  .match j with
   |0=>exact(hg.ok 0).keep hk hok λb hb=>⟨vJ w _ (hb0 b hb),λ_ h=>h⟩
   |1=>
    refine⟨w.heap.size,t,vs.toArray,rfl,hnew,by simp[hl],λk c hk'=>⟨ha k c hk',?_⟩,λo hz'=>absurd (hzl _ _ hz') (Nat.lt_irrefl _),.none hbp⟩;have hkl:k<vs.length:=by rw[<-hl];exact(P7.1 hk').1
    exact⟨vs[k],by simp[hkl],(hr k c _ hk' (J9 hkl)).keep hk hok⟩
   |j+2=>rw[e0];trivial
  .match j,j',h1,h2 with
   |0,0,_,_=>exact hj rfl
   |0,1,h1,h2=>have q1:=hb0 b h1;have q2:=hb1 b h2;omega
   |1,0,h1,h2=>have q1:=hb0 b h2;have q2:=hb1 b h1;omega
   |1,1,_,_=>exact hj rfl
   |j+2,_,h1,_=>rw[e0]at h1;exact h1.elim
   |_,j+2,_,h2=>rw[e0]at h2;exact h2.elim
  .match j,hj with
   |0,hj=>exact .inr ⟨0,hj⟩
   |1,hj=>exact .inl (by rw[hb1 b hj];exact N8 _)
   |j+2,hj=>rw[e0]at hj;exact hj.elim
def cD3{t kt et:TypeId}(ht:P.underlying t=some (.map kt et)){es:uV}{x:Operand}{ty:TypeId}:fD P G (.call ⟨.builtin .len,⟨[x]⟩,⟨[t]⟩⟩) ty [.mr 0 0] [(0,.map es)] (.c (.v (.int .i64 es.length))) [(0,.map es)]:=by
 intro Z w Eo ac o next Q ho hty hg hzl hl hargs hgs hnext
 have hx:=hargs 0 (.mr 0 0) x rfl rfl;obtain⟨b,arr,clock,hE,hh,⟨hlen,_⟩,_⟩:=hg.ok 0;have hxv:ac.eval x=.map (some b):=by
  generalize ac.eval x=xv at hx;cases hx with|mr _ _ _ _ _ h=>rw[<-h es rfl,hE]
 have hex:(execOp ac.eval o).run P w=.ok (.value (.int .i64 es.length)) w:=by
  obtain⟨dst,op,type,pos,after,guard⟩:=o;simp only at ho;subst ho;rw[BJ];have hg0:(getObj b).run P w=.ok (.map arr clock) w:=by simp[getObj,Sem.run,hh]
  simp[builtin,Builtin.len_,O4 ht,hxv,goInt,hg0,hlen]
 exact bP hex (hnext _ Z w Eo (MF hg hzl (.c _ _ (.v _))))
def br9{op:Op}{ty:TypeId}{a b r:SV}{os os':Y0}(h:fD P G op ty [a,b,.c (.v (.bool true))] os r os'):fD P G op ty [a,b,.kt] os r os':=by
 intro Z w Eo ac o next Q ho hty hg hzl hl hargs hgs hnext
 refine h Z w Eo ac o next Q ho hty hg hzl hl (λi s x h1 h2=>?_) hgs hnext
 match i,h1 with
 |0,h1=>exact hargs 0 s x h1 h2
 |1,h1=>exact hargs 1 s x h1 h2
 |2,h1=>
  have:=hargs 2 .kt x rfl h2;cases h1;generalize ac.eval x=y at this⊢;cases this;exact .c _ _ (.v _)
end
end Go.F7
namespace Go.Proofs.YtibiibjbmhckgaaGreatDoor
section
open Go Go.F7 Proofs.Tryz
def cu5(b:E8):prog.built 104 [(3,.map b)]=some #[.slice none 0 0,.slice none 0 0,.slice none 0 0,.slice none 0 0,.map b]:=by kernel_rfl
def cS6{es:uV}{x:Operand}{ty:TypeId}:fD prog Gw (.build 104 ⟨[(3,x)]⟩) ty [.mr 0 0] [(0,.map es)] (.aY [.sl 12 [],.sl 1 [],.sl 6 [],.sl 4 [],.mr 0 0]) [(0,.map es)]:=
 cC9 (zc:=[.sl 12 [],.sl 1 [],.sl 6 [],.sl 4 []]) (zs:=[.slice none 0 0,.slice none 0 0,.slice none 0 0,.slice none 0 0]) rfl (λZ w i c x h1 h2=>by
  match i,h1,h2 with
  |0,h1,h2=>cases h1;cases h2;exact⟨.nil _ _ _,rfl⟩
  |1,h1,h2=>cases h1;cases h2;exact⟨.nil _ _ _,rfl⟩
  |2,h1,h2=>cases h1;cases h2;exact⟨.nil _ _ _,rfl⟩
  |3,h1,h2=>cases h1;cases h2;exact⟨.nil _ _ _,rfl⟩) cu5
theorem cS5{a b c d:dS}{es:uV}{x:Operand}{ty:TypeId}:fD prog Gw (.box 104 x) ty [.aY [.sl 12 a,.sl 1 b,.sl 6 c,.sl 4 d,.mr 0 0]] [(0,.map es)] (.pm 1 1 0) [(0,.map es),(1,.varx [.sl 12 a,.sl 1 b,.sl 6 c,.sl 4 d,.mr 0 0])]:=
 cC6 λk c h=>by
  match k,h with
  |0,h=>cases h;rfl
  |1,h=>cases h;rfl
  |2,h=>cases h;rfl
  |3,h=>cases h;rfl
  |4,h=>cases h;rfl
end
section
open Go Go.F7 Go.RowKit Go.Sort Proofs.Tryz
def ba8(l:N7):Option N7:=bif decide (l.length<=4000)then some (JJ l)else none
def do9{l r:N7}(h:ba8 l=some r):gI prog Gw 61 [.rs 0 0,.c (.fn 109 [])] [(0,.arr 134 4 (l.map N9) none)] (.c (.U6 [])) [(0,.arr 134 4 (r.map N9) none)]:=by
 refine mV h λhl h=>?_;have hl:=iR hl;rw[<-jJ h];refine cD6 (enc:=vG) (cf:=N9) ⟨_,func61,by decide,rfl⟩ (λ_=>rfl) (by decide) (λ_=>rfl) (λx v hv=>by simp[vG]at hv;rcases hv with rfl|rfl|rfl|rfl<;>rfl) (λx v hv=>by simp[vG]at hv;rcases hv with rfl|rfl|rfl|rfl<;>rfl) (λ_=>rfl) l (JJ l) (ay7 l) λ{W v ob} hO=>?_
 refine(sort_c hO hl).mono ?_;rintro e w' ⟨rfl,l',rfl,_,h1,h2⟩;exact⟨rfl,h1,h2⟩
end
section
open Go Go.F7 Proofs.Tryz
set_option maxRecDepth 10000
set_option maxHeartbeats 400000
abbrev ce2(y:N7):CV:=.sl 4 (y.map N9)
def QH(l:List Opn):Nat->Int->List Came->Option (List Came)
 |0,_,_=>none
 |fu1+1,v1,JB=>bif decide (v1<((l.map G7).length:Int))then(Option.bind (ix l v1) λx4=>bif (x4.Kind==1)then(bif decide (JB.length+([(⟨x4.Unit,x4.Origin⟩:Came)]:List Came).length<=4294967296)then QH l fu1 (IntKind.i64.wrap (v1+1)) (JB++([(⟨x4.Unit,x4.Origin⟩:Came)]:List Came))else none)else QH l fu1 (IntKind.i64.wrap (v1+1)) JB)else(Option.bind (ba8 JB) λy8=>some (y8))
def ce3(N:Nat)(l:F5):Option N7:=QH l N 0 ([]:N7)
def dC2{N:Nat}{l:F5}{r:N7}(hF:ce3 N l=some r):Holds prog Gw 55 [.sl 12 (l.map G7)] (ce2 r):=by
 refine V9 O9 mixed func55 (by decide) rfl (I8 rfl) ?_;refine l9 ?_;refine J5 ⟨[],0,_,_,_,_,rfl,rfl,MB (e:=134) (ie:=JQ) (by decide),rfl,?_⟩;refine iE (λp:Nat×Int×N7=>[(3,.rs 3 0),(6,.c (.sl 12 (l.map G7))),(7,.c (I ((l.map G7).length:Int))),(8,.c (I p.2.1))]) (λp:Nat×Int×N7=>[(3,.arr 134 4 (p.2.2.map N9) none)]) (λp=>QH l p.1 p.2.1 p.2.2=some r) (λp=>p.1) (N,0,([]:N7)) hF ⟨rfl,rfl,rfl,rfl,trivial⟩ ⟨rfl,trivial⟩ ?_;rintro⟨fu1,v1,JB⟩ hF;cases fu1 with
 |zero=>exact nomatch hF
 |succ fu1=>
  refine P6 ?_;refine C9 (λh3=>?_) (λh3=>?_)
  .have hF:=D6 h3 hF;refine P6 ?_;refine E5 hF λx4 h5 hF=>?_;refine⟨aT h5,.inl rfl,_,bK G7 h5,?_⟩;refine l9 ?_;refine C9 (λh6=>?_) (λh6=>?_)
   .have hF:=D6 h6 hF;refine l9 ?_;refine l9 ?_;refine mV hF λh7 hF=>?_;refine J5 ⟨[(3,0)],0,_,_,_,_,rfl,rfl,TB (cf:=N9) (l:=JB) (ns:=([(⟨x4.Unit,x4.Origin⟩:Came)]:N7)) XH.u XD (by decide) (by decide) (λ_=>rfl) h7,rfl,?_⟩;exact⟨(fu1,(IntKind.i64.wrap (v1+1)),(JB++([(⟨x4.Unit,x4.Origin⟩:Came)]:N7))),aP _,hF,⟨rfl,rfl,rfl,rfl,trivial⟩,⟨rfl,trivial⟩⟩
   .have hF:=D5 h6 hF;exact⟨(fu1,(IntKind.i64.wrap (v1+1)),JB),aP _,hF,⟨rfl,rfl,rfl,rfl,trivial⟩,⟨rfl,trivial⟩⟩
  .have hF:=D5 h3 hF;refine E5 hF λy8 h9 hF=>?_;refine J5 (J5 ⟨[(3,0)],0,_,_,_,_,rfl,rfl,pW rfl (J5 ⟨_,rfl,rfl⟩) (do9 h9),rfl,?_⟩);refine Z9 (p:=λr=>vT tab _ (ce2 r) _) hF ?_;exact J5 ⟨rfl,_,rfl,rfl⟩
abbrev be9:=ce3 1000
abbrev ce4:=@dC2 1000
def bf8:{p:Array Nat×Code×Code // (zB (Tryz.f90.body.getD .skip))[0]?=some p}:=⟨(_,_,_),rfl⟩
def bf7(R:Loop):Prop:=R.params=bf8.1.1/\R.assign=bf8.1.2.1/\R.body=bf8.1.2.2/\R.tmps.size=34
theorem cg1{R:Loop}(h:bf7 R):2=R.params.size:=by rw[h.1];rfl
def bf9(u1:Tree)(u2:Int)(u3:Int)(a14:Int)(pR:Opn):Option (Bool×Tree×Int×Int):=Option.bind (rH u1 pR) λy1=>bif (y1.2==0)then some (true,y1.1,u2,u3)else some (false,u1,a14,y1.2)
def cg0{u1:Tree}{u2:Int}{u3:Int}{a14:Int}{pR:Opn}{r:Bool×Tree×Int×Int}{l:Nat}{R:Loop}(hR:bf7 R)(hF:bf9 u1 u2 u3 a14 pR=some r):XU prog Gw l R (oI [(5,.pm 1 0 0),(6,.pm 2 0 0),(7,.pm 3 0 0)] 34 0) [.c (I a14),.c (.agg [I pR.ID,I pR.Day,I pR.Kind,I pR.Unit,I pR.Parent,I pR.Before,I pR.Level,S pR.Title,S pR.Mark,I pR.Origin.bQ,I pR.Origin.X3,I pR.Origin.Number])] [(0,.lp l R .on),(0,.var [.sl 1 (u1.Q7.map F8),.sl 6 (u1.Branches.map I4)]),(0,.var [I u2]),(0,.var [I u3])] (.c (.v (.bool r.1))) [(0,.lp l R (oL r.1 (.exit 0))),(0,.var [.sl 1 (r.2.1.Q7.map F8),.sl 6 (r.2.1.Branches.map I4)]),(0,.var [I r.2.2.1]),(0,.var [I r.2.2.2])]:=by
 refine aJ2 [] O9 mixed 0 hR.1 hR.2.1 hR.2.2.1 hR.2.2.2 rfl ?_;refine l9 ?_;refine⟨rfl,?_⟩;refine E5 hF λy1 h2 hF=>?_;refine l9 ⟨_,bQ4 h2,rfl,?_⟩;refine l9 ?_;refine C9 (λh3=>?_) (λh3=>?_)
 .have hF:=D6 h3 hF;refine Z9 (p:=λr=>DW [] 0 l R 4 (.c (.v (.bool r.1))) [(0,.lp l R (oL r.1 (.exit 0))),(0,.var [.sl 1 (r.2.1.Q7.map F8),.sl 6 (r.2.1.Branches.map I4)]),(0,.var [I r.2.2.1]),(0,.var [I r.2.2.2])] .on true _) hF ?_;exact⟨rfl,rfl,[(4294967296,0),(4295032832,0),(4295098368,0),(4295163904,0)],[0,0,0,0],rfl,rfl⟩
 .have hF:=D5 h3 hF;refine Z9 (p:=λr=>DW [] 0 l R 4 (.c (.v (.bool r.1))) [(0,.lp l R (oL r.1 (.exit 0))),(0,.var [.sl 1 (r.2.1.Q7.map F8),.sl 6 (r.2.1.Branches.map I4)]),(0,.var [I r.2.2.1]),(0,.var [I r.2.2.2])] (.off (.exit 0)) false _) hF ?_;exact⟨rfl,rfl,[(4294967296,0),(4295032832,0),(4295098368,0),(4295163904,0)],[0,0,0,0],rfl,rfl⟩
def ce1{l:F5}:gI prog Gw 30 [.c (.sl 12 (l.map G7))] [] (.V4 71 [.pm 0 1 0]) [(1,.var [.sl 12 (l.map G7)])]:=by
 refine vF O9 mixed func30 (by decide) rfl (I8 rfl) rfl ?_;refine l9 ?_;exact⟨[(1,1)],[1],rfl,rfl,rfl⟩
def EI(u4:List Opn)(v2:List (Int×Bool)):Nat->Int->List Int->List Branch->Int->Int->Option (Bool×Tree×Int×Int)
 |0,_,_,_,_,_=>none
 |bI+1,v9,qJ,QM,QN,QO=>bif decide (v9<((u4.map G7).length:Int))then(Option.bind (ix u4 v9) λx15=>bif (x15.Kind !=6)then(Option.bind (rF v2 x15.ID false) λlW=>bif (!lW)then(Option.bind (bf9 (⟨qJ,QM⟩:Tree) QN QO v9 x15) λy21=>bif y21.1 then EI u4 v2 bI (IntKind.i64.wrap (v9+1)) y21.2.1.Q7 y21.2.1.Branches y21.2.2.1 y21.2.2.2 else some (false,y21.2.1,y21.2.2.1,y21.2.2.2))else EI u4 v2 bI (IntKind.i64.wrap (v9+1)) qJ QM QN QO)else EI u4 v2 bI (IntKind.i64.wrap (v9+1)) qJ QM QN QO)else some (true,(⟨qJ,QM⟩:Tree),QN,QO)
def JW(u1:Tree)(u2:Int)(u3:Int)(u4:List Opn)(N:Nat):Nat->Int->List (Int×Bool)->Option (Bool×Tree×Int×Int)
 |0,_,_=>none
 |fu1+1,v1,v2=>bif decide (v1<((u4.map G7).length:Int))then(Option.bind (ix u4 v1) λx4=>bif (x4.Kind==6)then(Option.bind (rF v2 x4.Unit false) λy7=>JW u1 u2 u3 u4 N fu1 (IntKind.i64.wrap (v1+1)) (aU v2 x4.Unit (!y7)))else JW u1 u2 u3 u4 N fu1 (IntKind.i64.wrap (v1+1)) v2)else EI u4 v2 N 0 u1.Q7 u1.Branches u2 u3
def ce0(N:Nat)(u1:Tree)(u2:Int)(u3:Int)(u4:F5):Option (Bool×Tree×Int×Int):=JW u1 u2 u3 u4 N N 0 ([]:lI)
def dB9{N:Nat}{u1:Tree}{u2:Int}{u3:Int}{u4:F5}{r:Bool×Tree×Int×Int}{l:Nat}{R:Loop}(hR:bf7 R)(hF:ce0 N u1 u2 u3 u4=some r):gI prog Gw 71 [.V4 (.yl l R.tmps.toList) (oI [(5,.pm 1 0 0),(6,.pm 2 0 0),(7,.pm 3 0 0)] 34 0),.pm 4 0 0] [(0,.lp l R .on),(0,.var [.sl 1 (u1.Q7.map F8),.sl 6 (u1.Branches.map I4)]),(0,.var [I u2]),(0,.var [I u3]),(0,.var [.sl 12 (u4.map G7)])] (.c (.U6 [])) [(0,.lp l R (oL r.1 (.exit 0))),(0,.var [.sl 1 (r.2.1.Q7.map F8),.sl 6 (r.2.1.Branches.map I4)]),(0,.var [I r.2.2.1]),(0,.var [I r.2.2.2]),(0,.var [.sl 12 (u4.map G7)])]:=by
 refine vF O9 mixed func71 (by decide) rfl (I8 rfl) rfl ?_;refine J5 ⟨[],0,_,_,_,_,rfl,rfl,ZB,rfl,?_⟩;refine iE (λp:Nat×Int×lI=>[(0,.V4 (.yl l R.tmps.toList) (oI [(5,.pm 4295032832 0 0),(6,.pm 4295098368 0 0),(7,.pm 4295163904 0 0)] 34 0)),(1,.pm 4295229440 0 0),(3,.mr 8 0),(9,.c (.sl 12 (u4.map G7))),(10,.c (I ((u4.map G7).length:Int))),(11,.c (I p.2.1))]) (λp:Nat×Int×lI=>[(4294967296,.lp l R .on),(4295032832,.var [.sl 1 (u1.Q7.map F8),.sl 6 (u1.Branches.map I4)]),(4295098368,.var [I u2]),(4295163904,.var [I u3]),(4295229440,.var [.sl 12 (u4.map G7)]),(8,.map (U9 (NU .i64) qY p.2.2))]) (λp=>JW u1 u2 u3 u4 N p.1 p.2.1 p.2.2=some r) (λp=>p.1) (N,0,([]:lI)) hF ⟨rfl,rfl,rfl,rfl,rfl,rfl,trivial⟩ ⟨rfl,rfl,rfl,rfl,rfl,rfl,trivial⟩ ?_;rintro⟨fu1,v1,v2⟩ hF;cases fu1 with
 |zero=>exact nomatch hF
 |succ fu1=>
  refine P6 ?_;refine C9 (λh3=>?_) (λh3=>?_)
  .have hF:=D6 h3 hF;refine P6 ?_;refine E5 hF λx4 h5 hF=>?_;refine⟨aT h5,.inl rfl,_,bK G7 h5,?_⟩;refine l9 ?_;refine C9 (λh6=>?_) (λh6=>?_)
   .have hF:=D6 h6 hF;refine E5 hF λy7 h8 hF=>?_;refine J5 ⟨[(8,0)],0,_,_,_,_,rfl,rfl,ZC (ev:=qY) (z:=false) (m:=v2) (x:=x4.Unit) XE.u xP.u (IG .i64) ai8 rfl h8,rfl,?_⟩;refine J5 ⟨[(8,0)],0,_,_,_,_,rfl,rfl,yL (ev:=qY) (m:=v2) (x:=x4.Unit) (v:=(!y7)) XE.u xP.u (IG .i64),rfl,?_⟩;exact⟨(fu1,(IntKind.i64.wrap (v1+1)),(aU v2 x4.Unit (!y7))),aP _,hF,⟨rfl,rfl,rfl,rfl,rfl,rfl,trivial⟩,⟨rfl,rfl,rfl,rfl,rfl,rfl,trivial⟩⟩
   .have hF:=D5 h6 hF;exact⟨(fu1,(IntKind.i64.wrap (v1+1)),v2),aP _,hF,⟨rfl,rfl,rfl,rfl,rfl,rfl,trivial⟩,⟨rfl,rfl,rfl,rfl,rfl,rfl,trivial⟩⟩
  .have hF:=D5 h3 hF;refine iE (λp:Nat×Int×F6×X8×Int×Int=>[(0,.V4 (.yl l R.tmps.toList) (oI [(5,.pm 4295032832 0 0),(6,.pm 4295098368 0 0),(7,.pm 4295163904 0 0)] 34 0)),(3,.mr 8 0),(27,.c (.sl 12 (u4.map G7))),(28,.c (I ((u4.map G7).length:Int))),(29,.c (I p.2.1))]) (λp:Nat×Int×F6×X8×Int×Int=>[(4294967296,.lp l R .on),(4295032832,.var [.sl 1 (p.2.2.1.map F8),.sl 6 (p.2.2.2.1.map I4)]),(4295098368,.var [I p.2.2.2.2.1]),(4295163904,.var [I p.2.2.2.2.2]),(8,.map (U9 (NU .i64) qY v2)),(4295229440,.var [.sl 12 (u4.map G7)])]) (λp=>EI u4 v2 p.1 p.2.1 p.2.2.1 p.2.2.2.1 p.2.2.2.2.1 p.2.2.2.2.2=some r) (λp=>p.1) (N,0,u1.Q7,u1.Branches,u2,u3) hF ⟨rfl,rfl,rfl,rfl,rfl,trivial⟩ ⟨rfl,rfl,rfl,rfl,rfl,rfl,trivial⟩ ?_;rintro⟨bI,v9,qJ,QM,QN,QO⟩ hF;cases bI with
   |zero=>exact nomatch hF
   |succ bI=>
    refine P6 ?_;refine C9 (λdL=>?_) (λdL=>?_)
    .have hF:=D6 dL hF;refine P6 ?_;refine E5 hF λx15 h16 hF=>?_;refine⟨aT h16,.inl rfl,_,bK G7 h16,?_⟩;refine l9 ?_;refine P6 ?_;refine C9 (λh17=>?_) (λh17=>?_)
     .have hF:=D6 h17 hF;refine E5 hF λlW h19 hF=>?_;refine J5 ⟨[(8,0)],0,_,_,_,_,rfl,rfl,ZC (ev:=qY) (z:=false) (m:=v2) (x:=x15.ID) XE.u xP.u (IG .i64) ai8 rfl h19,rfl,?_⟩;refine C9 (λh20=>?_) (λh20=>?_)
      .have hF:=D6 h20 hF;refine E5 hF λy21 h22 hF=>?_;rcases y21 with⟨_|_,y23⟩
       .have hF:=D5 rfl hF;refine J5 ⟨[(4294967296,0),(4295032832,0),(4295098368,0),(4295163904,0)],0,_,_,_,_,rfl,rfl,ZE rfl 0 rfl (cg1 hR) (cg0 hR h22),rfl,?_⟩;refine C9 (λGU=>?_) (λGU=>?_)
        .skip
         refine Z9 (p:=λr=>bF tab _ 5 (.c (.U6 [])) [(0,.lp l R (oL r.1 (.exit 0))),(0,.var [.sl 1 (r.2.1.Q7.map F8),.sl 6 (r.2.1.Branches.map I4)]),(0,.var [I r.2.2.1]),(0,.var [I r.2.2.2]),(0,.var [.sl 12 (u4.map G7)])] _) hF ?_;exact⟨[(4294967296,0),(4295032832,0),(4295098368,0),(4295163904,0),(4295229440,0)],[0,0,0,0,0],rfl,rfl,rfl⟩
        .exact absurd GU (by simp)
       .have hF:=D6 rfl hF;refine J5 ⟨[(4294967296,0),(4295032832,0),(4295098368,0),(4295163904,0)],0,_,_,_,_,rfl,rfl,ZE rfl 0 rfl (cg1 hR) (cg0 hR h22),rfl,?_⟩;refine C9 (λvH=>?_) (λvH=>?_)
        .exact absurd vH (by simp)
        .skip
         exact⟨(bI,(IntKind.i64.wrap (v9+1)),y23.1.Q7,y23.1.Branches,y23.2.1,y23.2.2),aP _,hF,⟨rfl,rfl,rfl,rfl,rfl,trivial⟩,⟨rfl,rfl,rfl,rfl,rfl,rfl,trivial⟩⟩
      .have hF:=D5 h20 hF;exact⟨(bI,(IntKind.i64.wrap (v9+1)),qJ,QM,QN,QO),aP _,hF,⟨rfl,rfl,rfl,rfl,rfl,trivial⟩,⟨rfl,rfl,rfl,rfl,rfl,rfl,trivial⟩⟩
     .have hF:=D5 h17 hF;exact⟨(bI,(IntKind.i64.wrap (v9+1)),qJ,QM,QN,QO),aP _,hF,⟨rfl,rfl,rfl,rfl,rfl,trivial⟩,⟨rfl,rfl,rfl,rfl,rfl,rfl,trivial⟩⟩
    .have hF:=D5 dL hF;refine Z9 (p:=λr=>bF tab _ 5 (.c (.U6 [])) [(0,.lp l R (oL r.1 (.exit 0))),(0,.var [.sl 1 (r.2.1.Q7.map F8),.sl 6 (r.2.1.Branches.map I4)]),(0,.var [I r.2.2.1]),(0,.var [I r.2.2.2]),(0,.var [.sl 12 (u4.map G7)])] _) hF ?_;exact⟨[(4294967296,0),(4295032832,0),(4295098368,0),(4295163904,0),(4295229440,0)],[0,0,0,0,0],rfl,rfl,rfl⟩
abbrev dC0:=ce0 1000
abbrev dC1:=@dB9 1000
abbrev aj2(y:Tree×Int×Int):CV:=.U6 [.agg (gW y.1),I y.2.1,I y.2.2]
def bg0(l:F5):Option (Tree×Int×Int):=Option.bind (dC0 (⟨([]:F6),([]:X8)⟩:Tree) (-1) 0 l) λy1=>bif y1.1 then(bif (y1.2.2.2 !=0)then some ((⟨([]:F6),([]:X8)⟩:Tree),y1.2.2.1,y1.2.2.2)else some (y1.2.1,(-1),0))else(bif (y1.2.2.2 !=0)then some ((⟨([]:F6),([]:X8)⟩:Tree),y1.2.2.1,y1.2.2.2)else some (y1.2.1,(-1),0))
def dC6{l:F5}{r:Tree×Int×Int}(hF:bg0 l=some r):Holds prog Gw 90 [.sl 12 (l.map G7)] (aj2 r):=by
 refine V9 O9 mixed func90 (by decide) rfl (I8 rfl) ?_;refine l9 ?_;refine l9 ?_;refine l9 ?_;refine l9 ?_;refine J5 (J5 ⟨[],0,_,_,_,_,rfl,rfl,pW rfl (J5 ⟨_,rfl,rfl⟩) ce1,rfl,?_⟩);refine E5 hF λy1 h2 hF=>?_;refine aw0.mk ?_;refine⟨60000,oI [(5,.pm 5 1 0),(6,.pm 6 1 0),(7,.pm 7 1 0)] 34 0,_,_,l9 rfl,rfl,(by refine ap2 ?_ 34 0;exact⟨rfl,rfl,rfl,trivial⟩),λl R hp ha hb hn=>⟨[(60000,1),(5,1),(6,1),(7,1),(13,1)],0,_,_,_,_,rfl,rfl,dC1 ⟨hp,ha,hb,hn⟩ h2,rfl,_,y1.1,(.exit 0),rfl,λh3=>?_,λh3=>?_⟩⟩
 .have hF:=D6 h3 hF;refine C9 (λh4=>?_) (λh4=>?_)
  .have hF:=D6 h4 hF;refine l9 ?_;refine C9 (by kernel_rfl) ?_;exact l9 ⟨rfl,congrArg (Option.map aj2) hF⟩
  .have hF:=D5 h4 hF;exact l9 ⟨rfl,congrArg (Option.map aj2) hF⟩
 .have hF:=D5 h3 hF;refine C9 (λh5=>?_) (λh5=>?_)
  .have hF:=D6 h5 hF;refine l9 ?_;refine C9 (by kernel_rfl) ?_;exact l9 ⟨rfl,congrArg (Option.map aj2) hF⟩
  .have hF:=D5 h5 hF;exact l9 ⟨rfl,congrArg (Option.map aj2) hF⟩
end
end Go.Proofs.YtibiibjbmhckgaaGreatDoor
