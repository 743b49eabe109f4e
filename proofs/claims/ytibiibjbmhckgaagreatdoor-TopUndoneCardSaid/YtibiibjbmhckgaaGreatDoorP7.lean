import Derived.Test.YtibiibjbmhckgaaGreatDoorP6
set_option linter.unusedVariables false
set_option linter.unusedSimpArgs false
namespace Go.Proofs.YtibiibjbmhckgaaGreatDoor
section
open Go Go.F6 Proofs.Tryz
set_option maxRecDepth 10000
set_option maxHeartbeats 400000
abbrev aL2(y:Bool):CV:=B y
def XV(o:Opn)(c0:Int):Option (Bool):=bif (o.ID==c0)then some ((o.Kind !=6))else some (false)
theorem cN5{o:Opn}{c0:Int}{r:Bool}(hF:XV o c0=some r):Holds prog Gw 240 [.agg (F7 o),.pi [I c0] 0] (aL2 r):=by
 refine Q9 L8 mixed func240 (by decide) rfl (H6 rfl) ?_;refine l9 ?_;refine J9 ?_;refine C9 (λh1=>?_) (λh1=>?_)
 .have hF:=D6 h1 hF;exact l9 ⟨rfl,congrArg (Option.map aL2) hF⟩
 .have hF:=D5 h1 hF;exact l9 ⟨rfl,congrArg (Option.map aL2) hF⟩
def XW(u0:List Opn)(S9:List Int)(U0:List Branch)(P9:List Came)(m1:List (Str×Int))(id:Int):Option (Opn×Bool):=Option.bind (aa6 u0 (λz0=>XV z0 id)) λy1=>bif decide (y1<0)then some ((⟨0,0,0,0,0,0,0,([]:Str),([]:Str),(⟨0,0,0⟩:Origin)⟩:Opn),false)else(Option.bind (ix u0 y1) λx4=>some (x4,true))
theorem cN6{u0:List Opn}{S9:List Int}{U0:List Branch}{P9:List Came}{m1:List (Str×Int)}{id:Int}{r:Opn×Bool}(hF:XW u0 S9 U0 P9 m1 id=some r):fD prog Gw 150 [.pm 0 0 0,.c (I id)] [(0,.varx [.sl 12 (u0.map F7),.sl 1 (S9.map F5),.sl 6 (U0.map G8),.sl 4 (P9.map J7),.mr 1 0]),(0,.map (U2 Y4 eInt m1))] (.c (.P7 [.agg (F7 r.1),B r.2])) [(0,.varx [.sl 12 (u0.map F7),.sl 1 (S9.map F5),.sl 6 (U0.map G8),.sl 4 (P9.map J7),.mr 1 0]),(0,.map (U2 Y4 eInt m1))]:=by
 refine rX L8 mixed func150 (by decide) rfl (H6 rfl) rfl ?_;refine l9 ?_;refine l9 ?_;refine l9 ?_;refine l9 ?_;refine l9 ?_;refine D7 hF λy1 h2 hF=>?_;refine l9 ⟨_,bR0 (λ_ _ h=>cN5 h) h2,rfl,?_⟩;refine C9 (λh3=>?_) (λh3=>?_)
 .have hF:=D6 h3 hF;refine l9 ?_;refine W9 (p:=λr=>aH tab _ 2 (.c (.P7 [.agg (F7 r.1),B r.2])) [(0,.varx [.sl 12 (u0.map F7),.sl 1 (S9.map F5),.sl 6 (U0.map G8),.sl 4 (P9.map J7),.mr 1 0]),(0,.map (U2 Y4 eInt m1))] _) hF ?_;exact⟨[(4294967296,0),(4295032832,0)],[0,0],rfl,rfl,rfl⟩
 .have hF:=D5 h3 hF;refine l9 ?_;refine l9 ?_;refine l9 ?_;refine D7 hF λx4 h5 hF=>?_;refine⟨V9 h5,.inl rfl,_,Y0 F7 h5,?_⟩;refine W9 (p:=λr=>aH tab _ 2 (.c (.P7 [.agg (F7 r.1),B r.2])) [(0,.varx [.sl 12 (u0.map F7),.sl 1 (S9.map F5),.sl 6 (U0.map G8),.sl 4 (P9.map J7),.mr 1 0]),(0,.map (U2 Y4 eInt m1))] _) hF ?_;exact⟨[(4294967296,0),(4295032832,0)],[0,0],rfl,rfl,rfl⟩
def aK7:{p:Array Nat×Code×Code // (uZ (Tryz.f151.body.getD .skip))[0]?=some p}:=⟨(_,_,_),rfl⟩
def aK6(R:Loop):Prop:=R.params=aK7.1.1/\R.assign=aK7.1.2.1/\R.body=aK7.1.2.2/\R.tmps.size=18
theorem bw3{R:Loop}(h:aK6 R):2=R.params.size:=by rw[h.1];rfl
def aK8(u1:Int)(u2:Bool)(a12:Int)(nC:Opn):Option (Bool×Bool):=bif (nC.ID==u1)then some (false,true)else some (true,u2)
theorem bw2{u1:Int}{u2:Bool}{a12:Int}{nC:Opn}{r:Bool×Bool}{l:Nat}{R:Loop}(hR:aK6 R)(hF:aK8 u1 u2 a12 nC=some r):NJ prog Gw l R (jA [(3,.pm 1 0 0),(4,.pm 2 0 0)] 18 0) [.c (I a12),.c (.agg [I nC.ID,I nC.Day,I nC.Kind,I nC.Unit,I nC.Parent,I nC.Before,I nC.Level,S nC.Title,S nC.Mark,I nC.Origin.aK,I nC.Origin.U3,I nC.Origin.Number])] [(0,.lp l R .on),(0,.var [I u1]),(0,.var [B u2])] (.c (.v (.bool r.1))) [(0,.lp l R (mJ r.1 .ret)),(0,.var [I u1]),(0,.var [B r.2])]:=by
 refine ai3 [] L8 mixed 0 hR.1 hR.2.1 hR.2.2.1 hR.2.2.2 rfl ?_;refine l9 ?_;refine⟨rfl,?_⟩;refine C9 (λh1=>?_) (λh1=>?_)
 .have hF:=D6 h1 hF;refine W9 (p:=λr=>wX [] 0 l R 3 (.c (.v (.bool r.1))) [(0,.lp l R (mJ r.1 .ret)),(0,.var [I u1]),(0,.var [B r.2])] (.off .ret) false _) hF ?_;exact⟨rfl,rfl,[(4294967296,0),(4295032832,0),(4295098368,0)],[0,0,0],rfl,rfl⟩
 .have hF:=D5 h1 hF;refine W9 (p:=λr=>wX [] 0 l R 3 (.c (.v (.bool r.1))) [(0,.lp l R (mJ r.1 .ret)),(0,.var [I u1]),(0,.var [B r.2])] .on true _) hF ?_;exact⟨rfl,rfl,[(4294967296,0),(4295032832,0),(4295098368,0)],[0,0,0],rfl,rfl⟩
def AY(u1:Int)(u3:List Opn)(v2:List (Int×Bool)):Nat->Int->Bool->Option (Bool×Bool)
 |0,_,_=>none
 |bH+1,v9,nV=>bif decide (v9<((u3.map F7).length:Int))then(Option.bind (ix u3 v9) λx12=>bif (x12.Kind !=6)then(Option.bind (uV v2 x12.ID false) λfJ=>bif (!fJ)then(Option.bind (aK8 u1 nV v9 x12) λlD=>bif lD.1 then AY u1 u3 v2 bH (IntKind.i64.wrap (v9+1)) lD.2 else some (false,lD.2))else AY u1 u3 v2 bH (IntKind.i64.wrap (v9+1)) nV)else AY u1 u3 v2 bH (IntKind.i64.wrap (v9+1)) nV)else some (true,nV)
def FM(u1:Int)(u2:Bool)(u3:List Opn)(N:Nat):Nat->Int->List (Int×Bool)->Option (Bool×Bool)
 |0,_,_=>none
 |fu1+1,v1,v2=>bif decide (v1<((u3.map F7).length:Int))then(Option.bind (ix u3 v1) λx4=>bif (x4.Kind==6)then(Option.bind (uV v2 x4.Unit false) λy7=>FM u1 u2 u3 N fu1 (IntKind.i64.wrap (v1+1)) (bZ v2 x4.Unit (!y7)))else FM u1 u2 u3 N fu1 (IntKind.i64.wrap (v1+1)) v2)else AY u1 u3 v2 N 0 u2
def b65(N:Nat)(u1:Int)(u2:Bool)(u3:List Opn):Option (Bool×Bool):=FM u1 u2 u3 N N 0 ([]:List (Int×Bool))
theorem dv5{N:Nat}{u1:Int}{u2:Bool}{u3:List Opn}{r:Bool×Bool}{l:Nat}{R:Loop}(hR:aK6 R)(hF:b65 N u1 u2 u3=some r):fD prog Gw 71 [.Q7 (.yl l R.tmps.toList) (jA [(3,.pm 1 0 0),(4,.pm 2 0 0)] 18 0),.pm 3 0 0] [(0,.lp l R .on),(0,.var [I u1]),(0,.var [B u2]),(0,.var [.sl 12 (u3.map F7)])] (.c (.P7 [])) [(0,.lp l R (mJ r.1 .ret)),(0,.var [I u1]),(0,.var [B r.2]),(0,.var [.sl 12 (u3.map F7)])]:=by
 refine rX L8 mixed func71 (by decide) rfl (H6 rfl) rfl ?_;refine H9 ⟨[],0,_,_,_,_,rfl,rfl,ai1,rfl,?_⟩;refine dX (λp:Nat×Int×(List (Int×Bool))=>[(0,.Q7 (.yl l R.tmps.toList) (jA [(3,.pm 4295032832 0 0),(4,.pm 4295098368 0 0)] 18 0)),(1,.pm 4295163904 0 0),(3,.mr 8 0),(9,.c (.sl 12 (u3.map F7))),(10,.c (I ((u3.map F7).length:Int))),(11,.c (I p.2.1))]) (λp:Nat×Int×(List (Int×Bool))=>[(4294967296,.lp l R .on),(4295032832,.var [I u1]),(4295098368,.var [B u2]),(4295163904,.var [.sl 12 (u3.map F7)]),(8,.map (U2 (zG .i64) nH p.2.2))]) (λp=>FM u1 u2 u3 N p.1 p.2.1 p.2.2=some r) (λp=>p.1) (N,0,([]:List (Int×Bool))) hF ⟨rfl,rfl,rfl,rfl,rfl,rfl,trivial⟩ ⟨rfl,rfl,rfl,rfl,rfl,trivial⟩ ?_;rintro⟨fu1,v1,v2⟩ hF;cases fu1 with
 |zero=>exact nomatch hF
 |succ fu1=>
  refine J9 ?_;refine C9 (λh3=>?_) (λh3=>?_)
  .have hF:=D6 h3 hF;refine J9 ?_;refine D7 hF λx4 h5 hF=>?_;refine⟨V9 h5,.inl rfl,_,Y0 F7 h5,?_⟩;refine l9 ?_;refine C9 (λh6=>?_) (λh6=>?_)
   .have hF:=D6 h6 hF;refine D7 hF λy7 h8 hF=>?_;refine H9 ⟨[(8,0)],0,_,_,_,_,rfl,rfl,PE (ev:=nH) (z:=false) (m:=v2) (x:=x4.Unit) AQ.u rE.u (uS .i64) UC rfl h8,rfl,?_⟩;refine H9 ⟨[(8,0)],0,_,_,_,_,rfl,rfl,JA (ev:=nH) (m:=v2) (x:=x4.Unit) (v:=(!y7)) AQ.u rE.u (uS .i64),rfl,?_⟩;exact⟨(fu1,(IntKind.i64.wrap (v1+1)),(bZ v2 x4.Unit (!y7))),X8 _,hF,⟨rfl,rfl,rfl,rfl,rfl,rfl,trivial⟩,⟨rfl,rfl,rfl,rfl,rfl,trivial⟩⟩
   .have hF:=D5 h6 hF;exact⟨(fu1,(IntKind.i64.wrap (v1+1)),v2),X8 _,hF,⟨rfl,rfl,rfl,rfl,rfl,rfl,trivial⟩,⟨rfl,rfl,rfl,rfl,rfl,trivial⟩⟩
  .have hF:=D5 h3 hF;refine dX (λp:Nat×Int×Bool=>[(0,.Q7 (.yl l R.tmps.toList) (jA [(3,.pm 4295032832 0 0),(4,.pm 4295098368 0 0)] 18 0)),(3,.mr 8 0),(27,.c (.sl 12 (u3.map F7))),(28,.c (I ((u3.map F7).length:Int))),(29,.c (I p.2.1))]) (λp:Nat×Int×Bool=>[(4294967296,.lp l R .on),(4295032832,.var [I u1]),(4295098368,.var [B p.2.2]),(8,.map (U2 (zG .i64) nH v2)),(4295163904,.var [.sl 12 (u3.map F7)])]) (λp=>AY u1 u3 v2 p.1 p.2.1 p.2.2=some r) (λp=>p.1) (N,0,u2) hF ⟨rfl,rfl,rfl,rfl,rfl,trivial⟩ ⟨rfl,rfl,rfl,rfl,rfl,trivial⟩ ?_;rintro⟨bH,v9,nV⟩ hF;cases bH with
   |zero=>exact nomatch hF
   |succ bH=>
    refine J9 ?_;refine C9 (λh11=>?_) (λh11=>?_)
    .have hF:=D6 h11 hF;refine J9 ?_;refine D7 hF λx12 h13 hF=>?_;refine⟨V9 h13,.inl rfl,_,Y0 F7 h13,?_⟩;refine l9 ?_;refine J9 ?_;refine C9 (λaF=>?_) (λaF=>?_)
     .have hF:=D6 aF hF;refine D7 hF λfJ h16 hF=>?_;refine H9 ⟨[(8,0)],0,_,_,_,_,rfl,rfl,PE (ev:=nH) (z:=false) (m:=v2) (x:=x12.ID) AQ.u rE.u (uS .i64) UC rfl h16,rfl,?_⟩;refine C9 (λh17=>?_) (λh17=>?_)
      .have hF:=D6 h17 hF;refine D7 hF λlD h19 hF=>?_;rcases lD with⟨_|_,y20⟩
       .have hF:=D5 rfl hF;refine H9 ⟨[(4294967296,0),(4295032832,0),(4295098368,0)],0,_,_,_,_,rfl,rfl,PG rfl 0 rfl (bw3 hR) (bw2 hR h19),rfl,?_⟩;refine C9 (λh21=>?_) (λh21=>?_)
        .skip
         refine W9 (p:=λr=>aH tab _ 4 (.c (.P7 [])) [(0,.lp l R (mJ r.1 .ret)),(0,.var [I u1]),(0,.var [B r.2]),(0,.var [.sl 12 (u3.map F7)])] _) hF ?_;exact⟨[(4294967296,0),(4295032832,0),(4295098368,0),(4295163904,0)],[0,0,0,0],rfl,rfl,rfl⟩
        .exact absurd h21 (by simp)
       .have hF:=D6 rfl hF;refine H9 ⟨[(4294967296,0),(4295032832,0),(4295098368,0)],0,_,_,_,_,rfl,rfl,PG rfl 0 rfl (bw3 hR) (bw2 hR h19),rfl,?_⟩;refine C9 (λh22=>?_) (λh22=>?_)
        .exact absurd h22 (by simp)
        .skip
         exact⟨(bH,(IntKind.i64.wrap (v9+1)),y20),X8 _,hF,⟨rfl,rfl,rfl,rfl,rfl,trivial⟩,⟨rfl,rfl,rfl,rfl,rfl,trivial⟩⟩
      .have hF:=D5 h17 hF;exact⟨(bH,(IntKind.i64.wrap (v9+1)),nV),X8 _,hF,⟨rfl,rfl,rfl,rfl,rfl,trivial⟩,⟨rfl,rfl,rfl,rfl,rfl,trivial⟩⟩
     .have hF:=D5 aF hF;exact⟨(bH,(IntKind.i64.wrap (v9+1)),nV),X8 _,hF,⟨rfl,rfl,rfl,rfl,rfl,trivial⟩,⟨rfl,rfl,rfl,rfl,rfl,trivial⟩⟩
    .have hF:=D5 h11 hF;refine W9 (p:=λr=>aH tab _ 4 (.c (.P7 [])) [(0,.lp l R (mJ r.1 .ret)),(0,.var [I u1]),(0,.var [B r.2]),(0,.var [.sl 12 (u3.map F7)])] _) hF ?_;exact⟨[(4294967296,0),(4295032832,0),(4295098368,0),(4295163904,0)],[0,0,0,0],rfl,rfl,rfl⟩
abbrev dv6:=b65 1000
abbrev dv7:=@dv5 1000
def al3(u0:List Opn)(S9:List Int)(U0:List Branch)(P9:List Came)(m1:List (Str×Int))(id:Int):Option (Bool):=Option.bind (dv6 id false u0) λy1=>bif y1.1 then some (false)else some (y1.2)
theorem cM4{u0:List Opn}{S9:List Int}{U0:List Branch}{P9:List Came}{m1:List (Str×Int)}{id:Int}{r:Bool}(hF:al3 u0 S9 U0 P9 m1 id=some r):fD prog Gw 151 [.pm 0 0 0,.c (I id)] [(0,.varx [.sl 12 (u0.map F7),.sl 1 (S9.map F5),.sl 6 (U0.map G8),.sl 4 (P9.map J7),.mr 1 0]),(0,.map (U2 Y4 eInt m1))] (.c (B r)) [(0,.varx [.sl 12 (u0.map F7),.sl 1 (S9.map F5),.sl 6 (U0.map G8),.sl 4 (P9.map J7),.mr 1 0]),(0,.map (U2 Y4 eInt m1))]:=by
 refine rX L8 mixed func151 (by decide) rfl (H6 rfl) rfl ?_;refine l9 ?_;refine l9 ?_;refine l9 ?_;refine l9 ?_;refine l9 ?_;refine H9 (H9 ⟨[],0,_,_,_,_,rfl,rfl,lK rfl (H9 ⟨_,rfl,rfl⟩) aZ7,rfl,?_⟩);refine D7 hF λy1 h2 hF=>?_;refine YU.mk ?_;refine⟨60000,jA [(3,.pm 3 1 0),(4,.pm 4 1 0)] 18 0,_,_,l9 rfl,rfl,(by refine WG ?_ 18 0;exact⟨rfl,rfl,trivial⟩),λl R hp ha hb hn=>⟨[(60000,1),(3,1),(4,1),(11,1)],0,_,_,_,_,rfl,rfl,dv7 ⟨hp,ha,hb,hn⟩ h2,rfl,_,y1.1,.ret,rfl,λh3=>?_,λh3=>?_⟩⟩
 .have hF:=D6 h3 hF;refine W9 (p:=λr=>aH tab _ 2 (.c (B r)) [(0,.varx [.sl 12 (u0.map F7),.sl 1 (S9.map F5),.sl 6 (U0.map G8),.sl 4 (P9.map J7),.mr 1 0]),(0,.map (U2 Y4 eInt m1))] _) hF ?_;exact⟨[(4294967296,0),(4295032832,0)],[0,0],rfl,rfl,rfl⟩
 .have hF:=D5 h3 hF;refine W9 (p:=λr=>aH tab _ 2 (.c (B r)) [(0,.varx [.sl 12 (u0.map F7),.sl 1 (S9.map F5),.sl 6 (U0.map G8),.sl 4 (P9.map J7),.mr 1 0]),(0,.map (U2 Y4 eInt m1))] _) hF ?_;exact⟨[(4294967296,0),(4295032832,0)],[0,0],rfl,rfl,rfl⟩
def KJ(u0:List Opn)(S9:List Int)(U0:List Branch)(P9:List Came)(m1:List (Str×Int))(o:Opn)(v31:Bool):Option (Int):=bif v31 then some (21)else(bif (o.Kind==6)then(Option.bind (XW u0 S9 U0 P9 m1 o.Unit) λy34=>bif (!y34.2)then some (7)else(bif (y34.1.Kind==1)then(bif (y34.1.Origin.U3 !=0)then(Option.bind (al3 u0 S9 U0 P9 m1 y34.1.ID) λy39=>bif y39 then some (21)else some (0))else some (0))else some (0)))else some (0))
def QC(u0:List Opn)(S9:List Int)(U0:List Branch)(P9:List Came)(m1:List (Str×Int))(o:Opn)(bP:Origin×Bool)(v27:Bool):Option (Int):=bif v27 then some (19)else(bif (o.Kind==5)then(bif bP.2 then KJ u0 S9 U0 P9 m1 o (bP.1.U3 !=0)else KJ u0 S9 U0 P9 m1 o false)else KJ u0 S9 U0 P9 m1 o false)
def KH(u0:List Opn)(S9:List Int)(U0:List Branch)(P9:List Came)(m1:List (Str×Int))(o:Opn)(y1:Int×Bool)(bP:Origin×Bool):Option (Int):=Option.bind (xB o) λy23=>bif y23 then(bif y1.2 then QC u0 S9 U0 P9 m1 o bP (y1.1 !=o.Unit)else QC u0 S9 U0 P9 m1 o bP false)else QC u0 S9 U0 P9 m1 o bP false
def XU(u0:List Opn)(S9:List Int)(U0:List Branch)(P9:List Came)(m1:List (Str×Int))(o:Opn)(y1:Int×Bool)(bP:Origin×Bool)(v17:Bool):Option (Int):=bif v17 then some (6)else(bif (o.Kind==1)then(Option.bind (an4 P9 (⟨o.Unit,o.Origin⟩:Came)) λy20=>bif (y20.2 !=0)then some (y20.2)else KH u0 S9 U0 P9 m1 o y1 bP)else KH u0 S9 U0 P9 m1 o y1 bP)
def KG(u0:List Opn)(S9:List Int)(U0:List Branch)(P9:List Came)(m1:List (Str×Int))(o:Opn)(y1:Int×Bool):Option (Int):=Option.bind (an5 P9 o.Unit) λbP=>bif (o.Kind==1)then XU u0 S9 U0 P9 m1 o y1 bP bP.2 else XU u0 S9 U0 P9 m1 o y1 bP false
def EF(u0:List Opn)(S9:List Int)(U0:List Branch)(P9:List Came)(m1:List (Str×Int))(o:Opn):Option (Int):=Option.bind (al9 m1 o.Mark 0) λy1=>bif decide (((u0.map F7).length:Int)>=512)then some (8)else(Option.bind (ES o) λy4=>bif (y4 !=0)then some (1)else(bif decide (((u0.map F7).length:Int)>0)then(Option.bind (ix u0 (IntKind.i64.wrap (((u0.map F7).length:Int)-1))) λx8=>bif decide (o.ID<=x8.ID)then some (5)else(Option.bind (ix u0 (IntKind.i64.wrap (((u0.map F7).length:Int)-1))) λx11=>bif decide (o.Day<x11.Day)then some (5)else KG u0 S9 U0 P9 m1 o y1))else KG u0 S9 U0 P9 m1 o y1))
theorem cN3{u0:List Opn}{S9:List Int}{U0:List Branch}{P9:List Came}{m1:List (Str×Int)}{o:Opn}{r:Int}(hF:EF u0 S9 U0 P9 m1 o=some r):fD prog Gw 89 [.pm 0 0 0,.c (.agg [I o.ID,I o.Day,I o.Kind,I o.Unit,I o.Parent,I o.Before,I o.Level,S o.Title,S o.Mark,I o.Origin.aK,I o.Origin.U3,I o.Origin.Number])] [(0,.varx [.sl 12 (u0.map F7),.sl 1 (S9.map F5),.sl 6 (U0.map G8),.sl 4 (P9.map J7),.mr 1 0]),(0,.map (U2 Y4 eInt m1))] (.c (I r)) [(0,.varx [.sl 12 (u0.map F7),.sl 1 (S9.map F5),.sl 6 (U0.map G8),.sl 4 (P9.map J7),.mr 1 0]),(0,.map (U2 Y4 eInt m1))]:=by
 refine rX L8 mixed func89 (by decide) rfl (H6 rfl) rfl ?_;refine l9 ?_;refine l9 ?_;refine l9 ?_;refine l9 ?_;refine l9 ?_;refine l9 ?_;refine l9 ?_;refine D7 hF λy1 h2 hF=>?_;refine H9 ⟨[(4295032832,0)],0,_,_,_,_,rfl,rfl,cw2 (ev:=eInt) (z:=0) (m:=m1) (x:=o.Mark) ab9.u ac0.u XT rE rfl h2,rfl,?_⟩;refine C9 (by kernel_rfl) ?_;refine KD (λp:Unit=>[(0,.pm 4294967296 0 0),(3,.pm 3 0 0),(6,.c (I y1.1)),(7,.c (B y1.2))]) (λp:Unit=>[(4294967296,.varx [.sl 12 (u0.map F7),.sl 1 (S9.map F5),.sl 6 (U0.map G8),.sl 4 (P9.map J7),.mr 4295032832 0]),(3,.var [I o.ID,I o.Day,I o.Kind,I o.Unit,I o.Parent,I o.Before,I o.Level,S o.Title,S o.Mark,I o.Origin.aK,I o.Origin.U3,I o.Origin.Number]),(4295032832,.map (U2 Y4 eInt m1))]) (λp=>KG u0 S9 U0 P9 m1 o y1=some r) ?_ ?_
 .intro _ hF;refine l9 ?_;refine l9 ?_;refine l9 ?_;refine D7 hF λbP h15 hF=>?_;refine l9 ⟨_,c22 h15,rfl,?_⟩;refine l9 ?_;refine C9 (by kernel_rfl) ?_;refine KD (λp:Unit=>[(0,.pm 4294967296 0 0),(3,.pm 3 0 0),(6,.c (I y1.1)),(7,.c (B y1.2)),(8,.pm 8 0 0),(9,.c (B bP.2))]) (λp:Unit=>[(4294967296,.varx [.sl 12 (u0.map F7),.sl 1 (S9.map F5),.sl 6 (U0.map G8),.sl 4 (P9.map J7),.mr 4295032832 0]),(3,.var [I o.ID,I o.Day,I o.Kind,I o.Unit,I o.Parent,I o.Before,I o.Level,S o.Title,S o.Mark,I o.Origin.aK,I o.Origin.U3,I o.Origin.Number]),(8,.var [I bP.1.aK,I bP.1.U3,I bP.1.Number]),(4295032832,.map (U2 Y4 eInt m1))]) (λp=>KH u0 S9 U0 P9 m1 o y1 bP=some r) ?_ ?_
  .intro _ hF;refine J9 ?_;refine KD (λp:Bool=>[(0,.pm 4294967296 0 0),(3,.pm 3 0 0),(8,.pm 8 0 0),(9,.c (B bP.2)),(104,.c (B p))]) (λp:Bool=>[(4294967296,.varx [.sl 12 (u0.map F7),.sl 1 (S9.map F5),.sl 6 (U0.map G8),.sl 4 (P9.map J7),.mr 4295032832 0]),(3,.var [I o.ID,I o.Day,I o.Kind,I o.Unit,I o.Parent,I o.Before,I o.Level,S o.Title,S o.Mark,I o.Origin.aK,I o.Origin.U3,I o.Origin.Number]),(8,.var [I bP.1.aK,I bP.1.U3,I bP.1.Number]),(4295032832,.map (U2 Y4 eInt m1))]) (λp=>QC u0 S9 U0 P9 m1 o bP p=some r) ?_ ?_
   .intro v27 hF;refine C9 (λh28=>?_) (λh28=>?_)
    .have hF:=D6 h28 hF;refine W9 (p:=λr=>aH tab _ 2 (.c (I r)) [(0,.varx [.sl 12 (u0.map F7),.sl 1 (S9.map F5),.sl 6 (U0.map G8),.sl 4 (P9.map J7),.mr 1 0]),(0,.map (U2 Y4 eInt m1))] _) hF ?_;exact⟨[(4294967296,0),(4295032832,0)],[0,0],rfl,rfl,rfl⟩
    .have hF:=D5 h28 hF;refine KD (λp:Bool=>[(0,.pm 4294967296 0 0),(3,.pm 3 0 0),(116,.c (B p))]) (λp:Bool=>[(4294967296,.varx [.sl 12 (u0.map F7),.sl 1 (S9.map F5),.sl 6 (U0.map G8),.sl 4 (P9.map J7),.mr 4295032832 0]),(3,.var [I o.ID,I o.Day,I o.Kind,I o.Unit,I o.Parent,I o.Before,I o.Level,S o.Title,S o.Mark,I o.Origin.aK,I o.Origin.U3,I o.Origin.Number]),(4295032832,.map (U2 Y4 eInt m1))]) (λp=>KJ u0 S9 U0 P9 m1 o p=some r) ?_ ?_
     .intro v31 hF;refine C9 (λh32=>?_) (λh32=>?_)
      .have hF:=D6 h32 hF;refine W9 (p:=λr=>aH tab _ 2 (.c (I r)) [(0,.varx [.sl 12 (u0.map F7),.sl 1 (S9.map F5),.sl 6 (U0.map G8),.sl 4 (P9.map J7),.mr 1 0]),(0,.map (U2 Y4 eInt m1))] _) hF ?_;exact⟨[(4294967296,0),(4295032832,0)],[0,0],rfl,rfl,rfl⟩
      .have hF:=D5 h32 hF;refine C9 (λJQ=>?_) (λJQ=>?_)
       .have hF:=D6 JQ hF;refine D7 hF λy34 h35 hF=>?_;refine H9 (H9 ⟨[(4294967296,0),(4295032832,0)],0,_,_,_,_,rfl,rfl,lK rfl (H9 ⟨_,rfl,rfl⟩) (cN6 h35),rfl,?_⟩);refine l9 ?_;refine C9 (λh36=>?_) (λh36=>?_)
        .have hF:=D6 h36 hF;refine W9 (p:=λr=>aH tab _ 2 (.c (I r)) [(0,.varx [.sl 12 (u0.map F7),.sl 1 (S9.map F5),.sl 6 (U0.map G8),.sl 4 (P9.map J7),.mr 1 0]),(0,.map (U2 Y4 eInt m1))] _) hF ?_;exact⟨[(4294967296,0),(4295032832,0)],[0,0],rfl,rfl,rfl⟩
        .have hF:=D5 h36 hF;refine J9 ?_;refine C9 (λh37=>?_) (λh37=>?_)
         .have hF:=D6 h37 hF;refine C9 (λh38=>?_) (λh38=>?_)
          .have hF:=D6 h38 hF;refine D7 hF λy39 WT hF=>?_;refine H9 (H9 ⟨[(4294967296,0),(4295032832,0)],0,_,_,_,_,rfl,rfl,lK rfl (H9 ⟨_,rfl,rfl⟩) (cM4 WT),rfl,?_⟩);refine C9 (λuK=>?_) (λuK=>?_)
           .have hF:=D6 uK hF;refine W9 (p:=λr=>aH tab _ 2 (.c (I r)) [(0,.varx [.sl 12 (u0.map F7),.sl 1 (S9.map F5),.sl 6 (U0.map G8),.sl 4 (P9.map J7),.mr 1 0]),(0,.map (U2 Y4 eInt m1))] _) hF ?_;exact⟨[(4294967296,0),(4295032832,0)],[0,0],rfl,rfl,rfl⟩
           .have hF:=D5 uK hF;refine W9 (p:=λr=>aH tab _ 2 (.c (I r)) [(0,.varx [.sl 12 (u0.map F7),.sl 1 (S9.map F5),.sl 6 (U0.map G8),.sl 4 (P9.map J7),.mr 1 0]),(0,.map (U2 Y4 eInt m1))] _) hF ?_;exact⟨[(4294967296,0),(4295032832,0)],[0,0],rfl,rfl,rfl⟩
          .have hF:=D5 h38 hF;refine W9 (p:=λr=>aH tab _ 2 (.c (I r)) [(0,.varx [.sl 12 (u0.map F7),.sl 1 (S9.map F5),.sl 6 (U0.map G8),.sl 4 (P9.map J7),.mr 1 0]),(0,.map (U2 Y4 eInt m1))] _) hF ?_;exact⟨[(4294967296,0),(4295032832,0)],[0,0],rfl,rfl,rfl⟩
         .have hF:=D5 h37 hF;refine W9 (p:=λr=>aH tab _ 2 (.c (I r)) [(0,.varx [.sl 12 (u0.map F7),.sl 1 (S9.map F5),.sl 6 (U0.map G8),.sl 4 (P9.map J7),.mr 1 0]),(0,.map (U2 Y4 eInt m1))] _) hF ?_;exact⟨[(4294967296,0),(4295032832,0)],[0,0],rfl,rfl,rfl⟩
       .have hF:=D5 JQ hF;refine W9 (p:=λr=>aH tab _ 2 (.c (I r)) [(0,.varx [.sl 12 (u0.map F7),.sl 1 (S9.map F5),.sl 6 (U0.map G8),.sl 4 (P9.map J7),.mr 1 0]),(0,.map (U2 Y4 eInt m1))] _) hF ?_;exact⟨[(4294967296,0),(4295032832,0)],[0,0],rfl,rfl,rfl⟩
     .show bU _ _ _ _ _ _;refine C9 (λqJ=>?_) (λqJ=>?_)
      .have hF:=D6 qJ hF;refine C9 (λh30=>?_) (λh30=>?_)
       .have hF:=D6 h30 hF;exact⟨(bP.1.U3 !=0),hF,⟨rfl,rfl,rfl,trivial⟩,⟨rfl,rfl,rfl,trivial⟩⟩
       .have hF:=D5 h30 hF;exact⟨false,hF,⟨rfl,rfl,rfl,trivial⟩,⟨rfl,rfl,rfl,trivial⟩⟩
      .have hF:=D5 qJ hF;exact⟨false,hF,⟨rfl,rfl,rfl,trivial⟩,⟨rfl,rfl,rfl,trivial⟩⟩
   .show bU _ _ _ _ _ _;refine D7 hF λy23 DT hF=>?_;refine l9 ⟨_,ac3 DT,rfl,?_⟩;refine C9 (λmF=>?_) (λmF=>?_)
    .have hF:=D6 mF hF;refine C9 (λqI=>?_) (λqI=>?_)
     .have hF:=D6 qI hF;exact⟨(y1.1 !=o.Unit),hF,⟨rfl,rfl,rfl,rfl,rfl,trivial⟩,⟨rfl,rfl,rfl,rfl,trivial⟩⟩
     .have hF:=D5 qI hF;exact⟨false,hF,⟨rfl,rfl,rfl,rfl,rfl,trivial⟩,⟨rfl,rfl,rfl,rfl,trivial⟩⟩
    .have hF:=D5 mF hF;exact⟨false,hF,⟨rfl,rfl,rfl,rfl,rfl,trivial⟩,⟨rfl,rfl,rfl,rfl,trivial⟩⟩
  .show bU _ _ _ _ _ _;refine KD (λp:Bool=>[(0,.pm 4294967296 0 0),(3,.pm 3 0 0),(6,.c (I y1.1)),(7,.c (B y1.2)),(8,.pm 8 0 0),(9,.c (B bP.2)),(77,.c (B p))]) (λp:Bool=>[(4294967296,.varx [.sl 12 (u0.map F7),.sl 1 (S9.map F5),.sl 6 (U0.map G8),.sl 4 (P9.map J7),.mr 4295032832 0]),(3,.var [I o.ID,I o.Day,I o.Kind,I o.Unit,I o.Parent,I o.Before,I o.Level,S o.Title,S o.Mark,I o.Origin.aK,I o.Origin.U3,I o.Origin.Number]),(8,.var [I bP.1.aK,I bP.1.U3,I bP.1.Number]),(4295032832,.map (U2 Y4 eInt m1))]) (λp=>XU u0 S9 U0 P9 m1 o y1 bP p=some r) ?_ ?_
   .intro v17 hF;refine C9 (λh18=>?_) (λh18=>?_)
    .have hF:=D6 h18 hF;refine W9 (p:=λr=>aH tab _ 2 (.c (I r)) [(0,.varx [.sl 12 (u0.map F7),.sl 1 (S9.map F5),.sl 6 (U0.map G8),.sl 4 (P9.map J7),.mr 1 0]),(0,.map (U2 Y4 eInt m1))] _) hF ?_;exact⟨[(4294967296,0),(4295032832,0)],[0,0],rfl,rfl,rfl⟩
    .have hF:=D5 h18 hF;refine C9 (λh19=>?_) (λh19=>?_)
     .have hF:=D6 h19 hF;refine l9 ?_;refine l9 ?_;refine l9 ?_;refine l9 ?_;refine D7 hF λy20 h21 hF=>?_;refine l9 ⟨_,c05 h21,rfl,?_⟩;refine C9 (by kernel_rfl) ?_;refine C9 (λh22=>?_) (λh22=>?_)
      .have hF:=D6 h22 hF;refine W9 (p:=λr=>aH tab _ 2 (.c (I r)) [(0,.varx [.sl 12 (u0.map F7),.sl 1 (S9.map F5),.sl 6 (U0.map G8),.sl 4 (P9.map J7),.mr 1 0]),(0,.map (U2 Y4 eInt m1))] _) hF ?_;exact⟨[(4294967296,0),(4295032832,0)],[0,0],rfl,rfl,rfl⟩
      .have hF:=D5 h22 hF;exact⟨(),hF,⟨rfl,rfl,rfl,rfl,rfl,rfl,trivial⟩,⟨rfl,rfl,rfl,rfl,trivial⟩⟩
     .have hF:=D5 h19 hF;exact⟨(),hF,⟨rfl,rfl,rfl,rfl,rfl,rfl,trivial⟩,⟨rfl,rfl,rfl,rfl,trivial⟩⟩
   .show bU _ _ _ _ _ _;refine C9 (λh16=>?_) (λh16=>?_)
    .have hF:=D6 h16 hF;exact⟨bP.2,hF,⟨rfl,rfl,rfl,rfl,rfl,rfl,rfl,trivial⟩,⟨rfl,rfl,rfl,rfl,trivial⟩⟩
    .have hF:=D5 h16 hF;exact⟨false,hF,⟨rfl,rfl,rfl,rfl,rfl,rfl,rfl,trivial⟩,⟨rfl,rfl,rfl,rfl,trivial⟩⟩
 .show bU _ _ _ _ _ _;refine C9 (λh3=>?_) (λh3=>?_)
  .have hF:=D6 h3 hF;refine W9 (p:=λr=>aH tab _ 2 (.c (I r)) [(0,.varx [.sl 12 (u0.map F7),.sl 1 (S9.map F5),.sl 6 (U0.map G8),.sl 4 (P9.map J7),.mr 1 0]),(0,.map (U2 Y4 eInt m1))] _) hF ?_;exact⟨[(4294967296,0),(4295032832,0)],[0,0],rfl,rfl,rfl⟩
  .have hF:=D5 h3 hF;refine D7 hF λy4 h5 hF=>?_;refine l9 ⟨_,c61 h5,rfl,?_⟩;refine C9 (λh6=>?_) (λh6=>?_)
   .have hF:=D6 h6 hF;refine W9 (p:=λr=>aH tab _ 2 (.c (I r)) [(0,.varx [.sl 12 (u0.map F7),.sl 1 (S9.map F5),.sl 6 (U0.map G8),.sl 4 (P9.map J7),.mr 1 0]),(0,.map (U2 Y4 eInt m1))] _) hF ?_;exact⟨[(4294967296,0),(4295032832,0)],[0,0],rfl,rfl,rfl⟩
   .have hF:=D5 h6 hF;refine J9 ?_;refine C9 (λh7=>?_) (λh7=>?_)
    .have hF:=D6 h7 hF;refine l9 ?_;refine l9 ?_;refine l9 ?_;refine D7 hF λx8 h9 hF=>?_;refine⟨V9 h9,.inl rfl,_,Y0 F7 h9,?_⟩;refine C9 (λh10=>?_) (λh10=>?_)
     .have hF:=D6 h10 hF;refine C9 (by kernel_rfl) ?_;refine W9 (p:=λr=>aH tab _ 2 (.c (I r)) [(0,.varx [.sl 12 (u0.map F7),.sl 1 (S9.map F5),.sl 6 (U0.map G8),.sl 4 (P9.map J7),.mr 1 0]),(0,.map (U2 Y4 eInt m1))] _) hF ?_;exact⟨[(4294967296,0),(4295032832,0)],[0,0],rfl,rfl,rfl⟩
     .have hF:=D5 h10 hF;refine l9 ?_;refine l9 ?_;refine l9 ?_;refine D7 hF λx11 h12 hF=>?_;refine⟨V9 h12,.inl rfl,_,Y0 F7 h12,?_⟩;refine C9 (by kernel_rfl) ?_;refine C9 (λh13=>?_) (λh13=>?_)
      .have hF:=D6 h13 hF;refine W9 (p:=λr=>aH tab _ 2 (.c (I r)) [(0,.varx [.sl 12 (u0.map F7),.sl 1 (S9.map F5),.sl 6 (U0.map G8),.sl 4 (P9.map J7),.mr 1 0]),(0,.map (U2 Y4 eInt m1))] _) hF ?_;exact⟨[(4294967296,0),(4295032832,0)],[0,0],rfl,rfl,rfl⟩
      .have hF:=D5 h13 hF;exact⟨(),hF,⟨rfl,rfl,rfl,rfl,trivial⟩,⟨rfl,rfl,rfl,trivial⟩⟩
    .have hF:=D5 h7 hF;refine C9 (by kernel_rfl) ?_;exact⟨(),hF,⟨rfl,rfl,rfl,rfl,trivial⟩,⟨rfl,rfl,rfl,trivial⟩⟩
abbrev aV2(y:List Opn):CV:=.sl 12 (y.map F7)
def vH(s:List Opn):Option (List Opn):=bif s.isEmpty then KT (some (([]:List Opn))) (bif decide (([]:List Opn).length+s.length<=4294967296)then some ((([]:List Opn)++s))else none)else(bif decide (([]:List Opn).length+s.length<=4294967296)then some ((([]:List Opn)++s))else none)
theorem TG{s:List Opn}{r:List Opn}(hF:vH s=some r):Holds prog Gw 9 [.sl 12 (s.map F7)] (aV2 r):=by
 refine Q9 L8 mixed func9 (by decide) rfl (H6 rfl) ?_;refine H9 ⟨[],0,_,_,_,_,rfl,rfl,JB (e:=33) (ie:=FI) (by decide),rfl,?_⟩;refine aN3 (cf:=F7) hF ?_ ?_
 .intro hF;refine H9 ⟨[],0,_,_,_,_,rfl,rfl,JB (e:=33) (ie:=FI) (by decide),rfl,?_⟩;refine W9 (p:=λr=>qW tab _ (aV2 r) _) hF ?_;exact H9 ⟨rfl,_,rfl,rfl⟩
 .intro hF;refine H9 ⟨[],0,_,_,_,_,rfl,rfl,aC8 ab7.u ab8 (by decide),rfl,?_⟩;refine kU hF λh1 hF=>?_;refine H9 ⟨[(5,1)],0,_,_,_,_,rfl,rfl,IZ (cf:=F7) (l:=([]:List Opn)) (ns:=s) ab7.u ab8 (by decide) (by decide) (λ_=>rfl) h1,rfl,?_⟩;refine W9 (p:=λr=>qW tab _ (aV2 r) _) hF ?_;exact H9 ⟨rfl,_,rfl,rfl⟩
abbrev aV3(y:List Opn):CV:=.wo (.ow 0) [(33,12,y.map F7,none)]
theorem dh1{s:List Opn}{r:List Opn}(hF:vH s=some r):Holds prog Gw 9 [.sl 12 (s.map F7)] (aV3 r):=by
 refine Q9 L8 mixed func9 (by decide) rfl (H6 rfl) ?_;refine H9 ⟨[],0,_,_,_,_,rfl,rfl,JB (e:=33) (ie:=FI) (by decide),rfl,?_⟩;refine aN3 (cf:=F7) hF ?_ ?_
 .intro hF;refine H9 ⟨[],0,_,_,_,_,rfl,rfl,JB (e:=33) (ie:=FI) (by decide),rfl,?_⟩;refine W9 (p:=λr=>qW tab _ (aV3 r) _) hF ?_;exact H9 ⟨[(2,2)],rfl,⟨rfl,rfl⟩,rfl⟩
 .intro hF;refine H9 ⟨[],0,_,_,_,_,rfl,rfl,aC8 ab7.u ab8 (by decide),rfl,?_⟩;refine kU hF λh1 hF=>?_;refine H9 ⟨[(5,1)],0,_,_,_,_,rfl,rfl,IZ (cf:=F7) (l:=([]:List Opn)) (ns:=s) ab7.u ab8 (by decide) (by decide) (λ_=>rfl) h1,rfl,?_⟩;refine W9 (p:=λr=>qW tab _ (aV3 r) _) hF ?_;exact H9 ⟨[(5,2)],rfl,⟨rfl,rfl⟩,rfl⟩
def oP(u0:List Opn)(S9:List Int)(U0:List Branch)(P9:List Came)(m1:List (Str×Int))(o:Opn):Option (Int×Int×(List (Str×Int))×List Opn×List Int×List Branch×List Came):=Option.bind (EF u0 S9 U0 P9 m1 o) λy1=>bif (y1 !=0)then some ((-1),y1,m1,u0,S9,U0,P9)else(Option.bind (vH u0) λy4=>bif decide (y4.length+([o]:List Opn).length<=4294967296)then bif (o.Kind==6)then(Option.bind (a09 (y4++([o]:List Opn))) λy7=>bif (y7.2.2 !=0)then some (y7.2.1,20,m1,u0,S9,U0,P9)else(bif (o.Kind==1)then(Option.bind (aZ8 (y4++([o]:List Opn))) λdD=>Option.bind (xB o) λy13=>bif y13 then some ((-1),0,(bZ m1 o.Mark o.Unit),(y4++([o]:List Opn)),y7.1.O1,y7.1.Branches,dD)else some ((-1),0,m1,(y4++([o]:List Opn)),y7.1.O1,y7.1.Branches,dD))else(Option.bind (xB o) λFY=>bif FY then some ((-1),0,(bZ m1 o.Mark o.Unit),(y4++([o]:List Opn)),y7.1.O1,y7.1.Branches,P9)else some ((-1),0,m1,(y4++([o]:List Opn)),y7.1.O1,y7.1.Branches,P9))))else(Option.bind (oW (⟨S9,U0⟩:Tree) o) λlF=>bif (lF.2 !=0)then some (((u0.map F7).length:Int),lF.2,m1,u0,S9,U0,P9)else(bif (o.Kind==1)then(Option.bind (aZ8 (y4++([o]:List Opn))) λy23=>Option.bind (xB o) λy25=>bif y25 then some ((-1),0,(bZ m1 o.Mark o.Unit),(y4++([o]:List Opn)),lF.1.O1,lF.1.Branches,y23)else some ((-1),0,m1,(y4++([o]:List Opn)),lF.1.O1,lF.1.Branches,y23))else(Option.bind (xB o) λy28=>bif y28 then some ((-1),0,(bZ m1 o.Mark o.Unit),(y4++([o]:List Opn)),lF.1.O1,lF.1.Branches,P9)else some ((-1),0,m1,(y4++([o]:List Opn)),lF.1.O1,lF.1.Branches,P9))))else none)
theorem bw0{u0:List Opn}{S9:List Int}{U0:List Branch}{P9:List Came}{m1:List (Str×Int)}{o:Opn}{r:Int×Int×(List (Str×Int))×List Opn×List Int×List Branch×List Came}(hF:oP u0 S9 U0 P9 m1 o=some r):fD prog Gw 41 [.pm 0 0 0,.c (.agg [I o.ID,I o.Day,I o.Kind,I o.Unit,I o.Parent,I o.Before,I o.Level,S o.Title,S o.Mark,I o.Origin.aK,I o.Origin.U3,I o.Origin.Number])] [(0,.varx [.sl 12 (u0.map F7),.sl 1 (S9.map F5),.sl 6 (U0.map G8),.sl 4 (P9.map J7),.mr 1 0]),(0,.map (U2 Y4 eInt m1))] (.c (.P7 [I r.1,I r.2.1])) [(0,.varx [.sl 12 (r.2.2.2.1.map F7),.sl 1 (r.2.2.2.2.1.map F5),.sl 6 (r.2.2.2.2.2.1.map G8),.sl 4 (r.2.2.2.2.2.2.map J7),.mr 1 0]),(0,.map (U2 Y4 eInt r.2.2.1))]:=by
 refine rX L8 mixed func41 (by decide) rfl (H6 rfl) rfl ?_;refine l9 ?_;refine D7 hF λy1 h2 hF=>?_;refine H9 (H9 ⟨[(4294967296,0),(4295032832,0)],0,_,_,_,_,rfl,rfl,lK rfl (H9 ⟨_,rfl,rfl⟩) (cN3 h2),rfl,?_⟩);refine C9 (λh3=>?_) (λh3=>?_)
 .have hF:=D6 h3 hF;refine W9 (p:=λr=>aH tab _ 2 (.c (.P7 [I r.1,I r.2.1])) [(0,.varx [.sl 12 (r.2.2.2.1.map F7),.sl 1 (r.2.2.2.2.1.map F5),.sl 6 (r.2.2.2.2.2.1.map G8),.sl 4 (r.2.2.2.2.2.2.map J7),.mr 1 0]),(0,.map (U2 Y4 eInt r.2.2.1))] _) hF ?_;exact⟨[(4294967296,0),(4295032832,0)],[0,0],rfl,rfl,rfl⟩
 .have hF:=D5 h3 hF;refine l9 ?_;refine l9 ?_;refine l9 ?_;refine D7 hF λy4 h5 hF=>?_;refine H9 (l9 ⟨_,_,dh1 h5,?_⟩);refine l9 ?_;refine kU hF λh31 hF=>?_;refine H9 ⟨[(24,1)],0,_,_,_,_,rfl,rfl,cw6 (IZ (cf:=F7) (l:=y4) (ns:=([o]:List Opn)) ab7.u ab8 (by decide) (by decide) (λ_=>rfl) h31),rfl,?_⟩;refine C9 (by kernel_rfl) ?_;refine l9 ?_;refine l9 ?_;refine l9 ?_;refine l9 ?_;refine C9 (λh6=>?_) (λh6=>?_)
  .have hF:=D6 h6 hF;refine D7 hF λy7 h8 hF=>?_;refine l9 ⟨_,dw5 h8,rfl,?_⟩;refine l9 ?_;refine C9 (λh9=>?_) (λh9=>?_)
   .have hF:=D6 h9 hF;refine W9 (p:=λr=>aH tab _ 2 (.c (.P7 [I r.1,I r.2.1])) [(0,.varx [.sl 12 (r.2.2.2.1.map F7),.sl 1 (r.2.2.2.2.1.map F5),.sl 6 (r.2.2.2.2.2.1.map G8),.sl 4 (r.2.2.2.2.2.2.map J7),.mr 1 0]),(0,.map (U2 Y4 eInt r.2.2.1))] _) hF ?_;exact⟨[(4294967296,0),(4295032832,0)],[0,0],rfl,rfl,rfl⟩
   .have hF:=D5 h9 hF;refine l9 ?_;refine l9 ?_;refine l9 ?_;refine l9 ?_;refine l9 ?_;refine l9 ?_;refine C9 (by kernel_rfl) ?_;refine C9 (λh10=>?_) (λh10=>?_)
    .have hF:=D6 h10 hF;refine D7 hF λdD h12 hF=>?_;refine l9 ⟨_,b69 h12,rfl,?_⟩;refine l9 ?_;refine l9 ?_;refine l9 ?_;refine D7 hF λy13 aF hF=>?_;refine l9 ⟨_,ac3 aF,rfl,?_⟩;refine C9 (λh15=>?_) (λh15=>?_)
     .have hF:=D6 h15 hF;refine l9 ?_;refine l9 ?_;refine l9 ?_;refine H9 ⟨[(4295032832,0)],0,_,_,_,_,rfl,rfl,JA (ev:=eInt) (m:=m1) (x:=o.Mark) (v:=o.Unit) ab9.u ac0.u XT,rfl,?_⟩;refine C9 (by kernel_rfl) ?_;refine W9 (p:=λr=>aH tab _ 2 (.c (.P7 [I r.1,I r.2.1])) [(0,.varx [.sl 12 (r.2.2.2.1.map F7),.sl 1 (r.2.2.2.2.1.map F5),.sl 6 (r.2.2.2.2.2.1.map G8),.sl 4 (r.2.2.2.2.2.2.map J7),.mr 1 0]),(0,.map (U2 Y4 eInt r.2.2.1))] _) hF ?_;exact⟨[(4294967296,0),(4295032832,0)],[0,0],rfl,rfl,rfl⟩
     .have hF:=D5 h15 hF;refine W9 (p:=λr=>aH tab _ 2 (.c (.P7 [I r.1,I r.2.1])) [(0,.varx [.sl 12 (r.2.2.2.1.map F7),.sl 1 (r.2.2.2.2.1.map F5),.sl 6 (r.2.2.2.2.2.1.map G8),.sl 4 (r.2.2.2.2.2.2.map J7),.mr 1 0]),(0,.map (U2 Y4 eInt r.2.2.1))] _) hF ?_;exact⟨[(4294967296,0),(4295032832,0)],[0,0],rfl,rfl,rfl⟩
    .have hF:=D5 h10 hF;refine D7 hF λFY h17 hF=>?_;refine l9 ⟨_,ac3 h17,rfl,?_⟩;refine C9 (λh18=>?_) (λh18=>?_)
     .have hF:=D6 h18 hF;refine l9 ?_;refine l9 ?_;refine l9 ?_;refine H9 ⟨[(4295032832,0)],0,_,_,_,_,rfl,rfl,JA (ev:=eInt) (m:=m1) (x:=o.Mark) (v:=o.Unit) ab9.u ac0.u XT,rfl,?_⟩;refine C9 (by kernel_rfl) ?_;refine W9 (p:=λr=>aH tab _ 2 (.c (.P7 [I r.1,I r.2.1])) [(0,.varx [.sl 12 (r.2.2.2.1.map F7),.sl 1 (r.2.2.2.2.1.map F5),.sl 6 (r.2.2.2.2.2.1.map G8),.sl 4 (r.2.2.2.2.2.2.map J7),.mr 1 0]),(0,.map (U2 Y4 eInt r.2.2.1))] _) hF ?_;exact⟨[(4294967296,0),(4295032832,0)],[0,0],rfl,rfl,rfl⟩
     .have hF:=D5 h18 hF;refine W9 (p:=λr=>aH tab _ 2 (.c (.P7 [I r.1,I r.2.1])) [(0,.varx [.sl 12 (r.2.2.2.1.map F7),.sl 1 (r.2.2.2.2.1.map F5),.sl 6 (r.2.2.2.2.2.1.map G8),.sl 4 (r.2.2.2.2.2.2.map J7),.mr 1 0]),(0,.map (U2 Y4 eInt r.2.2.1))] _) hF ?_;exact⟨[(4294967296,0),(4295032832,0)],[0,0],rfl,rfl,rfl⟩
  .have hF:=D5 h6 hF;refine l9 ?_;refine l9 ?_;refine l9 ?_;refine D7 hF λlF h20 hF=>?_;refine l9 ⟨_,aS1 h20,rfl,?_⟩;refine l9 ?_;refine C9 (by kernel_rfl) ?_;refine C9 (λh21=>?_) (λh21=>?_)
   .have hF:=D6 h21 hF;refine l9 ?_;refine l9 ?_;refine l9 ?_;refine W9 (p:=λr=>aH tab _ 2 (.c (.P7 [I r.1,I r.2.1])) [(0,.varx [.sl 12 (r.2.2.2.1.map F7),.sl 1 (r.2.2.2.2.1.map F5),.sl 6 (r.2.2.2.2.2.1.map G8),.sl 4 (r.2.2.2.2.2.2.map J7),.mr 1 0]),(0,.map (U2 Y4 eInt r.2.2.1))] _) hF ?_;exact⟨[(4294967296,0),(4295032832,0)],[0,0],rfl,rfl,rfl⟩
   .have hF:=D5 h21 hF;refine l9 ?_;refine l9 ?_;refine l9 ?_;refine l9 ?_;refine l9 ?_;refine l9 ?_;refine C9 (by kernel_rfl) ?_;refine C9 (λh22=>?_) (λh22=>?_)
    .have hF:=D6 h22 hF;refine D7 hF λy23 DT hF=>?_;refine l9 ⟨_,b69 DT,rfl,?_⟩;refine l9 ?_;refine l9 ?_;refine l9 ?_;refine D7 hF λy25 qI hF=>?_;refine l9 ⟨_,ac3 qI,rfl,?_⟩;refine C9 (λh27=>?_) (λh27=>?_)
     .have hF:=D6 h27 hF;refine l9 ?_;refine l9 ?_;refine l9 ?_;refine H9 ⟨[(4295032832,0)],0,_,_,_,_,rfl,rfl,JA (ev:=eInt) (m:=m1) (x:=o.Mark) (v:=o.Unit) ab9.u ac0.u XT,rfl,?_⟩;refine C9 (by kernel_rfl) ?_;refine W9 (p:=λr=>aH tab _ 2 (.c (.P7 [I r.1,I r.2.1])) [(0,.varx [.sl 12 (r.2.2.2.1.map F7),.sl 1 (r.2.2.2.2.1.map F5),.sl 6 (r.2.2.2.2.2.1.map G8),.sl 4 (r.2.2.2.2.2.2.map J7),.mr 1 0]),(0,.map (U2 Y4 eInt r.2.2.1))] _) hF ?_;exact⟨[(4294967296,0),(4295032832,0)],[0,0],rfl,rfl,rfl⟩
     .have hF:=D5 h27 hF;refine W9 (p:=λr=>aH tab _ 2 (.c (.P7 [I r.1,I r.2.1])) [(0,.varx [.sl 12 (r.2.2.2.1.map F7),.sl 1 (r.2.2.2.2.1.map F5),.sl 6 (r.2.2.2.2.2.1.map G8),.sl 4 (r.2.2.2.2.2.2.map J7),.mr 1 0]),(0,.map (U2 Y4 eInt r.2.2.1))] _) hF ?_;exact⟨[(4294967296,0),(4295032832,0)],[0,0],rfl,rfl,rfl⟩
    .have hF:=D5 h22 hF;refine D7 hF λy28 qJ hF=>?_;refine l9 ⟨_,ac3 qJ,rfl,?_⟩;refine C9 (λh30=>?_) (λh30=>?_)
     .have hF:=D6 h30 hF;refine l9 ?_;refine l9 ?_;refine l9 ?_;refine H9 ⟨[(4295032832,0)],0,_,_,_,_,rfl,rfl,JA (ev:=eInt) (m:=m1) (x:=o.Mark) (v:=o.Unit) ab9.u ac0.u XT,rfl,?_⟩;refine C9 (by kernel_rfl) ?_;refine W9 (p:=λr=>aH tab _ 2 (.c (.P7 [I r.1,I r.2.1])) [(0,.varx [.sl 12 (r.2.2.2.1.map F7),.sl 1 (r.2.2.2.2.1.map F5),.sl 6 (r.2.2.2.2.2.1.map G8),.sl 4 (r.2.2.2.2.2.2.map J7),.mr 1 0]),(0,.map (U2 Y4 eInt r.2.2.1))] _) hF ?_;exact⟨[(4294967296,0),(4295032832,0)],[0,0],rfl,rfl,rfl⟩
     .have hF:=D5 h30 hF;refine W9 (p:=λr=>aH tab _ 2 (.c (.P7 [I r.1,I r.2.1])) [(0,.varx [.sl 12 (r.2.2.2.1.map F7),.sl 1 (r.2.2.2.2.1.map F5),.sl 6 (r.2.2.2.2.2.1.map G8),.sl 4 (r.2.2.2.2.2.2.map J7),.mr 1 0]),(0,.map (U2 Y4 eInt r.2.2.1))] _) hF ?_;exact⟨[(4294967296,0),(4295032832,0)],[0,0],rfl,rfl,rfl⟩
def MN(l_:List Opn):Nat->Int->List Opn->List Int->List Branch->List Came->List (Str×Int)->Option ((List Opn×List Int×List Branch×List Came×(List (Str×Int)))×Int×Int)
 |0,_,_,_,_,_,_=>none
 |fu1+1,v1,v_2,v_3,v_4,v_5,v6=>bif decide (v1<((l_.map F7).length:Int))then(Option.bind (ix l_ v1) λx8=>Option.bind (oP v_2 v_3 v_4 v_5 v6 x8) λjI=>bif (jI.2.1 !=0)then none else MN l_ fu1 (IntKind.i64.wrap (v1+1)) jI.2.2.2.1 jI.2.2.2.2.1 jI.2.2.2.2.2.1 jI.2.2.2.2.2.2 jI.2.2.1)else some ((v_2,v_3,v_4,v_5,v6),(-1),0)
def b70(N:Nat)(l_:List Opn):Option ((List Opn×List Int×List Branch×List Came×(List (Str×Int)))×Int×Int):=MN l_ N 0 ([]:List Opn) ([]:List Int) ([]:List Branch) ([]:List Came) ([]:List (Str×Int))
theorem dw2{N:Nat}{l_:List Opn}{r:(List Opn×List Int×List Branch×List Came×(List (Str×Int)))×Int×Int}(hF:b70 N l_=some r):fD prog Gw 40 [.c (.sl 12 (l_.map F7))] [] (.eF [.pr 0 1 0,I r.2.1,I r.2.2]) [(1,.varx [.sl 12 (r.1.1.map F7),.sl 1 (r.1.2.1.map F5),.sl 6 (r.1.2.2.1.map G8),.sl 4 (r.1.2.2.2.1.map J7),.mr 1 1]),(1,.map (U2 Y4 eInt r.1.2.2.2.2))]:=by
 refine rX L8 mixed func40 (by decide) rfl (H6 rfl) rfl ?_;refine H9 ⟨[],0,_,_,_,_,rfl,rfl,ai1,rfl,?_⟩;refine H9 ⟨[(10,1)],0,_,_,_,_,rfl,rfl,cM6,rfl,?_⟩;refine H9 ⟨[(10,1)],0,_,_,_,_,rfl,rfl,cM5,rfl,?_⟩;refine dX (λp:Nat×Int×List Opn×List Int×List Branch×List Came×(List (Str×Int))=>[(5,.pm 65548 0 0),(13,.c (.sl 12 (l_.map F7))),(14,.c (I ((l_.map F7).length:Int))),(15,.c (I p.2.1))]) (λp:Nat×Int×List Opn×List Int×List Branch×List Came×(List (Str×Int))=>[(65548,.varx [.sl 12 (p.2.2.1.map F7),.sl 1 (p.2.2.2.1.map F5),.sl 6 (p.2.2.2.2.1.map G8),.sl 4 (p.2.2.2.2.2.1.map J7),.mr 10 0]),(10,.map (U2 Y4 eInt p.2.2.2.2.2.2))]) (λp=>MN l_ p.1 p.2.1 p.2.2.1 p.2.2.2.1 p.2.2.2.2.1 p.2.2.2.2.2.1 p.2.2.2.2.2.2=some r) (λp=>p.1) (N,0,([]:List Opn),([]:List Int),([]:List Branch),([]:List Came),([]:List (Str×Int))) hF ⟨rfl,rfl,rfl,rfl,trivial⟩ ⟨rfl,rfl,trivial⟩ ?_;rintro⟨fu1,v1,v_2,v_3,v_4,v_5,v6⟩ hF;cases fu1 with
 |zero=>exact nomatch hF
 |succ fu1=>
  refine J9 ?_;refine C9 (λh7=>?_) (λh7=>?_)
  .have hF:=D6 h7 hF;refine J9 ?_;refine D7 hF λx8 h9 hF=>?_;refine⟨V9 h9,.inl rfl,_,Y0 F7 h9,?_⟩;refine l9 ?_;refine D7 hF λjI h11 hF=>?_;refine H9 (H9 ⟨[(65548,0),(10,0)],0,_,_,_,_,rfl,rfl,lK rfl (H9 ⟨_,rfl,rfl⟩) (bw0 h11),rfl,?_⟩);refine C9 (λh12=>?_) (λh12=>?_)
   .have hF:=D6 h12 hF;exact nomatch hF
   .have hF:=D5 h12 hF;exact⟨(fu1,(IntKind.i64.wrap (v1+1)),jI.2.2.2.1,jI.2.2.2.2.1,jI.2.2.2.2.2.1,jI.2.2.2.2.2.2,jI.2.2.1),X8 _,hF,⟨rfl,rfl,rfl,rfl,trivial⟩,⟨rfl,rfl,trivial⟩⟩
  .have hF:=D5 h7 hF;refine W9 (p:=λr=>aH tab _ 0 (.eF [.pr 0 1 0,I r.2.1,I r.2.2]) [(1,.varx [.sl 12 (r.1.1.map F7),.sl 1 (r.1.2.1.map F5),.sl 6 (r.1.2.2.1.map G8),.sl 4 (r.1.2.2.2.1.map J7),.mr 1 1]),(1,.map (U2 Y4 eInt r.1.2.2.2.2))] _) hF ?_;exact⟨[(65548,0),(10,0)],[1,1],rfl,rfl,rfl⟩
abbrev FP:=b70 1000
abbrev aZ9:=@dw2 1000
abbrev b61(y:Int×Int):CV:=.P7 [I y.1,I y.2]
def b62(l:List Opn):Option (Int×Int):=Option.bind (FP l) λy1=>some (y1.2.1,y1.2.2)
theorem du5{l:List Opn}{r:Int×Int}(hF:b62 l=some r):Holds prog Gw 29 [.sl 12 (l.map F7)] (b61 r):=by
 refine Q9 L8 mixed func29 (by decide) rfl (H6 rfl) ?_;refine D7 hF λy1 h2 hF=>?_;refine H9 (H9 ⟨[],0,_,_,_,_,rfl,rfl,lK rfl (H9 ⟨_,rfl,rfl⟩) (aZ9 h2),rfl,?_⟩);refine H9 ⟨[(9,1),(65545,1)],0,_,_,_,_,rfl,rfl,yM rfl,rfl,?_⟩;refine H9 ⟨[(9,1),(65545,1)],0,_,_,_,_,rfl,rfl,yM rfl,rfl,?_⟩;refine H9 ⟨[(9,1),(65545,1)],0,_,_,_,_,rfl,rfl,yM rfl,rfl,?_⟩;exact l9 ⟨rfl,congrArg (Option.map b61) hF⟩
def aZ0:{p:Array Nat×Code×Code // (uZ (Tryz.f8.body.getD .skip))[0]?=some p}:=⟨(_,_,_),rfl⟩
def aY9(R:Loop):Prop:=R.params=aZ0.1.1/\R.assign=aZ0.1.2.1/\R.body=aZ0.1.2.2/\R.tmps.size=26
theorem du7{R:Loop}(h:aY9 R):2=R.params.size:=by rw[h.1];rfl
def aZ1(o2:List Int)(a18:Int)(lH:Opn):Option (List Int):=bif decide (o2.length+([lH.ID]:List Int).length<=4294967296)then some ((o2++([lH.ID]:List Int)))else none
theorem du6{o2:List Int}{a18:Int}{lH:Opn}{r:List Int}{l:Nat}{R:Loop}(hR:aY9 R)(hF:aZ1 o2 a18 lH=some r):NJ prog Gw l R (jA [(6,.pm 1 0 0)] 26 0) [.c (I a18),.c (.agg [I lH.ID,I lH.Day,I lH.Kind,I lH.Unit,I lH.Parent,I lH.Before,I lH.Level,S lH.Title,S lH.Mark,I lH.Origin.aK,I lH.Origin.U3,I lH.Origin.Number])] [(0,.lp l R .on),(0,.varx [.rs 2 0]),(0,.arr 3 1 (o2.map F5) none)] (.c (.v (.bool true))) [(0,.lp l R .on),(0,.varx [.rs 2 1]),(1,.arr 3 1 (r.map F5) none)]:=by
 refine ai3 [2] L8 mixed 0 hR.1 hR.2.1 hR.2.2.1 hR.2.2.2 rfl ?_;refine l9 ?_;refine⟨rfl,?_⟩;refine l9 ?_;refine l9 ?_;refine kU hF λh1 hF=>?_;refine H9 ⟨[(2147614720,0)],0,_,_,_,_,rfl,rfl,IZ (cf:=F5) (l:=o2) (ns:=([lH.ID]:List Int)) aY2.u rE (by decide) (by decide) (λ_=>rfl) h1,rfl,?_⟩;refine l9 ?_;refine W9 (p:=λr=>wX [2] 0 l R 3 (.c (.v (.bool true))) [(0,.lp l R .on),(0,.varx [.rs 2 1]),(1,.arr 3 1 (r.map F5) none)] .on true _) hF ?_;exact⟨rfl,rfl,[(4294967296,0),(4295032832,0),(2147614720,1)],[0,0,1],rfl,rfl⟩
def AX(u3:List Opn)(v2:List (Int×Bool)):Nat->Int->List Int->Option (List Int)
 |0,_,_=>none
 |bH+1,v9,v10=>bif decide (v9<((u3.map F7).length:Int))then(Option.bind (ix u3 v9) λx12=>bif (x12.Kind !=6)then(Option.bind (uV v2 x12.ID false) λfJ=>bif (!fJ)then(Option.bind (aZ1 v10 v9 x12) λlD=>AX u3 v2 bH (IntKind.i64.wrap (v9+1)) lD)else AX u3 v2 bH (IntKind.i64.wrap (v9+1)) v10)else AX u3 v2 bH (IntKind.i64.wrap (v9+1)) v10)else some (v10)
def FK(o2:List Int)(u3:List Opn)(N:Nat):Nat->Int->List (Int×Bool)->Option (List Int)
 |0,_,_=>none
 |fu1+1,v1,v2=>bif decide (v1<((u3.map F7).length:Int))then(Option.bind (ix u3 v1) λx4=>bif (x4.Kind==6)then(Option.bind (uV v2 x4.Unit false) λy7=>FK o2 u3 N fu1 (IntKind.i64.wrap (v1+1)) (bZ v2 x4.Unit (!y7)))else FK o2 u3 N fu1 (IntKind.i64.wrap (v1+1)) v2)else AX u3 v2 N 0 o2
def b63(N:Nat)(o2:List Int)(u3:List Opn):Option (List Int):=FK o2 u3 N N 0 ([]:List (Int×Bool))
theorem dv3{N:Nat}{o2:List Int}{u3:List Opn}{r:List Int}{l:Nat}{R:Loop}(hR:aY9 R)(hF:b63 N o2 u3=some r):fD prog Gw 71 [.Q7 (.yl l R.tmps.toList) (jA [(6,.pm 1 0 0)] 26 0),.pm 3 0 0] [(0,.lp l R .on),(0,.varx [.rs 2 0]),(0,.arr 3 1 (o2.map F5) none),(0,.var [.sl 12 (u3.map F7)])] (.c (.P7 [])) [(0,.lp l R .on),(0,.varx [.rs 2 1]),(1,.arr 3 1 (r.map F5) none),(0,.var [.sl 12 (u3.map F7)])]:=by
 refine aD0 [2] L8 mixed func71 (by decide) rfl (H6 rfl) rfl ?_;refine H9 ⟨[],0,_,_,_,_,rfl,rfl,ai1,rfl,?_⟩;refine dX (λp:Nat×Int×(List (Int×Bool))=>[(0,.Q7 (.yl l R.tmps.toList) (jA [(6,.pm 4295032832 0 0)] 26 0)),(1,.pm 4295163904 0 0),(3,.mr 8 0),(9,.c (.sl 12 (u3.map F7))),(10,.c (I ((u3.map F7).length:Int))),(11,.c (I p.2.1))]) (λp:Nat×Int×(List (Int×Bool))=>[(4294967296,.lp l R .on),(4295032832,.varx [.rs 2147614720 0]),(4295163904,.var [.sl 12 (u3.map F7)]),(8,.map (U2 (zG .i64) nH p.2.2)),(2147614720,.arr 3 1 (o2.map F5) none)]) (λp=>FK o2 u3 N p.1 p.2.1 p.2.2=some r) (λp=>p.1) (N,0,([]:List (Int×Bool))) hF ⟨rfl,rfl,rfl,rfl,rfl,rfl,trivial⟩ ⟨rfl,rfl,rfl,rfl,rfl,trivial⟩ ?_;rintro⟨fu1,v1,v2⟩ hF;cases fu1 with
 |zero=>exact nomatch hF
 |succ fu1=>
  refine J9 ?_;refine C9 (λh3=>?_) (λh3=>?_)
  .have hF:=D6 h3 hF;refine J9 ?_;refine D7 hF λx4 h5 hF=>?_;refine⟨V9 h5,.inl rfl,_,Y0 F7 h5,?_⟩;refine l9 ?_;refine C9 (λh6=>?_) (λh6=>?_)
   .have hF:=D6 h6 hF;refine D7 hF λy7 h8 hF=>?_;refine H9 ⟨[(8,0)],0,_,_,_,_,rfl,rfl,PE (ev:=nH) (z:=false) (m:=v2) (x:=x4.Unit) AQ.u rE.u (uS .i64) UC rfl h8,rfl,?_⟩;refine H9 ⟨[(8,0)],0,_,_,_,_,rfl,rfl,JA (ev:=nH) (m:=v2) (x:=x4.Unit) (v:=(!y7)) AQ.u rE.u (uS .i64),rfl,?_⟩;exact⟨(fu1,(IntKind.i64.wrap (v1+1)),(bZ v2 x4.Unit (!y7))),X8 _,hF,⟨rfl,rfl,rfl,rfl,rfl,rfl,trivial⟩,⟨rfl,rfl,rfl,rfl,rfl,trivial⟩⟩
   .have hF:=D5 h6 hF;exact⟨(fu1,(IntKind.i64.wrap (v1+1)),v2),X8 _,hF,⟨rfl,rfl,rfl,rfl,rfl,rfl,trivial⟩,⟨rfl,rfl,rfl,rfl,rfl,trivial⟩⟩
  .have hF:=D5 h3 hF;refine dX (λp:Nat×Int×List Int=>[(0,.Q7 (.yl l R.tmps.toList) (jA [(6,.pm 4295032832 0 0)] 26 0)),(3,.mr 8 0),(27,.c (.sl 12 (u3.map F7))),(28,.c (I ((u3.map F7).length:Int))),(29,.c (I p.2.1))]) (λp:Nat×Int×List Int=>[(4294967296,.lp l R .on),(4295032832,.varx [.rs 2147614720 0]),(8,.map (U2 (zG .i64) nH v2)),(2147614720,.arr 3 1 (p.2.2.map F5) none),(4295163904,.var [.sl 12 (u3.map F7)])]) (λp=>AX u3 v2 p.1 p.2.1 p.2.2=some r) (λp=>p.1) (N,0,o2) hF ⟨rfl,rfl,rfl,rfl,rfl,trivial⟩ ⟨rfl,rfl,rfl,rfl,rfl,trivial⟩ ?_;rintro⟨bH,v9,v10⟩ hF;cases bH with
   |zero=>exact nomatch hF
   |succ bH=>
    refine J9 ?_;refine C9 (λh11=>?_) (λh11=>?_)
    .have hF:=D6 h11 hF;refine J9 ?_;refine D7 hF λx12 h13 hF=>?_;refine⟨V9 h13,.inl rfl,_,Y0 F7 h13,?_⟩;refine l9 ?_;refine J9 ?_;refine C9 (λaF=>?_) (λaF=>?_)
     .have hF:=D6 aF hF;refine D7 hF λfJ h16 hF=>?_;refine H9 ⟨[(8,0)],0,_,_,_,_,rfl,rfl,PE (ev:=nH) (z:=false) (m:=v2) (x:=x12.ID) AQ.u rE.u (uS .i64) UC rfl h16,rfl,?_⟩;refine C9 (λh17=>?_) (λh17=>?_)
      .have hF:=D6 h17 hF;refine D7 hF λlD h19 hF=>?_;refine H9 ⟨[(4294967296,0),(4295032832,0),(2147614720,0)],0,_,_,_,_,rfl,rfl,PG rfl 0 rfl (du7 hR) (du6 hR h19),rfl,?_⟩;refine C9 (λh20=>?_) (λh20=>?_)
       .exact absurd h20 (by simp)
       .skip
        exact⟨(bH,(IntKind.i64.wrap (v9+1)),lD),X8 _,hF,⟨rfl,rfl,rfl,rfl,rfl,trivial⟩,⟨rfl,rfl,rfl,rfl,rfl,trivial⟩⟩
      .have hF:=D5 h17 hF;exact⟨(bH,(IntKind.i64.wrap (v9+1)),v10),X8 _,hF,⟨rfl,rfl,rfl,rfl,rfl,trivial⟩,⟨rfl,rfl,rfl,rfl,rfl,trivial⟩⟩
     .have hF:=D5 aF hF;exact⟨(bH,(IntKind.i64.wrap (v9+1)),v10),X8 _,hF,⟨rfl,rfl,rfl,rfl,rfl,trivial⟩,⟨rfl,rfl,rfl,rfl,rfl,trivial⟩⟩
    .have hF:=D5 h11 hF;refine W9 (p:=λr=>PD tab _ 4 [2] (.c (.P7 [])) [(0,.lp l R .on),(0,.varx [.rs 2 1]),(1,.arr 3 1 (r.map F5) none),(0,.var [.sl 12 (u3.map F7)])] _) hF ?_;exact⟨[(4294967296,0),(4295032832,0),(2147614720,0),(4295163904,0)],[0,0,1,0],rfl,rfl,rfl⟩
abbrev aZ6:=b63 1000
abbrev dv4:=@dv3 1000
abbrev aY8(y:List Int×Int):CV:=.P7 [.sl 1 (y.1.map F5),I y.2]
def aZ2(l:List Opn):Option (List Int×Int):=Option.bind (b62 l) λy1=>bif (y1.2 !=0)then some (([]:List Int),1)else(Option.bind (aZ6 ([]:List Int) l) λy4=>some (y4,0))
theorem du9{l:List Opn}{r:List Int×Int}(hF:aZ2 l=some r):Holds prog Gw 8 [.sl 12 (l.map F7)] (aY8 r):=by
 refine Q9 L8 mixed func8 (by decide) rfl (H6 rfl) ?_;refine l9 ?_;refine D7 hF λy1 h2 hF=>?_;refine l9 ⟨_,du5 h2,rfl,?_⟩;refine C9 (λh3=>?_) (λh3=>?_)
 .have hF:=D6 h3 hF;refine l9 ?_;exact l9 ⟨rfl,congrArg (Option.map aY8) hF⟩
 .have hF:=D5 h3 hF;refine H9 ⟨[],0,_,_,_,_,rfl,rfl,cv5 (e:=3) (ie:=nT) aY2 rfl rfl (by decide),rfl,?_⟩;refine H9 (H9 ⟨[],0,_,_,_,_,rfl,rfl,lK rfl (H9 ⟨_,rfl,rfl⟩) aZ7,rfl,?_⟩);refine D7 hF λy4 h5 hF=>?_;refine YU.mk ?_;refine⟨60000,jA [(6,.pm 6 1 0)] 26 0,_,_,l9 rfl,rfl,(by refine WG ?_ 26 0;exact⟨rfl,trivial⟩),λl R hp ha hb hn=>⟨[(60000,1),(6,1),(65542,1),(17,1)],0,_,_,_,_,rfl,rfl,dv4 ⟨hp,ha,hb,hn⟩ h5,rfl,_,true,.skip,rfl,λ_=>?_,λhb=>nomatch hb⟩⟩;refine l9 ?_;refine W9 (p:=λr=>qW tab _ (aY8 r) _) hF ?_;exact H9 ⟨⟨⟨rfl,_,rfl,rfl⟩,rfl,rfl⟩,by decide⟩
abbrev aZ3(y:Tree×Int):CV:=.P7 [.agg (dO y.1),I y.2]
def UF(l:List Opn):Option (Tree×Int):=Option.bind (FP l) λy1=>bif (y1.2.2 !=0)then some ((⟨([]:List Int),([]:List Branch)⟩:Tree),1)else some ((⟨y1.1.2.1,y1.1.2.2.1⟩:Tree),0)
theorem aZ5{l:List Opn}{r:Tree×Int}(hF:UF l=some r):Holds prog Gw 15 [.sl 12 (l.map F7)] (aZ3 r):=by
 refine Q9 L8 mixed func15 (by decide) rfl (H6 rfl) ?_;refine l9 ?_;refine D7 hF λy1 h2 hF=>?_;refine H9 (H9 ⟨[],0,_,_,_,_,rfl,rfl,lK rfl (H9 ⟨_,rfl,rfl⟩) (aZ9 h2),rfl,?_⟩);refine H9 ⟨[(9,1),(65545,1)],0,_,_,_,_,rfl,rfl,yM rfl,rfl,?_⟩;refine H9 ⟨[(9,1),(65545,1)],0,_,_,_,_,rfl,rfl,yM rfl,rfl,?_⟩;refine H9 ⟨[(9,1),(65545,1)],0,_,_,_,_,rfl,rfl,yM rfl,rfl,?_⟩;refine C9 (λh3=>?_) (λh3=>?_)
 .have hF:=D6 h3 hF;refine l9 ?_;exact l9 ⟨rfl,congrArg (Option.map aZ3) hF⟩
 .have hF:=D5 h3 hF;refine l9 ?_;refine l9 ?_;refine l9 ?_;exact l9 ⟨rfl,congrArg (Option.map aZ3) hF⟩
abbrev av3(y:List Opn×Int×Int):CV:=.P7 [.sl 12 (y.1.map F7),I y.2.1,I y.2.2]
def vP(l:List Opn)(o:Opn):Option (List Opn×Int×Int):=Option.bind (FP l) λy1=>bif (y1.2.2 !=0)then some (([]:List Opn),(-1),1)else(Option.bind (oP y1.1.1 y1.1.2.1 y1.1.2.2.1 y1.1.2.2.2.1 y1.1.2.2.2.2 o) λy4=>bif (y4.2.1 !=0)then some (([]:List Opn),y4.1,y4.2.1)else some (y4.2.2.2.1,(-1),0))
theorem aY6{l:List Opn}{o:Opn}{r:List Opn×Int×Int}(hF:vP l o=some r):Holds prog Gw 12 [.sl 12 (l.map F7),.agg (F7 o)] (av3 r):=by
 refine Q9 L8 mixed func12 (by decide) rfl (H6 rfl) ?_;refine l9 ?_;refine l9 ?_;refine D7 hF λy1 h2 hF=>?_;refine H9 (H9 ⟨[],0,_,_,_,_,rfl,rfl,lK rfl (H9 ⟨_,rfl,rfl⟩) (aZ9 h2),rfl,?_⟩);refine H9 ⟨[(14,1),(65550,1)],0,_,_,_,_,rfl,rfl,yM rfl,rfl,?_⟩;refine H9 ⟨[(14,1),(65550,1)],0,_,_,_,_,rfl,rfl,yM rfl,rfl,?_⟩;refine H9 ⟨[(14,1),(65550,1)],0,_,_,_,_,rfl,rfl,yM rfl,rfl,?_⟩;refine C9 (λh3=>?_) (λh3=>?_)
 .have hF:=D6 h3 hF;refine l9 ?_;exact l9 ⟨rfl,congrArg (Option.map av3) hF⟩
 .have hF:=D5 h3 hF;refine D7 hF λy4 h5 hF=>?_;refine H9 (H9 ⟨[(14,1),(65550,1)],0,_,_,_,_,rfl,rfl,lK rfl (H9 ⟨_,rfl,rfl⟩) (bw0 h5),rfl,?_⟩);refine C9 (λh6=>?_) (λh6=>?_)
  .have hF:=D6 h6 hF;refine l9 ?_;exact l9 ⟨rfl,congrArg (Option.map av3) hF⟩
  .have hF:=D5 h6 hF;refine l9 ?_;refine l9 ?_;refine l9 ?_;exact l9 ⟨rfl,congrArg (Option.map av3) hF⟩
abbrev bz1(y:List Opn):CV:=.sl 12 (y.map F7)
def KN(l:List Opn):Nat->List Opn->Int->Option (List Opn)
 |0,_,_=>none
 |fu1+1,out1,v2=>bif decide (v2<((l.map F7).length:Int))then(Option.bind (ix l v2) λx4=>Option.bind (vH out1) λy6=>Option.bind (vP y6 (⟨(IntKind.i64.wrap (v2+1)),v2,x4.Kind,x4.Unit,x4.Parent,x4.Before,x4.Level,x4.Title,x4.Mark,x4.Origin⟩:Opn)) λy8=>bif (y8.2.2==0)then KN l fu1 y8.1 (IntKind.i64.wrap (v2+1))else KN l fu1 out1 (IntKind.i64.wrap (v2+1)))else some (out1)
def bz2(N:Nat)(l:List Opn):Option (List Opn):=KN l N ([]:List Opn) 0
theorem cQ1{N:Nat}{l:List Opn}{r:List Opn}(hF:bz2 N l=some r):Holds prog Gw 7 [.sl 12 (l.map F7)] (bz1 r):=by
 refine Q9 L8 mixed func7 (by decide) rfl (H6 rfl) ?_;refine l9 ?_;refine H9 ⟨[],0,_,_,_,_,rfl,rfl,cw3 12,rfl,?_⟩;refine dX (λp:Nat×List Opn×Int=>[(3,.c (.sl 12 (p.2.1.map F7))),(9,.c (.sl 12 (l.map F7))),(10,.c (I ((l.map F7).length:Int))),(11,.c (I p.2.2))]) (λ_=>[]) (λp=>KN l p.1 p.2.1 p.2.2=some r) (λp=>p.1) (N,([]:List Opn),0) hF ⟨rfl,rfl,rfl,rfl,trivial⟩ trivial ?_;rintro⟨fu1,out1,v2⟩ hF;cases fu1 with
 |zero=>exact nomatch hF
 |succ fu1=>
  refine J9 ?_;refine C9 (λh3=>?_) (λh3=>?_)
  .have hF:=D6 h3 hF;refine J9 ?_;refine D7 hF λx4 h5 hF=>?_;refine⟨V9 h5,.inl rfl,_,Y0 F7 h5,?_⟩;refine l9 ?_;refine D7 hF λy6 h7 hF=>?_;refine l9 ⟨_,TG h7,rfl,?_⟩;refine D7 hF λy8 h9 hF=>?_;refine l9 ⟨_,aY6 h9,rfl,?_⟩;refine C9 (by kernel_rfl) ?_;refine C9 (λh10=>?_) (λh10=>?_)
   .have hF:=D6 h10 hF;exact⟨(fu1,y8.1,(IntKind.i64.wrap (v2+1))),X8 _,hF,⟨rfl,rfl,rfl,rfl,trivial⟩,trivial⟩
   .have hF:=D5 h10 hF;exact⟨(fu1,out1,(IntKind.i64.wrap (v2+1))),X8 _,hF,⟨rfl,rfl,rfl,rfl,trivial⟩,trivial⟩
  .have hF:=D5 h3 hF;exact l9 ⟨rfl,congrArg (Option.map bz1) hF⟩
abbrev bz3:=bz2 1000
abbrev cQ2:=@cQ1 1000
end
section
open Go Go.F6 Proofs.Tryz
def XZ:Option Bool:=some true
theorem aL6{r:Bool}(h:XZ=some r):Holds prog Gw 5 [] (B r):=by
 cases h;exact Ev.ck6 λw ⟨m,hm⟩=>⟨m,hm⟩
end
section
open Go Go.F6 Proofs.Tryz
set_option maxRecDepth 10000
set_option maxHeartbeats 400000
abbrev bx9(y:Bool):CV:=B y
def aL4(o:Opn)(c0:Int):Option (Bool):=some ((o.ID==c0))
theorem cN9{o:Opn}{c0:Int}{r:Bool}(hF:aL4 o c0=some r):Holds prog Gw 14 [.agg (F7 o),.pi [I c0] 0] (bx9 r):=by
 refine Q9 L8 mixed func14 (by decide) rfl (H6 rfl) ?_;refine l9 ?_;exact l9 ⟨rfl,congrArg (Option.map bx9) hF⟩
abbrev lS(y:Bool):CV:=B y
def oQ(dD:List Opn)(fJ:List Int×Int)(x19:Int):Nat->Int->Int->List Int->List Branch->Option (Bool)
 |0,_,_,_,_=>none
 |fu1+1,rZ,v22,vK,vM=>bif decide (v22<((dD.map F7).length:Int))then(Option.bind (ix dD v22) λx26=>bif decide (rZ>=0)then oQ dD fJ x19 fu1 rZ (IntKind.i64.wrap (v22+1)) vK vM else(bif (x26.ID==x19)then oQ dD fJ x19 fu1 rZ (IntKind.i64.wrap (v22+1)) vK vM else(Option.bind (sU fJ.1 x26.ID) λy30=>bif (!y30)then oQ dD fJ x19 fu1 rZ (IntKind.i64.wrap (v22+1)) vK vM else(Option.bind (oW (⟨vK,vM⟩:Tree) x26) λUN=>bif (UN.2 !=0)then oQ dD fJ x19 fu1 v22 (IntKind.i64.wrap (v22+1)) vK vM else oQ dD fJ x19 fu1 rZ (IntKind.i64.wrap (v22+1)) UN.1.O1 UN.1.Branches))))else(Option.bind (ix dD (IntKind.i64.wrap (((dD.map F7).length:Int)-1))) λx36=>Option.bind (vH dD) λy38=>Option.bind (vP y38 (⟨(IntKind.i64.wrap (x36.ID+1)),x36.Day,6,x19,0,0,0,([]:Str),([]:Str),(⟨0,0,0⟩:Origin)⟩:Opn)) λxC=>bif (xC.2.2==21)then(Option.bind (aa6 dD (λz0=>aL4 z0 x19)) λy43=>bif decide (y43>=0)then(Option.bind (ix dD y43) λx46=>bif (x46.Kind==1)then(Option.bind (ix dD y43) λx49=>some ((x49.Origin.U3 !=0)))else some (false))else some (false))else(bif decide (rZ>=0)then(bif (xC.2.2==20)then some ((xC.2.1==rZ))else some (false))else(Option.bind (vH xC.1) λy53=>Option.bind (UF y53) λy55=>bif (xC.2.2 !=0)then some (false)else(bif (y55.2 !=0)then some (false)else(Option.bind (YI (⟨vK,vM⟩:Tree) y55.1) λy59=>bif (!y59)then some (false)else(Option.bind (vH xC.1) λy62=>Option.bind (vP y62 (⟨(IntKind.i64.wrap (x36.ID+2)),x36.Day,6,x19,0,0,0,([]:Str),([]:Str),(⟨0,0,0⟩:Origin)⟩:Opn)) λy64=>Option.bind (UF y64.1) λy66=>Option.bind (vH dD) λy68=>Option.bind (UF y68) λy70=>bif (y64.2.2==0)then(bif (y66.2==0)then(bif (y70.2==0)then(Option.bind (YI y66.1 y70.1) λy75=>some (y75))else some (false))else some (false))else some (false)))))))
def al4(N:Nat)(l:List Opn)(which:Int):Option (Bool):=Option.bind (XZ) λy1=>bif (!y1)then(Option.bind (XZ) λy4=>some (y4))else(Option.bind (aR9 l) λy6=>bif (!y6)then(Option.bind (XZ) λy9=>some (y9))else(Option.bind (bz3 l) λdD=>Option.bind (vH dD) λy13=>Option.bind (aZ2 y13) λfJ=>bif (fJ.2 !=0)then some (false)else(bif (((fJ.1.map F5).length:Int)==0)then some (true)else(bif decide (((fJ.1.map F5).length:Int)=0)then none else Option.bind (ix fJ.1 (Int.tmod (IntKind.i64.wrap which) ((fJ.1.map F5).length:Int))) λx19=>oQ dD fJ x19 N (-1) 0 ([]:List Int) ([]:List Branch)))))
theorem cO0{N:Nat}{l:List Opn}{which:Int}{r:Bool}(hF:al4 N l which=some r):Holds prog Gw 3 [.sl 12 (l.map F7),.v (.int .u8 which)] (lS r):=by
 refine Q9 L8 mixed func3 (by decide) rfl (H6 rfl) ?_;refine J9 ?_;refine D7 hF λy1 h2 hF=>?_;refine l9 ⟨_,aL6 h2,rfl,?_⟩;refine C9 (λh3=>?_) (λh3=>?_)
 .have hF:=D6 h3 hF;refine D7 hF λy4 h5 hF=>?_;refine l9 ⟨_,aL6 h5,rfl,?_⟩;exact l9 ⟨rfl,congrArg (Option.map lS) hF⟩
 .have hF:=D5 h3 hF;refine D7 hF λy6 h7 hF=>?_;refine l9 ⟨_,c52 h7,rfl,?_⟩;refine C9 (λh8=>?_) (λh8=>?_)
  .have hF:=D6 h8 hF;refine D7 hF λy9 h10 hF=>?_;refine l9 ⟨_,aL6 h10,rfl,?_⟩;exact l9 ⟨rfl,congrArg (Option.map lS) hF⟩
  .have hF:=D5 h8 hF;refine D7 hF λdD h12 hF=>?_;refine l9 ⟨_,cQ2 h12,rfl,?_⟩;refine D7 hF λy13 aF hF=>?_;refine l9 ⟨_,TG aF,rfl,?_⟩;refine D7 hF λfJ h16 hF=>?_;refine l9 ⟨_,du9 h16,rfl,?_⟩;refine C9 (λh17=>?_) (λh17=>?_)
   .have hF:=D6 h17 hF;exact l9 ⟨rfl,congrArg (Option.map lS) hF⟩
   .have hF:=D5 h17 hF;refine C9 (λh18=>?_) (λh18=>?_)
    .have hF:=D6 h18 hF;exact l9 ⟨rfl,congrArg (Option.map lS) hF⟩
    .have hF:=D5 h18 hF;refine cA9 hF λh77 hF=>?_;refine⟨rfl,wR h77,?_⟩;refine D7 hF λx19 h20 hF=>?_;refine⟨V9 h20,.inl rfl,_,Y0 F5 h20,?_⟩;refine l9 ?_;refine l9 ?_;refine dX (λp:Nat×Int×Int×List Int×List Branch=>[(5,.c (.sl 12 (dD.map F7))),(6,.c (.sl 1 (fJ.1.map F5))),(8,.pm 8 0 0),(9,.pm 9 0 0),(10,.c (I p.2.1)),(57,.c (.sl 12 (dD.map F7))),(58,.c (I ((dD.map F7).length:Int))),(59,.c (I p.2.2.1))]) (λp:Nat×Int×Int×List Int×List Branch=>[(8,.var [I x19]),(9,.var [.sl 1 (p.2.2.2.1.map F5),.sl 6 (p.2.2.2.2.map G8)])]) (λp=>oQ dD fJ x19 p.1 p.2.1 p.2.2.1 p.2.2.2.1 p.2.2.2.2=some r) (λp=>p.1) (N,(-1),0,([]:List Int),([]:List Branch)) hF ⟨rfl,rfl,rfl,rfl,rfl,rfl,rfl,rfl,trivial⟩ ⟨rfl,rfl,trivial⟩ ?_;rintro⟨fu1,rZ,v22,vK,vM⟩ hF;cases fu1 with
     |zero=>exact nomatch hF
     |succ fu1=>
      refine J9 ?_;refine C9 (λmF=>?_) (λmF=>?_)
      .have hF:=D6 mF hF;refine J9 ?_;refine D7 hF λx26 h27 hF=>?_;refine⟨V9 h27,.inl rfl,_,Y0 F7 h27,?_⟩;refine l9 ?_;refine J9 ?_;refine C9 (λh28=>?_) (λh28=>?_)
       .have hF:=D6 h28 hF;exact⟨(fu1,rZ,(IntKind.i64.wrap (v22+1)),vK,vM),X8 _,hF,⟨rfl,rfl,rfl,rfl,rfl,rfl,rfl,rfl,trivial⟩,⟨rfl,rfl,trivial⟩⟩
       .have hF:=D5 h28 hF;refine C9 (λqJ=>?_) (λqJ=>?_)
        .have hF:=D6 qJ hF;exact⟨(fu1,rZ,(IntKind.i64.wrap (v22+1)),vK,vM),X8 _,hF,⟨rfl,rfl,rfl,rfl,rfl,rfl,rfl,rfl,trivial⟩,⟨rfl,rfl,trivial⟩⟩
        .have hF:=D5 qJ hF;refine D7 hF λy30 h31 hF=>?_;refine l9 ⟨_,aq7 h31,rfl,?_⟩;refine C9 (λh32=>?_) (λh32=>?_)
         .have hF:=D6 h32 hF;exact⟨(fu1,rZ,(IntKind.i64.wrap (v22+1)),vK,vM),X8 _,hF,⟨rfl,rfl,rfl,rfl,rfl,rfl,rfl,rfl,trivial⟩,⟨rfl,rfl,trivial⟩⟩
         .have hF:=D5 h32 hF;refine D7 hF λUN yS hF=>?_;refine l9 ⟨_,aS1 yS,rfl,?_⟩;refine l9 ?_;refine C9 (λh35=>?_) (λh35=>?_)
          .have hF:=D6 h35 hF;exact⟨(fu1,v22,(IntKind.i64.wrap (v22+1)),vK,vM),X8 _,hF,⟨rfl,rfl,rfl,rfl,rfl,rfl,rfl,rfl,trivial⟩,⟨rfl,rfl,trivial⟩⟩
          .have hF:=D5 h35 hF;exact⟨(fu1,rZ,(IntKind.i64.wrap (v22+1)),UN.1.O1,UN.1.Branches),X8 _,hF,⟨rfl,rfl,rfl,rfl,rfl,rfl,rfl,rfl,trivial⟩,⟨rfl,rfl,trivial⟩⟩
      .have hF:=D5 mF hF;refine D7 hF λx36 h37 hF=>?_;refine⟨V9 h37,.inl rfl,_,Y0 F7 h37,?_⟩;refine l9 ?_;refine D7 hF λy38 yT hF=>?_;refine l9 ⟨_,TG yT,rfl,?_⟩;refine l9 ?_;refine D7 hF λxC uK hF=>?_;refine l9 ⟨_,aY6 uK,rfl,?_⟩;refine C9 (by kernel_rfl) ?_;refine C9 (λh42=>?_) (λh42=>?_)
       .have hF:=D6 h42 hF;refine D7 hF λy43 WU hF=>?_;refine l9 ⟨_,bR0 (λ_ _ h=>cN9 h) WU,rfl,?_⟩;refine J9 ?_;refine C9 (λh45=>?_) (λh45=>?_)
        .have hF:=D6 h45 hF;refine D7 hF λx46 h47 hF=>?_;refine⟨V9 h47,.inl rfl,_,Y0 F7 h47,?_⟩;refine C9 (λh48=>?_) (λh48=>?_)
         .have hF:=D6 h48 hF;refine D7 hF λx49 h50 hF=>?_;refine⟨V9 h50,.inl rfl,_,Y0 F7 h50,?_⟩;exact l9 ⟨rfl,congrArg (Option.map lS) hF⟩
         .have hF:=D5 h48 hF;exact l9 ⟨rfl,congrArg (Option.map lS) hF⟩
        .have hF:=D5 h45 hF;exact l9 ⟨rfl,congrArg (Option.map lS) hF⟩
       .have hF:=D5 h42 hF;refine C9 (λh51=>?_) (λh51=>?_)
        .have hF:=D6 h51 hF;refine J9 ?_;refine C9 (λh52=>?_) (λh52=>?_)
         .have hF:=D6 h52 hF;exact l9 ⟨rfl,congrArg (Option.map lS) hF⟩
         .have hF:=D5 h52 hF;exact l9 ⟨rfl,congrArg (Option.map lS) hF⟩
        .have hF:=D5 h51 hF;refine D7 hF λy53 h54 hF=>?_;refine l9 ⟨_,TG h54,rfl,?_⟩;refine D7 hF λy55 h56 hF=>?_;refine l9 ⟨_,aZ5 h56,rfl,?_⟩;refine l9 ?_;refine J9 ?_;refine C9 (λh57=>?_) (λh57=>?_)
         .have hF:=D6 h57 hF;exact l9 ⟨rfl,congrArg (Option.map lS) hF⟩
         .have hF:=D5 h57 hF;refine C9 (λh58=>?_) (λh58=>?_)
          .have hF:=D6 h58 hF;exact l9 ⟨rfl,congrArg (Option.map lS) hF⟩
          .have hF:=D5 h58 hF;refine D7 hF λy59 h60 hF=>?_;refine l9 ⟨_,bA7 h60,rfl,?_⟩;refine C9 (λh61=>?_) (λh61=>?_)
           .have hF:=D6 h61 hF;exact l9 ⟨rfl,congrArg (Option.map lS) hF⟩
           .have hF:=D5 h61 hF;refine D7 hF λy62 h63 hF=>?_;refine l9 ⟨_,TG h63,rfl,?_⟩;refine l9 ?_;refine D7 hF λy64 h65 hF=>?_;refine l9 ⟨_,aY6 h65,rfl,?_⟩;refine C9 (by kernel_rfl) ?_;refine D7 hF λy66 h67 hF=>?_;refine l9 ⟨_,aZ5 h67,rfl,?_⟩;refine l9 ?_;refine D7 hF λy68 h69 hF=>?_;refine l9 ⟨_,TG h69,rfl,?_⟩;refine D7 hF λy70 h71 hF=>?_;refine l9 ⟨_,aZ5 h71,rfl,?_⟩;refine l9 ?_;refine J9 ?_;refine C9 (λh72=>?_) (λh72=>?_)
            .have hF:=D6 h72 hF;refine C9 (λU8=>?_) (λU8=>?_)
             .have hF:=D6 U8 hF;refine C9 (λY5=>?_) (λY5=>?_)
              .have hF:=D6 Y5 hF;refine D7 hF λy75 kC hF=>?_;refine l9 ⟨_,bA7 kC,rfl,?_⟩;exact l9 ⟨rfl,congrArg (Option.map lS) hF⟩
              .have hF:=D5 Y5 hF;exact l9 ⟨rfl,congrArg (Option.map lS) hF⟩
             .have hF:=D5 U8 hF;exact l9 ⟨rfl,congrArg (Option.map lS) hF⟩
            .have hF:=D5 h72 hF;exact l9 ⟨rfl,congrArg (Option.map lS) hF⟩
abbrev by0:=al4 1000
abbrev cO1:=@cO0 1000
end
section
open Go Go.F6 Go.RowKit Go.Sort Go.Ev
set_option maxRecDepth 100000
set_option maxHeartbeats 4000000
end
section
open Go Go.F6 Go.RowKit
end
section
open Go Go.F6
set_option maxRecDepth 10000
set_option maxHeartbeats 400000
end
section
open Go Go.F6
section
variable{α β:Type}[BEq α][LawfulBEq α]
theorem rW{x y:α}(h:x≠y):(x==y)=false:=by
 cases hb:x==y with
 |false=>rfl
 |true=>exact absurd (kS hb) h
theorem aM5(x:α)(v:β)(y:α):∀m:List (α×β),bM (bZ m x v) y=bif y==x then some v else bM m y
 |[]=>rfl
 |(k,u)::r=>by
  have ih:=aM5 x v y r;simp only[bZ];cases h:x==k with
  |true=>
   have:=kS h;subst this;simp only[H7,bM];cases y==x<;>rfl
  |false=>
   simp only[G6,bM,ih];cases h2:y==k with
   |false=>rfl
   |true=>
    have:=kS h2;subst this;have hne:y≠x:=λe=>by subst e;rw[IC]at h;cases h
    rw[rW hne];rfl
theorem aM9(x:α)(v:β):∀m:List (α×β),(bZ m x v).map Prod.fst=m.map Prod.fst\/(x∉m.map Prod.fst/\(bZ m x v).map Prod.fst=m.map Prod.fst++[x])
 |[]=>.inr ⟨by simp,rfl⟩
 |(k,u)::r=>by
  simp only[bZ];cases h:x==k with
  |true=>
   have:=kS h;subst this;exact .inl rfl
  |false=>
   have hne:x≠k:=λe=>by subst e;rw[IC]at h;cases h
   simp only[G6,kP];rcases aM9 x v r with e|⟨h1,e⟩
   .exact .inl (by rw[e])
   .exact .inr ⟨by simp only[jT,not_or];exact⟨hne,h1⟩,by rw[e];rfl⟩
theorem cT5{m:List (α×β)}(h:(m.map Prod.fst).Nodup)(x:α)(v:β):((bZ m x v).map Prod.fst).Nodup:=by
 rcases aM9 x v m with e|⟨h1,e⟩
 .rw[e];exact h
 .rw[e];exact List.nodup_append.2 ⟨h,by simp,λa ha b hb=>by simp at hb;subst hb;exact λe=>h1 (e▸ha)⟩
theorem cT4(m:List (α×β))(x:α)(v:β):(bZ m x v).length<=m.length+1:=by
 have:=congrArg List.length (rfl:(bZ m x v).map Prod.fst=(bZ m x v).map Prod.fst);rcases aM9 x v m with e|⟨_,e⟩
 .have:=congrArg List.length e;simp at this;omega
 .have:=congrArg List.length e;simp at this;omega
end
def prt(l:List Opn)(id:Int):Bool:=l.foldl (λb o=>b^^(o.Kind==6&&o.Unit==id)) false
theorem ao3(l:List Opn)(o:Opn)(id:Int):prt (l++[o]) id=(prt l id^^(o.Kind==6&&o.Unit==id)):=by unfold prt;rw[List.foldl_append];rfl
def MP(m:List (Int×Bool))(l:List Opn):Prop:=∀id,uV m id false=some (prt l id)
theorem aM8:MP [] []:=λ_=>rfl
theorem cT3{m:List (Int×Bool)}{l:List Opn}(h:MP m l){o:Opn}(ho:o.Kind=6){y:Bool}(hy:uV m o.Unit false=some y):MP (bZ m o.Unit (!y)) (l++[o]):=λid=>by
 have h1:=h id;have h2:=h o.Unit;rw[hy]at h2;unfold uV at*
 rw[aM5,ao3];have ho':(o.Kind==6)=true:=by simp[ho]
 rw[ho',rH];by_cases e:id=o.Unit
 .subst e;rw[IC,<-iE h2];simp
 .rw[rW e,rW (λh=>e h.symm)];simpa using h1
theorem cT0{m:List (Int×Bool)}{l:List Opn}(h:MP m l){o:Opn}(ho:o.Kind≠6):MP m (l++[o]):=λid=>by
 rw[h id,ao3,rW ho];simp
def cp(l:List Opn)(o:Opn):Bool:=o.Kind !=6&& !prt l o.ID
def rep(p:Opn->Bool):Nat->Tree->List Opn->Option (Tree×Int×Int)
 |_,t,[]=>some (t, -1,0)
 |i,t,o::r=>bif p o then(oW t o).bind λy=>bif y.2==0 then rep p (i+1) y.1 r else some (E0,(i:Int),y.2)else rep p (i+1) t r
theorem ap0{p q:Opn->Bool}:∀(l:List Opn)(i:Nat)(t:Tree),(∀o∈l,p o=q o)->rep p i t l=rep q i t l
 |[],_,_,_=>rfl
 |o::r,i,t,h=>by
  simp only[rep,h o (by simp)];have e:∀i t,rep p i t r=rep q i t r:=λi t=>ap0 r i t λo ho=>h o (by simp[ho]);simp only[e]
theorem ap1{p:Opn->Bool}{o:Opn}(ho:p o=false):∀(l:List Opn)(i:Nat)(t:Tree),rep p i t (l++[o])=rep p i t l
 |[],i,t=>by simp[rep,ho]
 |x::r,i,t=>by
  simp only[List.cons_append,rep,ap1 ho r]
theorem aS9{p:Opn->Bool}{o:Opn}(ho:p o=true):∀(l:List Opn)(i:Nat)(t t':Tree),rep p i t l=some (t', -1,0)->rep p i t (l++[o])=(oW t' o).bind λy=>bif y.2==0 then some (y.1, -1,0)else some (E0,((i+l.length:Nat):Int),y.2)
 |[],i,t,t',h=>by
  cases h;simp only[rO,rep,ho,H7,List.length_nil,oD]
 |x::r,i,t,t',h=>by
  have hlen:i+1+r.length=i+(x::r).length:=by simp;omega
  simp only[List.cons_append,rep]at h⊢;cases hp:p x with
  |false=>
   rw[hp]at h;simp only[G6]at h⊢;rw[aS9 ho r (i+1) t t' h,hlen]
  |true=>
   rw[hp]at h;simp only[H7]at h⊢;obtain⟨y,hy,h⟩:=aX h;rw[hy,G5];cases h0:y.2==0 with
   |true=>
    rw[h0]at h;simp only[H7]at h⊢;rw[aS9 ho r (i+1) y.1 t' h,hlen]
   |false=>
    rw[h0]at h;simp only[G6,Z9,dI]at h;exact absurd h.2.1 (by omega)
structure RP(n:Nat)(t:Tree)(l:List Opn)(t':Tree):Prop where
 sm:Sm (n+2*l.length) t'
 old:∀u m,Has t' u m->Has t u m\/∃o∈l,jJ o/\u=o.Unit/\m=o.Mark
 mkd:vX (um t.Branches)->vX (um t'.Branches)
theorem YX{p:Opn->Bool}:∀(l:List Opn)(n i:Nat)(t:Tree),Sm n t->n+2*l.length<=880->Tot (rep p i t l) λr=>(r.2.2=0->r.2.1= -1/\RP n t l r.1)/\(r.2.2≠0->r.1=E0/\∃k:Nat,r.2.1=(k:Int)/\i<=k/\k<i+l.length)
 |[],n,i,t,hs,_=>G7 ⟨λ_=>⟨rfl,hs,λ_ _ h=>.inl h,id⟩,λh=>absurd rfl h⟩
 |o::r,n,i,t,hs,hn=>by
  simp only[pR]at hn;simp only[rep];refine J5 (λ_=>?_) λ_=>?_
  .refine U5 (bf5 o (by omega) hs) λy _ hy=>J5 (λh=>?_) λh=>?_
   .have hA:=hy (kS h);refine(YX r (n+2) (i+1) y.1 hA.sm (by omega)).mono λq ⟨h1,h2⟩=>⟨λh=>?_,λh=>?_⟩
    .obtain⟨e,hr⟩:=h1 h;refine⟨e,hr.sm.mono (by simp;omega),λu m hh=>?_,λ_=>hr.mkd hA.mkd⟩;rcases hr.old u m hh with hh|⟨x,hx,hg⟩
     .rcases hA.old u m hh with hh|hg
      .exact .inl hh
      .exact .inr ⟨o,by simp,hg⟩
     .exact .inr ⟨x,by simp[hx],hg⟩
    .obtain⟨e,k,h3,h4,h5⟩:=h2 h;exact⟨e,k,h3,by omega,by simp;omega⟩
   .exact G7 ⟨λh0=>absurd h0 (lT h),λ_=>⟨rfl,i,rfl,J6 _,by simp⟩⟩
  .refine(YX r n (i+1) t hs (by omega)).mono λq ⟨h1,h2⟩=>⟨λh=>?_,λh=>?_⟩
   .obtain⟨e,hr⟩:=h1 h;refine⟨e,hr.sm.mono (by simp;omega),λu m hh=>?_,hr.mkd⟩;rcases hr.old u m hh with hh|⟨x,hx,hg⟩
    .exact .inl hh
    .exact .inr ⟨x,by simp[hx],hg⟩
   .obtain⟨e,k,h3,h4,h5⟩:=h2 h;exact⟨e,k,h3,by omega,by simp;omega⟩
theorem nM{α β:Type}{f:α->β}{l:List α}{i:Nat}(h:i<l.length):decide ((i:Int)<((l.map f).length:Int))=true:=Y9 (by rw[U7];omega)
theorem oU{α β:Type}{f:α->β}{l:List α}{i:Nat}(h:i=l.length):decide ((i:Int)<((l.map f).length:Int))=false:=eU (by rw[U7];omega)
theorem take_snoc{α:Type}{l:List α}{i:Nat}(h:i<l.length):l.take i++[l[i]]=l.take (i+1):=List.take_append_getElem h
theorem aM7{m:List (Int×Bool)}{l:List Opn}{i:Nat}(hi:i<l.length)(h:MP m (l.take i)):∃y,uV m l[i].Unit false=some y/\(l[i].Kind=6->MP (bZ m l[i].Unit (!y)) (l.take (i+1)))/\(l[i].Kind≠6->MP m (l.take (i+1))):=
 ⟨_,h _,λhk=>by rw[<-take_snoc hi];exact cT3 h hk (h _),λhk=>by rw[<-take_snoc hi];exact cT0 h hk⟩
theorem az9{u1:Tree}{u2 u3:Int}{l:List Opn}{N:Nat}(hl:l.length<=900):∀(n i fu:Nat)(m:List (Int×Bool)),l.length-i=n->i<=l.length->n<fu->MP m (l.take i)->∃m',MP m' l/\FN u1 u2 u3 l N fu (i:Int) m=AZ l m' N 0 u1.O1 u1.Branches u2 u3
 |_,i,0,_,_,_,h,_=>by omega
 |0,i,fu+1,m,hn,hi,_,hm=>by
  have:i=l.length:=by omega
  refine⟨m,by rwa [this,List.take_length]at hm,?_⟩;simp only[FN,oU this,G6]
 |n+1,i,fu+1,m,hn,hi,hf,hm=>by
  have hi':i<l.length:=by omega
  obtain⟨y,hy,h6,hno⟩:=aM7 hi' hm;simp only[FN,nM hi',H7,Z4 hi',G5,hy,wrap_succ (n:=l.length) (by omega) hi'];by_cases hk:l[i].Kind=6
  .rw[show(l[i].Kind==6)=true by simp[hk],H7];exact az9 hl n (i+1) fu _ (by omega) (by omega) (by omega) (h6 hk)
  .rw[rW hk,G6];exact az9 hl n (i+1) fu _ (by omega) (by omega) (by omega) (hno hk)
theorem az8{u1:Int}{u2:Bool}{l:List Opn}{N:Nat}(hl:l.length<=900):∀(n i fu:Nat)(m:List (Int×Bool)),l.length-i=n->i<=l.length->n<fu->MP m (l.take i)->∃m',MP m' l/\FM u1 u2 l N fu (i:Int) m=AY u1 l m' N 0 u2
 |_,i,0,_,_,_,h,_=>by omega
 |0,i,fu+1,m,hn,hi,_,hm=>by
  have:i=l.length:=by omega
  refine⟨m,by rwa [this,List.take_length]at hm,?_⟩;simp only[FM,oU this,G6]
 |n+1,i,fu+1,m,hn,hi,hf,hm=>by
  have hi':i<l.length:=by omega
  obtain⟨y,hy,h6,hno⟩:=aM7 hi' hm;simp only[FM,nM hi',H7,Z4 hi',G5,hy,wrap_succ (n:=l.length) (by omega) hi'];by_cases hk:l[i].Kind=6
  .rw[show(l[i].Kind==6)=true by simp[hk],H7];exact az8 hl n (i+1) fu _ (by omega) (by omega) (by omega) (h6 hk)
  .rw[rW hk,G6];exact az8 hl n (i+1) fu _ (by omega) (by omega) (by omega) (hno hk)
theorem az7{o2:List Int}{l:List Opn}{N:Nat}(hl:l.length<=900):∀(n i fu:Nat)(m:List (Int×Bool)),l.length-i=n->i<=l.length->n<fu->MP m (l.take i)->∃m',MP m' l/\FK o2 l N fu (i:Int) m=AX l m' N 0 o2
 |_,i,0,_,_,_,h,_=>by omega
 |0,i,fu+1,m,hn,hi,_,hm=>by
  have:i=l.length:=by omega
  refine⟨m,by rwa [this,List.take_length]at hm,?_⟩;simp only[FK,oU this,G6]
 |n+1,i,fu+1,m,hn,hi,hf,hm=>by
  have hi':i<l.length:=by omega
  obtain⟨y,hy,h6,hno⟩:=aM7 hi' hm;simp only[FK,nM hi',H7,Z4 hi',G5,hy,wrap_succ (n:=l.length) (by omega) hi'];by_cases hk:l[i].Kind=6
  .rw[show(l[i].Kind==6)=true by simp[hk],H7];exact az7 hl n (i+1) fu _ (by omega) (by omega) (by omega) (h6 hk)
  .rw[rW hk,G6];exact az7 hl n (i+1) fu _ (by omega) (by omega) (by omega) (hno hk)
def fin1(y1:Bool×Tree×Int×Int):Option (Tree×Int×Int):=bif y1.1 then(bif (y1.2.2.2 !=0)then some ((⟨([]:List Int),([]:List Branch)⟩:Tree),y1.2.2.1,y1.2.2.2)else some (y1.2.1,(-1),0))else(bif (y1.2.2.2 !=0)then some ((⟨([]:List Int),([]:List Branch)⟩:Tree),y1.2.2.1,y1.2.2.2)else some (y1.2.1,(-1),0))
theorem bi0{l:List Opn}{m:List (Int×Bool)}(hl:l.length<=900)(hm:MP m l):∀(n i fu:Nat)(t:Tree),l.length-i=n->i<=l.length->n<fu->(AZ l m fu (i:Int) t.O1 t.Branches (-1) 0).bind fin1=rep (cp l) i t (l.drop i)
 |_,i,0,_,_,_,h=>by omega
 |0,i,fu+1,t,hn,hi,_=>by
  have:i=l.length:=by omega
  simp only[AZ,oU this,G6,G5];rw[this,List.drop_length];rfl
 |n+1,i,fu+1,t,hn,hi,hf=>by
  have hi':i<l.length:=by omega
  rw[xP hi'];have ih:=λt=>bi0 hl hm n (i+1) fu t (by omega) (by omega) (by omega);simp only[AZ,nM hi',H7,Z4 hi',G5,hm l[i].ID,wrap_succ (n:=l.length) (by omega) hi',rep,cp];cases hk:l[i].Kind !=6 with
  |false=>simp only[G6,Bool.false_and];exact ih t
  |true=>
   simp only[H7,rH];cases prt l l[i].ID with
   |true=>simp only[fC,G6];exact ih t
   |false=>
    simp only[Bool.not_false,H7,a08];cases oW t l[i]with
    |none=>rfl
    |some y=>
     simp only[G5];cases h0:y.2==0 with
     |true=>simp only[H7,G5];exact ih y.1
     |false=>
      have:(y.2 !=0)=true:=by simp[bne,h0]
      simp only[G6,G5,fin1,this,H7]
theorem b85{l:List Opn}(hl:l.length<=900):a09 l=rep (cp l) 0 E0 l:=by
 show(FN (⟨[],[]⟩:Tree) (-1) 0 l 1000 1000 0 []).bind fin1=_;obtain⟨m,hm,e⟩:=az9 (u1:=(⟨[],[]⟩:Tree)) (u2:= -1) (u3:=0) (N:=1000) hl l.length 0 1000 [] (by omega) (by omega) (by omega) aM8;rw[show(0:Int)=((0:Nat):Int)from rfl]at*
 rw[e];exact bi0 hl hm l.length 0 1000 E0 (by omega) (by omega) (by omega)
theorem bh9{id:Int}{l:List Opn}{m:List (Int×Bool)}(hl:l.length<=900)(hm:MP m l):∀(n i fu:Nat),l.length-i=n->i<=l.length->n<fu->((AY id l m fu (i:Int) false).bind λy1=>bif y1.1 then some (false)else some (y1.2))=some ((l.drop i).any λo=>cp l o&&(o.ID==id))
 |_,i,0,_,_,h=>by omega
 |0,i,fu+1,hn,hi,_=>by
  have:i=l.length:=by omega
  simp only[AY,oU this,G6,G5];rw[this,List.drop_length];rfl
 |n+1,i,fu+1,hn,hi,hf=>by
  have hi':i<l.length:=by omega
  rw[xP hi',List.any_cons];have ih:=bh9 (id:=id) hl hm n (i+1) fu (by omega) (by omega) (by omega);have hc:cp l l[i]=(l[i].Kind !=6&& !prt l l[i].ID):=rfl;simp only[AY,nM hi',H7,Z4 hi',G5,hm l[i].ID,wrap_succ (n:=l.length) (by omega) hi',hc];cases hk:l[i].Kind !=6 with
  |false=>simp only[G6,Bool.false_and,Bool.false_or];exact ih
  |true=>
   simp only[H7,rH];cases prt l l[i].ID with
   |true=>simp only[fC,G6,Bool.false_and,Bool.false_or];exact ih
   |false=>
    simp only[Bool.not_false,H7,aK8,rH];cases h0:l[i].ID==id with
    |true=>simp only[H7,G5,G6,Bool.true_or]
    |false=>simp only[G6,G5,H7,Bool.false_or];exact ih
theorem bw4{l:List Opn}(hl:l.length<=900)(r:List Int)(b:List Branch)(c:List Came)(m1:List (Str×Int))(id:Int):al3 l r b c m1 id=some (l.any λo=>cp l o&&(o.ID==id)):=by
 show(FM id false l 1000 1000 0 []).bind _=_;obtain⟨m,hm,e⟩:=az8 (u1:=id) (u2:=false) (N:=1000) hl l.length 0 1000 [] (by omega) (by omega) (by omega) aM8;rw[show(0:Int)=((0:Nat):Int)from rfl,e];exact bh9 hl hm l.length 0 1000 (by omega) (by omega) (by omega)
theorem bh8{l:List Opn}{m:List (Int×Bool)}(hl:l.length<=900)(hm:MP m l):∀(n i fu:Nat)(v:List Int),l.length-i=n->i<=l.length->n<fu->v.length<=i->AX l m fu (i:Int) v=some (v++((l.drop i).filter (cp l)).map Opn.ID)
 |_,i,0,_,_,_,h,_=>by omega
 |0,i,fu+1,v,hn,hi,_,_=>by
  have:i=l.length:=by omega
  simp only[AX,oU this,G6];rw[this,List.drop_length];simp
 |n+1,i,fu+1,v,hn,hi,hf,hv=>by
  have hi':i<l.length:=by omega
  rw[xP hi',List.filter_cons];have ih:=λv hv=>bh8 hl hm n (i+1) fu v (by omega) (by omega) (by omega) hv;have hc:cp l l[i]=(l[i].Kind !=6&& !prt l l[i].ID):=rfl;simp only[AX,nM hi',H7,Z4 hi',G5,hm l[i].ID,wrap_succ (n:=l.length) (by omega) hi',hc];cases hk:l[i].Kind !=6 with
  |false=>simp only[G6,Bool.false_and,Bool.false_eq_true,if_false];exact ih v (by omega)
  |true=>
   simp only[H7,rH];cases prt l l[i].ID with
   |true=>simp only[fC,G6,Bool.false_eq_true,if_false];exact ih v (by omega)
   |false=>
    have h1:decide (v.length+([l[i].ID]:List Int).length<=4294967296)=true:=Y9 (by simp;omega);simp only[Bool.not_false,H7,aZ1,h1,if_true,G5];rw[ih _ (by simp;omega)];simp
theorem cq4{l:List Opn}(hl:l.length<=900):aZ6 [] l=some ((l.filter (cp l)).map Opn.ID):=by
 show FK [] l 1000 1000 0 []=_;obtain⟨m,hm,e⟩:=az7 (o2:=[]) (N:=1000) hl l.length 0 1000 [] (by omega) (by omega) (by omega) aM8;rw[show(0:Int)=((0:Nat):Int)from rfl,e];have:=bh8 hl hm l.length 0 1000 [] (by omega) (by omega) (by omega) (by simp);simpa using this
theorem bH7(c:Came):Tot (YO c) λ_=>True:=by
 unfold YO LC;simp only[c48,G5]
 repeat' first
  |exact G7 trivial
  |(refine J5 (λ_=>?_) (λ_=>?_))
theorem bI5{l:List Came}(hl:l.length<=900)(c:Came):Tot (SC l c) λ_=>True:=by
 unfold SC;refine J5 (λ_=>G7 trivial) λ_=>?_
 have e2:=bQ0 (l:=l) (f:=λz0=>an9 z0 c c) (p:=λx=>(x.Origin.U3==c.Origin.U3)&&(x.Origin.Number==c.Origin.Number)) (by omega) (λx _=>by
  simp only[an9,YP,G5]
  cases(x.Origin.U3==c.Origin.U3)<;>rfl)
 have e3:=bQ0 (l:=l) (f:=λz0=>ao0 z0 c c) (p:=λx=>(x.Origin.U3==c.Origin.U3)&&(x.Origin.aK !=c.Origin.aK)) (by omega) (λx _=>by
  simp only[ao0,YP,G5]
  cases(x.Origin.U3==c.Origin.U3)<;>rfl)
 rw[e2,G5];refine J5 (λ_=>G7 trivial) λ_=>?_;rw[e3,G5];exact J5 (λ_=>G7 trivial) λ_=>G7 trivial
theorem bH3{l:List Came}(hl:l.length<=900):∀(n i fu:Nat),l.length-i=n->i<=l.length->n<fu->Tot (KY l fu (i:Int)) λ_=>True
 |_,i,0,_,_,h=>by omega
 |0,i,fu+1,hn,hi,_=>by
  simp only[KY,oU (show i=l.length by omega),G6];exact G7 trivial
 |n+1,i,fu+1,hn,hi,hf=>by
  have hi':i<l.length:=by omega
  have ih:=bH3 hl n (i+1) fu (by omega) (by omega) (by omega);simp only[KY,nM hi',H7,Z4 hi',G5,wrap_succ (n:=l.length) (by omega) hi',bS5 hi];refine U5 (bH7 _) λ_ _ _=>J5 (λ_=>G7 trivial) λ_=>?_;have hcl:=bI5 (l:=l.take i) (by rw[U9];omega) l[i];refine J5 (λh3=>?_) λh3=>?_
  .have h3:=gB h3;rw[rG (by unfold okI;omega),bv5 hi' (by omega),G5];exact J5 (λ_=>G7 trivial) λ_=>U5 hcl λ_ _ _=>J5 (λ_=>G7 trivial) λ_=>ih
  .exact U5 hcl λ_ _ _=>J5 (λ_=>G7 trivial) λ_=>ih
theorem c38{l:List Came}(hl:l.length<=900):Tot (ao2 l) λ_=>True:=by
 unfold ao2 bH2 aQ3;refine U5 (Q:=λ_=>True) (J5 (λ_=>G7 trivial) λ_=>?_) λ_ _ _=>G7 trivial;exact bH3 hl l.length 0 1000 (by omega) (by omega) (by omega)
theorem dh0{l:List Came}(hl:l.length<=900):aq5 l=some l:=by
 unfold aq5;have h:decide (([]:List Came).length+l.length<=4294967296)=true:=Y9 (by simp;omega);simp only[h,H7,rO];cases l with
 |nil=>simp[KT]
 |cons x r=>rfl
theorem TF{l:List Opn}(hl:l.length<=900):vH l=some l:=by
 unfold vH;have h:decide (([]:List Opn).length+l.length<=4294967296)=true:=Y9 (by simp;omega);simp only[h,H7,rO];cases l with
 |nil=>simp[KT]
 |cons x r=>rfl
theorem c06{l:List Came}(hl:l.length<=890)(c:Came):Tot (an4 l c) λ_=>True:=by
 unfold an4;refine U5 (c38 (by omega)) λ_ _ _=>J5 (λ_=>G7 trivial) λ_=>?_;refine U5 (bH7 _) λ_ _ _=>J5 (λ_=>G7 trivial) λ_=>?_
 obtain⟨k,ok,e,hk⟩:=aU0 (x:=l) (tg:=c.Unit) (cmp:=λz0 z1=>an3 z0 z1) (λb=>by
  obtain⟨s,e1,_⟩:=aB0 b.Unit c.Unit;refine⟨s,?_⟩;show(wF b.Unit c.Unit).bind _=_
  rw[e1];rfl) (by omega) 1000 0 l.length (by omega) (by omega) (by omega)
 have e':bS0 l c.Unit (λz0 z1=>an3 z0 z1)=some ((k:Int),ok):=by
  show EX l c.Unit _ 1000 0 ((l.map J7).length:Int)=_;rw[U7];exact e
 rw[e',G5];refine U5 (bI5 (by omega) _) λ_ _ _=>J5 (λ_=>G7 trivial) λ_=>J5 (λ_=>G7 trivial) λ_=>J5 (λ_=>G7 trivial) λ_=>?_;rw[dh0 (by omega),G5];simp only[aV9];rw[Y9 ⟨by omega,by omega,by omega⟩];exact G7 trivial
theorem bH5{l:List Came}(hl:l.length<=900)(u:Int):Tot (an5 l u) λ_=>True:=by
 unfold an5;have e:=bQ6 (l:=l) (f:=λz0=>aQ4 z0 u) (p:=λx=>x.Unit==u) (by omega) (λ_ _=>rfl);rw[e,G5];cases ha:l.any λx=>x.Unit==u with
 |false=>rw[XJ ha];exact G7 trivial
 |true=>
  obtain⟨k,hk,e,_⟩:=JZ ha;rw[e,eU (by omega),G6,Z4 hk];exact G7 trivial
theorem UH(o:Opn):Tot (xB o) λb=>b=true↔jJ o:=by
 unfold xB jJ;refine J5 (λh=>G7 ?_) λh1=>J5 (λh=>G7 ?_) λh4=>G7 ?_
 .have h:o.Kind=1:=by simpa using h
  simp[h]
 .have h:o.Kind=4:=by simpa using h
  simp[h]
 .have h1:o.Kind≠1:=by simpa using h1
  have h4:o.Kind≠4:=by simpa using h4
  simp[h1,h4]
def fV(l:List Opn)(id:Int):Option Opn:=l.find? λo=>o.ID==id&&o.Kind !=6
theorem bw8{l:List Opn}(hl:l.length<=900)(r:List Int)(b:List Branch)(c:List Came)(m1:List (Str×Int))(id:Int):XW l r b c m1 id=some (match fV l id with|some o=>(o,true)|none=>((⟨0,0,0,0,0,0,0,([]:Str),([]:Str),(⟨0,0,0⟩:Origin)⟩:Opn),false)):=by
 have hf:∀o∈l,(λz0=>XV z0 id) o=some (o.ID==id&&o.Kind !=6):=λo _=>by
  simp only[XV];cases o.ID==id<;>rfl
 have e:=bQ9 (l:=l) (f:=λz0=>XV z0 id) (by omega) hf;unfold XW;rw[e,G5];cases ha:l.any λo=>o.ID==id&&o.Kind !=6 with
 |false=>
  have hn:fV l id=none:=by
   unfold fV;rw[List.find?_eq_none];rw[BM]at ha;exact ha
  rw[XJ ha,hn];rfl
 |true=>
  obtain⟨k,hk,e,hp,hlt⟩:=JZ ha;have hs:fV l id=some l[k]:=by
   unfold fV;rw[List.find?_eq_some_iff_getElem];exact⟨hp,k,hk,rfl,λj hj=>by rw[hlt j hj];rfl⟩
  rw[e,eU (by omega),G6,Z4 hk,G5,hs]
theorem aD5{l:List Opn}(hl:l.length<=900):∀(n i fu:Nat)(out:List Came),l.length-i=n->i<=l.length->n<fu->out.length<=i->Tot (ML l fu (i:Int) out) λr=>r.length<=l.length
 |_,i,0,_,_,_,h,_=>by omega
 |0,i,fu+1,out,hn,hi,_,ho=>by
  simp only[ML,oU (show i=l.length by omega),G6,aW2];rw[Y9 (by omega),H7,G5];exact G7 (by rw[ar7];omega)
 |n+1,i,fu+1,out,hn,hi,hf,ho=>by
  have hi':i<l.length:=by omega
  simp only[ML,nM hi',H7,Z4 hi',G5,wrap_succ (n:=l.length) (by omega) hi'];refine J5 (λ_=>?_) λ_=>aD5 hl n (i+1) fu out (by omega) (by omega) (by omega) (by omega);rw[Y9 (by simp;omega),H7];exact aD5 hl n (i+1) fu _ (by omega) (by omega) (by omega) (by simp;omega)
theorem cy0{l:List Opn}(hl:l.length<=900):Tot (aZ8 l) λr=>r.length<=l.length:=aD5 hl l.length 0 1000 [] (by omega) (by omega) (by omega) (by simp)
theorem c41{l:List Opn}{id:Int}(h:∀o∈l,o.Kind=6->o.Unit≠id):prt l id=false:=by
 unfold prt;have:∀(l:List Opn)(b:Bool),(∀o∈l,o.Kind=6->o.Unit≠id)->l.foldl (λb o=>b^^(o.Kind==6&&o.Unit==id)) b=b:=by
  intro l;induction l with
  |nil=>intro b _;rfl
  |cons o r ih=>
   intro b h;have h1:(o.Kind==6&&o.Unit==id)=false:=by
    by_cases hk:o.Kind=6
    .rw[rW (h o (by simp) hk),Bool.and_false]
    .rw[rW hk,Bool.false_and]
   rw[List.foldl_cons,h1,Bool.xor_false];exact ih b λx hx=>h x (by simp[hx])
 exact this l false h
theorem c39{l:List Opn}{o:Opn}(ho:o.Kind≠6)(id:Int):prt (l++[o]) id=prt l id:=by rw[ao3,rW ho];simp
theorem cq5{l:List Opn}{o:Opn}(ho:o.Kind≠6)(x:Opn):cp (l++[o]) x=cp l x:=by unfold cp;rw[c39 ho]
theorem ao4{l:List Opn}{o:Opn}(ho:o.Kind=6)(id:Int):prt (l++[o]) id=(prt l id^^(o.Unit==id)):=by rw[ao3,ho];rfl
theorem bk3{l:List Opn}{o:Opn}(ho:o.Kind=6):cp l o=false:=by unfold cp;rw[ho];rfl
theorem cq9{l:List Opn}{o x:Opn}(ho:o.Kind=6)(h:x.ID≠o.Unit):cp (l++[o]) x=cp l x:=by unfold cp;rw[ao4 ho,rW (λe=>h e.symm),Bool.xor_false]
theorem cq8{l:List Opn}{o x:Opn}(ho:o.Kind=6)(h:x.ID=o.Unit)(hp:prt l o.Unit=false):cp (l++[o]) x=false:=by unfold cp;rw[ao4 ho,h,hp];simp
theorem cq7{l:List Opn}{o p:Opn}(ho:o.Kind=6)(hp:p.Kind=6)(h:p.Unit=o.Unit)(x:Opn):cp (l++[o]++[p]) x=cp l x:=by
 unfold cp;rw[ao4 hp,ao4 ho,h];cases prt l x.ID<;>cases(o.Unit==x.ID)<;>rfl
theorem cq6{l:List Opn}{o:Opn}(h:cp l o=true):o.Kind≠6/\prt l o.ID=false:=by
 unfold cp at h;simp only[X3,bne_iff_ne,ne_eq,Bool.not_eq_true']at h;exact h
structure KI(l:List Opn)(t:Tree)(c:List Came)(m:List (Str×Int)):Prop where
 ids:l.Pairwise λa b=>a.ID<b.ID
 und:∀o∈l,o.Kind=6->o.Unit<o.ID
 fold:rep (cp l) 0 E0 l=some (t, -1,0)
 came:c.length<=l.length
 nd:(m.map Prod.fst).Nodup
 ml:m.length<=l.length
 own:∀s u,bM m s=some u↔∃o∈l,jJ o/\o.Mark=s/\o.Unit=u
theorem aW6:Sm 0 E0:=⟨J6 _,J6 _,λ_ h=>by cases h⟩
theorem KI.nil:KI [] E0 [] []:=⟨.nil,λ_ h=>(by cases h),rfl,J6 _,.nil,J6 _,λs u=>⟨λh=>(by cases h),λ⟨_,h,_⟩=>(by cases h)⟩⟩
theorem KI.rp{l:List Opn}{t:Tree}{c:List Came}{m:List (Str×Int)}(h:KI l t c m)(hl:l.length<=400):RP 0 E0 l t:=
 ((YX (p:=cp l) l 0 0 E0 aW6 (by omega)).of h.fold).1 rfl |>.2
theorem KI.sm{l:List Opn}{t:Tree}{c:List Came}{m:List (Str×Int)}(h:KI l t c m)(hl:l.length<=400):Sm 800 t:=(h.rp hl).sm.mono (by omega)
theorem KI.step{l:List Opn}{t t':Tree}{c c':List Came}{m m':List (Str×Int)}{o:Opn}(h:KI l t c m)(hlt:∀x∈l,x.ID<o.ID)(ho:o.Kind≠6)(ha:oW t o=some (t',0))(hc:c'.length<=l.length+1)
 (hn:(m'.map Prod.fst).Nodup) (hml:m'.length<=l.length+1) (hm:∀s u,bM m' s=some u↔bM m s=some u\/(jJ o/\o.Mark=s/\o.Unit=u)):KI (l++[o]) t' c' m':=by
 have hp:prt l o.ID=false:=c41 λx hx h6 e=>by have:=h.und x hx h6;have:=hlt x hx;omega
 have hcp:cp l o=true:=by unfold cp;rw[hp];simp[ho]
 refine⟨?_,λx hx h6=>?_,?_,by simpa using hc,hn,by simpa using hml,λs u=>?_⟩
 .rw[List.pairwise_append];exact⟨h.ids,List.pairwise_singleton _ _,λa hal b hb=>by rw[xR.1 hb];exact hlt a hal⟩
 .rcases iU.1 hx with hx|hx
  .exact h.und x hx h6
  .simp at hx;subst hx;exact absurd h6 ho
 .rw[ap0 _ _ _ λx _=>cq5 ho x,aS9 hcp l 0 E0 t h.fold,ha];rfl
 .rw[hm,h.own];constructor
  .rintro(⟨x,hx,h1⟩|h1)
   .exact⟨x,by simp[hx],h1⟩
   .exact⟨o,by simp,h1⟩
  .rintro⟨x,hx,h1⟩;rcases iU.1 hx with hx|hx
   .exact .inl ⟨x,hx,h1⟩
   .simp at hx;subst hx;exact .inr h1
theorem KI.undo{l:List Opn}{t t':Tree}{c:List Came}{m:List (Str×Int)}{o:Opn}(h:KI l t c m)(hlt:∀x∈l,x.ID<o.ID)(ho:o.Kind=6)(hu:o.Unit<o.ID)(ha:rep (cp (l++[o])) 0 E0 (l++[o])=some (t', -1,0)):KI (l++[o]) t' c m:=by
 have hg:¬jJ o:=KR (by omega) (by omega);refine⟨?_,λx hx h6=>?_,ha,?_,h.nd,by have:=h.ml;simp;omega,λs u=>?_⟩
 .rw[List.pairwise_append];exact⟨h.ids,List.pairwise_singleton _ _,λa hal b hb=>by rw[xR.1 hb];exact hlt a hal⟩
 .rcases iU.1 hx with hx|hx
  .exact h.und x hx h6
  .simp at hx;subst hx;exact hu
 .have:=h.came;simp;omega
 .rw[h.own];constructor
  .rintro⟨x,hx,h1⟩;exact⟨x,by simp[hx],h1⟩
  .rintro⟨x,hx,h1⟩;rcases iU.1 hx with hx|hx
   .exact⟨x,hx,h1⟩
   .simp at hx;subst hx;exact absurd h1.1 hg
theorem ak7{l:List Opn}(h:l.Pairwise λa b=>a.ID<b.ID){x y:Opn}(hx:x∈l)(hy:y∈l)(e:x.ID=y.ID):x=y:=by
 obtain⟨i,hi,rfl⟩:=dV hx;obtain⟨j,hj,rfl⟩:=dV hy;have h':=tH.1 h;rcases xY i j with h1|rfl|h1
 .have:=h' i j hi hj h1;omega
 .rfl
 .have:=h' j i hj hi h1;omega
theorem aE5{l:List Opn}{id:Int}{o:Opn}(h:fV l id=some o):o∈l/\o.ID=id/\o.Kind≠6:=by
 have h1:=List.mem_of_find?_eq_some h;have h2:=List.find?_some h;simp only[X3,beq_iff_eq,bne_iff_ne,ne_eq]at h2;exact⟨h1,h2⟩
theorem cz2{l:List Opn}(hi:l.Pairwise λa b=>a.ID<b.ID){o:Opn}(h:o∈l)(hk:o.Kind≠6):fV l o.ID=some o:=by
 cases hf:fV l o.ID with
 |none=>
  unfold fV at hf;rw[List.find?_eq_none]at hf;exact absurd (by simp[hk]) (hf o h)
 |some x=>
  obtain⟨h1,h2,_⟩:=aE5 hf;rw[ak7 hi h1 h h2]
structure KFt(l:List Opn)(m:List (Str×Int))(o:Opn):Prop where
 lt:∀h:0<l.length,(l[l.length-1]'(by omega)).ID<o.ID
 giv:jJ o->∀u,bM m o.Mark=some u->u=o.Unit
 six:o.Kind=6->∃x,fV l o.Unit=some x
section
variable{l:List Opn}{r:List Int}{b:List Branch}{c:List Came}{m:List (Str×Int)}{o:Opn}
theorem kf6(hl:l.length<=900):Tot (bif (o.Kind==6)then(Option.bind (XW l r b c m o.Unit) λy=>bif (!y.2)then some (7)else(bif (y.1.Kind==1)then(bif (y.1.Origin.U3 !=0)then(Option.bind (al3 l r b c m y.1.ID) λz=>bif z then some (21)else some (0))else some (0))else some (0)))else some (0)) λe:Int=>e=0->o.Kind=6->∃x,fV l o.Unit=some x:=by
 refine J5 (λh6=>?_) λh6=>G7 λ_ h=>absurd (by simpa using h) (by simpa using h6);rw[bw8 hl,G5];cases hf:fV l o.Unit with
 |none=>exact G7 (nz (by decide))
 |some x=>
  have ok:∀{e:Int},e=0->o.Kind=6->∃y,some x=some y:=λ_ _=>⟨x,rfl⟩;simp only[fC,G6];refine J5 (λ_=>J5 (λ_=>?_) λ_=>G7 ok) λ_=>G7 ok;rw[bw4 hl,G5];exact J5 (λ_=>G7 ok) λ_=>G7 ok
theorem kf4(hl:l.length<=900)(z:Origin×Bool)(v:Bool):Tot (QC l r b c m o z v) λe=>e=0->v=false/\(o.Kind=6->∃x,fV l o.Unit=some x):=by
 have j5:∀q,Tot (KJ l r b c m o q) λe=>e=0->o.Kind=6->∃x,fV l o.Unit=some x:=λq=>J5 (λ_=>G7 (nz (by decide))) λ_=>kf6 hl;exact J5 (λ_=>G7 (nz (by decide))) λhv=>J5 (λ_=>J5 (λ_=>(j5 _).mono λe he h0=>⟨hv,he h0⟩) λ_=>(j5 _).mono λe he h0=>⟨hv,he h0⟩) λ_=>(j5 _).mono λe he h0=>⟨hv,he h0⟩
theorem cN2(hl:l.length<=900)(y:Int×Bool)(z:Origin×Bool):Tot (KH l r b c m o y z) λe=>e=0->(o.Kind=6->∃x,fV l o.Unit=some x)/\(jJ o->y.2=true->y.1=o.Unit):=by
 unfold KH;refine U5 (UH o) λq _ hq=>J5 (λh=>J5 (λh2=>(kf4 hl z _).mono λe he h0=>⟨(he h0).2,λ_ _=>by simpa using(he h0).1⟩) λh2=>(kf4 hl z _).mono λe he h0=>⟨(he h0).2,λ_ h4=>by rw[h2]at h4;cases h4⟩) λh=>(kf4 hl z _).mono λe he h0=>⟨(he h0).2,λhg=>?_⟩
 grind
theorem cN1(hl:l.length<=100)(hc:c.length<=l.length)(y:Int×Bool):Tot (KG l r b c m o y) λe=>e=0->(o.Kind=6->∃x,fV l o.Unit=some x)/\(jJ o->y.2=true->y.1=o.Unit):=by
 unfold KG;have j3:=λz=>cN2 (l:=l) (r:=r) (b:=b) (c:=c) (m:=m) (o:=o) (by omega) y z;have j6:∀z q,Tot (XU l r b c m o y z q) λe=>e=0->(o.Kind=6->∃x,fV l o.Unit=some x)/\(jJ o->y.2=true->y.1=o.Unit):=λz q=>
  J5 (λ_=>G7 (nz (by decide))) λ_=>J5 (λ_=>U5 (c06 (by omega) _) λa _ _=>J5 (λh=>G7 λh0=>absurd h0 (by simpa using h)) λ_=>j3 z) λ_=>j3 z
 exact U5 (bH5 (by omega) _) λz _ _=>J5 (λ_=>j6 z _) λ_=>j6 z _
theorem cN4(hl:l.length<=100)(hc:c.length<=l.length):Tot (EF l r b c m o) λe=>e=0->KFt l m o:=by
 show Tot (EF l r b c m o) _;unfold EF al9;rw[G5];have j1:=cN1 (l:=l) (r:=r) (b:=b) (c:=c) (m:=m) (o:=o) hl hc ((bM m o.Mark).getD 0,(bM m o.Mark).isSome);have fin:∀{e:Int},((o.Kind=6->∃x,fV l o.Unit=some x)/\(jJ o->(bM m o.Mark).isSome=true->(bM m o.Mark).getD 0=o.Unit))->(∀h:0<l.length,(l[l.length-1]'(by omega)).ID<o.ID)->KFt l m o:=λh1 h2=>⟨h2,λhg u hu=>by have:=h1.2 hg;rw[hu]at this;exact this rfl,h1.1⟩;refine J5 (λ_=>G7 (nz (by decide))) λ_=>U5 (Q:=λ_=>True) (U5 (bM5 o) λ_ _ _=>J5 (λ_=>G7 trivial) λ_=>G7 trivial) λ_ _ _=>J5 (λh=>G7 λh0=>absurd h0 (by simp)) λ_=>J5 (λh=>?_) λh=>j1.mono λe he h0=>fin (e:=e) (he h0) λhp=>?_
 .rw[U7]at*
  have h:=gB h;rw[rG (by unfold okI;omega),show(l.length:Int)-1=((l.length-1:Nat):Int) by omega,Z4 (by omega),G5];refine J5 (λ_=>G7 (nz (by decide))) λhlt=>?_;rw[G5];refine J5 (λ_=>G7 (nz (by decide))) λ_=>j1.mono λe he h0=>fin (e:=e) (he h0) λhp=>?_
  grind
 .grind
theorem cK2(hi:l.Pairwise λa b=>a.ID<b.ID)(h:∀h:0<l.length,(l[l.length-1]'(by omega)).ID<o.ID):∀x∈l,x.ID<o.ID:=λx hx=>by
 obtain⟨i,hi',rfl⟩:=dV hx;have h2:=h (by omega);rcases eG i (l.length-1)with h1|h1
 .exact Int.lt_trans (tH.1 hi i (l.length-1) hi' (by omega) h1) h2
 .grind
end
theorem bw1{l:List Opn}{t:Tree}{c:List Came}{m:List (Str×Int)}(hl:l.length<=100)(h:KI l t c m)(o:Opn):Tot (oP l t.O1 t.Branches c m o) λr=>r.2.1=0->r.1= -1/\r.2.2.2.1=l++[o]/\KI (l++[o]) ⟨r.2.2.2.2.1,r.2.2.2.2.2.1⟩ r.2.2.2.2.2.2 r.2.2.1/\(jJ o->Has ⟨r.2.2.2.2.1,r.2.2.2.2.2.1⟩ o.Unit o.Mark):=by
 show Tot (oP l t.O1 t.Branches c m o) _;unfold oP;have hK:=h;refine U5 (cN4 hl h.came) λy1 _ hy1=>J5 (λhe=>G7 λh0=>absurd h0 (by simpa using he)) λhe=>?_;have kf:=hy1 (by simpa using he);have hlt:=cK2 h.ids kf.lt;rw[TF (by omega),G5,Y9 (by simp;omega),H7];have hsm:=h.sm (by omega);refine J5 (λh6=>?_) λh6=>?_
 .have h6:o.Kind=6:=by simpa using h6
  have zA:¬jJ o:=KR (by omega) (by omega);obtain⟨x,hx⟩:=kf.six h6;obtain⟨hx1,hx2,_⟩:=aE5 hx;rw[b85 (by simp;omega)];refine U5 (YX (l++[o]) 0 0 E0 aW6 (by simp;omega)) λy7 hy7 ⟨h1,_⟩=>J5 (λ_=>G7 λh0=>absurd (show(20:Int)=0 from h0) (by decide)) λh0=>?_;have h0:y7.2.2=0:=by grind
  rw[show(o.Kind==1)=false by rw[h6];rfl,G6];refine U5 (UH o) λq _ hq=>J5 (λhq'=>absurd (hq.1 hq') zA) λ_=>G7 λ_=>⟨rfl,rfl,?_,λhg=>absurd hg zA⟩;refine h.undo hlt h6 (by have:=hlt x hx1;omega) ?_;rw[hy7];obtain⟨T,a,e⟩:=y7;obtain rfl:e=0:=h0;obtain⟨rfl,_⟩:=h1 rfl;rfl
 .have h6:o.Kind≠6:=by simpa using h6
  refine U5 (bf5 o (by omega) hsm) λlF hy hA=>J5 (λh0=>G7 λh1=>absurd h1 (by simpa using h0)) λh0=>?_;have h0:lF.2=0:=by grind
  have hA:=hA h0;have hy:oW t o=some (lF.1,0):=by rw[<-h0];exact hy
  have key:∀(c':List Came)(q:Bool),c'.length<=l.length+1->(q=true↔jJ o)->Tot (bif q then some ((-1:Int),(0:Int),(bZ m o.Mark o.Unit),(l++([o]:List Opn)),lF.1.O1,lF.1.Branches,c')else some ((-1),0,m,(l++([o]:List Opn)),lF.1.O1,lF.1.Branches,c')) λr=>r.2.1=0->r.1= -1/\r.2.2.2.1=l++[o]/\KI (l++[o]) ⟨r.2.2.2.2.1,r.2.2.2.2.2.1⟩ r.2.2.2.2.2.2 r.2.2.1/\(jJ o->Has ⟨r.2.2.2.2.1,r.2.2.2.2.2.1⟩ o.Unit o.Mark):=λc' q hc hq=>by
   refine J5 (λh=>G7 λ_=>⟨rfl,rfl,?_,hA.new⟩) λhn=>G7 λ_=>⟨rfl,rfl,?_,hA.new⟩
   .have hg:=hq.1 h;have hml:=cT4 m o.Mark o.Unit;refine hK.step hlt h6 hy hc (cT5 hK.nd _ _) (X4 hml (Nat.succ_le_succ hK.ml)) λs u=>?_;rw[aM5];by_cases hs:s=o.Mark
    .subst hs;rw[IC,H7]
     exact⟨λe=>.inr ⟨hg,rfl,iE e⟩,λe=>by
      rcases e with e|⟨_,_,e⟩
      .rw[kf.giv hg u e]
      .rw[e]⟩
    .grind
   .have zA:¬jJ o:=λhg=>by rw[hq.2 hg]at hn;cases hn
    exact hK.step hlt h6 hy hc hK.nd (Nat.le_succ_of_le hK.ml) λs u=>⟨.inl,λe=>e.resolve_right λ⟨hg,_⟩=>zA hg⟩
  refine J5 (λ_=>?_) λ_=>?_
  .refine U5 (cy0 (by simp;omega)) λc' _ hc'=>U5 (UH o) λq _ hq=>key c' q (by simpa using hc') hq
  .exact U5 (UH o) λq _ hq=>key c q (by have:=h.came;omega) hq
inductive lG:List Opn->Tree->List Came->List (Str×Int)->Prop
 |nil:lG [] E0 [] []
 |snoc {l:List Opn} {t:Tree} {c:List Came} {m:List (Str×Int)} {t':Tree} {c':List Came} {m':List (Str×Int)} {o:Opn}:lG l t c m->oP l t.O1 t.Branches c m o=some (-1,0,m',l++[o],t'.O1,t'.Branches,c')->lG (l++[o]) t' c' m'
theorem lG.ki{l:List Opn}{t:Tree}{c:List Came}{m:List (Str×Int)}(h:lG l t c m):l.length<=100->KI l t c m:=by
 induction h with
 |nil=>exact λ_=>KI.nil
 |snoc h ha ih=>
  intro hl;simp only[bQ,List.length_singleton]at hl;exact((bw1 (by omega) (ih (by omega)) _).of ha rfl).2.2.1
theorem cM7{l:List Opn}{t:Tree}{c:List Came}{m:List (Str×Int)}(h:lG l t c m):∀(rest:List Opn)(fu:Nat),(l++rest).length<=100->MN (l++rest) (l.length+fu) 0 [] [] [] [] []=MN (l++rest) fu (l.length:Int) l t.O1 t.Branches c m:=by
 induction h with
 |nil=>grind
 | @snoc l t c m t' c' m' o h ha ih=>
   intro rest fu hl;have e:l++[o]++rest=l++(o::rest):=by simp
   rw[e]at hl⊢;rw[show(l++[o]).length+fu=l.length+(fu+1) by simp;omega,ih (o::rest) (fu+1) hl];have hi:l.length<(l++o::rest).length:=by simp
   have hx:(l++o::rest)[l.length]'hi=o:=by simp
   simp only[MN,nM hi,H7,Z4 hi,hx,G5,ha,wrap_succ (n:=(l++o::rest).length) (by omega) hi];simp
theorem av4{l:List Opn}{t:Tree}{c:List Came}{m:List (Str×Int)}(h:lG l t c m)(hl:l.length<=100):FP l=some ((l,t.O1,t.Branches,c,m), -1,0):=by
 have e:=cM7 h [] (1000-l.length) (by simpa using hl);rw[show l.length+(1000-l.length)=1000 by omega,List.append_nil]at e;refine Eq.trans e ?_;obtain⟨n,hn⟩:∃n,1000-l.length=n+1:=⟨999-l.length,by omega⟩;rw[hn];simp only[MN,oU rfl,G6]
theorem aZ4{l:List Opn}{t:Tree}{c:List Came}{m:List (Str×Int)}(h:lG l t c m)(hl:l.length<=100):UF l=some (t,0):=by
 show(FP l).bind _=_;rw[av4 h hl];rfl
theorem du8{l:List Opn}{t:Tree}{c:List Came}{m:List (Str×Int)}(h:lG l t c m)(hl:l.length<=100):aZ2 l=some ((l.filter (cp l)).map Opn.ID,0):=by
 show((FP l).bind λy1=>some (y1.2.1,y1.2.2)).bind _=_;rw[av4 h hl];show(aZ6 ([]:List Int) l).bind _=_;rw[cq4 (by omega)];rfl
theorem b58{l l':List Opn}{t t':Tree}{c c':List Came}{m m':List (Str×Int)}{o:Opn}(h:lG l t c m)(hl:l.length<=100){a:Int}(ha:oP l t.O1 t.Branches c m o=some (a,0,m',l',t'.O1,t'.Branches,c')):vP l o=some (l', -1,0):=by
 show(FP l).bind _=_;rw[av4 h hl]
 grind
theorem aY7{l:List Opn}{t:Tree}{c:List Came}{m:List (Str×Int)}{o:Opn}(h:lG l t c m)(hl:l.length<=100){a e:Int}{x:List (Str×Int)×List Opn×List Int×List Branch×List Came}(he:e≠0)(ha:oP l t.O1 t.Branches c m o=some (a,e,x)):vP l o=some ([],a,e):=by
 show(FP l).bind _=_;rw[av4 h hl]
 grind
theorem du4{l:List Opn}{t:Tree}{c:List Came}{m:List (Str×Int)}(h:lG l t c m)(hl:l.length<=99)(o:Opn):Tot (vP l o) λr=>r.2.2=0->r.1=l++[o]/\∃t' c' m',lG (l++[o]) t' c' m':=by
 obtain⟨⟨a,e,m',l',r',b',c'⟩,hr,hp⟩:=bw1 (by omega) (h.ki (by omega)) o;by_cases he:e=0
 .subst he;obtain⟨h1,h2,h3,h4⟩:=hp rfl;simp only at h1 h2 h3 h4;subst h1;subst h2;rw[b58 (t':=⟨r',b'⟩) h (by omega) hr];exact G7 λ_=>⟨rfl,⟨r',b'⟩,c',m',.snoc h hr⟩
 .rw[aY7 h (by omega) he hr];exact G7 λh0=>absurd h0 he
structure LG(i:Nat)(l:List Opn):Prop where
 kep:∃t c m,lG l t c m
 len:l.length<=i
 rng:∀x∈l,1<=x.ID/\x.ID<=i/\0<=x.Day/\x.Day<=i
theorem LG.mono{i j:Nat}{l:List Opn}(h:LG i l)(hij:i<=j):LG j l:=⟨h.kep,X4 h.len hij,λx hx=>by have:=h.rng x hx;omega⟩
theorem aL9{l:List Opn}(hl:l.length<=24):∀(n i fu:Nat)(out:List Opn),l.length-i=n->i<=l.length->n<fu->LG i out->Tot (KN l fu out (i:Int)) (LG 24)
 |_,i,0,_,_,_,h,_=>by omega
 |0,i,fu+1,out,hn,hi,_,h=>by
  simp only[KN,oU (show i=l.length by omega),G6];exact G7 (h.mono (by omega))
 |n+1,i,fu+1,out,hn,hi,hf,h=>by
  have hi':i<l.length:=by omega
  have hol:=h.len;obtain⟨t,c,m,hk⟩:=h.kep;simp only[KN,nM hi',H7,Z4 hi',G5,wrap_succ (n:=l.length) (by omega) hi',TF (show out.length<=900 by omega)];refine U5 (du4 hk (by omega) _) λy _ hy=>J5 (λh0=>?_) λ_=>aL9 hl n (i+1) fu out (by omega) (by omega) (by omega) (h.mono (by omega));obtain⟨e,t',c',m',hk'⟩:=hy (by simpa using h0);rw[e];refine aL9 hl n (i+1) fu _ (by omega) (by omega) (by omega) ⟨⟨t',c',m',hk'⟩,by simp;omega,λx hx=>?_⟩;rcases iU.1 hx with hx|hx
  .have:=h.rng x hx;omega
  .grind
theorem cQ3{l:List Opn}(hl:l.length<=24):Tot (bz3 l) (LG 24):=aL9 hl l.length 0 1000 [] (by omega) (by omega) (by omega) ⟨⟨_,_,_,.nil⟩,J6 _,λ_ h=>(by cases h)⟩
theorem bJ7{l:List Opn}(hl:l.length<=9223372036854775807):∀(n i fu:Nat),l.length-i=n->i<=l.length->n<fu->Tot (SI l fu (i:Int)) λr=>r=true->l.length<=24
 |_,i,0,_,_,h=>by omega
 |0,i,fu+1,hn,hi,_=>by
  rw[SI,oU (show i=l.length by omega),G6,U7];exact G7 λh=>by grind
 |n+1,i,fu+1,hn,hi,hf=>by
  have hi':i<l.length:=by omega
  simp only[SI,nM hi',H7,Z4 hi',G5,wrap_succ hl hi'];refine U5 (Q:=λ_=>True) ?_ λy _ _=>J5 (λ_=>G7 λh=>by cases h) λ_=>bJ7 hl n (i+1) fu (by omega) (by omega) (by omega);exact J5 (λ_=>G7 trivial) λ_=>G7 trivial
theorem c54{l:List Opn}(hl:l.length<=9223372036854775807):Tot (aR9 l) λr=>r=true->l.length<=24:=bJ7 hl l.length 0 (l.length+1) (by omega) (by omega) (by omega)
theorem bD1{a:List Int}(hl:a.length<=900):∀(n i fu:Nat),a.length-i=n->i<=a.length->n<fu->QN a a fu (i:Int)=some true
 |_,i,0,_,_,h=>by omega
 |0,i,fu+1,hn,hi,_=>by simp only[QN,oU (show i=a.length by omega),G6]
 |n+1,i,fu+1,hn,hi,hf=>by
  have hi':i<a.length:=by omega
  simp only[QN,nM hi',H7,Z4 hi',G5,wrap_succ (n:=a.length) (by omega) hi',CO,G6];exact bD1 hl n (i+1) fu (by omega) (by omega) (by omega)
theorem bD2{a:List Int}(hl:a.length<=900):aN6 a a=some true:=by
 show am7 1000 a a=_;unfold am7;rw[CO,G6];exact bD1 hl a.length 0 1000 (by omega) (by omega) (by omega)
theorem bC9{t:Tree}(h:Sm 900 t):∀(n i fu:Nat),t.Branches.length-i=n->i<=t.Branches.length->n<fu->QJ t t fu (i:Int)=some true
 |_,i,0,_,_,h=>by omega
 |0,i,fu+1,hn,hi,_=>by simp only[QJ,oU (show i=t.Branches.length by omega),G6]
 |n+1,i,fu+1,hn,hi,hf=>by
  have hi':i<t.Branches.length:=by omega
  have hb:=h.b;have hk:=bD2 (h.k _ (fK hi'));simp only[QJ,nM hi',H7,Z4 hi',G5,wrap_succ (n:=t.Branches.length) (by omega) hi',IC,fC,G6,hk];exact bC9 h n (i+1) fu (by omega) (by omega) (by omega)
theorem bD0{t:Tree}(h:Sm 900 t):YI t t=some true:=by
 show am0 1000 t t=_;unfold am0;have hb:=h.b;rw[bD2 h.r,G5,fC,G6,CO,G6];exact bC9 h t.Branches.length 0 1000 (by omega) (by omega) (by omega)
theorem bw7{l:List Opn}{r:List Int}{b:List Branch}{c:List Came}{m:List (Str×Int)}{o x:Opn}(hl:l.length<=100)(hc:c.length<=l.length)(ho:o.Kind=6)(hf:ES o=some 0)
 (hlast:∀h:0<l.length,(l[l.length-1]'(by omega)).ID<o.ID/\(l[l.length-1]'(by omega)).Day<=o.Day) (hx:fV l o.Unit=some x):
 EF l r b c m o=some (bif (x.Kind==1)&&((x.Origin.U3 !=0)&&(l.any λq=>cp l q&&(q.ID==x.ID)))then 21 else 0):=by
 have k1:(o.Kind==1)=false:=by rw[ho];rfl
 have k4:(o.Kind==4)=false:=by rw[ho];rfl
 have k5:(o.Kind==5)=false:=by rw[ho];rfl
 have k6:(o.Kind==6)=true:=by rw[ho];rfl
 have e5:∀v,v=false->KJ l r b c m o v=some (bif (x.Kind==1)&&((x.Origin.U3 !=0)&&(l.any λq=>cp l q&&(q.ID==x.ID)))then 21 else 0):=λv hv=>by
  unfold KJ;rw[hv,G6,k6,H7,bw8 (by omega),hx];simp only[G5,fC,G6,bw4 (show l.length<=900 by omega)];cases x.Kind==1 with
  |false=>rfl
  |true=>grind
 have e2:∀y z,KH l r b c m o y z=some (bif (x.Kind==1)&&((x.Origin.U3 !=0)&&(l.any λq=>cp l q&&(q.ID==x.ID)))then 21 else 0):=λy z=>by
  unfold KH QC;have hm:xB o=some false:=by
   obtain⟨q,hq,hg⟩:=UH o;cases q with
   |false=>exact hq
   |true=>exact absurd (hg.1 rfl) (KR (by omega) (by omega))
  grind
 have e1:∀y,KG l r b c m o y=some (bif (x.Kind==1)&&((x.Origin.U3 !=0)&&(l.any λq=>cp l q&&(q.ID==x.ID)))then 21 else 0):=λy=>by
  unfold KG;obtain⟨z,hz,_⟩:=bH5 (l:=c) (by omega) o.Unit;rw[hz,G5,k1,G6];unfold XU
  grind
 show EF l r b c m o=_;unfold EF al9;rw[G5,U7,eU (by omega),G6,hf,G5];show(bif decide ((l.length:Int)>0)then _ else _)=_;by_cases h:0<l.length
 .obtain⟨h1,h2⟩:=hlast h;rw[Y9 (by omega),H7,rG (by unfold okI;omega),show(l.length:Int)-1=((l.length-1:Nat):Int) by omega,Z4 (by omega),G5,eU (by omega),G6,G5,eU (by omega),G6];exact e1 _
 .grind
section
variable{l:List Opn}{t:Tree}{c:List Came}{m:List (Str×Int)}{o x:Opn}
theorem ch1(h:lG l t c m)(hl:l.length<=90)(ho:o.Kind=6)(hf:ES o=some 0)
 (hlast:∀h:0<l.length,(l[l.length-1]'(by omega)).ID<o.ID/\(l[l.length-1]'(by omega)).Day<=o.Day) (hx:fV l o.Unit=some x) (h1:x.Kind=1) (h2:x.Origin.U3≠0) (h3:cp l x=true):vP l o=some ([], -1,21):=by
 have e:=bw7 (r:=t.O1) (b:=t.Branches) (m:=m) (by omega) (h.ki (by omega)).came ho hf hlast hx;have h4:(l.any λq=>cp l q&&(q.ID==x.ID))=true:=List.any_eq_true.2 ⟨x,(aE5 hx).1,by rw[h3];simp⟩;rw[h4,h1,show(x.Origin.U3 !=0)=true by simpa using h2]at e;refine aY7 h (by omega) (show(21:Int)≠0 by decide) (x:=(m,l,t.O1,t.Branches,c)) ?_;show oP l t.O1 t.Branches c m o=_;unfold oP;rw[e];rfl
theorem be5(h:lG l t c m)(hl:l.length<=90)(ho:o.Kind=6)(hf:ES o=some 0)
 (hlast:∀h:0<l.length,(l[l.length-1]'(by omega)).ID<o.ID/\(l[l.length-1]'(by omega)).Day<=o.Day) (hx:fV l o.Unit=some x) (hh:¬(x.Kind=1/\x.Origin.U3≠0)) {T:Tree} {a e:Int} (hr:rep (cp (l++[o])) 0 E0 (l++[o])=some (T,a,e)):
 (e≠0->vP l o=some ([],a,20))/\(e=0->vP l o=some (l++[o], -1,0)/\lG (l++[o]) T c m):=by
 have ef:=bw7 (r:=t.O1) (b:=t.Branches) (m:=m) (by omega) (h.ki (by omega)).came ho hf hlast hx;have h0:(bif (x.Kind==1)&&((x.Origin.U3 !=0)&&(l.any λq=>cp l q&&(q.ID==x.ID)))then(21:Int)else 0)=0:=by grind
 rw[h0]at ef;have zA:xB o=some false:=by
  obtain⟨q,hq,hg⟩:=UH o;cases q with
  |false=>exact hq
  |true=>exact absurd (hg.1 rfl) (KR (by omega) (by omega))
 have k1:(o.Kind==1)=false:=by rw[ho];rfl
 have k6:(o.Kind==6)=true:=by rw[ho];rfl
 have ek:oP l t.O1 t.Branches c m o=bif e !=0 then some (a,20,m,l,t.O1,t.Branches,c)else some (-1,0,m,l++[o],T.O1,T.Branches,c):=by
  show oP l t.O1 t.Branches c m o=_;unfold oP;rw[ef,G5,TF (by omega),G5,Y9 (by simp;omega),k6,b85 (by simp;omega),hr]
  grind
 refine⟨λhe=>?_,λhe=>?_⟩
 .rw[show(e !=0)=true by simpa using he,H7]at ek;exact aY7 h (by omega) (by decide) ek
 .subst he;rw[CO,G6]at ek;exact⟨b58 h (by omega) ek,.snoc h ek⟩
end
theorem bo5{i d k:Int}(hi:1<=i/\i<=1000)(hd:0<=d/\d<=1000)(hk:1<=k/\k<=1000):ES (⟨i,d,6,k,0,0,0,([]:Str),([]:Str),(⟨0,0,0⟩:Origin)⟩:Opn)=some 0:=by
 show ES _=_;unfold ES;have:ET (⟨i,d,6,k,0,0,0,([]:Str),([]:Str),(⟨0,0,0⟩:Origin)⟩:Opn)=some true:=by
  show ET _=_;unfold ET ZJ;simp only[ZR,G5]
  grind
 grind
section
variable{l:List Opn}{y:List Int×Int}{k:Int}{p:Opn->Bool}
theorem b75{t:Tree}{f:Int}(hl:l.length<=100)(hf:0<=f)(fu:Nat):∀(n i:Nat),l.length-i=n->i<=l.length->oQ l y k (n+fu) f (i:Int) t.O1 t.Branches=oQ l y k fu f (l.length:Int) t.O1 t.Branches
 |0,i,hn,hi=>by grind
 |n+1,i,hn,hi=>by
  have hi':i<l.length:=by omega
  rw[show n+1+fu=(n+fu)+1 by omega,oQ];simp only[nM hi',H7,Z4 hi',G5,wrap_succ (n:=l.length) (by omega) hi',Y9 (show f>=0 from hf)];exact b75 hl hf fu n (i+1) (by omega) (by omega)
theorem b74(hl:l.length<=100)(hp:∀o∈l,p o=(!(o.ID==k)&&cp l o))(hy:∀o∈l,sU y.1 o.ID=some (cp l o))(fu:Nat):∀(n i:Nat)(t:Tree)(T:Tree)(a e:Int),l.length-i=n->i<=l.length->rep p i t (l.drop i)=some (T,a,e)->(e≠0->0<=a)->
 ∃(t':Tree) (f:Int),oQ l y k (n+fu) (-1) (i:Int) t.O1 t.Branches=oQ l y k fu f (l.length:Int) t'.O1 t'.Branches/\(e=0->f= -1/\t'=T)/\(e≠0->f=a)
 |0,i,t,T,a,e,hn,hi,hr,ha=>by
  obtain rfl:i=l.length:=by omega
  rw[List.drop_length]at hr;cases hr
  grind
 |n+1,i,t,T,a,e,hn,hi,hr,ha=>by
  have hi':i<l.length:=by omega
  rw[xP hi']at hr;have hm:=fK hi';have hpo:=hp _ hm;have hyo:=hy _ hm;have ih:=λt T a e=>b74 hl hp hy fu n (i+1) t T a e (by omega) (by omega);simp only[rep,hpo]at hr;rw[show n+1+fu=(n+fu)+1 by omega,oQ];simp only[nM hi',H7,Z4 hi',G5,wrap_succ (n:=l.length) (by omega) hi',eU (show ¬((-1:Int)>=0) by decide),G6,hyo];cases h1:(l[i].ID==k)with
  |true=>grind
  |false=>
   rw[h1]at hr;simp only[Bool.not_false,rH]at hr;simp only[G6];cases h2:cp l l[i]with
   |false=>grind
   |true=>
    rw[h2]at hr;simp only[H7]at hr;simp only[fC,G6];obtain⟨z,hz,hr⟩:=aX hr;have hz':oW (⟨t.O1,t.Branches⟩:Tree) l[i]=some z:=hz;rw[hz',G5];cases h3:z.2==0 with
    |true=>grind
    |false=>
     rw[h3]at hr;simp only[G6,Z9,dI]at hr;obtain⟨h4,h5,h6⟩:=hr;rw[show(z.2 !=0)=true by simp[bne,h3],H7];refine⟨t,(i:Int),b75 hl (by omega) fu n (i+1) (by omega) (by omega),λh=>?_,λ_=>h5⟩
     grind
end
theorem di2{l:List Opn}(hl:l.length<=100)(k:Int):aa6 l (λz0=>aL4 z0 k)=some (idxOf (λo=>o.ID==k) l):=bQ9 (by omega) λ_ _=>rfl
set_option maxRecDepth 4000 in
theorem topUndone.cO4(l:List Opn)(w:Int)(hl:l.length<=9223372036854775807)(hw:0<=w/\w<=255):by0 l w=some true:=by
 show al4 1000 l w=_;unfold al4 XZ;rw[G5,fC,G6];obtain⟨q,hq,hq'⟩:=c54 hl;rw[hq,G5];cases q with
 |false=>rfl
 |true=>
 have cG8:=hq' rfl;rw[fC,G6];obtain⟨g,hg,hG⟩:=cQ3 cG8;obtain⟨⟨t,c,m,hK⟩,hlen,bt1⟩:=hG;have hI:=hK.ki (by omega);rw[hg,G5,TF (by omega),G5,du8 hK (by omega),G5];show(bif (0:Int) !=0 then _ else _)=_;rw[CO,G6];generalize hcs:(g.filter (cp g)).map Opn.ID=cs;show(bif ((cs.map F5).length:Int)==0 then _ else _)=_;rw[U7];by_cases h0:cs.length=0
 .rw[h0];rfl
 have hcl:cs.length<=24:=by grind
 rw[rW (show(cs.length:Int)≠0 by omega),G6,eU (by omega),G6,rG (by unfold okI;omega)];have hmod:Int.tmod w (cs.length:Int)=((w.toNat % cs.length:Nat):Int):=by grind
 have hlt:w.toNat % cs.length<cs.length:=Nat.mod_lt _ (by omega);rw[hmod,Z4 hlt,G5];generalize hk:cs[w.toNat % cs.length]=k;have hkm:k∈cs:=hk▸fK hlt;rw[<-hcs]at hkm;obtain⟨x,hxf,hxk⟩:=iV.1 hkm;obtain⟨hxm,hxc⟩:=List.mem_filter.1 hxf;obtain⟨hx6,hxp⟩:=cq6 hxc;have hfx:fV g k=some x:=hxk▸cz2 hI.ids hxm hx6;have hgp:0<g.length:=List.length_pos_of_mem hxm;have hcon:∀o∈g,sU cs o.ID=some (cp g o):=λo ho=>by
  rw[aV5 (by omega)];congr 1;cases hb:cp g o with
  |true=>grind
  |false=>
   rw[BM];intro i hi he;rw[<-hcs]at hi;obtain⟨z,hz,rfl⟩:=iV.1 hi;obtain⟨hz1,hz2⟩:=List.mem_filter.1 hz;rw[<-ak7 hI.ids ho hz1 (by simpa using he),hb]at hz2;cases hz2
 have hlast:g.length-1<g.length:=by omega
 have hL:=bt1 _ (fK hlast);have hX:=bt1 _ hxm;generalize hz:g[g.length-1]=z at hL;have f1:=bo5 (i:=z.ID+1) (d:=z.Day) (k:=k) (by omega) (by omega) (by omega);have f2:=bo5 (i:=z.ID+2) (d:=z.Day) (k:=k) (by omega) (by omega) (by omega);generalize hu1:(⟨z.ID+1,z.Day,6,k,0,0,0,([]:Str),([]:Str),(⟨0,0,0⟩:Origin)⟩:Opn)=u1 at f1;generalize hu2:(⟨z.ID+2,z.Day,6,k,0,0,0,([]:Str),([]:Str),(⟨0,0,0⟩:Origin)⟩:Opn)=u2 at f2;have u16:u1.Kind=6:=by rw[<-hu1]
 have u26:u2.Kind=6:=by rw[<-hu2]
 have u1k:u1.Unit=k:=by rw[<-hu1]
 have u2k:u2.Unit=k:=by rw[<-hu2]
 have br6:∀h:0<g.length,(g[g.length-1]'(by omega)).ID<u1.ID/\(g[g.length-1]'(by omega)).Day<=u1.Day:=λ_=>by grind
 have cG9:∀h:0<(g++[u1]).length,((g++[u1])[(g++[u1]).length-1]'(by omega)).ID<u2.ID/\((g++[u1])[(g++[u1]).length-1]'(by omega)).Day<=u2.Day:=λ_=>by grind
 have hx1:fV g u1.Unit=some x:=by grind
 have hx2:fV (g++[u1]) u2.Unit=some x:=by
  rw[u2k];unfold fV at hfx⊢
  grind
 let p:Opn->Bool:=λo=> !(o.ID==k)&&cp g o
 have hpu:∀o∈g,cp (g++[u1]) o=p o:=λo ho=>by
  by_cases he:o.ID=k
  .have:o=x:=ak7 hI.ids ho hxm (he.trans hxk.symm);subst this;rw[cq8 u16 (he.trans u1k.symm) (by rw[u1k,<-hxk];exact hxp)];simp[p,he]
  .rw[cq9 u16 (by rw[u1k];exact he)]
   grind
 have hru:rep (cp (g++[u1])) 0 E0 (g++[u1])=rep p 0 E0 g:=by
  rw[ap1 (bk3 u16),ap0 _ _ _ hpu]
 obtain⟨⟨T,a,e⟩,hr,hr0,hr1⟩:=YX (p:=p) g 0 0 E0 aW6 (by omega);have cI9:=hru.trans hr;have hnn:e≠0->0<=a:=λhe=>by grind
 clear hr0 hr1;obtain⟨t',f,hloop,hl0,hl1⟩:=b74 (l:=g) (y:=(cs,0)) (k:=k) (p:=p) (by omega) (λ_ _=>rfl) hcon (1000-g.length) g.length 0 E0 T a e rfl (by omega) (by rw[List.drop_zero];exact hr) hnn;rw[show g.length+(1000-g.length)=1000 by omega]at hloop;refine Eq.trans hloop ?_;obtain⟨N,hN⟩:∃N,1000-g.length=N+1:=⟨999-g.length,by omega⟩;rw[hN,oQ];rw[oU rfl,G6,U7,rG (show okI ((g.length:Int)-1) by unfold okI;omega),show(g.length:Int)-1=((g.length-1:Nat):Int) by omega,Z4 hlast,G5,hz,TF (by omega),G5,rG (show okI (z.ID+1) by unfold okI;omega),rG (show okI (z.ID+2) by unfold okI;omega),hu1,hu2];by_cases XA:x.Kind=1/\x.Origin.U3≠0
 .rw[ch1 hK (by omega) u16 f1 br6 hx1 XA.1 XA.2 hxc,G5];show(bif ((21:Int)==21)then _ else _)=_;rw[IC,H7,di2 (by omega),G5];obtain⟨j,hj,hje,hjp,_⟩:=JZ (p:=λo:Opn=>o.ID==k) (l:=g) (List.any_eq_true.2 ⟨x,hxm,by simpa using hxk⟩);have hjx:g[j]=x:=ak7 hI.ids (fK hj) hxm ((by simpa using hjp:g[j].ID=k).trans hxk.symm);rw[hje,Y9 (by omega),H7,Z4 hj,G5,hjx,XA.1]
  grind
 .obtain⟨ha1,ha0⟩:=be5 hK (by omega) u16 f1 br6 hx1 XA cI9;by_cases he:e=0
  .obtain⟨rfl,rfl⟩:=hl0 he;obtain⟨hA,hK1⟩:=ha0 he;have hI1:=hK1.ki (by simp;omega);rw[hA,G5];show(bif ((0:Int)==21)then _ else bif decide ((-1:Int)>=0)then _ else _)=_;rw[show((0:Int)==21)=false from rfl,G6,show decide ((-1:Int)>=0)=false from rfl,G6,TF (by simp;omega),G5,aZ4 hK1 (by simp;omega),G5];show(bif ((0:Int) !=0)then _ else bif ((0:Int) !=0)then _ else(YI t' t').bind _)=_;rw[CO,G6,G6,bD0 ((hI1.sm (by simp;omega)).mono (by omega)),G5,fC,G6];have hr2:rep (cp (g++[u1]++[u2])) 0 E0 (g++[u1]++[u2])=some (t, -1,0):=by
    rw[ap1 (bk3 u26),ap1 (by unfold cp;rw[u16];rfl),ap0 _ _ _ λo _=>cq7 u16 u26 (u2k.trans u1k.symm) o];exact hI.fold
   obtain⟨hA2,hK2⟩:=(be5 hK1 (by simp;omega) u26 f2 cG9 hx2 XA hr2).2 rfl;rw[G5];show(vP (g++[u1]) u2).bind _=_;rw[hA2,G5];show(UF (g++[u1]++[u2])).bind _=_;rw[aZ4 hK2 (by simp;omega),G5,G5,aZ4 hK (by omega),G5];show(bif ((0:Int)==0)then bif ((0:Int)==0)then bif ((0:Int)==0)then(YI t t).bind _ else _ else _ else _)=_;rw[IC,H7,H7,H7,bD0 ((hI.sm (by omega)).mono (by omega))];rfl
  .obtain rfl:=hl1 he;have hj:=hnn he;rw[ha1 he,G5];show(bif ((20:Int)==21)then _ else bif decide (f>=0)then bif ((20:Int)==20)then some (f==f)else _ else _)=_
   grind
end
section
theorem topUndone.law(l:List Opn)(w:Int)(h:aP2 l)(hw:am9 w):by0 l w=some true:=topUndone.cO4 l w h.1 hw
end
end Go.Proofs.YtibiibjbmhckgaaGreatDoor
