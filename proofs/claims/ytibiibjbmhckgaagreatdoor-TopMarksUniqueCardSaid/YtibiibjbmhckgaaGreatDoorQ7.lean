import Derived.Test.YtibiibjbmhckgaaGreatDoorQ6
set_option linter.unusedVariables false
set_option linter.unusedSimpArgs false
set_option linter.defProp false
namespace Go.Proofs.YtibiibjbmhckgaaGreatDoor
section
open Go Go.F7 Proofs.Tryz
set_option maxRecDepth 10000
set_option maxHeartbeats 400000
abbrev aR4(y:Bool):CV:=B y
def ab6(o:Opn)(c0:Int):U7:=bif (o.ID==c0)then some ((o.Kind !=6))else some (false)
def cT8{o:Opn}{c0:Int}{r:Bool}(hF:ab6 o c0=some r):Holds prog Gw 240 [.agg (G7 o),.pi [I c0] 0] (aR4 r):=by
 refine V9 O9 mixed func240 (by decide) rfl (I8 rfl) ?_;refine l9 ?_;refine P6 ?_;refine C9 (λh1=>?_) (λh1=>?_)
 .have hF:=D6 h1 hF;exact l9 ⟨rfl,congrArg (Option.map aR4) hF⟩
 .have hF:=D5 h1 hF;exact l9 ⟨rfl,congrArg (Option.map aR4) hF⟩
def ab7(u0:F5)(V6:F6)(V7:X8)(U4:N7)(m1:W9)(id:Int):Option (Opn×Bool):=Option.bind (ah8 u0 (λz0=>ab6 z0 id)) λy1=>bif decide (y1<0)then some ((⟨0,0,0,0,0,0,0,([]:Str),([]:Str),(⟨0,0,0⟩:Origin)⟩:Opn),false)else(Option.bind (ix u0 y1) λx4=>some (x4,true))
def cT9{u0:F5}{V6:F6}{V7:X8}{U4:N7}{m1:W9}{id:Int}{r:Opn×Bool}(hF:ab7 u0 V6 V7 U4 m1 id=some r):gI prog Gw 150 [.pm 0 0 0,.c (I id)] [(0,.varx [.sl 12 (u0.map G7),.sl 1 (V6.map F8),.sl 6 (V7.map I4),.sl 4 (U4.map N9),.mr 1 0]),(0,.map (U9 Y3 eInt m1))] (.c (.U6 [.agg (G7 r.1),B r.2])) [(0,.varx [.sl 12 (u0.map G7),.sl 1 (V6.map F8),.sl 6 (V7.map I4),.sl 4 (U4.map N9),.mr 1 0]),(0,.map (U9 Y3 eInt m1))]:=by
 refine vF O9 mixed func150 (by decide) rfl (I8 rfl) rfl ?_;refine l9 ?_;refine l9 ?_;refine l9 ?_;refine l9 ?_;refine l9 ?_;refine E5 hF λy1 h2 hF=>?_;refine l9 ⟨_,do2 (λ_ _ h=>cT8 h) h2,rfl,?_⟩;refine C9 (λh3=>?_) (λh3=>?_)
 .have hF:=D6 h3 hF;refine l9 ?_;refine Z9 (p:=λr=>bF tab _ 2 (.c (.U6 [.agg (G7 r.1),B r.2])) [(0,.varx [.sl 12 (u0.map G7),.sl 1 (V6.map F8),.sl 6 (V7.map I4),.sl 4 (U4.map N9),.mr 1 0]),(0,.map (U9 Y3 eInt m1))] _) hF ?_;exact⟨[(4294967296,0),(4295032832,0)],[0,0],rfl,rfl,rfl⟩
 .have hF:=D5 h3 hF;refine l9 ?_;refine l9 ?_;refine l9 ?_;refine E5 hF λx4 h5 hF=>?_;refine⟨aT h5,.inl rfl,_,bK G7 h5,?_⟩;refine Z9 (p:=λr=>bF tab _ 2 (.c (.U6 [.agg (G7 r.1),B r.2])) [(0,.varx [.sl 12 (u0.map G7),.sl 1 (V6.map F8),.sl 6 (V7.map I4),.sl 4 (U4.map N9),.mr 1 0]),(0,.map (U9 Y3 eInt m1))] _) hF ?_;exact⟨[(4294967296,0),(4295032832,0)],[0,0],rfl,rfl,rfl⟩
def aQ9:{p:Array Nat×Code×Code // (zB (Tryz.f151.body.getD .skip))[0]?=some p}:=⟨(_,_,_),rfl⟩
def aQ8(R:Loop):Prop:=R.params=aQ9.1.1/\R.assign=aQ9.1.2.1/\R.body=aQ9.1.2.2/\R.tmps.size=18
theorem bD4{R:Loop}(h:aQ8 R):2=R.params.size:=by rw[h.1];rfl
def aR0(u1:Int)(u2:Bool)(a12:Int)(pO:Opn):Option (Bool×Bool):=bif (pO.ID==u1)then some (false,true)else some (true,u2)
def bD3{u1:Int}{u2:Bool}{a12:Int}{pO:Opn}{r:Bool×Bool}{l:Nat}{R:Loop}(hR:aQ8 R)(hF:aR0 u1 u2 a12 pO=some r):XU prog Gw l R (oI [(3,.pm 1 0 0),(4,.pm 2 0 0)] 18 0) [.c (I a12),.c (.agg [I pO.ID,I pO.Day,I pO.Kind,I pO.Unit,I pO.Parent,I pO.Before,I pO.Level,S pO.Title,S pO.Mark,I pO.Origin.bQ,I pO.Origin.X3,I pO.Origin.Number])] [(0,.lp l R .on),(0,.var [I u1]),(0,.var [B u2])] (.c (.v (.bool r.1))) [(0,.lp l R (oL r.1 .ret)),(0,.var [I u1]),(0,.var [B r.2])]:=by
 refine aJ2 [] O9 mixed 0 hR.1 hR.2.1 hR.2.2.1 hR.2.2.2 rfl ?_;refine l9 ?_;refine⟨rfl,?_⟩;refine C9 (λh1=>?_) (λh1=>?_)
 .have hF:=D6 h1 hF;refine Z9 (p:=λr=>DW [] 0 l R 3 (.c (.v (.bool r.1))) [(0,.lp l R (oL r.1 .ret)),(0,.var [I u1]),(0,.var [B r.2])] (.off .ret) false _) hF ?_;exact⟨rfl,rfl,[(4294967296,0),(4295032832,0),(4295098368,0)],[0,0,0],rfl,rfl⟩
 .have hF:=D5 h1 hF;refine Z9 (p:=λr=>DW [] 0 l R 3 (.c (.v (.bool r.1))) [(0,.lp l R (oL r.1 .ret)),(0,.var [I u1]),(0,.var [B r.2])] .on true _) hF ?_;exact⟨rfl,rfl,[(4294967296,0),(4295032832,0),(4295098368,0)],[0,0,0],rfl,rfl⟩
def EH(u1:Int)(u3:List Opn)(v2:List (Int×Bool)):Nat->Int->Bool->Option (Bool×Bool)
 |0,_,_=>none
 |bI+1,v9,qJ=>bif decide (v9<((u3.map G7).length:Int))then(Option.bind (ix u3 v9) λx12=>bif (x12.Kind !=6)then(Option.bind (rF v2 x12.ID false) λjW=>bif (!jW)then(Option.bind (aR0 u1 qJ v9 x12) λlW=>bif lW.1 then EH u1 u3 v2 bI (IntKind.i64.wrap (v9+1)) lW.2 else some (false,lW.2))else EH u1 u3 v2 bI (IntKind.i64.wrap (v9+1)) qJ)else EH u1 u3 v2 bI (IntKind.i64.wrap (v9+1)) qJ)else some (true,qJ)
def JV(u1:Int)(u2:Bool)(u3:List Opn)(N:Nat):Nat->Int->List (Int×Bool)->Option (Bool×Bool)
 |0,_,_=>none
 |fu1+1,v1,v2=>bif decide (v1<((u3.map G7).length:Int))then(Option.bind (ix u3 v1) λx4=>bif (x4.Kind==6)then(Option.bind (rF v2 x4.Unit false) λy7=>JV u1 u2 u3 N fu1 (IntKind.i64.wrap (v1+1)) (aU v2 x4.Unit (!y7)))else JV u1 u2 u3 N fu1 (IntKind.i64.wrap (v1+1)) v2)else EH u1 u3 v2 N 0 u2
def cd9(N:Nat)(u1:Int)(u2:Bool)(u3:F5):Option (Bool×Bool):=JV u1 u2 u3 N N 0 ([]:lI)
def dB6{N:Nat}{u1:Int}{u2:Bool}{u3:F5}{r:Bool×Bool}{l:Nat}{R:Loop}(hR:aQ8 R)(hF:cd9 N u1 u2 u3=some r):gI prog Gw 71 [.V4 (.yl l R.tmps.toList) (oI [(3,.pm 1 0 0),(4,.pm 2 0 0)] 18 0),.pm 3 0 0] [(0,.lp l R .on),(0,.var [I u1]),(0,.var [B u2]),(0,.var [.sl 12 (u3.map G7)])] (.c (.U6 [])) [(0,.lp l R (oL r.1 .ret)),(0,.var [I u1]),(0,.var [B r.2]),(0,.var [.sl 12 (u3.map G7)])]:=by
 refine vF O9 mixed func71 (by decide) rfl (I8 rfl) rfl ?_;refine J5 ⟨[],0,_,_,_,_,rfl,rfl,ZB,rfl,?_⟩;refine iE (λp:Nat×Int×lI=>[(0,.V4 (.yl l R.tmps.toList) (oI [(3,.pm 4295032832 0 0),(4,.pm 4295098368 0 0)] 18 0)),(1,.pm 4295163904 0 0),(3,.mr 8 0),(9,.c (.sl 12 (u3.map G7))),(10,.c (I ((u3.map G7).length:Int))),(11,.c (I p.2.1))]) (λp:Nat×Int×lI=>[(4294967296,.lp l R .on),(4295032832,.var [I u1]),(4295098368,.var [B u2]),(4295163904,.var [.sl 12 (u3.map G7)]),(8,.map (U9 (NU .i64) qY p.2.2))]) (λp=>JV u1 u2 u3 N p.1 p.2.1 p.2.2=some r) (λp=>p.1) (N,0,([]:lI)) hF ⟨rfl,rfl,rfl,rfl,rfl,rfl,trivial⟩ ⟨rfl,rfl,rfl,rfl,rfl,trivial⟩ ?_;rintro⟨fu1,v1,v2⟩ hF;cases fu1 with
 |zero=>exact nomatch hF
 |succ fu1=>
  refine P6 ?_;refine C9 (λh3=>?_) (λh3=>?_)
  .have hF:=D6 h3 hF;refine P6 ?_;refine E5 hF λx4 h5 hF=>?_;refine⟨aT h5,.inl rfl,_,bK G7 h5,?_⟩;refine l9 ?_;refine C9 (λh6=>?_) (λh6=>?_)
   .have hF:=D6 h6 hF;refine E5 hF λy7 h8 hF=>?_;refine J5 ⟨[(8,0)],0,_,_,_,_,rfl,rfl,ZC (ev:=qY) (z:=false) (m:=v2) (x:=x4.Unit) XE.u xP.u (IG .i64) ai8 rfl h8,rfl,?_⟩;refine J5 ⟨[(8,0)],0,_,_,_,_,rfl,rfl,yL (ev:=qY) (m:=v2) (x:=x4.Unit) (v:=(!y7)) XE.u xP.u (IG .i64),rfl,?_⟩;exact⟨(fu1,(IntKind.i64.wrap (v1+1)),(aU v2 x4.Unit (!y7))),aP _,hF,⟨rfl,rfl,rfl,rfl,rfl,rfl,trivial⟩,⟨rfl,rfl,rfl,rfl,rfl,trivial⟩⟩
   .have hF:=D5 h6 hF;exact⟨(fu1,(IntKind.i64.wrap (v1+1)),v2),aP _,hF,⟨rfl,rfl,rfl,rfl,rfl,rfl,trivial⟩,⟨rfl,rfl,rfl,rfl,rfl,trivial⟩⟩
  .have hF:=D5 h3 hF;refine iE (λp:Nat×Int×Bool=>[(0,.V4 (.yl l R.tmps.toList) (oI [(3,.pm 4295032832 0 0),(4,.pm 4295098368 0 0)] 18 0)),(3,.mr 8 0),(27,.c (.sl 12 (u3.map G7))),(28,.c (I ((u3.map G7).length:Int))),(29,.c (I p.2.1))]) (λp:Nat×Int×Bool=>[(4294967296,.lp l R .on),(4295032832,.var [I u1]),(4295098368,.var [B p.2.2]),(8,.map (U9 (NU .i64) qY v2)),(4295163904,.var [.sl 12 (u3.map G7)])]) (λp=>EH u1 u3 v2 p.1 p.2.1 p.2.2=some r) (λp=>p.1) (N,0,u2) hF ⟨rfl,rfl,rfl,rfl,rfl,trivial⟩ ⟨rfl,rfl,rfl,rfl,rfl,trivial⟩ ?_;rintro⟨bI,v9,qJ⟩ hF;cases bI with
   |zero=>exact nomatch hF
   |succ bI=>
    refine P6 ?_;refine C9 (λh11=>?_) (λh11=>?_)
    .have hF:=D6 h11 hF;refine P6 ?_;refine E5 hF λx12 h13 hF=>?_;refine⟨aT h13,.inl rfl,_,bK G7 h13,?_⟩;refine l9 ?_;refine P6 ?_;refine C9 (λdL=>?_) (λdL=>?_)
     .have hF:=D6 dL hF;refine E5 hF λjW h16 hF=>?_;refine J5 ⟨[(8,0)],0,_,_,_,_,rfl,rfl,ZC (ev:=qY) (z:=false) (m:=v2) (x:=x12.ID) XE.u xP.u (IG .i64) ai8 rfl h16,rfl,?_⟩;refine C9 (λh17=>?_) (λh17=>?_)
      .have hF:=D6 h17 hF;refine E5 hF λlW h19 hF=>?_;rcases lW with⟨_|_,y20⟩
       .have hF:=D5 rfl hF;refine J5 ⟨[(4294967296,0),(4295032832,0),(4295098368,0)],0,_,_,_,_,rfl,rfl,ZE rfl 0 rfl (bD4 hR) (bD3 hR h19),rfl,?_⟩;refine C9 (λh21=>?_) (λh21=>?_)
        .skip
         refine Z9 (p:=λr=>bF tab _ 4 (.c (.U6 [])) [(0,.lp l R (oL r.1 .ret)),(0,.var [I u1]),(0,.var [B r.2]),(0,.var [.sl 12 (u3.map G7)])] _) hF ?_;exact⟨[(4294967296,0),(4295032832,0),(4295098368,0),(4295163904,0)],[0,0,0,0],rfl,rfl,rfl⟩
        .exact absurd h21 (by simp)
       .have hF:=D6 rfl hF;refine J5 ⟨[(4294967296,0),(4295032832,0),(4295098368,0)],0,_,_,_,_,rfl,rfl,ZE rfl 0 rfl (bD4 hR) (bD3 hR h19),rfl,?_⟩;refine C9 (λh22=>?_) (λh22=>?_)
        .exact absurd h22 (by simp)
        .skip
         exact⟨(bI,(IntKind.i64.wrap (v9+1)),y20),aP _,hF,⟨rfl,rfl,rfl,rfl,rfl,trivial⟩,⟨rfl,rfl,rfl,rfl,rfl,trivial⟩⟩
      .have hF:=D5 h17 hF;exact⟨(bI,(IntKind.i64.wrap (v9+1)),qJ),aP _,hF,⟨rfl,rfl,rfl,rfl,rfl,trivial⟩,⟨rfl,rfl,rfl,rfl,rfl,trivial⟩⟩
     .have hF:=D5 dL hF;exact⟨(bI,(IntKind.i64.wrap (v9+1)),qJ),aP _,hF,⟨rfl,rfl,rfl,rfl,rfl,trivial⟩,⟨rfl,rfl,rfl,rfl,rfl,trivial⟩⟩
    .have hF:=D5 h11 hF;refine Z9 (p:=λr=>bF tab _ 4 (.c (.U6 [])) [(0,.lp l R (oL r.1 .ret)),(0,.var [I u1]),(0,.var [B r.2]),(0,.var [.sl 12 (u3.map G7)])] _) hF ?_;exact⟨[(4294967296,0),(4295032832,0),(4295098368,0),(4295163904,0)],[0,0,0,0],rfl,rfl,rfl⟩
abbrev dB7:=cd9 1000
abbrev dB8:=@dB6 1000
def ar9(u0:F5)(V6:F6)(V7:X8)(U4:N7)(m1:W9)(id:Int):U7:=Option.bind (dB7 id false u0) λy1=>bif y1.1 then some (false)else some (y1.2)
def cS4{u0:F5}{V6:F6}{V7:X8}{U4:N7}{m1:W9}{id:Int}{r:Bool}(hF:ar9 u0 V6 V7 U4 m1 id=some r):gI prog Gw 151 [.pm 0 0 0,.c (I id)] [(0,.varx [.sl 12 (u0.map G7),.sl 1 (V6.map F8),.sl 6 (V7.map I4),.sl 4 (U4.map N9),.mr 1 0]),(0,.map (U9 Y3 eInt m1))] (.c (B r)) [(0,.varx [.sl 12 (u0.map G7),.sl 1 (V6.map F8),.sl 6 (V7.map I4),.sl 4 (U4.map N9),.mr 1 0]),(0,.map (U9 Y3 eInt m1))]:=by
 refine vF O9 mixed func151 (by decide) rfl (I8 rfl) rfl ?_;refine l9 ?_;refine l9 ?_;refine l9 ?_;refine l9 ?_;refine l9 ?_;refine J5 (J5 ⟨[],0,_,_,_,_,rfl,rfl,pW rfl (J5 ⟨_,rfl,rfl⟩) ce1,rfl,?_⟩);refine E5 hF λy1 h2 hF=>?_;refine aw0.mk ?_;refine⟨60000,oI [(3,.pm 3 1 0),(4,.pm 4 1 0)] 18 0,_,_,l9 rfl,rfl,(by refine ap2 ?_ 18 0;exact⟨rfl,rfl,trivial⟩),λl R hp ha hb hn=>⟨[(60000,1),(3,1),(4,1),(11,1)],0,_,_,_,_,rfl,rfl,dB8 ⟨hp,ha,hb,hn⟩ h2,rfl,_,y1.1,.ret,rfl,λh3=>?_,λh3=>?_⟩⟩
 .have hF:=D6 h3 hF;refine Z9 (p:=λr=>bF tab _ 2 (.c (B r)) [(0,.varx [.sl 12 (u0.map G7),.sl 1 (V6.map F8),.sl 6 (V7.map I4),.sl 4 (U4.map N9),.mr 1 0]),(0,.map (U9 Y3 eInt m1))] _) hF ?_;exact⟨[(4294967296,0),(4295032832,0)],[0,0],rfl,rfl,rfl⟩
 .have hF:=D5 h3 hF;refine Z9 (p:=λr=>bF tab _ 2 (.c (B r)) [(0,.varx [.sl 12 (u0.map G7),.sl 1 (V6.map F8),.sl 6 (V7.map I4),.sl 4 (U4.map N9),.mr 1 0]),(0,.map (U9 Y3 eInt m1))] _) hF ?_;exact⟨[(4294967296,0),(4295032832,0)],[0,0],rfl,rfl,rfl⟩
def NY(u0:F5)(V6:F6)(V7:X8)(U4:N7)(m1:W9)(o:Opn)(v31:Bool):gQ:=bif v31 then some (21)else(bif (o.Kind==6)then(Option.bind (ab7 u0 V6 V7 U4 m1 o.Unit) λy34=>bif (!y34.2)then some (7)else(bif (y34.1.Kind==1)then(bif (y34.1.Origin.X3 !=0)then(Option.bind (ar9 u0 V6 V7 U4 m1 y34.1.ID) λy39=>bif y39 then some (21)else some (0))else some (0))else some (0)))else some (0))
def TY(u0:F5)(V6:F6)(V7:X8)(U4:N7)(m1:W9)(o:Opn)(dQ:Origin×Bool)(v27:Bool):gQ:=bif v27 then some (19)else(bif (o.Kind==5)then(bif dQ.2 then NY u0 V6 V7 U4 m1 o (dQ.1.X3 !=0)else NY u0 V6 V7 U4 m1 o false)else NY u0 V6 V7 U4 m1 o false)
def NW(u0:F5)(V6:F6)(V7:X8)(U4:N7)(m1:W9)(o:Opn)(y1:Int×Bool)(dQ:Origin×Bool):gQ:=Option.bind (zI o) λy23=>bif y23 then(bif y1.2 then TY u0 V6 V7 U4 m1 o dQ (y1.1 !=o.Unit)else TY u0 V6 V7 U4 m1 o dQ false)else TY u0 V6 V7 U4 m1 o dQ false
def ab5(u0:F5)(V6:F6)(V7:X8)(U4:N7)(m1:W9)(o:Opn)(y1:Int×Bool)(dQ:Origin×Bool)(v17:Bool):gQ:=bif v17 then some (6)else(bif (o.Kind==1)then(Option.bind (au3 U4 (⟨o.Unit,o.Origin⟩:Came)) λy20=>bif (y20.2 !=0)then some (y20.2)else NW u0 V6 V7 U4 m1 o y1 dQ)else NW u0 V6 V7 U4 m1 o y1 dQ)
def NV(u0:F5)(V6:F6)(V7:X8)(U4:N7)(m1:W9)(o:Opn)(y1:Int×Bool):gQ:=Option.bind (au4 U4 o.Unit) λdQ=>bif (o.Kind==1)then ab5 u0 V6 V7 U4 m1 o y1 dQ dQ.2 else ab5 u0 V6 V7 U4 m1 o y1 dQ false
def II(u0:F5)(V6:F6)(V7:X8)(U4:N7)(m1:W9)(o:Opn):gQ:=Option.bind (CW m1 o.Mark 0) λy1=>bif decide (((u0.map G7).length:Int)>=512)then some (8)else(Option.bind (JD o) λy4=>bif (y4 !=0)then some (1)else(bif decide (((u0.map G7).length:Int)>0)then(Option.bind (ix u0 (IntKind.i64.wrap (((u0.map G7).length:Int)-1))) λx8=>bif decide (o.ID<=x8.ID)then some (5)else(Option.bind (ix u0 (IntKind.i64.wrap (((u0.map G7).length:Int)-1))) λx11=>bif decide (o.Day<x11.Day)then some (5)else NV u0 V6 V7 U4 m1 o y1))else NV u0 V6 V7 U4 m1 o y1))
def cT6{u0:F5}{V6:F6}{V7:X8}{U4:N7}{m1:W9}{o:Opn}{r:Int}(hF:II u0 V6 V7 U4 m1 o=some r):gI prog Gw 89 [.pm 0 0 0,.c (.agg [I o.ID,I o.Day,I o.Kind,I o.Unit,I o.Parent,I o.Before,I o.Level,S o.Title,S o.Mark,I o.Origin.bQ,I o.Origin.X3,I o.Origin.Number])] [(0,.varx [.sl 12 (u0.map G7),.sl 1 (V6.map F8),.sl 6 (V7.map I4),.sl 4 (U4.map N9),.mr 1 0]),(0,.map (U9 Y3 eInt m1))] (.c (I r)) [(0,.varx [.sl 12 (u0.map G7),.sl 1 (V6.map F8),.sl 6 (V7.map I4),.sl 4 (U4.map N9),.mr 1 0]),(0,.map (U9 Y3 eInt m1))]:=by
 refine vF O9 mixed func89 (by decide) rfl (I8 rfl) rfl ?_;refine l9 ?_;refine l9 ?_;refine l9 ?_;refine l9 ?_;refine l9 ?_;refine l9 ?_;refine l9 ?_;refine E5 hF λy1 h2 hF=>?_;refine J5 ⟨[(4295032832,0)],0,_,_,_,_,rfl,rfl,aJ0 (ev:=eInt) (z:=0) (m:=m1) (x:=o.Mark) zH.u vZ.u vN xP rfl h2,rfl,?_⟩;refine C9 (by kernel_rfl) ?_;refine NS (λp:Unit=>[(0,.pm 4294967296 0 0),(3,.pm 3 0 0),(6,.c (I y1.1)),(7,.c (B y1.2))]) (λp:Unit=>[(4294967296,.varx [.sl 12 (u0.map G7),.sl 1 (V6.map F8),.sl 6 (V7.map I4),.sl 4 (U4.map N9),.mr 4295032832 0]),(3,.var [I o.ID,I o.Day,I o.Kind,I o.Unit,I o.Parent,I o.Before,I o.Level,S o.Title,S o.Mark,I o.Origin.bQ,I o.Origin.X3,I o.Origin.Number]),(4295032832,.map (U9 Y3 eInt m1))]) (λp=>NV u0 V6 V7 U4 m1 o y1=some r) ?_ ?_
 .intro _ hF;refine l9 ?_;refine l9 ?_;refine l9 ?_;refine E5 hF λdQ h15 hF=>?_;refine l9 ⟨_,da8 h15,rfl,?_⟩;refine l9 ?_;refine C9 (by kernel_rfl) ?_;refine NS (λp:Unit=>[(0,.pm 4294967296 0 0),(3,.pm 3 0 0),(6,.c (I y1.1)),(7,.c (B y1.2)),(8,.pm 8 0 0),(9,.c (B dQ.2))]) (λp:Unit=>[(4294967296,.varx [.sl 12 (u0.map G7),.sl 1 (V6.map F8),.sl 6 (V7.map I4),.sl 4 (U4.map N9),.mr 4295032832 0]),(3,.var [I o.ID,I o.Day,I o.Kind,I o.Unit,I o.Parent,I o.Before,I o.Level,S o.Title,S o.Mark,I o.Origin.bQ,I o.Origin.X3,I o.Origin.Number]),(8,.var [I dQ.1.bQ,I dQ.1.X3,I dQ.1.Number]),(4295032832,.map (U9 Y3 eInt m1))]) (λp=>NW u0 V6 V7 U4 m1 o y1 dQ=some r) ?_ ?_
  .intro _ hF;refine P6 ?_;refine NS (λp:Bool=>[(0,.pm 4294967296 0 0),(3,.pm 3 0 0),(8,.pm 8 0 0),(9,.c (B dQ.2)),(104,.c (B p))]) (λp:Bool=>[(4294967296,.varx [.sl 12 (u0.map G7),.sl 1 (V6.map F8),.sl 6 (V7.map I4),.sl 4 (U4.map N9),.mr 4295032832 0]),(3,.var [I o.ID,I o.Day,I o.Kind,I o.Unit,I o.Parent,I o.Before,I o.Level,S o.Title,S o.Mark,I o.Origin.bQ,I o.Origin.X3,I o.Origin.Number]),(8,.var [I dQ.1.bQ,I dQ.1.X3,I dQ.1.Number]),(4295032832,.map (U9 Y3 eInt m1))]) (λp=>TY u0 V6 V7 U4 m1 o dQ p=some r) ?_ ?_
   .intro v27 hF;refine C9 (λh28=>?_) (λh28=>?_)
    .have hF:=D6 h28 hF;refine Z9 (p:=λr=>bF tab _ 2 (.c (I r)) [(0,.varx [.sl 12 (u0.map G7),.sl 1 (V6.map F8),.sl 6 (V7.map I4),.sl 4 (U4.map N9),.mr 1 0]),(0,.map (U9 Y3 eInt m1))] _) hF ?_;exact⟨[(4294967296,0),(4295032832,0)],[0,0],rfl,rfl,rfl⟩
    .have hF:=D5 h28 hF;refine NS (λp:Bool=>[(0,.pm 4294967296 0 0),(3,.pm 3 0 0),(116,.c (B p))]) (λp:Bool=>[(4294967296,.varx [.sl 12 (u0.map G7),.sl 1 (V6.map F8),.sl 6 (V7.map I4),.sl 4 (U4.map N9),.mr 4295032832 0]),(3,.var [I o.ID,I o.Day,I o.Kind,I o.Unit,I o.Parent,I o.Before,I o.Level,S o.Title,S o.Mark,I o.Origin.bQ,I o.Origin.X3,I o.Origin.Number]),(4295032832,.map (U9 Y3 eInt m1))]) (λp=>NY u0 V6 V7 U4 m1 o p=some r) ?_ ?_
     .intro v31 hF;refine C9 (λh32=>?_) (λh32=>?_)
      .have hF:=D6 h32 hF;refine Z9 (p:=λr=>bF tab _ 2 (.c (I r)) [(0,.varx [.sl 12 (u0.map G7),.sl 1 (V6.map F8),.sl 6 (V7.map I4),.sl 4 (U4.map N9),.mr 1 0]),(0,.map (U9 Y3 eInt m1))] _) hF ?_;exact⟨[(4294967296,0),(4295032832,0)],[0,0],rfl,rfl,rfl⟩
      .have hF:=D5 h32 hF;refine C9 (λBO=>?_) (λBO=>?_)
       .have hF:=D6 BO hF;refine E5 hF λy34 h35 hF=>?_;refine J5 (J5 ⟨[(4294967296,0),(4295032832,0)],0,_,_,_,_,rfl,rfl,pW rfl (J5 ⟨_,rfl,rfl⟩) (cT9 h35),rfl,?_⟩);refine l9 ?_;refine C9 (λMX=>?_) (λMX=>?_)
        .have hF:=D6 MX hF;refine Z9 (p:=λr=>bF tab _ 2 (.c (I r)) [(0,.varx [.sl 12 (u0.map G7),.sl 1 (V6.map F8),.sl 6 (V7.map I4),.sl 4 (U4.map N9),.mr 1 0]),(0,.map (U9 Y3 eInt m1))] _) hF ?_;exact⟨[(4294967296,0),(4295032832,0)],[0,0],rfl,rfl,rfl⟩
        .have hF:=D5 MX hF;refine P6 ?_;refine C9 (λh37=>?_) (λh37=>?_)
         .have hF:=D6 h37 hF;refine C9 (λh38=>?_) (λh38=>?_)
          .have hF:=D6 h38 hF;refine E5 hF λy39 yP hF=>?_;refine J5 (J5 ⟨[(4294967296,0),(4295032832,0)],0,_,_,_,_,rfl,rfl,pW rfl (J5 ⟨_,rfl,rfl⟩) (cS4 yP),rfl,?_⟩);refine C9 (λtH=>?_) (λtH=>?_)
           .have hF:=D6 tH hF;refine Z9 (p:=λr=>bF tab _ 2 (.c (I r)) [(0,.varx [.sl 12 (u0.map G7),.sl 1 (V6.map F8),.sl 6 (V7.map I4),.sl 4 (U4.map N9),.mr 1 0]),(0,.map (U9 Y3 eInt m1))] _) hF ?_;exact⟨[(4294967296,0),(4295032832,0)],[0,0],rfl,rfl,rfl⟩
           .have hF:=D5 tH hF;refine Z9 (p:=λr=>bF tab _ 2 (.c (I r)) [(0,.varx [.sl 12 (u0.map G7),.sl 1 (V6.map F8),.sl 6 (V7.map I4),.sl 4 (U4.map N9),.mr 1 0]),(0,.map (U9 Y3 eInt m1))] _) hF ?_;exact⟨[(4294967296,0),(4295032832,0)],[0,0],rfl,rfl,rfl⟩
          .have hF:=D5 h38 hF;refine Z9 (p:=λr=>bF tab _ 2 (.c (I r)) [(0,.varx [.sl 12 (u0.map G7),.sl 1 (V6.map F8),.sl 6 (V7.map I4),.sl 4 (U4.map N9),.mr 1 0]),(0,.map (U9 Y3 eInt m1))] _) hF ?_;exact⟨[(4294967296,0),(4295032832,0)],[0,0],rfl,rfl,rfl⟩
         .have hF:=D5 h37 hF;refine Z9 (p:=λr=>bF tab _ 2 (.c (I r)) [(0,.varx [.sl 12 (u0.map G7),.sl 1 (V6.map F8),.sl 6 (V7.map I4),.sl 4 (U4.map N9),.mr 1 0]),(0,.map (U9 Y3 eInt m1))] _) hF ?_;exact⟨[(4294967296,0),(4295032832,0)],[0,0],rfl,rfl,rfl⟩
       .have hF:=D5 BO hF;refine Z9 (p:=λr=>bF tab _ 2 (.c (I r)) [(0,.varx [.sl 12 (u0.map G7),.sl 1 (V6.map F8),.sl 6 (V7.map I4),.sl 4 (U4.map N9),.mr 1 0]),(0,.map (U9 Y3 eInt m1))] _) hF ?_;exact⟨[(4294967296,0),(4295032832,0)],[0,0],rfl,rfl,rfl⟩
     .show dW _ _ _ _ _ _;refine C9 (λtC=>?_) (λtC=>?_)
      .have hF:=D6 tC hF;refine C9 (λh30=>?_) (λh30=>?_)
       .have hF:=D6 h30 hF;exact⟨(dQ.1.X3 !=0),hF,⟨rfl,rfl,rfl,trivial⟩,⟨rfl,rfl,rfl,trivial⟩⟩
       .have hF:=D5 h30 hF;exact⟨false,hF,⟨rfl,rfl,rfl,trivial⟩,⟨rfl,rfl,rfl,trivial⟩⟩
      .have hF:=D5 tC hF;exact⟨false,hF,⟨rfl,rfl,rfl,trivial⟩,⟨rfl,rfl,rfl,trivial⟩⟩
   .show dW _ _ _ _ _ _;refine E5 hF λy23 GU hF=>?_;refine l9 ⟨_,aj1 GU,rfl,?_⟩;refine C9 (λvH=>?_) (λvH=>?_)
    .have hF:=D6 vH hF;refine C9 (λnN=>?_) (λnN=>?_)
     .have hF:=D6 nN hF;exact⟨(y1.1 !=o.Unit),hF,⟨rfl,rfl,rfl,rfl,rfl,trivial⟩,⟨rfl,rfl,rfl,rfl,trivial⟩⟩
     .have hF:=D5 nN hF;exact⟨false,hF,⟨rfl,rfl,rfl,rfl,rfl,trivial⟩,⟨rfl,rfl,rfl,rfl,trivial⟩⟩
    .have hF:=D5 vH hF;exact⟨false,hF,⟨rfl,rfl,rfl,rfl,rfl,trivial⟩,⟨rfl,rfl,rfl,rfl,trivial⟩⟩
  .show dW _ _ _ _ _ _;refine NS (λp:Bool=>[(0,.pm 4294967296 0 0),(3,.pm 3 0 0),(6,.c (I y1.1)),(7,.c (B y1.2)),(8,.pm 8 0 0),(9,.c (B dQ.2)),(77,.c (B p))]) (λp:Bool=>[(4294967296,.varx [.sl 12 (u0.map G7),.sl 1 (V6.map F8),.sl 6 (V7.map I4),.sl 4 (U4.map N9),.mr 4295032832 0]),(3,.var [I o.ID,I o.Day,I o.Kind,I o.Unit,I o.Parent,I o.Before,I o.Level,S o.Title,S o.Mark,I o.Origin.bQ,I o.Origin.X3,I o.Origin.Number]),(8,.var [I dQ.1.bQ,I dQ.1.X3,I dQ.1.Number]),(4295032832,.map (U9 Y3 eInt m1))]) (λp=>ab5 u0 V6 V7 U4 m1 o y1 dQ p=some r) ?_ ?_
   .intro v17 hF;refine C9 (λh18=>?_) (λh18=>?_)
    .have hF:=D6 h18 hF;refine Z9 (p:=λr=>bF tab _ 2 (.c (I r)) [(0,.varx [.sl 12 (u0.map G7),.sl 1 (V6.map F8),.sl 6 (V7.map I4),.sl 4 (U4.map N9),.mr 1 0]),(0,.map (U9 Y3 eInt m1))] _) hF ?_;exact⟨[(4294967296,0),(4295032832,0)],[0,0],rfl,rfl,rfl⟩
    .have hF:=D5 h18 hF;refine C9 (λh19=>?_) (λh19=>?_)
     .have hF:=D6 h19 hF;refine l9 ?_;refine l9 ?_;refine l9 ?_;refine l9 ?_;refine E5 hF λy20 h21 hF=>?_;refine l9 ⟨_,da3 h21,rfl,?_⟩;refine C9 (by kernel_rfl) ?_;refine C9 (λh22=>?_) (λh22=>?_)
      .have hF:=D6 h22 hF;refine Z9 (p:=λr=>bF tab _ 2 (.c (I r)) [(0,.varx [.sl 12 (u0.map G7),.sl 1 (V6.map F8),.sl 6 (V7.map I4),.sl 4 (U4.map N9),.mr 1 0]),(0,.map (U9 Y3 eInt m1))] _) hF ?_;exact⟨[(4294967296,0),(4295032832,0)],[0,0],rfl,rfl,rfl⟩
      .have hF:=D5 h22 hF;exact⟨(),hF,⟨rfl,rfl,rfl,rfl,rfl,rfl,trivial⟩,⟨rfl,rfl,rfl,rfl,trivial⟩⟩
     .have hF:=D5 h19 hF;exact⟨(),hF,⟨rfl,rfl,rfl,rfl,rfl,rfl,trivial⟩,⟨rfl,rfl,rfl,rfl,trivial⟩⟩
   .show dW _ _ _ _ _ _;refine C9 (λh16=>?_) (λh16=>?_)
    .have hF:=D6 h16 hF;exact⟨dQ.2,hF,⟨rfl,rfl,rfl,rfl,rfl,rfl,rfl,trivial⟩,⟨rfl,rfl,rfl,rfl,trivial⟩⟩
    .have hF:=D5 h16 hF;exact⟨false,hF,⟨rfl,rfl,rfl,rfl,rfl,rfl,rfl,trivial⟩,⟨rfl,rfl,rfl,rfl,trivial⟩⟩
 .show dW _ _ _ _ _ _;refine C9 (λh3=>?_) (λh3=>?_)
  .have hF:=D6 h3 hF;refine Z9 (p:=λr=>bF tab _ 2 (.c (I r)) [(0,.varx [.sl 12 (u0.map G7),.sl 1 (V6.map F8),.sl 6 (V7.map I4),.sl 4 (U4.map N9),.mr 1 0]),(0,.map (U9 Y3 eInt m1))] _) hF ?_;exact⟨[(4294967296,0),(4295032832,0)],[0,0],rfl,rfl,rfl⟩
  .have hF:=D5 h3 hF;refine E5 hF λy4 h5 hF=>?_;refine l9 ⟨_,dd2 h5,rfl,?_⟩;refine C9 (λh6=>?_) (λh6=>?_)
   .have hF:=D6 h6 hF;refine Z9 (p:=λr=>bF tab _ 2 (.c (I r)) [(0,.varx [.sl 12 (u0.map G7),.sl 1 (V6.map F8),.sl 6 (V7.map I4),.sl 4 (U4.map N9),.mr 1 0]),(0,.map (U9 Y3 eInt m1))] _) hF ?_;exact⟨[(4294967296,0),(4295032832,0)],[0,0],rfl,rfl,rfl⟩
   .have hF:=D5 h6 hF;refine P6 ?_;refine C9 (λh7=>?_) (λh7=>?_)
    .have hF:=D6 h7 hF;refine l9 ?_;refine l9 ?_;refine l9 ?_;refine E5 hF λx8 h9 hF=>?_;refine⟨aT h9,.inl rfl,_,bK G7 h9,?_⟩;refine C9 (λh10=>?_) (λh10=>?_)
     .have hF:=D6 h10 hF;refine C9 (by kernel_rfl) ?_;refine Z9 (p:=λr=>bF tab _ 2 (.c (I r)) [(0,.varx [.sl 12 (u0.map G7),.sl 1 (V6.map F8),.sl 6 (V7.map I4),.sl 4 (U4.map N9),.mr 1 0]),(0,.map (U9 Y3 eInt m1))] _) hF ?_;exact⟨[(4294967296,0),(4295032832,0)],[0,0],rfl,rfl,rfl⟩
     .have hF:=D5 h10 hF;refine l9 ?_;refine l9 ?_;refine l9 ?_;refine E5 hF λx11 h12 hF=>?_;refine⟨aT h12,.inl rfl,_,bK G7 h12,?_⟩;refine C9 (by kernel_rfl) ?_;refine C9 (λh13=>?_) (λh13=>?_)
      .have hF:=D6 h13 hF;refine Z9 (p:=λr=>bF tab _ 2 (.c (I r)) [(0,.varx [.sl 12 (u0.map G7),.sl 1 (V6.map F8),.sl 6 (V7.map I4),.sl 4 (U4.map N9),.mr 1 0]),(0,.map (U9 Y3 eInt m1))] _) hF ?_;exact⟨[(4294967296,0),(4295032832,0)],[0,0],rfl,rfl,rfl⟩
      .have hF:=D5 h13 hF;exact⟨(),hF,⟨rfl,rfl,rfl,rfl,trivial⟩,⟨rfl,rfl,rfl,trivial⟩⟩
    .have hF:=D5 h7 hF;refine C9 (by kernel_rfl) ?_;exact⟨(),hF,⟨rfl,rfl,rfl,rfl,trivial⟩,⟨rfl,rfl,rfl,trivial⟩⟩
abbrev a96(y:F5):CV:=.sl 12 (y.map G7)
def uM(s:F5):Option F5:=bif s.isEmpty then OH (some (([]:F5))) (bif decide (([]:F5).length+s.length<=4294967296)then some ((([]:F5)++s))else none)else(bif decide (([]:F5).length+s.length<=4294967296)then some ((([]:F5)++s))else none)
def a98{s:F5}{r:F5}(hF:uM s=some r):Holds prog Gw 9 [.sl 12 (s.map G7)] (a96 r):=by
 refine V9 O9 mixed func9 (by decide) rfl (I8 rfl) ?_;refine J5 ⟨[],0,_,_,_,_,rfl,rfl,MB (e:=33) (ie:=JR) (by decide),rfl,?_⟩;refine aT7 (cf:=G7) hF ?_ ?_
 .intro hF;refine J5 ⟨[],0,_,_,_,_,rfl,rfl,MB (e:=33) (ie:=JR) (by decide),rfl,?_⟩;refine Z9 (p:=λr=>vT tab _ (a96 r) _) hF ?_;exact J5 ⟨rfl,_,rfl,rfl⟩
 .intro hF;refine J5 ⟨[],0,_,_,_,_,rfl,rfl,aI9 XF.u XG (by decide),rfl,?_⟩;refine mV hF λh1 hF=>?_;refine J5 ⟨[(5,1)],0,_,_,_,_,rfl,rfl,TB (cf:=G7) (l:=([]:F5)) (ns:=s) XF.u XG (by decide) (by decide) (λ_=>rfl) h1,rfl,?_⟩;refine Z9 (p:=λr=>vT tab _ (a96 r) _) hF ?_;exact J5 ⟨rfl,_,rfl,rfl⟩
abbrev a97(y:F5):CV:=.wo (.ow 0) [(33,12,y.map G7,none)]
def dn3{s:F5}{r:F5}(hF:uM s=some r):Holds prog Gw 9 [.sl 12 (s.map G7)] (a97 r):=by
 refine V9 O9 mixed func9 (by decide) rfl (I8 rfl) ?_;refine J5 ⟨[],0,_,_,_,_,rfl,rfl,MB (e:=33) (ie:=JR) (by decide),rfl,?_⟩;refine aT7 (cf:=G7) hF ?_ ?_
 .intro hF;refine J5 ⟨[],0,_,_,_,_,rfl,rfl,MB (e:=33) (ie:=JR) (by decide),rfl,?_⟩;refine Z9 (p:=λr=>vT tab _ (a97 r) _) hF ?_;exact J5 ⟨[(2,2)],rfl,⟨rfl,rfl⟩,rfl⟩
 .intro hF;refine J5 ⟨[],0,_,_,_,_,rfl,rfl,aI9 XF.u XG (by decide),rfl,?_⟩;refine mV hF λh1 hF=>?_;refine J5 ⟨[(5,1)],0,_,_,_,_,rfl,rfl,TB (cf:=G7) (l:=([]:F5)) (ns:=s) XF.u XG (by decide) (by decide) (λ_=>rfl) h1,rfl,?_⟩;refine Z9 (p:=λr=>vT tab _ (a97 r) _) hF ?_;exact J5 ⟨[(5,2)],rfl,⟨rfl,rfl⟩,rfl⟩
def rE(u0:F5)(V6:F6)(V7:X8)(U4:N7)(m1:W9)(o:Opn):Option (Int×Int×W9×F5×F6×X8×N7):=Option.bind (II u0 V6 V7 U4 m1 o) λy1=>bif (y1 !=0)then some ((-1),y1,m1,u0,V6,V7,U4)else(Option.bind (uM u0) λy4=>bif decide (y4.length+([o]:F5).length<=4294967296)then bif (o.Kind==6)then(Option.bind (bg0 (y4++([o]:F5))) λy7=>bif (y7.2.2 !=0)then some (y7.2.1,20,m1,u0,V6,V7,U4)else(bif (o.Kind==1)then(Option.bind (be9 (y4++([o]:F5))) λbD=>Option.bind (zI o) λy13=>bif y13 then some ((-1),0,(aU m1 o.Mark o.Unit),(y4++([o]:F5)),y7.1.Q7,y7.1.Branches,bD)else some ((-1),0,m1,(y4++([o]:F5)),y7.1.Q7,y7.1.Branches,bD))else(Option.bind (zI o) λzJ=>bif zJ then some ((-1),0,(aU m1 o.Mark o.Unit),(y4++([o]:F5)),y7.1.Q7,y7.1.Branches,U4)else some ((-1),0,m1,(y4++([o]:F5)),y7.1.Q7,y7.1.Branches,U4))))else(Option.bind (rH (⟨V6,V7⟩:Tree) o) λnG=>bif (nG.2 !=0)then some (((u0.map G7).length:Int),nG.2,m1,u0,V6,V7,U4)else(bif (o.Kind==1)then(Option.bind (be9 (y4++([o]:F5))) λy23=>Option.bind (zI o) λy25=>bif y25 then some ((-1),0,(aU m1 o.Mark o.Unit),(y4++([o]:F5)),nG.1.Q7,nG.1.Branches,y23)else some ((-1),0,m1,(y4++([o]:F5)),nG.1.Q7,nG.1.Branches,y23))else(Option.bind (zI o) λy28=>bif y28 then some ((-1),0,(aU m1 o.Mark o.Unit),(y4++([o]:F5)),nG.1.Q7,nG.1.Branches,U4)else some ((-1),0,m1,(y4++([o]:F5)),nG.1.Q7,nG.1.Branches,U4))))else none)
def bD2{u0:F5}{V6:F6}{V7:X8}{U4:N7}{m1:W9}{o:Opn}{r:Int×Int×W9×F5×F6×X8×N7}(hF:rE u0 V6 V7 U4 m1 o=some r):gI prog Gw 41 [.pm 0 0 0,.c (.agg [I o.ID,I o.Day,I o.Kind,I o.Unit,I o.Parent,I o.Before,I o.Level,S o.Title,S o.Mark,I o.Origin.bQ,I o.Origin.X3,I o.Origin.Number])] [(0,.varx [.sl 12 (u0.map G7),.sl 1 (V6.map F8),.sl 6 (V7.map I4),.sl 4 (U4.map N9),.mr 1 0]),(0,.map (U9 Y3 eInt m1))] (.c (.U6 [I r.1,I r.2.1])) [(0,.varx [.sl 12 (r.2.2.2.1.map G7),.sl 1 (r.2.2.2.2.1.map F8),.sl 6 (r.2.2.2.2.2.1.map I4),.sl 4 (r.2.2.2.2.2.2.map N9),.mr 1 0]),(0,.map (U9 Y3 eInt r.2.2.1))]:=by
 refine vF O9 mixed func41 (by decide) rfl (I8 rfl) rfl ?_;refine l9 ?_;refine E5 hF λy1 h2 hF=>?_;refine J5 (J5 ⟨[(4294967296,0),(4295032832,0)],0,_,_,_,_,rfl,rfl,pW rfl (J5 ⟨_,rfl,rfl⟩) (cT6 h2),rfl,?_⟩);refine C9 (λh3=>?_) (λh3=>?_)
 .have hF:=D6 h3 hF;refine Z9 (p:=λr=>bF tab _ 2 (.c (.U6 [I r.1,I r.2.1])) [(0,.varx [.sl 12 (r.2.2.2.1.map G7),.sl 1 (r.2.2.2.2.1.map F8),.sl 6 (r.2.2.2.2.2.1.map I4),.sl 4 (r.2.2.2.2.2.2.map N9),.mr 1 0]),(0,.map (U9 Y3 eInt r.2.2.1))] _) hF ?_;exact⟨[(4294967296,0),(4295032832,0)],[0,0],rfl,rfl,rfl⟩
 .have hF:=D5 h3 hF;refine l9 ?_;refine l9 ?_;refine l9 ?_;refine E5 hF λy4 h5 hF=>?_;refine J5 (l9 ⟨_,_,dn3 h5,?_⟩);refine l9 ?_;refine mV hF λh31 hF=>?_;refine J5 ⟨[(24,1)],0,_,_,_,_,rfl,rfl,cD7 (TB (cf:=G7) (l:=y4) (ns:=([o]:F5)) XF.u XG (by decide) (by decide) (λ_=>rfl) h31),rfl,?_⟩;refine C9 (by kernel_rfl) ?_;refine l9 ?_;refine l9 ?_;refine l9 ?_;refine l9 ?_;refine C9 (λh6=>?_) (λh6=>?_)
  .have hF:=D6 h6 hF;refine E5 hF λy7 h8 hF=>?_;refine l9 ⟨_,dC6 h8,rfl,?_⟩;refine l9 ?_;refine C9 (λh9=>?_) (λh9=>?_)
   .have hF:=D6 h9 hF;refine Z9 (p:=λr=>bF tab _ 2 (.c (.U6 [I r.1,I r.2.1])) [(0,.varx [.sl 12 (r.2.2.2.1.map G7),.sl 1 (r.2.2.2.2.1.map F8),.sl 6 (r.2.2.2.2.2.1.map I4),.sl 4 (r.2.2.2.2.2.2.map N9),.mr 1 0]),(0,.map (U9 Y3 eInt r.2.2.1))] _) hF ?_;exact⟨[(4294967296,0),(4295032832,0)],[0,0],rfl,rfl,rfl⟩
   .have hF:=D5 h9 hF;refine l9 ?_;refine l9 ?_;refine l9 ?_;refine l9 ?_;refine l9 ?_;refine l9 ?_;refine C9 (by kernel_rfl) ?_;refine C9 (λh10=>?_) (λh10=>?_)
    .have hF:=D6 h10 hF;refine E5 hF λbD h12 hF=>?_;refine l9 ⟨_,ce4 h12,rfl,?_⟩;refine l9 ?_;refine l9 ?_;refine l9 ?_;refine E5 hF λy13 dL hF=>?_;refine l9 ⟨_,aj1 dL,rfl,?_⟩;refine C9 (λh15=>?_) (λh15=>?_)
     .have hF:=D6 h15 hF;refine l9 ?_;refine l9 ?_;refine l9 ?_;refine J5 ⟨[(4295032832,0)],0,_,_,_,_,rfl,rfl,yL (ev:=eInt) (m:=m1) (x:=o.Mark) (v:=o.Unit) zH.u vZ.u vN,rfl,?_⟩;refine C9 (by kernel_rfl) ?_;refine Z9 (p:=λr=>bF tab _ 2 (.c (.U6 [I r.1,I r.2.1])) [(0,.varx [.sl 12 (r.2.2.2.1.map G7),.sl 1 (r.2.2.2.2.1.map F8),.sl 6 (r.2.2.2.2.2.1.map I4),.sl 4 (r.2.2.2.2.2.2.map N9),.mr 1 0]),(0,.map (U9 Y3 eInt r.2.2.1))] _) hF ?_;exact⟨[(4294967296,0),(4295032832,0)],[0,0],rfl,rfl,rfl⟩
     .have hF:=D5 h15 hF;refine Z9 (p:=λr=>bF tab _ 2 (.c (.U6 [I r.1,I r.2.1])) [(0,.varx [.sl 12 (r.2.2.2.1.map G7),.sl 1 (r.2.2.2.2.1.map F8),.sl 6 (r.2.2.2.2.2.1.map I4),.sl 4 (r.2.2.2.2.2.2.map N9),.mr 1 0]),(0,.map (U9 Y3 eInt r.2.2.1))] _) hF ?_;exact⟨[(4294967296,0),(4295032832,0)],[0,0],rfl,rfl,rfl⟩
    .have hF:=D5 h10 hF;refine E5 hF λzJ h17 hF=>?_;refine l9 ⟨_,aj1 h17,rfl,?_⟩;refine C9 (λh18=>?_) (λh18=>?_)
     .have hF:=D6 h18 hF;refine l9 ?_;refine l9 ?_;refine l9 ?_;refine J5 ⟨[(4295032832,0)],0,_,_,_,_,rfl,rfl,yL (ev:=eInt) (m:=m1) (x:=o.Mark) (v:=o.Unit) zH.u vZ.u vN,rfl,?_⟩;refine C9 (by kernel_rfl) ?_;refine Z9 (p:=λr=>bF tab _ 2 (.c (.U6 [I r.1,I r.2.1])) [(0,.varx [.sl 12 (r.2.2.2.1.map G7),.sl 1 (r.2.2.2.2.1.map F8),.sl 6 (r.2.2.2.2.2.1.map I4),.sl 4 (r.2.2.2.2.2.2.map N9),.mr 1 0]),(0,.map (U9 Y3 eInt r.2.2.1))] _) hF ?_;exact⟨[(4294967296,0),(4295032832,0)],[0,0],rfl,rfl,rfl⟩
     .have hF:=D5 h18 hF;refine Z9 (p:=λr=>bF tab _ 2 (.c (.U6 [I r.1,I r.2.1])) [(0,.varx [.sl 12 (r.2.2.2.1.map G7),.sl 1 (r.2.2.2.2.1.map F8),.sl 6 (r.2.2.2.2.2.1.map I4),.sl 4 (r.2.2.2.2.2.2.map N9),.mr 1 0]),(0,.map (U9 Y3 eInt r.2.2.1))] _) hF ?_;exact⟨[(4294967296,0),(4295032832,0)],[0,0],rfl,rfl,rfl⟩
  .have hF:=D5 h6 hF;refine l9 ?_;refine l9 ?_;refine l9 ?_;refine E5 hF λnG h20 hF=>?_;refine l9 ⟨_,bQ4 h20,rfl,?_⟩;refine l9 ?_;refine C9 (by kernel_rfl) ?_;refine C9 (λh21=>?_) (λh21=>?_)
   .have hF:=D6 h21 hF;refine l9 ?_;refine l9 ?_;refine l9 ?_;refine Z9 (p:=λr=>bF tab _ 2 (.c (.U6 [I r.1,I r.2.1])) [(0,.varx [.sl 12 (r.2.2.2.1.map G7),.sl 1 (r.2.2.2.2.1.map F8),.sl 6 (r.2.2.2.2.2.1.map I4),.sl 4 (r.2.2.2.2.2.2.map N9),.mr 1 0]),(0,.map (U9 Y3 eInt r.2.2.1))] _) hF ?_;exact⟨[(4294967296,0),(4295032832,0)],[0,0],rfl,rfl,rfl⟩
   .have hF:=D5 h21 hF;refine l9 ?_;refine l9 ?_;refine l9 ?_;refine l9 ?_;refine l9 ?_;refine l9 ?_;refine C9 (by kernel_rfl) ?_;refine C9 (λh22=>?_) (λh22=>?_)
    .have hF:=D6 h22 hF;refine E5 hF λy23 GU hF=>?_;refine l9 ⟨_,ce4 GU,rfl,?_⟩;refine l9 ?_;refine l9 ?_;refine l9 ?_;refine E5 hF λy25 nN hF=>?_;refine l9 ⟨_,aj1 nN,rfl,?_⟩;refine C9 (λh27=>?_) (λh27=>?_)
     .have hF:=D6 h27 hF;refine l9 ?_;refine l9 ?_;refine l9 ?_;refine J5 ⟨[(4295032832,0)],0,_,_,_,_,rfl,rfl,yL (ev:=eInt) (m:=m1) (x:=o.Mark) (v:=o.Unit) zH.u vZ.u vN,rfl,?_⟩;refine C9 (by kernel_rfl) ?_;refine Z9 (p:=λr=>bF tab _ 2 (.c (.U6 [I r.1,I r.2.1])) [(0,.varx [.sl 12 (r.2.2.2.1.map G7),.sl 1 (r.2.2.2.2.1.map F8),.sl 6 (r.2.2.2.2.2.1.map I4),.sl 4 (r.2.2.2.2.2.2.map N9),.mr 1 0]),(0,.map (U9 Y3 eInt r.2.2.1))] _) hF ?_;exact⟨[(4294967296,0),(4295032832,0)],[0,0],rfl,rfl,rfl⟩
     .have hF:=D5 h27 hF;refine Z9 (p:=λr=>bF tab _ 2 (.c (.U6 [I r.1,I r.2.1])) [(0,.varx [.sl 12 (r.2.2.2.1.map G7),.sl 1 (r.2.2.2.2.1.map F8),.sl 6 (r.2.2.2.2.2.1.map I4),.sl 4 (r.2.2.2.2.2.2.map N9),.mr 1 0]),(0,.map (U9 Y3 eInt r.2.2.1))] _) hF ?_;exact⟨[(4294967296,0),(4295032832,0)],[0,0],rfl,rfl,rfl⟩
    .have hF:=D5 h22 hF;refine E5 hF λy28 tC hF=>?_;refine l9 ⟨_,aj1 tC,rfl,?_⟩;refine C9 (λh30=>?_) (λh30=>?_)
     .have hF:=D6 h30 hF;refine l9 ?_;refine l9 ?_;refine l9 ?_;refine J5 ⟨[(4295032832,0)],0,_,_,_,_,rfl,rfl,yL (ev:=eInt) (m:=m1) (x:=o.Mark) (v:=o.Unit) zH.u vZ.u vN,rfl,?_⟩;refine C9 (by kernel_rfl) ?_;refine Z9 (p:=λr=>bF tab _ 2 (.c (.U6 [I r.1,I r.2.1])) [(0,.varx [.sl 12 (r.2.2.2.1.map G7),.sl 1 (r.2.2.2.2.1.map F8),.sl 6 (r.2.2.2.2.2.1.map I4),.sl 4 (r.2.2.2.2.2.2.map N9),.mr 1 0]),(0,.map (U9 Y3 eInt r.2.2.1))] _) hF ?_;exact⟨[(4294967296,0),(4295032832,0)],[0,0],rfl,rfl,rfl⟩
     .have hF:=D5 h30 hF;refine Z9 (p:=λr=>bF tab _ 2 (.c (.U6 [I r.1,I r.2.1])) [(0,.varx [.sl 12 (r.2.2.2.1.map G7),.sl 1 (r.2.2.2.2.1.map F8),.sl 6 (r.2.2.2.2.2.1.map I4),.sl 4 (r.2.2.2.2.2.2.map N9),.mr 1 0]),(0,.map (U9 Y3 eInt r.2.2.1))] _) hF ?_;exact⟨[(4294967296,0),(4295032832,0)],[0,0],rfl,rfl,rfl⟩
def QI(l_:List Opn):Nat->Int->List Opn->List Int->List Branch->List Came->List (Str×Int)->Option ((List Opn×List Int×List Branch×List Came×(List (Str×Int)))×Int×Int)
 |0,_,_,_,_,_,_=>none
 |fu1+1,v1,v_2,v_3,v_4,v_5,v6=>bif decide (v1<((l_.map G7).length:Int))then(Option.bind (ix l_ v1) λx8=>Option.bind (rE v_2 v_3 v_4 v_5 v6 x8) λkL=>bif (kL.2.1 !=0)then none else QI l_ fu1 (IntKind.i64.wrap (v1+1)) kL.2.2.2.1 kL.2.2.2.2.1 kL.2.2.2.2.2.1 kL.2.2.2.2.2.2 kL.2.2.1)else some ((v_2,v_3,v_4,v_5,v6),(-1),0)
def ce5(N:Nat)(l_:F5):Option ((F5×F6×X8×N7×W9)×Int×Int):=QI l_ N 0 ([]:F5) ([]:F6) ([]:X8) ([]:N7) ([]:W9)
def dC3{N:Nat}{l_:F5}{r:(F5×F6×X8×N7×W9)×Int×Int}(hF:ce5 N l_=some r):gI prog Gw 40 [.c (.sl 12 (l_.map G7))] [] (.fC [.pr 0 1 0,I r.2.1,I r.2.2]) [(1,.varx [.sl 12 (r.1.1.map G7),.sl 1 (r.1.2.1.map F8),.sl 6 (r.1.2.2.1.map I4),.sl 4 (r.1.2.2.2.1.map N9),.mr 1 1]),(1,.map (U9 Y3 eInt r.1.2.2.2.2))]:=by
 refine vF O9 mixed func40 (by decide) rfl (I8 rfl) rfl ?_;refine J5 ⟨[],0,_,_,_,_,rfl,rfl,ZB,rfl,?_⟩;refine J5 ⟨[(10,1)],0,_,_,_,_,rfl,rfl,cS6,rfl,?_⟩;refine J5 ⟨[(10,1)],0,_,_,_,_,rfl,rfl,cS5,rfl,?_⟩;refine iE (λp:Nat×Int×F5×F6×X8×N7×W9=>[(5,.pm 65548 0 0),(13,.c (.sl 12 (l_.map G7))),(14,.c (I ((l_.map G7).length:Int))),(15,.c (I p.2.1))]) (λp:Nat×Int×F5×F6×X8×N7×W9=>[(65548,.varx [.sl 12 (p.2.2.1.map G7),.sl 1 (p.2.2.2.1.map F8),.sl 6 (p.2.2.2.2.1.map I4),.sl 4 (p.2.2.2.2.2.1.map N9),.mr 10 0]),(10,.map (U9 Y3 eInt p.2.2.2.2.2.2))]) (λp=>QI l_ p.1 p.2.1 p.2.2.1 p.2.2.2.1 p.2.2.2.2.1 p.2.2.2.2.2.1 p.2.2.2.2.2.2=some r) (λp=>p.1) (N,0,([]:F5),([]:F6),([]:X8),([]:N7),([]:W9)) hF ⟨rfl,rfl,rfl,rfl,trivial⟩ ⟨rfl,rfl,trivial⟩ ?_;rintro⟨fu1,v1,v_2,v_3,v_4,v_5,v6⟩ hF;cases fu1 with
 |zero=>exact nomatch hF
 |succ fu1=>
  refine P6 ?_;refine C9 (λh7=>?_) (λh7=>?_)
  .have hF:=D6 h7 hF;refine P6 ?_;refine E5 hF λx8 h9 hF=>?_;refine⟨aT h9,.inl rfl,_,bK G7 h9,?_⟩;refine l9 ?_;refine E5 hF λkL h11 hF=>?_;refine J5 (J5 ⟨[(65548,0),(10,0)],0,_,_,_,_,rfl,rfl,pW rfl (J5 ⟨_,rfl,rfl⟩) (bD2 h11),rfl,?_⟩);refine C9 (λh12=>?_) (λh12=>?_)
   .have hF:=D6 h12 hF;exact nomatch hF
   .have hF:=D5 h12 hF;exact⟨(fu1,(IntKind.i64.wrap (v1+1)),kL.2.2.2.1,kL.2.2.2.2.1,kL.2.2.2.2.2.1,kL.2.2.2.2.2.2,kL.2.2.1),aP _,hF,⟨rfl,rfl,rfl,rfl,trivial⟩,⟨rfl,rfl,trivial⟩⟩
  .have hF:=D5 h7 hF;refine Z9 (p:=λr=>bF tab _ 0 (.fC [.pr 0 1 0,I r.2.1,I r.2.2]) [(1,.varx [.sl 12 (r.1.1.map G7),.sl 1 (r.1.2.1.map F8),.sl 6 (r.1.2.2.1.map I4),.sl 4 (r.1.2.2.2.1.map N9),.mr 1 1]),(1,.map (U9 Y3 eInt r.1.2.2.2.2))] _) hF ?_;exact⟨[(65548,0),(10,0)],[1,1],rfl,rfl,rfl⟩
abbrev EJ:=ce5 1000
abbrev bf0:=@dC3 1000
def dA7(l:F5):Option (Int×Int):=Option.bind (EJ l) λy1=>some (y1.2.1,y1.2.2)
def cd7(o2:F6)(a18:Int)(a19:Opn):qQ:=bif decide (o2.length+([a19.ID]:F6).length<=4294967296)then some ((o2++([a19.ID]:F6)))else none
def JU(u3:List Opn)(v2:List (Int×Bool)):Nat->Int->List Int->Option (List Int)
 |0,_,_=>none
 |bI+1,v9,v10=>bif decide (v9<((u3.map G7).length:Int))then(Option.bind (ix u3 v9) λx12=>bif (x12.Kind !=6)then(Option.bind (rF v2 x12.ID false) λjW=>bif (!jW)then(Option.bind (cd7 v10 v9 x12) λlW=>JU u3 v2 bI (IntKind.i64.wrap (v9+1)) lW)else JU u3 v2 bI (IntKind.i64.wrap (v9+1)) v10)else JU u3 v2 bI (IntKind.i64.wrap (v9+1)) v10)else some (v10)
def QG(o2:List Int)(u3:List Opn)(N:Nat):Nat->Int->List (Int×Bool)->Option (List Int)
 |0,_,_=>none
 |fu1+1,v1,v2=>bif decide (v1<((u3.map G7).length:Int))then(Option.bind (ix u3 v1) λx4=>bif (x4.Kind==6)then(Option.bind (rF v2 x4.Unit false) λy7=>QG o2 u3 N fu1 (IntKind.i64.wrap (v1+1)) (aU v2 x4.Unit (!y7)))else QG o2 u3 N fu1 (IntKind.i64.wrap (v1+1)) v2)else JU u3 v2 N 0 o2
def dB5(N:Nat)(o2:F6)(u3:F5):qQ:=QG o2 u3 N N 0 ([]:lI)
abbrev be8:=dB5 1000
def cd8(l:F5):Option (F6×Int):=Option.bind (dA7 l) λy1=>bif (y1.2 !=0)then some (([]:F6),1)else(Option.bind (be8 ([]:F6) l) λy4=>some (y4,0))
abbrev be7(y:Tree×Int):CV:=.U6 [.agg (gW y.1),I y.2]
def QF(l:F5):KW:=Option.bind (EJ l) λy1=>bif (y1.2.2 !=0)then some ((⟨([]:F6),([]:X8)⟩:Tree),1)else some ((⟨y1.1.2.1,y1.1.2.2.1⟩:Tree),0)
def dB1{l:F5}{r:Tree×Int}(hF:QF l=some r):Holds prog Gw 15 [.sl 12 (l.map G7)] (be7 r):=by
 refine V9 O9 mixed func15 (by decide) rfl (I8 rfl) ?_;refine l9 ?_;refine E5 hF λy1 h2 hF=>?_;refine J5 (J5 ⟨[],0,_,_,_,_,rfl,rfl,pW rfl (J5 ⟨_,rfl,rfl⟩) (bf0 h2),rfl,?_⟩);refine J5 ⟨[(9,1),(65545,1)],0,_,_,_,_,rfl,rfl,TD rfl,rfl,?_⟩;refine J5 ⟨[(9,1),(65545,1)],0,_,_,_,_,rfl,rfl,TD rfl,rfl,?_⟩;refine J5 ⟨[(9,1),(65545,1)],0,_,_,_,_,rfl,rfl,TD rfl,rfl,?_⟩;refine C9 (λh3=>?_) (λh3=>?_)
 .have hF:=D6 h3 hF;refine l9 ?_;exact l9 ⟨rfl,congrArg (Option.map be7) hF⟩
 .have hF:=D5 h3 hF;refine l9 ?_;refine l9 ?_;refine l9 ?_;exact l9 ⟨rfl,congrArg (Option.map be7) hF⟩
abbrev aB4(y:F5×Int×Int):CV:=.U6 [.sl 12 (y.1.map G7),I y.2.1,I y.2.2]
def xR(l:F5)(o:Opn):Option (F5×Int×Int):=Option.bind (EJ l) λy1=>bif (y1.2.2 !=0)then some (([]:F5),(-1),1)else(Option.bind (rE y1.1.1 y1.1.2.1 y1.1.2.2.1 y1.1.2.2.2.1 y1.1.2.2.2.2 o) λy4=>bif (y4.2.1 !=0)then some (([]:F5),y4.1,y4.2.1)else some (y4.2.2.2.1,(-1),0))
def dA5{l:F5}{o:Opn}{r:F5×Int×Int}(hF:xR l o=some r):Holds prog Gw 12 [.sl 12 (l.map G7),.agg (G7 o)] (aB4 r):=by
 refine V9 O9 mixed func12 (by decide) rfl (I8 rfl) ?_;refine l9 ?_;refine l9 ?_;refine E5 hF λy1 h2 hF=>?_;refine J5 (J5 ⟨[],0,_,_,_,_,rfl,rfl,pW rfl (J5 ⟨_,rfl,rfl⟩) (bf0 h2),rfl,?_⟩);refine J5 ⟨[(14,1),(65550,1)],0,_,_,_,_,rfl,rfl,TD rfl,rfl,?_⟩;refine J5 ⟨[(14,1),(65550,1)],0,_,_,_,_,rfl,rfl,TD rfl,rfl,?_⟩;refine J5 ⟨[(14,1),(65550,1)],0,_,_,_,_,rfl,rfl,TD rfl,rfl,?_⟩;refine C9 (λh3=>?_) (λh3=>?_)
 .have hF:=D6 h3 hF;refine l9 ?_;exact l9 ⟨rfl,congrArg (Option.map aB4) hF⟩
 .have hF:=D5 h3 hF;refine E5 hF λy4 h5 hF=>?_;refine J5 (J5 ⟨[(14,1),(65550,1)],0,_,_,_,_,rfl,rfl,pW rfl (J5 ⟨_,rfl,rfl⟩) (bD2 h5),rfl,?_⟩);refine C9 (λh6=>?_) (λh6=>?_)
  .have hF:=D6 h6 hF;refine l9 ?_;exact l9 ⟨rfl,congrArg (Option.map aB4) hF⟩
  .have hF:=D5 h6 hF;refine l9 ?_;refine l9 ?_;refine l9 ?_;exact l9 ⟨rfl,congrArg (Option.map aB4) hF⟩
abbrev bF4(y:F5):CV:=.sl 12 (y.map G7)
def OA(l:List Opn):Nat->List Opn->Int->Option (List Opn)
 |0,_,_=>none
 |fu1+1,out1,v2=>bif decide (v2<((l.map G7).length:Int))then(Option.bind (ix l v2) λx4=>Option.bind (uM out1) λy6=>Option.bind (xR y6 (⟨(IntKind.i64.wrap (v2+1)),v2,x4.Kind,x4.Unit,x4.Parent,x4.Before,x4.Level,x4.Title,x4.Mark,x4.Origin⟩:Opn)) λy8=>bif (y8.2.2==0)then OA l fu1 y8.1 (IntKind.i64.wrap (v2+1))else OA l fu1 out1 (IntKind.i64.wrap (v2+1)))else some (out1)
def bF5(N:Nat)(l:F5):Option F5:=OA l N ([]:F5) 0
def cW9{N:Nat}{l:F5}{r:F5}(hF:bF5 N l=some r):Holds prog Gw 7 [.sl 12 (l.map G7)] (bF4 r):=by
 refine V9 O9 mixed func7 (by decide) rfl (I8 rfl) ?_;refine l9 ?_;refine J5 ⟨[],0,_,_,_,_,rfl,rfl,cD4 12,rfl,?_⟩;refine iE (λp:Nat×F5×Int=>[(3,.c (.sl 12 (p.2.1.map G7))),(9,.c (.sl 12 (l.map G7))),(10,.c (I ((l.map G7).length:Int))),(11,.c (I p.2.2))]) (λ_=>[]) (λp=>OA l p.1 p.2.1 p.2.2=some r) (λp=>p.1) (N,([]:F5),0) hF ⟨rfl,rfl,rfl,rfl,trivial⟩ trivial ?_;rintro⟨fu1,out1,v2⟩ hF;cases fu1 with
 |zero=>exact nomatch hF
 |succ fu1=>
  refine P6 ?_;refine C9 (λh3=>?_) (λh3=>?_)
  .have hF:=D6 h3 hF;refine P6 ?_;refine E5 hF λx4 h5 hF=>?_;refine⟨aT h5,.inl rfl,_,bK G7 h5,?_⟩;refine l9 ?_;refine E5 hF λy6 h7 hF=>?_;refine l9 ⟨_,a98 h7,rfl,?_⟩;refine E5 hF λy8 h9 hF=>?_;refine l9 ⟨_,dA5 h9,rfl,?_⟩;refine C9 (by kernel_rfl) ?_;refine C9 (λh10=>?_) (λh10=>?_)
   .have hF:=D6 h10 hF;exact⟨(fu1,y8.1,(IntKind.i64.wrap (v2+1))),aP _,hF,⟨rfl,rfl,rfl,rfl,trivial⟩,trivial⟩
   .have hF:=D5 h10 hF;exact⟨(fu1,out1,(IntKind.i64.wrap (v2+1))),aP _,hF,⟨rfl,rfl,rfl,rfl,trivial⟩,trivial⟩
  .have hF:=D5 h3 hF;exact l9 ⟨rfl,congrArg (Option.map bF4) hF⟩
abbrev aS1:=bF5 1000
abbrev cX0:=@cW9 1000
end
section
open Go Go.F7 Proofs.Tryz
def CU:U7:=some true
def aR8{r:Bool}(h:CU=some r):Holds prog Gw 5 [] (B r):=by
 cases h;exact Ev.cs5 λw ⟨m,hm⟩=>⟨m,hm⟩
end
section
open Go Go.F7
set_option maxRecDepth 10000
set_option maxHeartbeats 400000
def bE2(o:Opn)(c0:Int):U7:=some ((o.ID==c0))
def tV(bD:List Opn)(jW:List Int×Int)(x19:Int):Nat->Int->Int->List Int->List Branch->Option (Bool)
 |0,_,_,_,_=>none
 |fu1+1,MJ,v22,WY,WZ=>bif decide (v22<((bD.map G7).length:Int))then(Option.bind (ix bD v22) λx26=>bif decide (MJ>=0)then tV bD jW x19 fu1 MJ (IntKind.i64.wrap (v22+1)) WY WZ else(bif (x26.ID==x19)then tV bD jW x19 fu1 MJ (IntKind.i64.wrap (v22+1)) WY WZ else(Option.bind (vX jW.1 x26.ID) λy30=>bif (!y30)then tV bD jW x19 fu1 MJ (IntKind.i64.wrap (v22+1)) WY WZ else(Option.bind (rH (⟨WY,WZ⟩:Tree) x26) λy33=>bif (y33.2 !=0)then tV bD jW x19 fu1 v22 (IntKind.i64.wrap (v22+1)) WY WZ else tV bD jW x19 fu1 MJ (IntKind.i64.wrap (v22+1)) y33.1.Q7 y33.1.Branches))))else(Option.bind (ix bD (IntKind.i64.wrap (((bD.map G7).length:Int)-1))) λx36=>Option.bind (uM bD) λy38=>Option.bind (xR y38 (⟨(IntKind.i64.wrap (x36.ID+1)),x36.Day,6,x19,0,0,0,([]:Str),([]:Str),(⟨0,0,0⟩:Origin)⟩:Opn)) λEP=>bif (EP.2.2==21)then(Option.bind (ah8 bD (λz0=>bE2 z0 x19)) λy43=>bif decide (y43>=0)then(Option.bind (ix bD y43) λx46=>bif (x46.Kind==1)then(Option.bind (ix bD y43) λx49=>some ((x49.Origin.X3 !=0)))else some (false))else some (false))else(bif decide (MJ>=0)then(bif (EP.2.2==20)then some ((EP.2.1==MJ))else some (false))else(Option.bind (uM EP.1) λy53=>Option.bind (QF y53) λy55=>bif (EP.2.2 !=0)then some (false)else(bif (y55.2 !=0)then some (false)else(Option.bind (ac8 (⟨WY,WZ⟩:Tree) y55.1) λy59=>bif (!y59)then some (false)else(Option.bind (uM EP.1) λy62=>Option.bind (xR y62 (⟨(IntKind.i64.wrap (x36.ID+2)),x36.Day,6,x19,0,0,0,([]:Str),([]:Str),(⟨0,0,0⟩:Origin)⟩:Opn)) λy64=>Option.bind (QF y64.1) λy66=>Option.bind (uM bD) λy68=>Option.bind (QF y68) λy70=>bif (y64.2.2==0)then(bif (y66.2==0)then(bif (y70.2==0)then(Option.bind (ac8 y66.1 y70.1) λy75=>some (y75))else some (false))else some (false))else some (false)))))))
def aR6(N:Nat)(l:F5)(which:Int):U7:=Option.bind (CU) λy1=>bif (!y1)then(Option.bind (CU) λy4=>some (y4))else(Option.bind (av8 l) λy6=>bif (!y6)then(Option.bind (CU) λy9=>some (y9))else(Option.bind (aS1 l) λbD=>Option.bind (uM bD) λy13=>Option.bind (cd8 y13) λjW=>bif (jW.2 !=0)then some (false)else(bif (((jW.1.map F8).length:Int)==0)then some (true)else(bif decide (((jW.1.map F8).length:Int)=0)then none else Option.bind (ix jW.1 (Int.tmod (IntKind.i64.wrap which) ((jW.1.map F8).length:Int))) λx19=>tV bD jW x19 N (-1) 0 ([]:F6) ([]:X8)))))
abbrev cU4:=aR6 1000
end
section
open Go Go.F7 Go.RowKit Go.Sort Go.Ev Proofs.Tryz
set_option maxRecDepth 100000
set_option maxHeartbeats 4000000
def dF2{P:Program}(w:World){ops:pJ}{rest:Y4}{o:Oper}{a:Act}{Q:dD}
    (hg:o.guard=none) (s x:Operand) (t:TypeId) (hop:o.op=Op.call { callee:=Callee.builtin Builtin.append,args:=#[s,x],argTypes:=#[t,t] }) (vs vx:Value) (hs:a.eval s=vs) (hx:a.eval x=vx) (v':Value) (w':World)
    (hrun:(Builtin.append_ #[t,t] o.type #[vs,vx]).run P w=.ok v' w') (h:wpList P ops Q rest (a.put o.dst v') w'):wpList P ops Q (o::rest) a w:=by
 refine wpList_plain hg λK hK'=>?_;unfold Oper.wp;simp[execOp,hop,resolve,invoke,builtin,hs,hx,hrun,Result.andThen];exact hK' _ _ h
def cq1{P:Program}{w:World}{t tx el:Nat}{i:TI}(hT:O6 P el i)(ht:P.underlying t=some (.slice el))(hby:i.bytes<=4096){x:Value}{n:Nat}{news:H6}(hs:Src P i.size tx x n news w):XT P t tx el i x n news w:=by
 have⟨j,hj,hjs,hjb,hjz⟩:=hT.gX;refine⟨hs.newsLen,hs.one,λty b off sLen sCap e' arr hh hroom hfit=>?_,λh0 ty base sLen sCap hle=>?_,λty base sLen sCap olds ho hg hle=>?_⟩
 .have hst:=run_storeCells_at P b (off+sLen*i.size) e' news 0 arr w hh (by simpa using hfit) hs.one;simp only[pG]at hst;rcases hs.kind with⟨e'',hk⟩|hk<;>simp[Builtin.append_,O4 ht,O4 hk,sizeOf,typeInfo,hj,hjs,hs.len,hroom,hs.cells,iI,hst]
 .subst h0;have hnil:news=[]:=mD (by rw[hs.newsLen];simp);subst hnil;rcases hs.kind with⟨e'',hk⟩|hk<;>cases base<;>simp[Builtin.append_,O4 ht,O4 hk,sizeOf,typeInfo,hj,hjs,hs.len,hle,hs.cells,storeCells]
 .have hfit:Builtin.nextslicecap (sLen+n) sCap*j.bytes<=281474976710656:=by
   refine growslice_fits hg ?_
   calc (sLen+n)*j.bytes<=5000000*4096:=Nat.mul_le_mul hle (by omega)
    _<=140737488355328:=by decide
  refine⟨_,grownCap_ge w (sLen+n) sCap el,grownCap_le_maxLen w (sLen+n) sCap el (by unfold maxLen;omega),?_⟩;exact run_append_grow_src (P:=P) w t tx ty el j (Q9 i) ht hj hjz base sLen sCap olds (by rw[hjs];exact ho) x n news (by rw[hjs];exact hs) hg (by omega) hfit
def cq4{el t z:Nat}{ti:TI}(hu:prog.underlying t=some (.slice el))(hT:O6 prog el ti)(hz:ti.size=z)(h0:0<z)(hby:ti.bytes<=4096){W:World}{v:Value}{n:Nat}{C:H6}{ob:E8}(hO:P8 W el z v n C ob)(hn:n<=4000)
    {vb:Nat} {xs:H6} (hxs:xs.length=z) (hx1:∀u∈xs,u.oneCell'=true) (hV:W.heap[vb]?=some (.cells xs.toArray el (0,0))):
    ∃v' W' ob',((Builtin.append_ #[t,t] t #[v,.slice (some ⟨vb,0,none⟩) 1 1]).run prog W=.ok v' W')/\P8 W' el z v' (n+1) (C++xs) ob'/\Fr (λk=>ob=some k) W W'/\(∀c,ob'=some c->ob=some c\/W.heap.size<=c)/\∃a b c,v'=.slice a b c:=by
 subst hz;have hsrc:Src prog ti.size t (.slice (some ⟨vb,0,none⟩) 1 1) 1 xs W:=
  Src.ofSlice W hu ⟨vb,0,none⟩ 1 1 xs (by rw[hxs,nI]) (λj u hj=>by
   rw[iI,X9,kU W vb j _ el (0,0) hV]
   simpa using hj) hx1
 have hA:=cq1 hT hu hby hsrc;have hzl:∀n,(Builtin.zeroCells (Q9 ti).cells n).toList.length=n*ti.size:=aD4 hT;have h1:=hO.one;have hlen:=hO.len;have fresh:∀m,n+1<=m->m<=maxLen->P8 (W.drew.alloc (.cells ((C++xs).toArray++Builtin.zeroCells (Q9 ti).cells (m-(n+1))) el)) el ti.size (.slice (some ⟨W.heap.size,0,none⟩) (n+1) m) (n+1) (C++xs) (some W.heap.size):=λm hm hmx=>
  vP (bJ W.drew _) (by
   simp only[Array.size_append,oZ,cO,hlen,hxs];rw[<-iW,hzl];obtain⟨q,rfl⟩:∃q,m=n+1+q:=⟨m-(n+1),by omega⟩
   rw[Nat.add_sub_cancel_left,mF (n+1) q,mF n 1,nI]) hm hmx
   (λu hu=>by
     rcases iY.1 hu with hu|hu
     .grind
     .exact hx1 u hu)
   (by
     have hle:(C++xs).length=(n+1)*ti.size:=by grind
     simp only[ak3];rw[sG (by simp[hle]),pF (by simp[hle])])
 cases hO with
 |e a=>
  have⟨m,hm,hmx,hr⟩:=hA.grow t a 0 0 [] (by cases a with|none=>rfl|some a=>simp[Builtin.firstCells];rfl) (by omega) (by omega);exact⟨_,_,some W.heap.size,hr,by simpa using fresh m hm hmx,((Fr.refl _ W).drew).alloc _,λc hc=>.inr (by injection hc with hc;omega),_,_,_,rfl⟩
 |b b c n arr hh hs hnc hm h1'=>
  have hle:n*ti.size<=c*ti.size:=iJ _ hnc;by_cases hroom:n+1<=c
  .have hle2:n*ti.size+ti.size<=c*ti.size:=by have:=iJ ti.size hroom;rwa [mF,nI]at this
   have hr:=hA.room t b 0 n c el arr hh hroom (by rw[hs,hxs,X9];exact hle2);refine⟨_,_,some b,hr,?_,(Fr.refl _ W).setRow (.inl rfl),λc hc=>.inl hc,_,_,_,rfl⟩;have htl:(arr.toList.take (n*ti.size)).length=n*ti.size:=by grind
   refine vP (rU W b arr _ el (0,0) hh) (by simp only[X9,oZ,cO,htl,nH,iW,hs,hxs];omega) hroom hm (λu hu=>?_) ?_
   .grind
   .simp only[X9];rw[mF,nI,sG (by simp only[cO,htl,hxs];omega),pF (by simp only[cO,htl,hxs];omega)]
  .have hrow:=TF (P:=prog) (W:=W.drew) hh ti.size n 0 n c (by rw[hs];omega);have⟨m,hm',hmx,hr⟩:=hA.grow t (some ⟨b,0,none⟩) n c (arr.toList.take (n*ti.size)) (by simpa using hrow) (by omega) (by omega);exact⟨_,_,some W.heap.size,hr,fresh m hm' hmx,((Fr.refl _ W).drew).alloc _,λc hc=>.inr (by injection hc with hc;omega),_,_,_,rfl⟩
theorem run_next_at{w:World}{it bm since c0:Nat}{seen:Array Nat}{es:lH}{clock:Nat}(hi:w.heap[it]?=some (.mapIter (some bm) since seen c0))(hb:w.heap[bm]?=some (.map es clock))(hold:∀x∈es.toList,x.born<since)(hsc:since<=c0):
 ((leftOf es seen).size=0/\∀ty,(Instr.next (.pointer (some ⟨it,0,none⟩)) false ty).run prog w=.ok (.tuple #[.bool false]) w)\/
 ∃e∈(leftOf es seen).toList,∃w1:World,Fr (λk=>k=it) w w1/\w1.heap[it]?=some (.mapIter (some bm) since (seen.push e.born) clock)/\∀ty,(Instr.next (.pointer (some ⟨it,0,none⟩)) false ty).run prog w=.ok (.tuple #[.bool true,e.key,e.val]) w1:=by
 simp only[Instr.next,getObj,J6,Sem.run,hi,hb,Result.andThen,next_test_false seen es since c0 hold hsc,Bool.false_eq_true,if_false];unfold leftOf;have hmem:∀x∈(Array.filter (λe=> !seen.contains e.born) es).toList,x.born<since:=λx hx=>hold x (by simp at hx⊢;exact hx.1);generalize Array.filter (λe=> !seen.contains e.born) es=L at hmem⊢;have e1:L.filter (λx=>decide (x.born<since))=L:=Array.filter_eq_self.2 (λx hx=>by simpa using hmem x (by simpa using hx));have e2:L.filter (λx=>decide (x.born>=since))=#[]:=by
  rw[Array.filter_eq_empty_iff]
  grind
 simp only[e1,e2,Array.append_empty];by_cases h0:L.size=0
 .left;have:L=#[]:=Array.eq_empty_of_size_eq_zero h0;subst this;refine⟨rfl,?_⟩;simp[choose,Sem.run,Question.forced]
 .right;have hne:L.isEmpty=false:=by grind
  simp only[hne,Bool.false_eq_true,if_false,Array.empty_append,Array.size_map];have hch:∃(j:Nat) (w1:World),j<L.size/\w1.heap=w.heap/\Fr (λk=>k=it) w w1/\(choose (Question.mapNext L.size)).run prog w=.ok j w1:=by
   by_cases hf:L.size<=1
   .exact⟨0,w,by omega,rfl,Fr.refl _ _,by simp[choose,Sem.run,Question.forced,hf]⟩
   .exact⟨_,w.drew,Nat.mod_lt _ (by omega),rfl,(Fr.refl _ w).drew,by
     simp only[choose,Sem.run,Question.forced,pU,hf,if_false,Question.cut]
     rfl⟩
  have⟨j,w1,hj,hal,hF,hrun⟩:=hch;have hi1:w1.heap[it]?=some (.mapIter (some bm) since seen c0):=by grind
  refine⟨L[j],by simp,{ w1 with heap:=w1.heap.setIfInBounds it (.mapIter (some bm) since (seen.push L[j].born) clock) },⟨hF.os,hF.tape,hF.output,?_,λk hk hn=>?_⟩,?_,?_⟩
  .grind
  .grind
  .grind
  .intro ty;have hset:∀(o':Obj),(setObj it o').run prog w1=.ok () { w1 with heap:=w1.heap.setIfInBounds it o' }:=λo'=>by
    simp only[setObj,Sem.run,hi1]
   simp only[hrun,Array.getElem?_map,lY hj,FB,J6,hset,Result.andThen];rfl
theorem run_entry_at{w:World}{it bm since:Nat}{seen:Array Nat}{es:lH}{clock:Nat}{e:MapEntry}(hi:w.heap[it]?=some (.mapIter (some bm) since (seen.push e.born) clock))(hb:w.heap[bm]?=some (.map es clock))(he:e∈es.toList)(hn:(es.toList.map (·.born)).Nodup):
 (Instr.entry (.pointer (some ⟨it,0,none⟩))).run prog w=.ok (.tuple #[e.key,e.val]) w:=by
 have hf:es.find? (·.born==e.born)=some e:=by rw[<-Array.find?_toList];exact find_born e es.toList hn he
 simp only[Instr.entry,getObj,J6,Sem.run,hi,hb,Result.andThen,Array.back?_push,vC,Bool.false_eq_true,if_false,hf];rfl
def LM(x y:UInt8)(a b:mG):Lib.compareBytes (x::a) (y::b)=if x.toNat<y.toNat then -1 else if y.toNat<x.toNat then 1 else Lib.compareBytes a b:=by
 rw[Lib.compareBytes];simp only[UInt8.lt_iff_toNat_lt]
def FU:∀a b:mG,Lib.compareBytes b a= - Lib.compareBytes a b
 |[],[]=>rfl
 |[],_::_=>rfl
 |_::_,[]=>rfl
 |x::a,y::b=>by rw[LM,LM,FU a b];(repeat' split)<;>omega
def bo9:∀a b:mG,Lib.compareBytes a b=0->a=b
 |[],[],_=>rfl
 |[],_::_,h=>by cases h
 |_::_,[],h=>by cases h
 |x::a,y::b,h=>by
  rw[LM]at h;split at h
  .omega
  .split at h
   .omega
   .rw[bo9 a b h,UInt8.toNat_inj.1 (by omega:x.toNat=y.toNat)]
def an6:∀a b c:mG,Lib.compareBytes a b<=0->Lib.compareBytes b c<=0->Lib.compareBytes a c<=0/\(Lib.compareBytes a c=0->Lib.compareBytes a b=0/\Lib.compareBytes b c=0)
 |[],[],[],_,_=>⟨by decide,λ_=>⟨rfl,rfl⟩⟩
 |[],[],_::_,_,_=>⟨by show(-1:Int)<=0;decide,λh=>by cases h⟩
 |[],_::_,[],_,h=>absurd h (by show ¬(1:Int)<=0;decide)
 |[],_::_,_::_,_,_=>⟨by show(-1:Int)<=0;decide,λh=>by cases h⟩
 |_::_,[],_,h,_=>absurd h (by show ¬(1:Int)<=0;decide)
 |_::_,_::_,[],_,h=>absurd h (by show ¬(1:Int)<=0;decide)
 |x::a,y::b,z::c,h1,h2=>by
  have g:=an6 a b c;rw[LM]at h1 h2;rw[LM,LM,LM];generalize Lib.compareBytes a b=A at*
  grind
def du1:SWO (ltOf λx y:Marking=>Lib.compareBytes x.Mark y.Mark) where
 irrefl x:=by
  have:=FU x.Mark x.Mark;simp only[ltOf,decide_eq_false_iff_not];omega
 trans x y z h1 h2:=by
  simp only[ltOf,pU]at*
  have:=an6 x.Mark y.Mark z.Mark (by omega) (by omega);omega
 ntrans x y z h1 h2:=by
  simp only[ltOf,decide_eq_false_iff_not]at*
  have:=an6 z.Mark y.Mark x.Mark (by have:=FU y.Mark z.Mark;omega) (by have:=FU x.Mark y.Mark;omega);have:=FU x.Mark z.Mark;omega
def xA(a b:Marking):Bool:=decide (Lib.compareBytes a.Mark b.Mark<=0)
def PW(l:List Marking):List Marking:=l.mergeSort xA
def dq1{W:World}{v:Value}{l:List Marking}{ob:E8}(hO:P8 W 58 2 v l.length (l.flatMap oH) ob)(hl:l.length<=4000):
    Calls prog 43 #[v,.func (.func 44) #[] #[]] W λe w'=>e=.returned (.tuple #[])/\∃l':List Marking,(l'.Perm l/\l'.Pairwise λa b=>xA a b=true)/\l'.length=l.length/\P8 w' 58 2 v l.length (l'.flatMap oH) ob/\Fr (λb=>ob=some b) W w':=by
 refine bZ4 (enc:=oH) (k:=2) (f:=43) (el:=58) (λ_=>rfl) (by decide) (λx v hv=>by simp[oH]at hv;rcases hv with rfl|rfl<;>rfl) (λl l'=>l'.Perm l/\l'.Pairwise λa b=>xA a b=true) ⟨.refl _,.nil⟩ (λp cap W=>AnyF.slices_SortFunc_none bZ3 p cap _ W) (λb cap l W hH hb hs=>?_) hO hl
 have eg:∀args w,(callFunc 44 args).run prog w=.ok (.enter 44 args) w:=enters_of func44 (by kernel_rfl) rfl;have key:=AnyQ.slices_SortFunc bZ3 2 isAgg58 sizeOf58 oH (λ_=>rfl) (λx v hv=>by simp[oH]at hv;rcases hv with rfl|rfl<;>rfl) (λx y=>Lib.compareBytes x.Mark y.Mark) du1 44 #[] b 0 cap l.toArray W eg (λ_ _ _ _ x y=>cx2 x y _) hH hb (by simpa using hs)
 change Calls prog 43 _ _ _ at key;refine Calls.mono (by simpa using key) ?_;rintro e w' ⟨rfl,d',hp,hso,n,os,rfl⟩;have hsz:d'.size=l.length:=by simpa using hp.1
 have hperm:d'.toList.Perm l:=by
  have:=hp.2.2;rw[<-hsz]at this;have e:d'.toList.take l.length=d'.toList:=pF (by simp[hsz]);simpa[hsz,e]using this
 refine⟨rfl,d'.toList,n,os,by simpa using hsz,⟨hperm,?_⟩,by simp⟩;rw[qM];intro i j hi hj hij;have h:=hso i j (aF _) hij (by simpa[hsz]using hj);simp only[iW]at hi hj;rw[getElem!_pos d' j hj,getElem!_pos d' i hi]at h;simp only[ltOf,decide_eq_false_iff_not]at h;simp only[xA,pU,Array.getElem_toList];have:=FU d'[i].Mark d'[j].Mark;omega
def dp8{l l':List Marking}(hp:l'.Perm l)(hs:l'.Pairwise λa b=>xA a b=true)(hn:(l.map Marking.Mark).Nodup):l'=PW l:=by
 refine List.Perm.eq_of_pairwise (le:=λa b=>xA a b=true) (λa b ha hb h1 h2=>?_) hs (List.pairwise_mergeSort (λa b c h1 h2=>?_) (λa b=>?_) l) (hp.trans (List.mergeSort_perm l xA).symm)
 .have hb':b∈l:=(List.mergeSort_perm l xA).subset hb;have ha':a∈l:=hp.subset ha;simp only[xA,pU]at h1 h2;have:=FU a.Mark b.Mark;have e:a.Mark=b.Mark:=bo9 _ _ (by omega);obtain⟨i,hi,rfl⟩:=eX ha';obtain⟨j,hj,rfl⟩:=eX hb';have hn':=qM.1 hn;rcases yB i j with h|h|h
  .grind
  .subst h;rfl
  .grind
 .simp only[xA,pU]at*
  exact(an6 _ _ _ h1 h2).1
 .simp only[xA,Bool.or_eq_true,pU];have:=FU a.Mark b.Mark;omega
def toM(e:MapEntry):Marking:=⟨match e.key with|.string s=>s.data.toList|_=>[],match e.val with|.int _ n=>n|_=>0⟩
def bm7{w w':World}{Eo:Q8}(h:Kept (SG w [] Eo) w w'):Below w.heap.size w w':=
 ⟨h.os,h.tape,h.output,h.size,λk hk=>h.block k ⟨hk,λ⟨j,hj⟩=>by simp[I5,G8.blk]at hj⟩⟩
def cS7{Z:Zone}{w:World}{l:F5}{m:W9}{a:Int}{c1 c2 c3 c4:CV}{v:Value}(hk:gI prog Gw 40 [.c (.sl 12 (l.map G7))] [] (.fC [.pr 0 1 0,I a,I 0]) [(1,.varx [c1,c2,c3,c4,.mr 1 1]),(1,.map (U9 Y3 eInt m))])
    (hz:∀b o,Z b o->b<w.heap.size) (hr:Rep Z w (.sl 12 (l.map G7)) v) (hg:∀w',Below w.heap.size w w'->Gw w'):
    Calls prog 40 #[v] w λe w'=>∃kb bm arr el es clock,e=.returned (.tuple #[ptr kb 0,.int .i64 a,.int .i64 0])/\Below w.heap.size w w'/\w'.heap[kb]?=some (.cells arr el (0,0))/\arr[4]?=some (.map (some bm))/\
     w'.heap[bm]?=some (.map es clock)/\Born es clock/\es.toList.map toM=m.map (λp=>⟨p.1,p.2⟩)/\(∀e∈es.toList,e.key=.string ⟨⟨(toM e).Mark⟩⟩/\e.val=.int .i64 (toM e).Unit):=by
 refine(hk.2 Z w (λ_=>undef) [v] ⟨λj=>by simp[I5];trivial,λj j' b _ h=>by simp[I5,G8.blk]at h⟩ hz rfl (λi s x h1 h2=>?_) (λw' h=>hg w' (bm7 h))).mono ?_
 .match i,h1,h2 with
  |0,h1,h2=>cases h1;cases h2;exact .c _ _ hr
 .rintro e w' ⟨x,Z',bZ,rfl,P⟩;have hres:=P.res;have hv:=P.grp.ok 0;have hm:=P.grp.ok 1;obtain⟨kb,el,arr,hE0,hh,hsz,hcs,_,_⟩:=hv;obtain⟨bm,es,clock,hE1,hh1,⟨hl,hB⟩,hent,_⟩:=hm;have h4:=(hcs 4 (.mr 1 1) rfl).2;obtain⟨u,hu,hru⟩:=h4;have hu':u=.map (some bm):=by
   cases hru with
   |one h=>cases h with
    |cl h=>cases h
    |mr _ _ _ _ _ h=>exact(h _ rfl).symm.trans hE1
  have hx:x=.tuple #[ptr kb 0,.int .i64 a,.int .i64 0]:=by
   generalize hcc:([.pr 0 1 0,I a,I 0]:G9)=cc at hres;cases hres with
   |fC cs vs hl h ha=>
    subst hcc
    match vs,hl with
    |[x0,x1,x2],_=>
     have r0:=h 0 _ x0 rfl rfl;have r1:=h 1 _ x1 rfl rfl;have r2:=h 2 _ x2 rfl rfl;have e1:=aZ3 r1;have e2:=aZ3 r2;subst e1 e2;have e0:x0=ptr kb 0:=by
      cases r0 with
      |one h=>cases h with
       |cl h=>cases h
       |pr _ _ _ _ _ _ h=>
        obtain⟨b,hb1,hb2⟩:=h ⟨_,.inr (.inr rfl)⟩
        grind
     grind
  have hml:m.length=es.size:=by grind
  have key:∀i(p:Str×Int)(e:MapEntry),m[i]?=some p->es[i]?=some e->e.key=.string ⟨⟨p.1⟩⟩/\e.val=.int .i64 p.2:=λi p e h1 h2=>by
   obtain⟨q1,q2⟩:=hent i (.v (Y3 p.1)) (eInt p.2) e (by show(m.map _)[i]?=_;rw[P9,h1];rfl) h2;exact⟨nC q1,nC q2⟩
  have htm:∀(p:Str×Int)(e:MapEntry),e.key=.string ⟨⟨p.1⟩⟩->e.val=.int .i64 p.2->toM e=⟨p.1,p.2⟩:=λp e h1 h2=>by simp[toM,h1,h2]
  refine⟨kb,bm,arr,el,es,clock,by rw[hx],bm7 P.kept,hh,by rw[hu,hu'],hh1,hB,?_,λe he=>?_⟩
  .apply nZ;intro i;rw[P9,P9,kM];cases h1:m[i]? with
   |none=>grind
   |some p=>
    have hi:=(P7.1 h1).1
    grind
  .obtain⟨i,hi,rfl⟩:=eX he;have hi':i<es.size:=by grind
   have h1:=J9 (show i<m.length by omega);obtain⟨k1,k2⟩:=key i _ _ h1 (lY hi')
   grind
structure Rl(w:World)(it bm:Nat)(es:Array MapEntry)(clock:Nat)(pe:List MapEntry)(ob:Option Nat)(v:Value)(wr:World):Prop where
 own:P8 wr 58 2 v (pe.map toM).length ((pe.map toM).flatMap oH) ob
 iter:wr.heap[it]?=some (.mapIter (some bm) clock (pe.map (·.born)).toArray clock)
 mp:wr.heap[bm]?=some (.map es clock)
 base:Below w.heap.size w wr
 perm:∃rest,(pe++rest).Perm es.toList
 up:∀c,ob=some c->it<c
def Rl.le{w wr:World}{it bm:Nat}{es:lH}{clock:Nat}{pe:yE}{ob:E8}{v:Value}(h:Rl w it bm es clock pe ob v wr):pe.length<=es.size:=by
 obtain⟨rest,hp⟩:=h.perm;have:=hp.length_eq
 grind
def Rl.done{w wr:World}{it bm:Nat}{es:lH}{clock:Nat}{pe:yE}{ob:E8}{v:Value}(h:Rl w it bm es clock pe ob v wr)(hB:Born es clock)(h0:(leftOf es (pe.map (·.born)).toArray).size=0):pe.Perm es.toList:=by
 obtain⟨rest,hp⟩:=h.perm;have hn:((pe++rest).map (·.born)).Nodup:=(hp.map (·.born)).nodup_iff.2 hB.nd;have hall:=all_seen es _ h0;cases rest with
 |nil=>grind
 |cons x r=>grind
def Rl.split{w wr:World}{it bm:Nat}{es:lH}{clock:Nat}{pe:yE}{ob:E8}{v:Value}(h:Rl w it bm es clock pe ob v wr){e:MapEntry}(he:e∈(leftOf es (pe.map (·.born)).toArray).toList):∃rest,((pe++[e])++rest).Perm es.toList:=by
 obtain⟨rest,hp⟩:=h.perm;obtain⟨h1,h2⟩:=mem_left he;have hm:e∈pe++rest:=hp.symm.subset h1;rcases iY.1 hm with hm|hm
 .exfalso
  grind
 .obtain⟨s,t,rfl⟩:=List.append_of_mem hm;refine⟨s++t,List.Perm.trans ?_ hp⟩;rw[lC];refine List.Perm.append_left pe ?_;exact(List.perm_middle (a:=e) (l₁:=s) (l₂:=t)).symm
def cW4{Z:Zone}{w:World}{l:F5}{m:W9}{a:Int}{c1 c2 c3 c4:CV}{v:Value}(hk:gI prog Gw 40 [.c (.sl 12 (l.map G7))] [] (.fC [.pr 0 1 0,I a,I 0]) [(1,.varx [c1,c2,c3,c4,.mr 1 1]),(1,.map (U9 Y3 eInt m))])
    (hg:Gw w) (hz:∀b o,Z b o->b<w.heap.size) (hr:Rep Z w (.sl 12 (l.map G7)) v) (hm:m.length<=4000) (hn:(m.map Prod.fst).Nodup):
    Calls prog 17 #[v] w λe w'=>∃v' ob,e=.returned (.tuple #[v',.int .i64 0])/\P8 w' 58 2 v' (PW (m.map λp=>⟨p.1,p.2⟩)).length ((PW (m.map λp=>⟨p.1,p.2⟩)).flatMap oH) ob/\Below w.heap.size w w'/\∀c,ob=some c->w.heap.size<=c:=by
 obtain⟨va,vn,vc,rfl⟩:=bS4 hr;have yP:=cS7 hk hz hr (λw' hb=>Gs w w' hg hb);have hlen:m.length=0+m.length:=by omega
 go_enter func17,ntmps17
 go_wp2_with (go_at_call 40;refine yP.mono ?_;rintro e w1 ⟨kb,bm,arr,el,es,clock,rfl,hb1,hkb,h4,hbm,hB,hm1,hm2⟩;have k4:=(Q5 (o:=4) hkb h4).1;have hrg1:=run_range_map (P:=prog) w1 47 _ _ bm es clock underlying47 hbm)
 have hes:es.size=m.length:=by have:=congrArg List.length hm1;simpa using this
 go_loopw [7] (λv wr=>∃pe ob,Rl w w1.heap.size bm es clock pe ob v wr) (λ_ wr=>(leftOf es (wr.iterSeen w1.heap.size)).size)
 case atStart=>
  exact⟨[],none,.e none,by simpa using bJ w1 (.mapIter (some bm) clock #[] clock),(vJ w1 _ (X6.1 hbm).1).trans hbm,Below.and hb1 (al w1 _),⟨es.toList,by simp⟩,λc h=>nomatch h⟩
 case round=>
  obtain⟨pe,ob,hR⟩:=hrel;obtain⟨ra,rn,rc,rfl⟩:∃a n c,u7=.slice a n c:=by obtain⟨a,c,h,_⟩:=hR.own.sl;exact⟨_,_,_,h⟩
  clear hrg1 k4;rcases run_next_at hR.iter hR.mp hB.lt (N8 _)with⟨h0,hnx⟩|⟨e,he,w2,hF2,hi2,hnx⟩
  .have hp:=hR.done hB h0;have hpl:(pe.map toM).Perm (m.map λp=>⟨p.1,p.2⟩):=by grind
   have hle:(pe.map toM).length<=4000:=by have:=hR.le;simp;omega
   have h43:=dq1 hR.own hle
   go_wp2_with (go_at_call 43;refine h43.mono ?_;rintro e w3 ⟨rfl,l',⟨hl1,hl2⟩,hl3,hO,hF⟩)
   go_ret2
   have e:l'=PW (m.map λp=>⟨p.1,p.2⟩):=dp8 (hl1.trans hpl) hl2 (by rw[List.map_map];exact hn);rw[<-e,hl3];refine⟨_,ob,rfl,hO,⟨hF.os.trans hR.base.os,hF.tape.trans hR.base.tape,hF.output.trans hR.base.output,Y2 hR.base.size hF.size,λk hk'=>?_⟩,λc hc=>?_⟩
   .exact(hF.block k (aH hk' hR.base.size) (λh=>by have:=hR.up k h;have:=hb1.size;omega)).trans (hR.base.block k hk')
   .have:=hR.up c hc;have:=hb1.size;omega
  .obtain⟨hek,hev⟩:=hm2 e (mem_left he).1;rw[hek,hev]at hnx;have hbl:bm<w1.heap.size:=(X6.1 hbm).1;have hbr:bm<wr.heap.size:=(X6.1 hR.mp).1;have hir:w1.heap.size<wr.heap.size:=(X6.1 hR.iter).1;have cK5:w2.heap[bm]?=some (.map es clock):=(hF2.block bm hbr (by omega)).trans hR.mp;have hen:=run_entry_at (e:=e) hi2 cK5 (mem_left he).1 hB.nd;rw[hek,hev]at hen;have hle:(pe.map toM).length<=4000:=by have:=hR.le;simp;omega
   have hO2:P8 w2 58 2 (.slice ra rn rc) (pe.map toM).length ((pe.map toM).flatMap oH) ob:=hR.own.keep λk hk=>hF2.block k (hR.own.lt hk) (λh=>by have:=hR.up k hk;omega);have ha2:=al w2 (.cells #[.string ⟨⟨(toM e).Mark⟩⟩,.int .i64 (toM e).Unit] 58);obtain⟨v',w3,ob',hrun,hO3,hF3,ho3,xa,xb,xc,hv⟩:=cq4 (el:=58) (t:=54) (z:=2) (ti:=aA5) underlying54 dz7 rfl (by decide) (by decide) (hO2.keep λk hk=>ha2.block k (hO2.lt hk)) hle (xs:=oH (toM e)) rfl (λv hv=>by simp[oH]at hv;rcases hv with rfl|rfl<;>rfl) (bJ w2 _)
   subst hv;have TM:Fr (λk=>k=w1.heap.size\/ob=some k) wr w3:=(hF2.mono λk h=>.inl h).trans ((Fr.of_below ha2).trans (hF3.mono λk h=>.inr h));have hi3:w3.heap[w1.heap.size]?=some (.mapIter (some bm) clock ((pe.map (·.born)).toArray.push e.born) clock):=by
    have hiw:=(X6.1 hi2).1;exact(hF3.block _ (aH hiw ha2.size) (λh=>by have:=hR.up _ h;omega)).trans ((ha2.block _ hiw).trans hi2)
   have hb3:w3.heap[bm]?=some (.map es clock):=(TM.block bm hbr (λh=>by rcases h with h|h;omega;have:=hR.up _ h;omega)).trans hR.mp;have hsz2:wr.heap.size<=w2.heap.size:=hF2.size;clear hm2 yP hk
   go_wp2_with (at_builtin;refine dF2 _ rfl _ _ 54 rfl _ _ rfl rfl _ _ hrun ?_)
   go_roundw
   case rel=>
    refine⟨pe++[e],ob',⟨?_,?_,hb3,?_,hR.split he,λc hc=>?_⟩⟩
    .grind
    .grind
    .exact⟨TM.os.trans hR.base.os,TM.tape.trans hR.base.tape,TM.output.trans hR.base.output,Y2 hR.base.size TM.size,λk hk'=>(TM.block k (aH hk' hR.base.size) (λh=>by have:=hb1.size;rcases h with h|h;omega;have:=hR.up _ h;omega)).trans (hR.base.block k hk')⟩
    .rcases ho3 c hc with h|h
     .exact hR.up c h
     .have:=ha2.size;omega
   case measure=>
    rw[show w3.iterSeen w1.heap.size=(pe.map (·.born)).toArray.push e.born by simp[World.iterSeen,hi3],show wr.iterSeen w1.heap.size=(pe.map (·.born)).toArray by simp[World.iterSeen,hR.iter]];exact left_shrinks es _ e he
end
section
open Go Go.F7 Go.RowKit Proofs.Tryz
def aB5(l:F5):Option (List Marking×Int):=(EJ l).bind λy=>bif y.2.2==0&&(decide (y.1.2.2.2.2.length<=4000)&&decide ((y.1.2.2.2.2.map Prod.fst).Nodup))then some (PW (y.1.2.2.2.2.map λp=>⟨p.1,p.2⟩),0)else none
def dB0{l:F5}{r:List Marking×Int}(h:aB5 l=some r):Holds prog Gw 17 [.sl 12 (l.map G7)] (.U6 [.sl 2 (r.1.map LK),I r.2]):=by
 obtain⟨y,hy,h⟩:=bW h;obtain⟨⟨u0,u1,u2,u3,m⟩,a,f⟩:=y;refine mV h λhc h=>?_;simp only[Z4,beq_iff_eq,pU]at hc;obtain⟨rfl,hm,hn⟩:=hc;cases h;have hk:=bf0 hy;refine aO0 ⟨_,func17,by decide,rfl⟩ λZ w vs h1 h2 h3=>?_
 match vs,h1 with
 |[v],h1=>
  refine(cW4 hk h3 h2 h1.head hm hn).mono ?_;rintro e w' ⟨v',ob,rfl,hO,hb,hlo⟩;refine⟨_,λb o=>Z b o\/(w.heap.size<=b/\b<w'.heap.size),rfl,?_,λ_ _ hz=>.inl hz,λb o hz=>?_,hb⟩
  .refine .U6 _ [v',.int .i64 0] rfl (λi c x q1 q2=>?_)
   match i,q1,q2 with
   |0,q1,q2=>cases q1;cases q2;exact PE (enc:=oH) (cf:=LK) (λ_=>rfl) (by decide) (λ_=>rfl) (λx v hv=>by simp[oH]at hv;rcases hv with rfl|rfl<;>rfl) hO (λb hb o=>.inr ⟨hlo b hb,hO.lt hb⟩)
   |1,q1,q2=>cases q1;cases q2;exact .v _
  .rcases hz with hz|hz
   .exact⟨.inl hz,aH (h2 b o hz) hb.size⟩
   .exact⟨.inr hz.1,hz.2⟩
end
section
open Go Go.F7 Proofs.Tryz
set_option maxRecDepth 10000
set_option maxHeartbeats 400000
abbrev wZ(y:Bool):CV:=B y
def CQ(v13:Int)(y20:Tree×Int)(yV:Int->List (Str×Int)->Option (Bool)):Nat->Int->List (Str×Int)->List (Str×Bool)->Option (Bool)
 |0,_,_,_=>none
 |bI+1,v23,v24,v25=>bif decide (v23<((y20.1.Branches.map I4).length:Int))then(Option.bind (ix y20.1.Branches v23) λx27=>bif (x27.Unit.Mark==([]:Str))then CQ v13 y20 yV bI (IntKind.i64.wrap (v23+1)) v24 v25 else(Option.bind (CW v24 x27.Unit.Mark 0) λy30=>Option.bind (rF v25 x27.Unit.Mark false) λy32=>bif y32 then some (false)else(bif y30.2 then(bif (y30.1 !=x27.Unit.ID)then some (false)else CQ v13 y20 yV bI (IntKind.i64.wrap (v23+1)) (aU v24 x27.Unit.Mark x27.Unit.ID) (aU v25 x27.Unit.Mark true))else CQ v13 y20 yV bI (IntKind.i64.wrap (v23+1)) (aU v24 x27.Unit.Mark x27.Unit.ID) (aU v25 x27.Unit.Mark true))))else yV (IntKind.i64.wrap (v13+1)) v24
def UC(v14:List (Str×Int))(y39:List Marking×Int):Nat->Int->Option (Bool)
 |0,_=>none
 |fu3+1,v43=>bif decide (v43<((y39.1.map LK).length:Int))then(Option.bind (ix y39.1 v43) λx45=>Option.bind (CW v14 x45.Mark 0) λy47=>bif (!y47.2)then some (false)else(bif (y47.1 !=x45.Unit)then some (false)else UC v14 y39 fu3 (IntKind.i64.wrap (v43+1))))else some (true)
def IJ(bD:List Opn)(N:Nat):Nat->Int->List (Str×Int)->Option (Bool)
 |0,_,_=>none
 |fu1+1,v13,v14=>bif decide (v13<(IntKind.i64.wrap (((bD.map G7).length:Int)+1)))then(Option.bind (slc bD 0 v13) λzJ=>Option.bind (uM zJ) λlW=>Option.bind (QF lW) λy20=>bif (y20.2 !=0)then some (false)else CQ v13 y20 (λae2 ae3=>IJ bD N fu1 ae2 ae3) N 0 v14 ([]:List (Str×Bool)))else(Option.bind (uM bD) λy37=>Option.bind (aB5 y37) λy39=>bif (y39.2 !=0)then some (false)else(bif (((y39.1.map LK).length:Int) !=((U9 Y3 eInt v14).length:Int))then some (false)else UC v14 y39 N 0))
def as1(N:Nat)(l:F5):U7:=Option.bind (CU) λy1=>bif (!y1)then(Option.bind (CU) λy4=>some (y4))else(Option.bind (av8 l) λy6=>bif (!y6)then(Option.bind (CU) λy9=>some (y9))else(Option.bind (aS1 l) λbD=>IJ bD N N 0 ([]:W9)))
def cU2{N:Nat}{l:F5}{r:Bool}(hF:as1 N l=some r):Holds prog Gw 4 [.sl 12 (l.map G7)] (wZ r):=by
 refine V9 O9 mixed func4 (by decide) rfl (I8 rfl) ?_;refine P6 ?_;refine E5 hF λy1 h2 hF=>?_;refine l9 ⟨_,aR8 h2,rfl,?_⟩;refine C9 (λh3=>?_) (λh3=>?_)
 .have hF:=D6 h3 hF;refine E5 hF λy4 h5 hF=>?_;refine l9 ⟨_,aR8 h5,rfl,?_⟩;exact l9 ⟨rfl,congrArg (Option.map wZ) hF⟩
 .have hF:=D5 h3 hF;refine E5 hF λy6 h7 hF=>?_;refine l9 ⟨_,dc5 h7,rfl,?_⟩;refine C9 (λh8=>?_) (λh8=>?_)
  .have hF:=D6 h8 hF;refine E5 hF λy9 h10 hF=>?_;refine l9 ⟨_,aR8 h10,rfl,?_⟩;exact l9 ⟨rfl,congrArg (Option.map wZ) hF⟩
  .have hF:=D5 h8 hF;refine E5 hF λbD h12 hF=>?_;refine l9 ⟨_,cX0 h12,rfl,?_⟩;refine J5 ⟨[],0,_,_,_,_,rfl,rfl,ZB,rfl,?_⟩;refine iE (λp:Nat×Int×W9=>[(3,.c (.sl 12 (bD.map G7))),(4,.mr 30 0),(33,.c (I (IntKind.i64.wrap (((bD.map G7).length:Int)+1)))),(34,.c (I p.2.1))]) (λp:Nat×Int×W9=>[(30,.map (U9 Y3 eInt p.2.2))]) (λp=>IJ bD N p.1 p.2.1 p.2.2=some r) (λp=>p.1) (N,0,([]:W9)) hF ⟨rfl,rfl,rfl,rfl,trivial⟩ ⟨rfl,trivial⟩ ?_;rintro⟨fu1,v13,v14⟩ hF;cases fu1 with
   |zero=>exact nomatch hF
   |succ fu1=>
    refine P6 ?_;refine C9 (λh15=>?_) (λh15=>?_)
    .have hF:=D6 h15 hF;refine P6 ?_;refine E5 hF λzJ h17 hF=>?_;refine J5 ⟨[],0,_,_,_,_,rfl,rfl,MC (cf:=G7) XF.u XG h17,rfl,?_⟩;refine E5 hF λlW h19 hF=>?_;refine l9 ⟨_,a98 h19,rfl,?_⟩;refine E5 hF λy20 h21 hF=>?_;refine l9 ⟨_,dB1 h21,rfl,?_⟩;refine l9 ?_;refine C9 (λh22=>?_) (λh22=>?_)
     .have hF:=D6 h22 hF;exact l9 ⟨rfl,congrArg (Option.map wZ) hF⟩
     .have hF:=D5 h22 hF;refine J5 ⟨[],0,_,_,_,_,rfl,rfl,ZB,rfl,?_⟩;refine iE (λp:Nat×Int×W9×(List (Str×Bool))=>[(3,.c (.sl 12 (bD.map G7))),(4,.mr 30 0),(8,.mr 47 0),(33,.c (I (IntKind.i64.wrap (((bD.map G7).length:Int)+1)))),(34,.c (I v13)),(49,.c (.sl 6 (y20.1.Branches.map I4))),(50,.c (I ((y20.1.Branches.map I4).length:Int))),(51,.c (I p.2.1))]) (λp:Nat×Int×W9×(List (Str×Bool))=>[(30,.map (U9 Y3 eInt p.2.2.1)),(47,.map (U9 Y3 qY p.2.2.2))]) (λp=>CQ v13 y20 (λae2 ae3=>IJ bD N fu1 ae2 ae3) p.1 p.2.1 p.2.2.1 p.2.2.2=some r) (λp=>p.1) (N,0,v14,([]:List (Str×Bool))) hF ⟨rfl,rfl,rfl,rfl,rfl,rfl,rfl,rfl,trivial⟩ ⟨rfl,rfl,trivial⟩ ?_;rintro⟨bI,v23,v24,v25⟩ hF;cases bI with
      |zero=>exact nomatch hF
      |succ bI=>
       refine P6 ?_;refine C9 (λnN=>?_) (λnN=>?_)
       .have hF:=D6 nN hF;refine P6 ?_;refine E5 hF λx27 h28 hF=>?_;refine⟨aT h28,.inl rfl,_,bK I4 h28,?_⟩;refine l9 ?_;refine C9 (λtC=>?_) (λtC=>?_)
        .have hF:=D6 tC hF;exact⟨(bI,(IntKind.i64.wrap (v23+1)),v24,v25),aP _,hF,⟨rfl,rfl,rfl,rfl,rfl,rfl,rfl,rfl,trivial⟩,⟨rfl,rfl,trivial⟩⟩
        .have hF:=D5 tC hF;refine E5 hF λy30 h31 hF=>?_;refine J5 ⟨[(30,0)],0,_,_,_,_,rfl,rfl,aJ0 (ev:=eInt) (z:=0) (m:=v24) (x:=x27.Unit.Mark) zH.u vZ.u vN xP rfl h31,rfl,?_⟩;refine P6 ?_;refine E5 hF λy32 BO hF=>?_;refine J5 ⟨[(47,0)],0,_,_,_,_,rfl,rfl,ZC (ev:=qY) (z:=false) (m:=v25) (x:=x27.Unit.Mark) be0.u vZ.u vN ai8 rfl BO,rfl,?_⟩;refine C9 (λwU=>?_) (λwU=>?_)
         .have hF:=D6 wU hF;exact l9 ⟨rfl,congrArg (Option.map wZ) hF⟩
         .have hF:=D5 wU hF;refine C9 (λh35=>?_) (λh35=>?_)
          .have hF:=D6 h35 hF;refine C9 (λMX=>?_) (λMX=>?_)
           .have hF:=D6 MX hF;exact l9 ⟨rfl,congrArg (Option.map wZ) hF⟩
           .have hF:=D5 MX hF;refine J5 ⟨[(47,0)],0,_,_,_,_,rfl,rfl,br9 (yL (ev:=qY) (m:=v25) (x:=x27.Unit.Mark) (v:=true) be0.u vZ.u vN),rfl,?_⟩;refine J5 ⟨[(30,0)],0,_,_,_,_,rfl,rfl,yL (ev:=eInt) (m:=v24) (x:=x27.Unit.Mark) (v:=x27.Unit.ID) zH.u vZ.u vN,rfl,?_⟩;refine C9 (by kernel_rfl) ?_;exact⟨(bI,(IntKind.i64.wrap (v23+1)),(aU v24 x27.Unit.Mark x27.Unit.ID),(aU v25 x27.Unit.Mark true)),aP _,hF,⟨rfl,rfl,rfl,rfl,rfl,rfl,rfl,rfl,trivial⟩,⟨rfl,rfl,trivial⟩⟩
          .have hF:=D5 h35 hF;refine J5 ⟨[(47,0)],0,_,_,_,_,rfl,rfl,br9 (yL (ev:=qY) (m:=v25) (x:=x27.Unit.Mark) (v:=true) be0.u vZ.u vN),rfl,?_⟩;refine J5 ⟨[(30,0)],0,_,_,_,_,rfl,rfl,yL (ev:=eInt) (m:=v24) (x:=x27.Unit.Mark) (v:=x27.Unit.ID) zH.u vZ.u vN,rfl,?_⟩;refine C9 (by kernel_rfl) ?_;exact⟨(bI,(IntKind.i64.wrap (v23+1)),(aU v24 x27.Unit.Mark x27.Unit.ID),(aU v25 x27.Unit.Mark true)),aP _,hF,⟨rfl,rfl,rfl,rfl,rfl,rfl,rfl,rfl,trivial⟩,⟨rfl,rfl,trivial⟩⟩
       .have hF:=D5 nN hF;exact⟨(fu1,(IntKind.i64.wrap (v13+1)),v24),aP _,hF,⟨rfl,rfl,rfl,rfl,trivial⟩,⟨rfl,trivial⟩⟩
    .have hF:=D5 h15 hF;refine E5 hF λy37 h38 hF=>?_;refine l9 ⟨_,a98 h38,rfl,?_⟩;refine E5 hF λy39 yP hF=>?_;refine l9 ⟨_,dB0 yP,rfl,?_⟩;refine P6 ?_;refine C9 (λtH=>?_) (λtH=>?_)
     .have hF:=D6 tH hF;exact l9 ⟨rfl,congrArg (Option.map wZ) hF⟩
     .have hF:=D5 tH hF;refine J5 ⟨[(30,0)],0,_,_,_,_,rfl,rfl,cD3 zH.u,rfl,?_⟩;refine C9 (λh42=>?_) (λh42=>?_)
      .have hF:=D6 h42 hF;exact l9 ⟨rfl,congrArg (Option.map wZ) hF⟩
      .have hF:=D5 h42 hF;refine iE (λp:Nat×Int=>[(4,.mr 30 0),(103,.c (.sl 2 (y39.1.map LK))),(104,.c (I ((y39.1.map LK).length:Int))),(105,.c (I p.2))]) (λp:Nat×Int=>[(30,.map (U9 Y3 eInt v14))]) (λp=>UC v14 y39 p.1 p.2=some r) (λp=>p.1) (N,0) hF ⟨rfl,rfl,rfl,rfl,trivial⟩ ⟨rfl,trivial⟩ ?_;rintro⟨fu3,v43⟩ hF;cases fu3 with
       |zero=>exact nomatch hF
       |succ fu3=>
        refine P6 ?_;refine C9 (λNC=>?_) (λNC=>?_)
        .have hF:=D6 NC hF;refine P6 ?_;refine E5 hF λx45 h46 hF=>?_;refine⟨aT h46,.inl rfl,_,bK LK h46,?_⟩;refine l9 ?_;refine E5 hF λy47 h48 hF=>?_;refine J5 ⟨[(30,0)],0,_,_,_,_,rfl,rfl,aJ0 (ev:=eInt) (z:=0) (m:=v14) (x:=x45.Mark) zH.u vZ.u vN xP rfl h48,rfl,?_⟩;refine P6 ?_;refine C9 (λZP=>?_) (λZP=>?_)
         .have hF:=D6 ZP hF;exact l9 ⟨rfl,congrArg (Option.map wZ) hF⟩
         .have hF:=D5 ZP hF;refine C9 (λh50=>?_) (λh50=>?_)
          .have hF:=D6 h50 hF;exact l9 ⟨rfl,congrArg (Option.map wZ) hF⟩
          .have hF:=D5 h50 hF;exact⟨(fu3,(IntKind.i64.wrap (v43+1))),aP _,hF,⟨rfl,rfl,rfl,rfl,trivial⟩,⟨rfl,trivial⟩⟩
        .have hF:=D5 NC hF;exact l9 ⟨rfl,congrArg (Option.map wZ) hF⟩
abbrev bE1:=as1 1000
abbrev cU3:=@cU2 1000
end
section
open Go Go.F7
section
variable{α β:Type}[BEq α][LawfulBEq α]
def oG{x y:α}(h:x≠y):(x==y)=false:=by
 rcases hb:x==y with _|_
 .rfl
 .exact absurd (mP hb) h
theorem UH(x:α)(v:β)(y:α):∀m:List (α×β),V5 (aU m x v) y=bif y==x then some v else V5 m y
 |[]=>rfl
 |(k,u)::r=>by
  have ih:=UH x v y r;simp only[aU];rcases h:x==k with _|_
  .simp only[G6,V5,ih];rcases h2:y==k with _|_
   .rfl
   .have:=mP h2;subst this;have hne:y≠x:=λe=>by subst e;rw[yI]at h;cases h
    rw[oG hne];rfl
  .have:=mP h;subst this;simp only[H9,V5];cases y==x<;>rfl
theorem aT2(x:α)(v:β):∀m:List (α×β),(aU m x v).map Prod.fst=m.map Prod.fst\/(x∉m.map Prod.fst/\(aU m x v).map Prod.fst=m.map Prod.fst++[x])
 |[]=>.inr ⟨by simp,rfl⟩
 |(k,u)::r=>by
  simp only[aU];rcases h:x==k with _|_
  .have hne:x≠k:=λe=>by subst e;rw[yI]at h;cases h
   simp only[G6,kP];rcases aT2 x v r with e|⟨h1,e⟩
   .exact .inl (by rw[e])
   .exact .inr ⟨by simp only[lD,not_or];exact⟨hne,h1⟩,by rw[e];rfl⟩
  .have:=mP h;subst this;exact .inl rfl
def bH1{m:List (α×β)}(h:(m.map Prod.fst).Nodup)(x:α)(v:β):((aU m x v).map Prod.fst).Nodup:=by
 rcases aT2 x v m with e|⟨h1,e⟩
 .rw[e];exact h
 .rw[e];exact List.nodup_append.2 ⟨h,by simp,λa ha b hb=>by simp at hb;subst hb;exact λe=>h1 (e▸ha)⟩
def c02(m:List (α×β))(x:α)(v:β):(aU m x v).length<=m.length+1:=by
 have:=congrArg List.length (rfl:(aU m x v).map Prod.fst=(aU m x v).map Prod.fst);rcases aT2 x v m with e|⟨_,e⟩
 .have:=congrArg List.length e;simp at this;omega
 .have:=congrArg List.length e;simp at this;omega
def cY9{m:List (α×β)}(hn:(m.map Prod.fst).Nodup){x:α}{v:β}(h:(x,v)∈m):V5 m x=some v:=by
 induction m with
 |nil=>cases h
 |cons p r ih=>
  have⟨k,u⟩:=p;simp only[V5];rw[kP,List.nodup_cons]at hn;rcases lD.1 h with h'|h'
  .cases h';rw[yI];rfl
  .have hne:x≠k:=λe=>hn.1 (e▸jH.2 ⟨(x,v),h',rfl⟩);rw[oG hne];exact ih hn.2 h'
end
def prt(l:F5)(id:Int):Bool:=l.foldl (λb o=>b^^(o.Kind==6&&o.Unit==id)) false
theorem av3(l:F5)(o:Opn)(id:Int):prt (l++[o]) id=(prt l id^^(o.Kind==6&&o.Unit==id)):=by unfold prt;rw[List.foldl_append];rfl
def MP(m:lI)(l:F5):Prop:=∀id,rF m id false=some (prt l id)
theorem aT1:MP [] []:=λ_=>rfl
def cZ9{m:lI}{l:F5}(h:MP m l){o:Opn}(ho:o.Kind=6){y:Bool}(hy:rF m o.Unit false=some y):MP (aU m o.Unit (!y)) (l++[o]):=λid=>by
 have h1:=h id;have h2:=h o.Unit;rw[hy]at h2;unfold rF at*
 rw[UH,av3];have ho':(o.Kind==6)=true:=by simp[ho]
 rw[ho',rX];by_cases e:id=o.Unit
 .subst e;rw[yI,<-jJ h2];simp
 .rw[oG e,oG (λh=>e h.symm)];simpa using h1
def cZ8{m:lI}{l:F5}(h:MP m l){o:Opn}(ho:o.Kind≠6):MP m (l++[o]):=λid=>by
 rw[h id,av3,oG ho];simp
def cp(l:F5)(o:Opn):Bool:=o.Kind !=6&& !prt l o.ID
def rep(p:Opn->Bool):Nat->Tree->List Opn->Option (Tree×Int×Int)
 |_,t,[]=>some (t, -1,0)
 |i,t,o::r=>bif p o then(rH t o).bind λy=>bif y.2==0 then rep p (i+1) y.1 r else some (E0,(i:Int),y.2)else rep p (i+1) t r
def aw2{p q:Opn->Bool}:∀(l:F5)(i:Nat)(t:Tree),(∀o∈l,p o=q o)->rep p i t l=rep q i t l
 |[],_,_,_=>rfl
 |o::r,i,t,h=>by
  simp only[rep,h o (by simp)];have e:∀i t,rep p i t r=rep q i t r:=λi t=>aw2 r i t λo ho=>h o (by simp[ho]);simp only[e]
def aw3{p:Opn->Bool}{o:Opn}(ho:p o=false):∀(l:F5)(i:Nat)(t:Tree),rep p i t (l++[o])=rep p i t l
 |[],i,t=>by simp[rep,ho]
 |x::r,i,t=>by
  simp only[List.cons_append,rep,aw3 ho r]
def aZ2{p:Opn->Bool}{o:Opn}(ho:p o=true):∀(l:F5)(i:Nat)(t t':Tree),rep p i t l=some (t', -1,0)->rep p i t (l++[o])=(rH t' o).bind λy=>bif y.2==0 then some (y.1, -1,0)else some (E0,((i+l.length:Nat):Int),y.2)
 |[],i,t,t',h=>by
  cases h;simp only[uS,rep,ho,H9,List.length_nil,pG]
 |x::r,i,t,t',h=>by
  have hlen:i+1+r.length=i+(x::r).length:=by simp;omega
  simp only[List.cons_append,rep]at h⊢;rcases hp:p x with _|_
  .rw[hp]at h;simp only[G6]at h⊢;rw[aZ2 ho r (i+1) t t' h,hlen]
  .rw[hp]at h;simp only[H9]at h⊢;have⟨y,hy,h⟩:=bW h;rw[hy,F9];rcases h0:y.2==0 with _|_
   .rw[h0]at h;simp only[G6,aQ,dR]at h;exact absurd h.2.1 (by omega)
   .rw[h0]at h;simp only[H9]at h⊢;rw[aZ2 ho r (i+1) y.1 t' h,hlen]
structure RP(n:Nat)(t:Tree)(l:List Opn)(t':Tree):Prop where
 sm:Sm (n+2*l.length) t'
 old:∀u m,Has t' u m->Has t u m\/∃o∈l,jX o/\u=o.Unit/\m=o.Mark
 mkd:uT (um t.Branches)->uT (um t'.Branches)
def ae5{p:Opn->Bool}:∀(l:F5)(n i:Nat)(t:Tree),Sm n t->n+2*l.length<=880->Tot (rep p i t l) λr=>(r.2.2=0->r.2.1= -1/\RP n t l r.1)/\(r.2.2≠0->r.1=E0/\∃k:Nat,r.2.1=(k:Int)/\i<=k/\k<i+l.length)
 |[],n,i,t,hs,_=>H8 ⟨λ_=>⟨rfl,hs,λ_ _ h=>.inl h,id⟩,λh=>absurd rfl h⟩
 |o::r,n,i,t,hs,hn=>by
  simp only[sD]at hn;simp only[rep];refine L8 (λ_=>?_) λ_=>?_
  .refine X4 (bl8 o (by omega) hs) λy _ hy=>L8 (λh=>?_) λh=>?_
   .have hA:=hy (mP h);refine(ae5 r (n+2) (i+1) y.1 hA.sm (by omega)).mono λq ⟨h1,h2⟩=>⟨λh=>?_,λh=>?_⟩
    .have⟨e,hr⟩:=h1 h;refine⟨e,hr.sm.mono (by simp;omega),λu m hh=>?_,λ_=>hr.mkd hA.mkd⟩;rcases hr.old u m hh with hh|⟨x,hx,hg⟩
     .rcases hA.old u m hh with hh|hg
      .exact .inl hh
      .exact .inr ⟨o,by simp,hg⟩
     .exact .inr ⟨x,by simp[hx],hg⟩
    .have⟨e,k,h3,h4,h5⟩:=h2 h;exact⟨e,k,h3,by omega,by simp;omega⟩
   .exact H8 ⟨λh0=>absurd h0 (nU h),λ_=>⟨rfl,i,rfl,N8 _,by simp⟩⟩
  .refine(ae5 r n (i+1) t hs (by omega)).mono λq ⟨h1,h2⟩=>⟨λh=>?_,λh=>?_⟩
   .have⟨e,hr⟩:=h1 h;refine⟨e,hr.sm.mono (by simp;omega),λu m hh=>?_,hr.mkd⟩;rcases hr.old u m hh with hh|⟨x,hx,hg⟩
    .exact .inl hh
    .exact .inr ⟨x,by simp[hx],hg⟩
   .have⟨e,k,h3,h4,h5⟩:=h2 h;exact⟨e,k,h3,by omega,by simp;omega⟩
def nT{α β:Type}{f:α->β}{l:List α}{i:Nat}(h:i<l.length):decide ((i:Int)<((l.map f).length:Int))=true:=aI (by rw[X0];omega)
def oM{α β:Type}{f:α->β}{l:List α}{i:Nat}(h:i=l.length):decide ((i:Int)<((l.map f).length:Int))=false:=fZ (by rw[X0];omega)
def take_snoc{α:Type}{l:List α}{i:Nat}(h:i<l.length):l.take i++[l[i]]=l.take (i+1):=List.take_append_getElem h
def aT0{m:lI}{l:F5}{i:Nat}(hi:i<l.length)(h:MP m (l.take i)):∃y,rF m l[i].Unit false=some y/\(l[i].Kind=6->MP (aU m l[i].Unit (!y)) (l.take (i+1)))/\(l[i].Kind≠6->MP m (l.take (i+1))):=
 ⟨_,h _,λhk=>by rw[<-take_snoc hi];exact cZ9 h hk (h _),λhk=>by rw[<-take_snoc hi];exact cZ8 h hk⟩
def aG0{u1:Tree}{u2 u3:Int}{l:F5}{N:Nat}(hl:l.length<=900):∀(n i fu:Nat)(m:lI),l.length-i=n->i<=l.length->n<fu->MP m (l.take i)->∃m',MP m' l/\JW u1 u2 u3 l N fu (i:Int) m=EI l m' N 0 u1.Q7 u1.Branches u2 u3
 |_,i,0,_,_,_,h,_=>by omega
 |0,i,fu+1,m,hn,hi,_,hm=>by
  have:i=l.length:=by omega
  refine⟨m,by rwa [this,List.take_length]at hm,?_⟩;simp only[JW,oM this,G6]
 |n+1,i,fu+1,m,hn,hi,hf,hm=>by
  have hi':i<l.length:=by omega
  have⟨y,hy,h6,hno⟩:=aT0 hi' hm;simp only[JW,nT hi',H9,aJ hi',F9,hy,wrap_succ (n:=l.length) (by omega) hi'];by_cases hk:l[i].Kind=6
  .rw[show(l[i].Kind==6)=true by simp[hk],H9];exact aG0 hl n (i+1) fu _ (by omega) (by omega) (by omega) (h6 hk)
  .rw[oG hk,G6];exact aG0 hl n (i+1) fu _ (by omega) (by omega) (by omega) (hno hk)
def aF9{u1:Int}{u2:Bool}{l:F5}{N:Nat}(hl:l.length<=900):∀(n i fu:Nat)(m:lI),l.length-i=n->i<=l.length->n<fu->MP m (l.take i)->∃m',MP m' l/\JV u1 u2 l N fu (i:Int) m=EH u1 l m' N 0 u2
 |_,i,0,_,_,_,h,_=>by omega
 |0,i,fu+1,m,hn,hi,_,hm=>by
  have:i=l.length:=by omega
  refine⟨m,by rwa [this,List.take_length]at hm,?_⟩;simp only[JV,oM this,G6]
 |n+1,i,fu+1,m,hn,hi,hf,hm=>by
  have hi':i<l.length:=by omega
  have⟨y,hy,h6,hno⟩:=aT0 hi' hm;simp only[JV,nT hi',H9,aJ hi',F9,hy,wrap_succ (n:=l.length) (by omega) hi'];by_cases hk:l[i].Kind=6
  .rw[show(l[i].Kind==6)=true by simp[hk],H9];exact aF9 hl n (i+1) fu _ (by omega) (by omega) (by omega) (h6 hk)
  .rw[oG hk,G6];exact aF9 hl n (i+1) fu _ (by omega) (by omega) (by omega) (hno hk)
def aF8{o2:F6}{l:F5}{N:Nat}(hl:l.length<=900):∀(n i fu:Nat)(m:lI),l.length-i=n->i<=l.length->n<fu->MP m (l.take i)->∃m',MP m' l/\QG o2 l N fu (i:Int) m=JU l m' N 0 o2
 |_,i,0,_,_,_,h,_=>by omega
 |0,i,fu+1,m,hn,hi,_,hm=>by
  have:i=l.length:=by omega
  refine⟨m,by rwa [this,List.take_length]at hm,?_⟩;simp only[QG,oM this,G6]
 |n+1,i,fu+1,m,hn,hi,hf,hm=>by
  have hi':i<l.length:=by omega
  have⟨y,hy,h6,hno⟩:=aT0 hi' hm;simp only[QG,nT hi',H9,aJ hi',F9,hy,wrap_succ (n:=l.length) (by omega) hi'];by_cases hk:l[i].Kind=6
  .rw[show(l[i].Kind==6)=true by simp[hk],H9];exact aF8 hl n (i+1) fu _ (by omega) (by omega) (by omega) (h6 hk)
  .rw[oG hk,G6];exact aF8 hl n (i+1) fu _ (by omega) (by omega) (by omega) (hno hk)
def fin1(y1:Bool×Tree×Int×Int):Option (Tree×Int×Int):=bif y1.1 then(bif (y1.2.2.2 !=0)then some ((⟨([]:F6),([]:X8)⟩:Tree),y1.2.2.1,y1.2.2.2)else some (y1.2.1,(-1),0))else(bif (y1.2.2.2 !=0)then some ((⟨([]:F6),([]:X8)⟩:Tree),y1.2.2.1,y1.2.2.2)else some (y1.2.1,(-1),0))
def bo2{l:F5}{m:lI}(hl:l.length<=900)(hm:MP m l):∀(n i fu:Nat)(t:Tree),l.length-i=n->i<=l.length->n<fu->(EI l m fu (i:Int) t.Q7 t.Branches (-1) 0).bind fin1=rep (cp l) i t (l.drop i)
 |_,i,0,_,_,_,h=>by omega
 |0,i,fu+1,t,hn,hi,_=>by
  have:i=l.length:=by omega
  simp only[EI,oM this,G6,F9];rw[this,List.drop_length];rfl
 |n+1,i,fu+1,t,hn,hi,hf=>by
  have hi':i<l.length:=by omega
  rw[zU hi'];have ih:=λt=>bo2 hl hm n (i+1) fu t (by omega) (by omega) (by omega);simp only[EI,nT hi',H9,aJ hi',F9,hm l[i].ID,wrap_succ (n:=l.length) (by omega) hi',rep,cp];rcases hk:l[i].Kind !=6 with _|_
  .simp only[G6,Bool.false_and];exact ih t
  .simp only[H9,rX];rcases prt l l[i].ID with _|_
   .simp only[Bool.not_false,H9,bf9];rcases rH t l[i]with _|y
    .rfl
    .simp only[F9];rcases h0:y.2==0 with _|_
     .have:(y.2 !=0)=true:=by simp[bne,h0]
      simp only[G6,F9,fin1,this,H9]
     .simp only[H9,F9];exact ih y.1
   .simp only[fG,G6];exact ih t
def cg2{l:F5}(hl:l.length<=900):bg0 l=rep (cp l) 0 E0 l:=by
 show(JW (⟨[],[]⟩:Tree) (-1) 0 l 1000 1000 0 []).bind fin1=_;have⟨m,hm,e⟩:=aG0 (u1:=(⟨[],[]⟩:Tree)) (u2:= -1) (u3:=0) (N:=1000) hl l.length 0 1000 [] (by omega) (by omega) (by omega) aT1;rw[show(0:Int)=((0:Nat):Int)from rfl]at*
 rw[e];exact bo2 hl hm l.length 0 1000 E0 (by omega) (by omega) (by omega)
def bo1{id:Int}{l:F5}{m:lI}(hl:l.length<=900)(hm:MP m l):∀(n i fu:Nat),l.length-i=n->i<=l.length->n<fu->((EH id l m fu (i:Int) false).bind λy1=>bif y1.1 then some (false)else some (y1.2))=some ((l.drop i).any λo=>cp l o&&(o.ID==id))
 |_,i,0,_,_,h=>by omega
 |0,i,fu+1,hn,hi,_=>by
  have:i=l.length:=by omega
  simp only[EH,oM this,G6,F9];rw[this,List.drop_length];rfl
 |n+1,i,fu+1,hn,hi,hf=>by
  have hi':i<l.length:=by omega
  rw[zU hi',List.any_cons];have ih:=bo1 (id:=id) hl hm n (i+1) fu (by omega) (by omega) (by omega);have hc:cp l l[i]=(l[i].Kind !=6&& !prt l l[i].ID):=rfl;simp only[EH,nT hi',H9,aJ hi',F9,hm l[i].ID,wrap_succ (n:=l.length) (by omega) hi',hc];rcases hk:l[i].Kind !=6 with _|_
  .simp only[G6,Bool.false_and,Bool.false_or];exact ih
  .simp only[H9,rX];rcases prt l l[i].ID with _|_
   .simp only[Bool.not_false,H9,aR0,rX];rcases h0:l[i].ID==id with _|_
    .simp only[G6,F9,H9,Bool.false_or];exact ih
    .simp only[H9,F9,G6,Bool.true_or]
   .simp only[fG,G6,Bool.false_and,Bool.false_or];exact ih
def bD5{l:F5}(hl:l.length<=900)(r:F6)(b:X8)(c:N7)(m1:W9)(id:Int):ar9 l r b c m1 id=some (l.any λo=>cp l o&&(o.ID==id)):=by
 show(JV id false l 1000 1000 0 []).bind _=_;have⟨m,hm,e⟩:=aF9 (u1:=id) (u2:=false) (N:=1000) hl l.length 0 1000 [] (by omega) (by omega) (by omega) aT1;rw[show(0:Int)=((0:Nat):Int)from rfl,e];exact bo1 hl hm l.length 0 1000 (by omega) (by omega) (by omega)
def bo0{l:F5}{m:lI}(hl:l.length<=900)(hm:MP m l):∀(n i fu:Nat)(v:F6),l.length-i=n->i<=l.length->n<fu->v.length<=i->JU l m fu (i:Int) v=some (v++((l.drop i).filter (cp l)).map Opn.ID)
 |_,i,0,_,_,_,h,_=>by omega
 |0,i,fu+1,v,hn,hi,_,_=>by
  have:i=l.length:=by omega
  simp only[JU,oM this,G6];rw[this,List.drop_length];simp
 |n+1,i,fu+1,v,hn,hi,hf,hv=>by
  have hi':i<l.length:=by omega
  rw[zU hi',List.filter_cons];have ih:=λv hv=>bo0 hl hm n (i+1) fu v (by omega) (by omega) (by omega) hv;have hc:cp l l[i]=(l[i].Kind !=6&& !prt l l[i].ID):=rfl;simp only[JU,nT hi',H9,aJ hi',F9,hm l[i].ID,wrap_succ (n:=l.length) (by omega) hi',hc];rcases hk:l[i].Kind !=6 with _|_
  .simp only[G6,Bool.false_and,Bool.false_eq_true,if_false];exact ih v (by omega)
  .simp only[H9,rX];rcases prt l l[i].ID with _|_
   .have h1:decide (v.length+([l[i].ID]:F6).length<=4294967296)=true:=aI (by simp;omega);simp only[Bool.not_false,H9,cd7,h1,if_true,F9];rw[ih _ (by simp;omega)];simp
   .simp only[fG,G6,Bool.false_eq_true,if_false];exact ih v (by omega)
def cx6{l:F5}(hl:l.length<=900):be8 [] l=some ((l.filter (cp l)).map Opn.ID):=by
 show QG [] l 1000 1000 0 []=_;have⟨m,hm,e⟩:=aF8 (o2:=[]) (N:=1000) hl l.length 0 1000 [] (by omega) (by omega) (by omega) aT1;rw[show(0:Int)=((0:Nat):Int)from rfl,e];have:=bo0 hl hm l.length 0 1000 [] (by omega) (by omega) (by omega) (by simp);simpa using this
def bO0(c:Came):Tot (ad6 c) λ_=>True:=by
 unfold ad6 OU;simp only[dc3,F9]
 repeat' first
  |exact H8 trivial
  |(refine L8 (λ_=>?_) (λ_=>?_))
def bO8{l:N7}(hl:l.length<=900)(c:Came):Tot (VU l c) λ_=>True:=by
 unfold VU;refine L8 (λ_=>H8 trivial) λ_=>?_
 have e2:=bX0 (l:=l) (f:=λz0=>au8 z0 c c) (p:=λx=>(x.Origin.X3==c.Origin.X3)&&(x.Origin.Number==c.Origin.Number)) (by omega) (λx _=>by
  simp only[au8,ad7,F9]
  cases(x.Origin.X3==c.Origin.X3)<;>rfl)
 have e3:=bX0 (l:=l) (f:=λz0=>au9 z0 c c) (p:=λx=>(x.Origin.X3==c.Origin.X3)&&(x.Origin.bQ !=c.Origin.bQ)) (by omega) (λx _=>by
  simp only[au9,ad7,F9]
  cases(x.Origin.X3==c.Origin.X3)<;>rfl)
 rw[e2,F9];refine L8 (λ_=>H8 trivial) λ_=>?_;rw[e3,F9];exact L8 (λ_=>H8 trivial) λ_=>H8 trivial
def bN6{l:N7}(hl:l.length<=900):∀(n i fu:Nat),l.length-i=n->i<=l.length->n<fu->Tot (OQ l fu (i:Int)) λ_=>True
 |_,i,0,_,_,h=>by omega
 |0,i,fu+1,hn,hi,_=>by
  simp only[OQ,oM (show i=l.length by omega),G6];exact H8 trivial
 |n+1,i,fu+1,hn,hi,hf=>by
  have hi':i<l.length:=by omega
  have ih:=bN6 hl n (i+1) fu (by omega) (by omega) (by omega);simp only[OQ,nT hi',H9,aJ hi',F9,wrap_succ (n:=l.length) (by omega) hi',bb5 hi];refine X4 (bO0 _) λ_ _ _=>L8 (λ_=>H8 trivial) λ_=>?_;have hcl:=bO8 (l:=l.take i) (by rw[Y1];omega) l[i];refine L8 (λh3=>?_) λh3=>?_
  .have h3:=iR h3;rw[oU (by unfold okI;omega),bC7 hi' (by omega),F9];exact L8 (λ_=>H8 trivial) λ_=>X4 hcl λ_ _ _=>L8 (λ_=>H8 trivial) λ_=>ih
  .exact X4 hcl λ_ _ _=>L8 (λ_=>H8 trivial) λ_=>ih
def db5{l:N7}(hl:l.length<=900):Tot (av2 l) λ_=>True:=by
 unfold av2 bN5 aW9;refine X4 (Q:=λ_=>True) (L8 (λ_=>H8 trivial) λ_=>?_) λ_ _ _=>H8 trivial;exact bN6 hl l.length 0 1000 (by omega) (by omega) (by omega)
theorem dn2{l:N7}(hl:l.length<=900):ax7 l=some l:=by
 unfold ax7;have h:decide (([]:N7).length+l.length<=4294967296)=true:=aI (by simp;omega);simp only[h,H9,uS];rcases l with _|⟨x,r⟩
 .simp[OH]
 .rfl
theorem JH{l:F5}(hl:l.length<=900):uM l=some l:=by
 unfold uM;have h:decide (([]:F5).length+l.length<=4294967296)=true:=aI (by simp;omega);simp only[h,H9,uS];rcases l with _|⟨x,r⟩
 .simp[OH]
 .rfl
def da4{l:N7}(hl:l.length<=890)(c:Came):Tot (au3 l c) λ_=>True:=by
 unfold au3;refine X4 (db5 (by omega)) λ_ _ _=>L8 (λ_=>H8 trivial) λ_=>?_;refine X4 (bO0 _) λ_ _ _=>L8 (λ_=>H8 trivial) λ_=>?_
 have⟨k,ok,e,hk⟩:=a04 (x:=l) (tg:=c.Unit) (cmp:=λz0 z1=>au2 z0 z1) (λb=>by
  have⟨s,e1,_⟩:=aH1 b.Unit c.Unit;refine⟨s,?_⟩;show(yK b.Unit c.Unit).bind _=_
  rw[e1];rfl) (by omega) 1000 0 l.length (by omega) (by omega) (by omega)
 have e':bY8 l c.Unit (λz0 z1=>au2 z0 z1)=some ((k:Int),ok):=by
  show JI l c.Unit _ 1000 0 ((l.map N9).length:Int)=_;rw[X0];exact e
 rw[e',F9];refine X4 (bO8 (by omega) _) λ_ _ _=>L8 (λ_=>H8 trivial) λ_=>L8 (λ_=>H8 trivial) λ_=>L8 (λ_=>H8 trivial) λ_=>?_;rw[dn2 (by omega),F9];simp only[ba5];rw[aI ⟨by omega,by omega,by omega⟩];exact H8 trivial
def bN8{l:N7}(hl:l.length<=900)(u:Int):Tot (au4 l u) λ_=>True:=by
 unfold au4;have e:=bX7 (l:=l) (f:=λz0=>aX0 z0 u) (p:=λx=>x.Unit==u) (by omega) (λ_ _=>rfl);rw[e,F9];rcases ha:l.any λx=>x.Unit==u with _|_
 .rw[aa7 ha];exact H8 trivial
 .have⟨k,hk,e,_⟩:=NP ha;rw[e,fZ (by omega),G6,aJ hk];exact H8 trivial
def XJ(o:Opn):Tot (zI o) λb=>b=true↔jX o:=by
 unfold zI jX;refine L8 (λh=>H8 ?_) λh1=>L8 (λh=>H8 ?_) λh4=>H8 ?_
 .have h:o.Kind=1:=by simpa using h
  simp[h]
 .have h:o.Kind=4:=by simpa using h
  simp[h]
 .have h1:o.Kind≠1:=by simpa using h1
  have h4:o.Kind≠4:=by simpa using h4
  simp[h1,h4]
def iP(l:F5)(id:Int):Option Opn:=l.find? λo=>o.ID==id&&o.Kind !=6
def bD9{l:F5}(hl:l.length<=900)(r:F6)(b:X8)(c:N7)(m1:W9)(id:Int):ab7 l r b c m1 id=some (match iP l id with|some o=>(o,true)|none=>((⟨0,0,0,0,0,0,0,([]:Str),([]:Str),(⟨0,0,0⟩:Origin)⟩:Opn),false)):=by
 have hf:∀o∈l,(λz0=>ab6 z0 id) o=some (o.ID==id&&o.Kind !=6):=λo _=>by
  simp only[ab6];cases o.ID==id<;>rfl
 have e:=bY0 (l:=l) (f:=λz0=>ab6 z0 id) (by omega) hf;unfold ab7;rw[e,F9];rcases ha:l.any λo=>o.ID==id&&o.Kind !=6 with _|_
 .have hn:iP l id=none:=by
   unfold iP;rw[List.find?_eq_none];rw[ET]at ha;exact ha
  rw[aa7 ha,hn];rfl
 .have⟨k,hk,e,hp,hlt⟩:=NP ha;have hs:iP l id=some l[k]:=by
   unfold iP;rw[List.find?_eq_some_iff_getElem];exact⟨hp,k,hk,rfl,λj hj=>by rw[hlt j hj];rfl⟩
  rw[e,fZ (by omega),G6,aJ hk,F9,hs]
def aJ7{l:F5}(hl:l.length<=900):∀(n i fu:Nat)(out:N7),l.length-i=n->i<=l.length->n<fu->out.length<=i->Tot (QH l fu (i:Int) out) λr=>r.length<=l.length
 |_,i,0,_,_,_,h,_=>by omega
 |0,i,fu+1,out,hn,hi,_,ho=>by
  simp only[QH,oM (show i=l.length by omega),G6,ba8];rw[aI (by omega),H9,F9];exact H8 (by rw[ay7];omega)
 |n+1,i,fu+1,out,hn,hi,hf,ho=>by
  have hi':i<l.length:=by omega
  simp only[QH,nT hi',H9,aJ hi',F9,wrap_succ (n:=l.length) (by omega) hi'];refine L8 (λ_=>?_) λ_=>aJ7 hl n (i+1) fu out (by omega) (by omega) (by omega) (by omega);rw[aI (by simp;omega),H9];exact aJ7 hl n (i+1) fu _ (by omega) (by omega) (by omega) (by simp;omega)
def cF1{l:F5}(hl:l.length<=900):Tot (be9 l) λr=>r.length<=l.length:=aJ7 hl l.length 0 1000 [] (by omega) (by omega) (by omega) (by simp)
def db7{l:F5}{id:Int}(h:∀o∈l,o.Kind=6->o.Unit≠id):prt l id=false:=by
 unfold prt;have:∀(l:F5)(b:Bool),(∀o∈l,o.Kind=6->o.Unit≠id)->l.foldl (λb o=>b^^(o.Kind==6&&o.Unit==id)) b=b:=by
  intro l;induction l with
  |nil=>intro b _;rfl
  |cons o r ih=>
   intro b h;have h1:(o.Kind==6&&o.Unit==id)=false:=by
    by_cases hk:o.Kind=6
    .rw[oG (h o (by simp) hk),Bool.and_false]
    .rw[oG hk,Bool.false_and]
   rw[List.foldl_cons,h1,Bool.xor_false];exact ih b λx hx=>h x (by simp[hx])
 exact this l false h
def db6{l:F5}{o:Opn}(ho:o.Kind≠6)(id:Int):prt (l++[o]) id=prt l id:=by rw[av3,oG ho];simp
def cx7{l:F5}{o:Opn}(ho:o.Kind≠6)(x:Opn):cp (l++[o]) x=cp l x:=by unfold cp;rw[db6 ho]
theorem av4{l:F5}{o:Opn}(ho:o.Kind=6)(id:Int):prt (l++[o]) id=(prt l id^^(o.Unit==id)):=by rw[av3,ho];rfl
theorem bq3{l:F5}{o:Opn}(ho:o.Kind=6):cp l o=false:=by unfold cp;rw[ho];rfl
def cy1{l:F5}{o x:Opn}(ho:o.Kind=6)(h:x.ID≠o.Unit):cp (l++[o]) x=cp l x:=by unfold cp;rw[av4 ho,oG (λe=>h e.symm),Bool.xor_false]
def cy0{l:F5}{o x:Opn}(ho:o.Kind=6)(h:x.ID=o.Unit)(hp:prt l o.Unit=false):cp (l++[o]) x=false:=by unfold cp;rw[av4 ho,h,hp];simp
theorem cx9{l:F5}{o p:Opn}(ho:o.Kind=6)(hp:p.Kind=6)(h:p.Unit=o.Unit)(x:Opn):cp (l++[o]++[p]) x=cp l x:=by
 unfold cp;rw[av4 hp,av4 ho,h];cases prt l x.ID<;>cases(o.Unit==x.ID)<;>rfl
def cx8{l:F5}{o:Opn}(h:cp l o=true):o.Kind≠6/\prt l o.ID=false:=by
 unfold cp at h;simp only[Z4,bne_iff_ne,ne_eq,Bool.not_eq_true']at h;exact h
structure KI(l:List Opn)(t:Tree)(c:List Came)(m:List (Str×Int)):Prop where
 ids:l.Pairwise λa b=>a.ID<b.ID
 und:∀o∈l,o.Kind=6->o.Unit<o.ID
 fold:rep (cp l) 0 E0 l=some (t, -1,0)
 came:c.length<=l.length
 nd:(m.map Prod.fst).Nodup
 ml:m.length<=l.length
 own:∀s u,V5 m s=some u↔∃o∈l,jX o/\o.Mark=s/\o.Unit=u
def bb7:Sm 0 E0:=⟨N8 _,N8 _,λ_ h=>by cases h⟩
def KI.nil:KI [] E0 [] []:=⟨.nil,λ_ h=>(by cases h),rfl,N8 _,.nil,N8 _,λs u=>⟨λh=>(by cases h),λ⟨_,h,_⟩=>(by cases h)⟩⟩
def KI.rp{l:F5}{t:Tree}{c:N7}{m:W9}(h:KI l t c m)(hl:l.length<=400):RP 0 E0 l t:=
 ((ae5 (p:=cp l) l 0 0 E0 bb7 (by omega)).of h.fold).1 rfl |>.2
def KI.sm{l:F5}{t:Tree}{c:N7}{m:W9}(h:KI l t c m)(hl:l.length<=400):Sm 800 t:=(h.rp hl).sm.mono (by omega)
def KI.UJ{l:F5}{t:Tree}{c:N7}{m:W9}(h:KI l t c m)(hl:l.length<=400):uT (um t.Branches):=(h.rp hl).mkd List.Pairwise.nil
def c43{u:Int}{m:Str}:¬Has E0 u m:=λ⟨_,h⟩=>by cases h
def KI.has{l:F5}{t:Tree}{c:N7}{m:W9}(h:KI l t c m)(hl:l.length<=400){u:Int}{s:Str}(hh:Has t u s):V5 m s=some u:=by
 rcases(h.rp hl).old u s hh with hh|⟨o,ho,hg,e1,e2⟩
 .exact absurd hh c43
 .exact(h.own s u).2 ⟨o,ho,hg,e2.symm,e1.symm⟩
def KI.step{l:F5}{t t':Tree}{c c':N7}{m m':W9}{o:Opn}(h:KI l t c m)(hlt:∀x∈l,x.ID<o.ID)(ho:o.Kind≠6)(ha:rH t o=some (t',0))(hc:c'.length<=l.length+1)
    (hn:(m'.map Prod.fst).Nodup) (hml:m'.length<=l.length+1) (hm:∀s u,V5 m' s=some u↔V5 m s=some u\/(jX o/\o.Mark=s/\o.Unit=u)):KI (l++[o]) t' c' m':=by
 have hp:prt l o.ID=false:=db7 λx hx h6 e=>by have:=h.und x hx h6;have:=hlt x hx;omega
 have hcp:cp l o=true:=by unfold cp;rw[hp];simp[ho]
 refine⟨?_,λx hx h6=>?_,?_,by simpa using hc,hn,by simpa using hml,λs u=>?_⟩
 .rw[List.pairwise_append];exact⟨h.ids,List.pairwise_singleton _ _,λa hal b hb=>by rw[xZ.1 hb];exact hlt a hal⟩
 .rcases iY.1 hx with hx|hx
  .exact h.und x hx h6
  .simp at hx;subst hx;exact absurd h6 ho
 .rw[aw2 _ _ _ λx _=>cx7 ho x,aZ2 hcp l 0 E0 t h.fold,ha];rfl
 .rw[hm,h.own];constructor
  .rintro(⟨x,hx,h1⟩|h1)
   .exact⟨x,by simp[hx],h1⟩
   .exact⟨o,by simp,h1⟩
  .rintro⟨x,hx,h1⟩;rcases iY.1 hx with hx|hx
   .exact .inl ⟨x,hx,h1⟩
   .simp at hx;subst hx;exact .inr h1
def KI.undo{l:F5}{t t':Tree}{c:N7}{m:W9}{o:Opn}(h:KI l t c m)(hlt:∀x∈l,x.ID<o.ID)(ho:o.Kind=6)(hu:o.Unit<o.ID)(ha:rep (cp (l++[o])) 0 E0 (l++[o])=some (t', -1,0)):KI (l++[o]) t' c m:=by
 have hg:¬jX o:=OG (by omega) (by omega);refine⟨?_,λx hx h6=>?_,ha,?_,h.nd,by have:=h.ml;simp;omega,λs u=>?_⟩
 .rw[List.pairwise_append];exact⟨h.ids,List.pairwise_singleton _ _,λa hal b hb=>by rw[xZ.1 hb];exact hlt a hal⟩
 .rcases iY.1 hx with hx|hx
  .exact h.und x hx h6
  .simp at hx;subst hx;exact hu
 .have:=h.came;simp;omega
 .rw[h.own];constructor
  .rintro⟨x,hx,h1⟩;exact⟨x,by simp[hx],h1⟩
  .rintro⟨x,hx,h1⟩;rcases iY.1 hx with hx|hx
   .exact⟨x,hx,h1⟩
   .simp at hx;subst hx;exact absurd h1.1 hg
def ar2{l:F5}(h:l.Pairwise λa b=>a.ID<b.ID){x y:Opn}(hx:x∈l)(hy:y∈l)(e:x.ID=y.ID):x=y:=by
 obtain⟨i,hi,rfl⟩:=eX hx;obtain⟨j,hj,rfl⟩:=eX hy;have h':=qM.1 h;rcases yB i j with h1|rfl|h1
 .have:=h' i j hi hj h1;omega
 .rfl
 .have:=h' j i hj hi h1;omega
def aK8{l:F5}{id:Int}{o:Opn}(h:iP l id=some o):o∈l/\o.ID=id/\o.Kind≠6:=by
 have h1:=List.mem_of_find?_eq_some h;have h2:=List.find?_some h;simp only[Z4,beq_iff_eq,bne_iff_ne,ne_eq]at h2;exact⟨h1,h2⟩
def cG3{l:F5}(hi:l.Pairwise λa b=>a.ID<b.ID){o:Opn}(h:o∈l)(hk:o.Kind≠6):iP l o.ID=some o:=by
 rcases hf:iP l o.ID with _|x
 .unfold iP at hf;rw[List.find?_eq_none]at hf;exact absurd (by simp[hk]) (hf o h)
 .have⟨h1,h2,_⟩:=aK8 hf;rw[ar2 hi h1 h h2]
def bG5{m:W9}{s:Str}:s∈m.map Prod.fst↔∃u,V5 m s=some u:=by
 induction m with
 |nil=>exact⟨λh=>(by cases h),λ⟨_,h⟩=>(by cases h)⟩
 |cons p r ih=>
  have⟨k,v⟩:=p;simp only[kP,lD,V5];by_cases h:s=k
  .subst h;simp
  .rw[oG h];simp only[G6,<-ih];exact⟨λh'=>h'.resolve_left h,.inr⟩
def cZ1{m m':W9}(h:(m.map Prod.fst).Nodup)(h':(m'.map Prod.fst).Nodup)(he:∀s,V5 m s=V5 m' s):m.length=m'.length:=by
 have:(m.map Prod.fst).Perm (m'.map Prod.fst):=(List.perm_ext_iff_of_nodup h h').2 λs=>by rw[bG5,bG5];simp only[he]
 simpa using this.length_eq
structure KFt(l:List Opn)(m:List (Str×Int))(o:Opn):Prop where
 lt:∀h:0<l.length,(l[l.length-1]'(by omega)).ID<o.ID
 giv:jX o->∀u,V5 m o.Mark=some u->u=o.Unit
 six:o.Kind=6->∃x,iP l o.Unit=some x
section
variable{l:F5}{r:F6}{b:X8}{c:N7}{m:W9}{o:Opn}
def kf6(hl:l.length<=900):Tot (bif (o.Kind==6)then(Option.bind (ab7 l r b c m o.Unit) λy=>bif (!y.2)then some (7)else(bif (y.1.Kind==1)then(bif (y.1.Origin.X3 !=0)then(Option.bind (ar9 l r b c m y.1.ID) λz=>bif z then some (21)else some (0))else some (0))else some (0)))else some (0)) λe:Int=>e=0->o.Kind=6->∃x,iP l o.Unit=some x:=by
 refine L8 (λh6=>?_) λh6=>H8 λ_ h=>absurd (by simpa using h) (by simpa using h6);rw[bD9 hl,F9];cases hf:iP l o.Unit with
 |none=>exact H8 (nz (by decide))
 |some x=>
  have ok:∀{e:Int},e=0->o.Kind=6->∃y,some x=some y:=λ_ _=>⟨x,rfl⟩;simp only[fG,G6];refine L8 (λ_=>L8 (λ_=>?_) λ_=>H8 ok) λ_=>H8 ok;rw[bD5 hl,F9];exact L8 (λ_=>H8 ok) λ_=>H8 ok
def kf4(hl:l.length<=900)(z:Origin×Bool)(v:Bool):Tot (TY l r b c m o z v) λe=>e=0->v=false/\(o.Kind=6->∃x,iP l o.Unit=some x):=by
 have j5:∀q,Tot (NY l r b c m o q) λe=>e=0->o.Kind=6->∃x,iP l o.Unit=some x:=λq=>L8 (λ_=>H8 (nz (by decide))) λ_=>kf6 hl;exact L8 (λ_=>H8 (nz (by decide))) λhv=>L8 (λ_=>L8 (λ_=>(j5 _).mono λe he h0=>⟨hv,he h0⟩) λ_=>(j5 _).mono λe he h0=>⟨hv,he h0⟩) λ_=>(j5 _).mono λe he h0=>⟨hv,he h0⟩
def cT5(hl:l.length<=900)(y:Int×Bool)(z:Origin×Bool):Tot (NW l r b c m o y z) λe=>e=0->(o.Kind=6->∃x,iP l o.Unit=some x)/\(jX o->y.2=true->y.1=o.Unit):=by
 unfold NW;refine X4 (XJ o) λq _ hq=>L8 (λh=>L8 (λh2=>(kf4 hl z _).mono λe he h0=>⟨(he h0).2,λ_ _=>by simpa using(he h0).1⟩) λh2=>(kf4 hl z _).mono λe he h0=>⟨(he h0).2,λ_ h4=>by rw[h2]at h4;cases h4⟩) λh=>(kf4 hl z _).mono λe he h0=>⟨(he h0).2,λhg=>?_⟩
 grind
def cT4(hl:l.length<=100)(hc:c.length<=l.length)(y:Int×Bool):Tot (NV l r b c m o y) λe=>e=0->(o.Kind=6->∃x,iP l o.Unit=some x)/\(jX o->y.2=true->y.1=o.Unit):=by
 unfold NV;have j3:=λz=>cT5 (l:=l) (r:=r) (b:=b) (c:=c) (m:=m) (o:=o) (by omega) y z;have j6:∀z q,Tot (ab5 l r b c m o y z q) λe=>e=0->(o.Kind=6->∃x,iP l o.Unit=some x)/\(jX o->y.2=true->y.1=o.Unit):=λz q=>
  L8 (λ_=>H8 (nz (by decide))) λ_=>L8 (λ_=>X4 (da4 (by omega) _) λa _ _=>L8 (λh=>H8 λh0=>absurd h0 (by simpa using h)) λ_=>j3 z) λ_=>j3 z
 exact X4 (bN8 (by omega) _) λz _ _=>L8 (λ_=>j6 z _) λ_=>j6 z _
def cT7(hl:l.length<=100)(hc:c.length<=l.length):Tot (II l r b c m o) λe=>e=0->KFt l m o:=by
 show Tot (II l r b c m o) _;unfold II CW;rw[F9];have j1:=cT4 (l:=l) (r:=r) (b:=b) (c:=c) (m:=m) (o:=o) hl hc ((V5 m o.Mark).getD 0,(V5 m o.Mark).isSome);have fin:∀{e:Int},((o.Kind=6->∃x,iP l o.Unit=some x)/\(jX o->(V5 m o.Mark).isSome=true->(V5 m o.Mark).getD 0=o.Unit))->(∀h:0<l.length,(l[l.length-1]'(by omega)).ID<o.ID)->KFt l m o:=λh1 h2=>⟨h2,λhg u hu=>by have:=h1.2 hg;rw[hu]at this;exact this rfl,h1.1⟩;refine L8 (λ_=>H8 (nz (by decide))) λ_=>X4 (Q:=λ_=>True) (X4 (bT5 o) λ_ _ _=>L8 (λ_=>H8 trivial) λ_=>H8 trivial) λ_ _ _=>L8 (λh=>H8 λh0=>absurd h0 (by simp)) λ_=>L8 (λh=>?_) λh=>j1.mono λe he h0=>fin (e:=e) (he h0) λhp=>?_
 .rw[X0]at*
  have h:=iR h;rw[oU (by unfold okI;omega),show(l.length:Int)-1=((l.length-1:Nat):Int) by omega,aJ (by omega),F9];refine L8 (λ_=>H8 (nz (by decide))) λhlt=>?_;rw[F9];refine L8 (λ_=>H8 (nz (by decide))) λ_=>j1.mono λe he h0=>fin (e:=e) (he h0) λhp=>?_
  grind
 .grind
def cQ1(hi:l.Pairwise λa b=>a.ID<b.ID)(h:∀h:0<l.length,(l[l.length-1]'(by omega)).ID<o.ID):∀x∈l,x.ID<o.ID:=λx hx=>by
 obtain⟨i,hi',rfl⟩:=eX hx;have h2:=h (by omega);rcases fJ i (l.length-1)with h1|h1
 .exact Int.lt_trans (qM.1 hi i (l.length-1) hi' (by omega) h1) h2
 .grind
end
def aQ7{l:F5}{t:Tree}{c:N7}{m:W9}(hl:l.length<=100)(h:KI l t c m)(o:Opn):Tot (rE l t.Q7 t.Branches c m o) λr=>r.2.1=0->r.1= -1/\r.2.2.2.1=l++[o]/\KI (l++[o]) ⟨r.2.2.2.2.1,r.2.2.2.2.2.1⟩ r.2.2.2.2.2.2 r.2.2.1/\(jX o->Has ⟨r.2.2.2.2.1,r.2.2.2.2.2.1⟩ o.Unit o.Mark):=by
 show Tot (rE l t.Q7 t.Branches c m o) _;unfold rE;have hK:=h;refine X4 (cT7 hl h.came) λy1 _ hy1=>L8 (λhe=>H8 λh0=>absurd h0 (by simpa using he)) λhe=>?_;have kf:=hy1 (by simpa using he);have hlt:=cQ1 h.ids kf.lt;rw[JH (by omega),F9,aI (by simp;omega),H9];have hsm:=h.sm (by omega);refine L8 (λh6=>?_) λh6=>?_
 .have h6:o.Kind=6:=by simpa using h6
  have BZ:¬jX o:=OG (by omega) (by omega);obtain⟨x,hx⟩:=kf.six h6;obtain⟨hx1,hx2,_⟩:=aK8 hx;rw[cg2 (by simp;omega)];refine X4 (ae5 (l++[o]) 0 0 E0 bb7 (by simp;omega)) λy7 hy7 ⟨h1,_⟩=>L8 (λ_=>H8 λh0=>absurd (show(20:Int)=0 from h0) (by decide)) λh0=>?_;have h0:y7.2.2=0:=by grind
  rw[show(o.Kind==1)=false by rw[h6];rfl,G6];refine X4 (XJ o) λq _ hq=>L8 (λhq'=>absurd (hq.1 hq') BZ) λ_=>H8 λ_=>⟨rfl,rfl,?_,λhg=>absurd hg BZ⟩;refine h.undo hlt h6 (by have:=hlt x hx1;omega) ?_;rw[hy7];obtain⟨T,a,e⟩:=y7;obtain rfl:e=0:=h0;obtain⟨rfl,_⟩:=h1 rfl;rfl
 .have h6:o.Kind≠6:=by simpa using h6
  refine X4 (bl8 o (by omega) hsm) λnG hy hA=>L8 (λh0=>H8 λh1=>absurd h1 (by simpa using h0)) λh0=>?_;have h0:nG.2=0:=by grind
  have hA:=hA h0;have hy:rH t o=some (nG.1,0):=by rw[<-h0];exact hy
  have key:∀(c':N7)(q:Bool),c'.length<=l.length+1->(q=true↔jX o)->Tot (bif q then some ((-1:Int),(0:Int),(aU m o.Mark o.Unit),(l++([o]:F5)),nG.1.Q7,nG.1.Branches,c')else some ((-1),0,m,(l++([o]:F5)),nG.1.Q7,nG.1.Branches,c')) λr=>r.2.1=0->r.1= -1/\r.2.2.2.1=l++[o]/\KI (l++[o]) ⟨r.2.2.2.2.1,r.2.2.2.2.2.1⟩ r.2.2.2.2.2.2 r.2.2.1/\(jX o->Has ⟨r.2.2.2.2.1,r.2.2.2.2.2.1⟩ o.Unit o.Mark):=λc' q hc hq=>by
   refine L8 (λh=>H8 λ_=>⟨rfl,rfl,?_,hA.new⟩) λhn=>H8 λ_=>⟨rfl,rfl,?_,hA.new⟩
   .have hg:=hq.1 h;have hml:=c02 m o.Mark o.Unit;refine hK.step hlt h6 hy hc (bH1 hK.nd _ _) (Y2 hml (Nat.succ_le_succ hK.ml)) λs u=>?_;rw[UH];by_cases hs:s=o.Mark
    .subst hs;rw[yI,H9]
     exact⟨λe=>.inr ⟨hg,rfl,jJ e⟩,λe=>by
      rcases e with e|⟨_,_,e⟩
      .rw[kf.giv hg u e]
      .rw[e]⟩
    .grind
   .have BZ:¬jX o:=λhg=>by rw[hq.2 hg]at hn;cases hn
    exact hK.step hlt h6 hy hc hK.nd (Nat.le_succ_of_le hK.ml) λs u=>⟨.inl,λe=>e.resolve_right λ⟨hg,_⟩=>BZ hg⟩
  refine L8 (λ_=>?_) λ_=>?_
  .refine X4 (cF1 (by simp;omega)) λc' _ hc'=>X4 (XJ o) λq _ hq=>key c' q (by simpa using hc') hq
  .exact X4 (XJ o) λq _ hq=>key c q (by have:=h.came;omega) hq
inductive fH:List Opn->Tree->List Came->List (Str×Int)->Prop
 |nil:fH [] E0 [] []
 |snoc {l:List Opn} {t:Tree} {c:List Came} {m:List (Str×Int)} {t':Tree} {c':List Came} {m':List (Str×Int)} {o:Opn}:fH l t c m->rE l t.Q7 t.Branches c m o=some (-1,0,m',l++[o],t'.Q7,t'.Branches,c')->fH (l++[o]) t' c' m'
def fH.ki{l:F5}{t:Tree}{c:N7}{m:W9}(h:fH l t c m):l.length<=100->KI l t c m:=by
 induction h with
 |nil=>exact λ_=>KI.nil
 |snoc h ha ih=>
  intro hl;simp only[cO,List.length_singleton]at hl;exact((aQ7 (by omega) (ih (by omega)) _).of ha rfl).2.2.1
def cS8{l:F5}{t:Tree}{c:N7}{m:W9}(h:fH l t c m):∀(rest:F5)(fu:Nat),(l++rest).length<=100->QI (l++rest) (l.length+fu) 0 [] [] [] [] []=QI (l++rest) fu (l.length:Int) l t.Q7 t.Branches c m:=by
 induction h with
 |nil=>grind
 | @snoc l t c m t' c' m' o h ha ih=>
   intro rest fu hl;have e:l++[o]++rest=l++(o::rest):=by simp
   rw[e]at hl⊢;rw[show(l++[o]).length+fu=l.length+(fu+1) by simp;omega,ih (o::rest) (fu+1) hl];have hi:l.length<(l++o::rest).length:=by simp
   have hx:(l++o::rest)[l.length]'hi=o:=by simp
   simp only[QI,nT hi,H9,aJ hi,hx,F9,ha,wrap_succ (n:=(l++o::rest).length) (by omega) hi];simp
def QJ{l:F5}{t:Tree}{c:N7}{m:W9}(h:fH l t c m)(hl:l.length<=100):EJ l=some ((l,t.Q7,t.Branches,c,m), -1,0):=by
 have e:=cS8 h [] (1000-l.length) (by simpa using hl);rw[show l.length+(1000-l.length)=1000 by omega,List.append_nil]at e;refine Eq.trans e ?_;obtain⟨n,hn⟩:∃n,1000-l.length=n+1:=⟨999-l.length,by omega⟩;rw[hn];simp only[QI,oM rfl,G6]
theorem aB6{l:F5}{t:Tree}{c:N7}{m:W9}(h:fH l t c m)(hl:l.length<=100):QF l=some (t,0):=by
 show(EJ l).bind _=_;rw[QJ h hl];rfl
theorem dA8{l:F5}{t:Tree}{c:N7}{m:W9}(h:fH l t c m)(hl:l.length<=100):cd8 l=some ((l.filter (cp l)).map Opn.ID,0):=by
 show((EJ l).bind λy1=>some (y1.2.1,y1.2.2)).bind _=_;rw[QJ h hl];show(be8 ([]:F6) l).bind _=_;rw[cx6 (by omega)];rfl
def cd4{l l':F5}{t t':Tree}{c c':N7}{m m':W9}{o:Opn}(h:fH l t c m)(hl:l.length<=100){a:Int}(ha:rE l t.Q7 t.Branches c m o=some (a,0,m',l',t'.Q7,t'.Branches,c')):xR l o=some (l', -1,0):=by
 show(EJ l).bind _=_;rw[QJ h hl]
 grind
def be6{l:F5}{t:Tree}{c:N7}{m:W9}{o:Opn}(h:fH l t c m)(hl:l.length<=100){a e:Int}{x:W9×F5×F6×X8×N7}(he:e≠0)(ha:rE l t.Q7 t.Branches c m o=some (a,e,x)):xR l o=some ([],a,e):=by
 show(EJ l).bind _=_;rw[QJ h hl]
 grind
def dA6{l:F5}{t:Tree}{c:N7}{m:W9}(h:fH l t c m)(hl:l.length<=99)(o:Opn):Tot (xR l o) λr=>r.2.2=0->r.1=l++[o]/\∃t' c' m',fH (l++[o]) t' c' m':=by
 obtain⟨⟨a,e,m',l',r',b',c'⟩,hr,hp⟩:=aQ7 (by omega) (h.ki (by omega)) o;by_cases he:e=0
 .subst he;obtain⟨h1,h2,h3,h4⟩:=hp rfl;simp only at h1 h2 h3 h4;subst h1;subst h2;rw[cd4 (t':=⟨r',b'⟩) h (by omega) hr];exact H8 λ_=>⟨rfl,⟨r',b'⟩,c',m',.snoc h hr⟩
 .rw[be6 h (by omega) he hr];exact H8 λh0=>absurd h0 he
structure LG(i:Nat)(l:List Opn):Prop where
 kep:∃t c m,fH l t c m
 len:l.length<=i
 rng:∀x∈l,1<=x.ID/\x.ID<=i/\0<=x.Day/\x.Day<=i
def LG.mono{i j:Nat}{l:F5}(h:LG i l)(hij:i<=j):LG j l:=⟨h.kep,Y2 h.len hij,λx hx=>by have:=h.rng x hx;omega⟩
def aS2{l:F5}(hl:l.length<=24):∀(n i fu:Nat)(out:F5),l.length-i=n->i<=l.length->n<fu->LG i out->Tot (OA l fu out (i:Int)) (LG 24)
 |_,i,0,_,_,_,h,_=>by omega
 |0,i,fu+1,out,hn,hi,_,h=>by
  simp only[OA,oM (show i=l.length by omega),G6];exact H8 (h.mono (by omega))
 |n+1,i,fu+1,out,hn,hi,hf,h=>by
  have hi':i<l.length:=by omega
  have hol:=h.len;obtain⟨t,c,m,hk⟩:=h.kep;simp only[OA,nT hi',H9,aJ hi',F9,wrap_succ (n:=l.length) (by omega) hi',JH (show out.length<=900 by omega)];refine X4 (dA6 hk (by omega) _) λy _ hy=>L8 (λh0=>?_) λ_=>aS2 hl n (i+1) fu out (by omega) (by omega) (by omega) (h.mono (by omega));obtain⟨e,t',c',m',hk'⟩:=hy (by simpa using h0);rw[e];refine aS2 hl n (i+1) fu _ (by omega) (by omega) (by omega) ⟨⟨t',c',m',hk'⟩,by simp;omega,λx hx=>?_⟩;rcases iY.1 hx with hx|hx
  .have:=h.rng x hx;omega
  .grind
def bF6{l:F5}(hl:l.length<=24):Tot (aS1 l) (LG 24):=aS2 hl l.length 0 1000 [] (by omega) (by omega) (by omega) ⟨⟨_,_,_,.nil⟩,N8 _,λ_ h=>(by cases h)⟩
def bQ0{l:F5}(hl:l.length<=9223372036854775807):∀(n i fu:Nat),l.length-i=n->i<=l.length->n<fu->Tot (VY l fu (i:Int)) λr=>r=true->l.length<=24
 |_,i,0,_,_,h=>by omega
 |0,i,fu+1,hn,hi,_=>by
  rw[VY,oM (show i=l.length by omega),G6,X0];exact H8 λh=>by grind
 |n+1,i,fu+1,hn,hi,hf=>by
  have hi':i<l.length:=by omega
  simp only[VY,nT hi',H9,aJ hi',F9,wrap_succ hl hi'];refine X4 (Q:=λ_=>True) ?_ λy _ _=>L8 (λ_=>H8 λh=>by cases h) λ_=>bQ0 hl n (i+1) fu (by omega) (by omega) (by omega);exact L8 (λ_=>H8 trivial) λ_=>H8 trivial
def bQ1{l:F5}(hl:l.length<=9223372036854775807):Tot (av8 l) λr=>r=true->l.length<=24:=bQ0 hl l.length 0 (l.length+1) (by omega) (by omega) (by omega)
def bJ4{a:F6}(hl:a.length<=900):∀(n i fu:Nat),a.length-i=n->i<=a.length->n<fu->ad5 a a fu (i:Int)=some true
 |_,i,0,_,_,h=>by omega
 |0,i,fu+1,hn,hi,_=>by simp only[ad5,oM (show i=a.length by omega),G6]
 |n+1,i,fu+1,hn,hi,hf=>by
  have hi':i<a.length:=by omega
  simp only[ad5,nT hi',H9,aJ hi',F9,wrap_succ (n:=a.length) (by omega) hi',vC,G6];exact bJ4 hl n (i+1) fu (by omega) (by omega) (by omega)
def bJ5{a:F6}(hl:a.length<=900):aU1 a a=some true:=by
 show aU0 1000 a a=_;unfold aU0;rw[vC,G6];exact bJ4 hl a.length 0 1000 (by omega) (by omega) (by omega)
def bJ2{t:Tree}(h:Sm 900 t):∀(n i fu:Nat),t.Branches.length-i=n->i<=t.Branches.length->n<fu->ac7 t t fu (i:Int)=some true
 |_,i,0,_,_,h=>by omega
 |0,i,fu+1,hn,hi,_=>by simp only[ac7,oM (show i=t.Branches.length by omega),G6]
 |n+1,i,fu+1,hn,hi,hf=>by
  have hi':i<t.Branches.length:=by omega
  have hb:=h.b;have hk:=bJ5 (h.k _ (gK hi'));simp only[ac7,nT hi',H9,aJ hi',F9,wrap_succ (n:=t.Branches.length) (by omega) hi',yI,fG,G6,hk];exact bJ2 h n (i+1) fu (by omega) (by omega) (by omega)
def bJ3{t:Tree}(h:Sm 900 t):ac8 t t=some true:=by
 show aT3 1000 t t=_;unfold aT3;have hb:=h.b;rw[bJ5 h.r,F9,fG,G6,vC,G6];exact bJ2 h t.Branches.length 0 1000 (by omega) (by omega) (by omega)
def bD8{l:F5}{r:F6}{b:X8}{c:N7}{m:W9}{o x:Opn}(hl:l.length<=100)(hc:c.length<=l.length)(ho:o.Kind=6)(hf:JD o=some 0)
    (hlast:∀h:0<l.length,(l[l.length-1]'(by omega)).ID<o.ID/\(l[l.length-1]'(by omega)).Day<=o.Day) (hx:iP l o.Unit=some x):
    II l r b c m o=some (bif (x.Kind==1)&&((x.Origin.X3 !=0)&&(l.any λq=>cp l q&&(q.ID==x.ID)))then 21 else 0):=by
 have k1:(o.Kind==1)=false:=by rw[ho];rfl
 have k4:(o.Kind==4)=false:=by rw[ho];rfl
 have k5:(o.Kind==5)=false:=by rw[ho];rfl
 have k6:(o.Kind==6)=true:=by rw[ho];rfl
 have e5:∀v,v=false->NY l r b c m o v=some (bif (x.Kind==1)&&((x.Origin.X3 !=0)&&(l.any λq=>cp l q&&(q.ID==x.ID)))then 21 else 0):=λv hv=>by
  unfold NY;rw[hv,G6,k6,H9,bD9 (by omega),hx];simp only[F9,fG,G6,bD5 (show l.length<=900 by omega)];cases x.Kind==1 with
  |false=>rfl
  |true=>grind
 have e2:∀y z,NW l r b c m o y z=some (bif (x.Kind==1)&&((x.Origin.X3 !=0)&&(l.any λq=>cp l q&&(q.ID==x.ID)))then 21 else 0):=λy z=>by
  unfold NW TY;have hm:zI o=some false:=by
   obtain⟨q,hq,hg⟩:=XJ o;cases q with
   |false=>exact hq
   |true=>exact absurd (hg.1 rfl) (OG (by omega) (by omega))
  grind
 have e1:∀y,NV l r b c m o y=some (bif (x.Kind==1)&&((x.Origin.X3 !=0)&&(l.any λq=>cp l q&&(q.ID==x.ID)))then 21 else 0):=λy=>by
  unfold NV;obtain⟨z,hz,_⟩:=bN8 (l:=c) (by omega) o.Unit;rw[hz,F9,k1,G6];unfold ab5
  grind
 show II l r b c m o=_;unfold II CW;rw[F9,X0,fZ (by omega),G6,hf,F9];show(bif decide ((l.length:Int)>0)then _ else _)=_;by_cases h:0<l.length
 .obtain⟨h1,h2⟩:=hlast h;rw[aI (by omega),H9,oU (by unfold okI;omega),show(l.length:Int)-1=((l.length-1:Nat):Int) by omega,aJ (by omega),F9,fZ (by omega),G6,F9,fZ (by omega),G6];exact e1 _
 .grind
section
variable{l:F5}{t:Tree}{c:N7}{m:W9}{o x:Opn}
theorem co5(h:fH l t c m)(hl:l.length<=90)(ho:o.Kind=6)(hf:JD o=some 0)
 (hlast:∀h:0<l.length,(l[l.length-1]'(by omega)).ID<o.ID/\(l[l.length-1]'(by omega)).Day<=o.Day) (hx:iP l o.Unit=some x) (h1:x.Kind=1) (h2:x.Origin.X3≠0) (h3:cp l x=true):xR l o=some ([], -1,21):=by
 have e:=bD8 (r:=t.Q7) (b:=t.Branches) (m:=m) (by omega) (h.ki (by omega)).came ho hf hlast hx;have h4:(l.any λq=>cp l q&&(q.ID==x.ID))=true:=List.any_eq_true.2 ⟨x,(aK8 hx).1,by rw[h3];simp⟩;rw[h4,h1,show(x.Origin.X3 !=0)=true by simpa using h2]at e;refine be6 h (by omega) (show(21:Int)≠0 by decide) (x:=(m,l,t.Q7,t.Branches,c)) ?_;show rE l t.Q7 t.Branches c m o=_;unfold rE;rw[e];rfl
def bk8(h:fH l t c m)(hl:l.length<=90)(ho:o.Kind=6)(hf:JD o=some 0)
    (hlast:∀h:0<l.length,(l[l.length-1]'(by omega)).ID<o.ID/\(l[l.length-1]'(by omega)).Day<=o.Day) (hx:iP l o.Unit=some x) (hh:¬(x.Kind=1/\x.Origin.X3≠0)) {T:Tree} {a e:Int} (hr:rep (cp (l++[o])) 0 E0 (l++[o])=some (T,a,e)):
    (e≠0->xR l o=some ([],a,20))/\(e=0->xR l o=some (l++[o], -1,0)/\fH (l++[o]) T c m):=by
 have ef:=bD8 (r:=t.Q7) (b:=t.Branches) (m:=m) (by omega) (h.ki (by omega)).came ho hf hlast hx;have h0:(bif (x.Kind==1)&&((x.Origin.X3 !=0)&&(l.any λq=>cp l q&&(q.ID==x.ID)))then(21:Int)else 0)=0:=by grind
 rw[h0]at ef;have BZ:zI o=some false:=by
  obtain⟨q,hq,hg⟩:=XJ o;cases q with
  |false=>exact hq
  |true=>exact absurd (hg.1 rfl) (OG (by omega) (by omega))
 have k1:(o.Kind==1)=false:=by rw[ho];rfl
 have k6:(o.Kind==6)=true:=by rw[ho];rfl
 have ek:rE l t.Q7 t.Branches c m o=bif e !=0 then some (a,20,m,l,t.Q7,t.Branches,c)else some (-1,0,m,l++[o],T.Q7,T.Branches,c):=by
  show rE l t.Q7 t.Branches c m o=_;unfold rE;rw[ef,F9,JH (by omega),F9,aI (by simp;omega),k6,cg2 (by simp;omega),hr]
  grind
 refine⟨λhe=>?_,λhe=>?_⟩
 .rw[show(e !=0)=true by simpa using he,H9]at ek;exact be6 h (by omega) (by decide) ek
 .subst he;rw[vC,G6]at ek;exact⟨cd4 h (by omega) ek,.snoc h ek⟩
end
def bu6{i d k:Int}(hi:1<=i/\i<=1000)(hd:0<=d/\d<=1000)(hk:1<=k/\k<=1000):JD (⟨i,d,6,k,0,0,0,([]:Str),([]:Str),(⟨0,0,0⟩:Origin)⟩:Opn)=some 0:=by
 show JD _=_;unfold JD;have:JE (⟨i,d,6,k,0,0,0,([]:Str),([]:Str),(⟨0,0,0⟩:Origin)⟩:Opn)=some true:=by
  show JE _=_;unfold JE af7;simp only[ag5,F9]
  grind
 grind
section
variable{l:F5}{y:F6×Int}{k:Int}{p:Opn->Bool}
def cf0{t:Tree}{f:Int}(hl:l.length<=100)(hf:0<=f)(fu:Nat):∀(n i:Nat),l.length-i=n->i<=l.length->tV l y k (n+fu) f (i:Int) t.Q7 t.Branches=tV l y k fu f (l.length:Int) t.Q7 t.Branches
 |0,i,hn,hi=>by grind
 |n+1,i,hn,hi=>by
  have hi':i<l.length:=by omega
  rw[show n+1+fu=(n+fu)+1 by omega,tV];simp only[nT hi',H9,aJ hi',F9,wrap_succ (n:=l.length) (by omega) hi',aI (show f>=0 from hf)];exact cf0 hl hf fu n (i+1) (by omega) (by omega)
def ce9(hl:l.length<=100)(hp:∀o∈l,p o=(!(o.ID==k)&&cp l o))(hy:∀o∈l,vX y.1 o.ID=some (cp l o))(fu:Nat):∀(n i:Nat)(t:Tree)(T:Tree)(a e:Int),l.length-i=n->i<=l.length->rep p i t (l.drop i)=some (T,a,e)->(e≠0->0<=a)->
    ∃(t':Tree) (f:Int),tV l y k (n+fu) (-1) (i:Int) t.Q7 t.Branches=tV l y k fu f (l.length:Int) t'.Q7 t'.Branches/\(e=0->f= -1/\t'=T)/\(e≠0->f=a)
 |0,i,t,T,a,e,hn,hi,hr,ha=>by
  obtain rfl:i=l.length:=by omega
  rw[List.drop_length]at hr;cases hr
  grind
 |n+1,i,t,T,a,e,hn,hi,hr,ha=>by
  have hi':i<l.length:=by omega
  rw[zU hi']at hr;have hm:=gK hi';have hpo:=hp _ hm;have hyo:=hy _ hm;have ih:=λt T a e=>ce9 hl hp hy fu n (i+1) t T a e (by omega) (by omega);simp only[rep,hpo]at hr;rw[show n+1+fu=(n+fu)+1 by omega,tV];simp only[nT hi',H9,aJ hi',F9,wrap_succ (n:=l.length) (by omega) hi',fZ (show ¬((-1:Int)>=0) by decide),G6,hyo];cases h1:(l[i].ID==k)with
  |true=>grind
  |false=>
   rw[h1]at hr;simp only[Bool.not_false,rX]at hr;simp only[G6];cases h2:cp l l[i]with
   |false=>grind
   |true=>
    rw[h2]at hr;simp only[H9]at hr;simp only[fG,G6];obtain⟨z,hz,hr⟩:=bW hr;have hz':rH (⟨t.Q7,t.Branches⟩:Tree) l[i]=some z:=hz;rw[hz',F9];cases h3:z.2==0 with
    |true=>grind
    |false=>
     rw[h3]at hr;simp only[G6,aQ,dR]at hr;obtain⟨h4,h5,h6⟩:=hr;rw[show(z.2 !=0)=true by simp[bne,h3],H9];refine⟨t,(i:Int),cf0 hl (by omega) fu n (i+1) (by omega) (by omega),λh=>?_,λ_=>h5⟩
     grind
end
theorem do5{l:F5}(hl:l.length<=100)(k:Int):ah8 l (λz0=>bE2 z0 k)=some (idxOf (λo=>o.ID==k) l):=bY0 (by omega) λ_ _=>rfl
set_option maxRecDepth 4000 in
def topUndone.bE5(l:F5)(w:Int)(hl:l.length<=9223372036854775807)(hw:0<=w/\w<=255):cU4 l w=some true:=by
 show aR6 1000 l w=_;unfold aR6 CU;rw[F9,fG,G6];obtain⟨q,hq,hq'⟩:=bQ1 hl;rw[hq,F9];cases q with
 |false=>rfl
 |true=>
 have aN1:=hq' rfl;rw[fG,G6];obtain⟨g,hg,hG⟩:=bF6 aN1;obtain⟨⟨t,c,m,hK⟩,hlen,bA2⟩:=hG;have hI:=hK.ki (by omega);rw[hg,F9,JH (by omega),F9,dA8 hK (by omega),F9];show(bif (0:Int) !=0 then _ else _)=_;rw[vC,G6];generalize hcs:(g.filter (cp g)).map Opn.ID=cs;show(bif ((cs.map F8).length:Int)==0 then _ else _)=_;rw[X0];by_cases h0:cs.length=0
 .rw[h0];rfl
 have hcl:cs.length<=24:=by grind
 rw[oG (show(cs.length:Int)≠0 by omega),G6,fZ (by omega),G6,oU (by unfold okI;omega)];have hmod:Int.tmod w (cs.length:Int)=((w.toNat % cs.length:Nat):Int):=by grind
 have hlt:w.toNat % cs.length<cs.length:=Nat.mod_lt _ (by omega);rw[hmod,aJ hlt,F9];generalize hk:cs[w.toNat % cs.length]=k;have hkm:k∈cs:=hk▸gK hlt;rw[<-hcs]at hkm;obtain⟨x,hxf,hxk⟩:=jH.1 hkm;obtain⟨hxm,hxc⟩:=List.mem_filter.1 hxf;obtain⟨hx6,hxp⟩:=cx8 hxc;have hfx:iP g k=some x:=hxk▸cG3 hI.ids hxm hx6;have hgp:0<g.length:=List.length_pos_of_mem hxm;have hcon:∀o∈g,vX cs o.ID=some (cp g o):=λo ho=>by
  rw[ba0 (by omega)];congr 1;cases hb:cp g o with
  |true=>grind
  |false=>
   rw[ET];intro i hi he;rw[<-hcs]at hi;obtain⟨z,hz,rfl⟩:=jH.1 hi;obtain⟨hz1,hz2⟩:=List.mem_filter.1 hz;rw[<-ar2 hI.ids ho hz1 (by simpa using he),hb]at hz2;cases hz2
 have hlast:g.length-1<g.length:=by omega
 have hL:=bA2 _ (gK hlast);have hX:=bA2 _ hxm;generalize hz:g[g.length-1]=z at hL;have f1:=bu6 (i:=z.ID+1) (d:=z.Day) (k:=k) (by omega) (by omega) (by omega);have f2:=bu6 (i:=z.ID+2) (d:=z.Day) (k:=k) (by omega) (by omega) (by omega);generalize hu1:(⟨z.ID+1,z.Day,6,k,0,0,0,([]:Str),([]:Str),(⟨0,0,0⟩:Origin)⟩:Opn)=u1 at f1;generalize hu2:(⟨z.ID+2,z.Day,6,k,0,0,0,([]:Str),([]:Str),(⟨0,0,0⟩:Origin)⟩:Opn)=u2 at f2;have u16:u1.Kind=6:=by rw[<-hu1]
 have u26:u2.Kind=6:=by rw[<-hu2]
 have u1k:u1.Unit=k:=by rw[<-hu1]
 have u2k:u2.Unit=k:=by rw[<-hu2]
 have by7:∀h:0<g.length,(g[g.length-1]'(by omega)).ID<u1.ID/\(g[g.length-1]'(by omega)).Day<=u1.Day:=λ_=>by grind
 have cM7:∀h:0<(g++[u1]).length,((g++[u1])[(g++[u1]).length-1]'(by omega)).ID<u2.ID/\((g++[u1])[(g++[u1]).length-1]'(by omega)).Day<=u2.Day:=λ_=>by grind
 have hx1:iP g u1.Unit=some x:=by grind
 have hx2:iP (g++[u1]) u2.Unit=some x:=by
  rw[u2k];unfold iP at hfx⊢
  grind
 let p:Opn->Bool:=λo=> !(o.ID==k)&&cp g o
 have hpu:∀o∈g,cp (g++[u1]) o=p o:=λo ho=>by
  by_cases he:o.ID=k
  .have:o=x:=ar2 hI.ids ho hxm (he.trans hxk.symm);subst this;rw[cy0 u16 (he.trans u1k.symm) (by rw[u1k,<-hxk];exact hxp)];simp[p,he]
  .rw[cy1 u16 (by rw[u1k];exact he)]
   grind
 have hru:rep (cp (g++[u1])) 0 E0 (g++[u1])=rep p 0 E0 g:=by
  rw[aw3 (bq3 u16),aw2 _ _ _ hpu]
 obtain⟨⟨T,a,e⟩,hr,hr0,hr1⟩:=ae5 (p:=p) g 0 0 E0 bb7 (by omega);have cO8:=hru.trans hr;have hnn:e≠0->0<=a:=λhe=>by grind
 clear hr0 hr1;obtain⟨t',f,hloop,hl0,hl1⟩:=ce9 (l:=g) (y:=(cs,0)) (k:=k) (p:=p) (by omega) (λ_ _=>rfl) hcon (1000-g.length) g.length 0 E0 T a e rfl (by omega) (by rw[List.drop_zero];exact hr) hnn;rw[show g.length+(1000-g.length)=1000 by omega]at hloop;refine Eq.trans hloop ?_;obtain⟨N,hN⟩:∃N,1000-g.length=N+1:=⟨999-g.length,by omega⟩;rw[hN,tV];rw[oM rfl,G6,X0,oU (show okI ((g.length:Int)-1) by unfold okI;omega),show(g.length:Int)-1=((g.length-1:Nat):Int) by omega,aJ hlast,F9,hz,JH (by omega),F9,oU (show okI (z.ID+1) by unfold okI;omega),oU (show okI (z.ID+2) by unfold okI;omega),hu1,hu2];by_cases ZW:x.Kind=1/\x.Origin.X3≠0
 .rw[co5 hK (by omega) u16 f1 by7 hx1 ZW.1 ZW.2 hxc,F9];show(bif ((21:Int)==21)then _ else _)=_;rw[yI,H9,do5 (by omega),F9];obtain⟨j,hj,hje,hjp,_⟩:=NP (p:=λo:Opn=>o.ID==k) (l:=g) (List.any_eq_true.2 ⟨x,hxm,by simpa using hxk⟩);have hjx:g[j]=x:=ar2 hI.ids (gK hj) hxm ((by simpa using hjp:g[j].ID=k).trans hxk.symm);rw[hje,aI (by omega),H9,aJ hj,F9,hjx,ZW.1]
  grind
 .obtain⟨ha1,ha0⟩:=bk8 hK (by omega) u16 f1 by7 hx1 ZW cO8;by_cases he:e=0
  .obtain⟨rfl,rfl⟩:=hl0 he;obtain⟨hA,hK1⟩:=ha0 he;have hI1:=hK1.ki (by simp;omega);rw[hA,F9];show(bif ((0:Int)==21)then _ else bif decide ((-1:Int)>=0)then _ else _)=_;rw[show((0:Int)==21)=false from rfl,G6,show decide ((-1:Int)>=0)=false from rfl,G6,JH (by simp;omega),F9,aB6 hK1 (by simp;omega),F9];show(bif ((0:Int) !=0)then _ else bif ((0:Int) !=0)then _ else(ac8 t' t').bind _)=_;rw[vC,G6,G6,bJ3 ((hI1.sm (by simp;omega)).mono (by omega)),F9,fG,G6];have hr2:rep (cp (g++[u1]++[u2])) 0 E0 (g++[u1]++[u2])=some (t, -1,0):=by
    rw[aw3 (bq3 u26),aw3 (by unfold cp;rw[u16];rfl),aw2 _ _ _ λo _=>cx9 u16 u26 (u2k.trans u1k.symm) o];exact hI.fold
   obtain⟨hA2,hK2⟩:=(bk8 hK1 (by simp;omega) u26 f2 cM7 hx2 ZW hr2).2 rfl;rw[F9];show(xR (g++[u1]) u2).bind _=_;rw[hA2,F9];show(QF (g++[u1]++[u2])).bind _=_;rw[aB6 hK2 (by simp;omega),F9,F9,aB6 hK (by omega),F9];show(bif ((0:Int)==0)then bif ((0:Int)==0)then bif ((0:Int)==0)then(ac8 t t).bind _ else _ else _ else _)=_;rw[yI,H9,H9,H9,bJ3 ((hI.sm (by omega)).mono (by omega))];rfl
  .grind
def Ev(l:F5)(n:Nat)(t:Tree):Prop:=∃c m,fH (l.take n) t c m
def fH.pre{l:F5}{t:Tree}{c:N7}{m:W9}(h:fH l t c m):∀n,n<=l.length->∃t',Ev l n t':=by
 induction h with
 |nil=>exact λn hn=>⟨E0,[],[],by rw[List.take_nil];exact .nil⟩
 | @snoc l t c m t' c' m' o h ha ih=>
   intro n hn;rcases fJ l.length n with h1|h1
   .refine⟨t',c',m',?_⟩;rw[pF (by simp;omega)];exact .snoc h ha
   .obtain⟨T,c1,m1,h2⟩:=ih n h1;exact⟨T,c1,m1,by rw[sG h1];exact h2⟩
def fH.giv{l:F5}{t:Tree}{c:N7}{m:W9}(h:fH l t c m):l.length<=100->∀o∈l,jX o->∃n,n<=l.length/\∃t',Ev l n t'/\Has t' o.Unit o.Mark:=by
 induction h with
 |nil=>exact λ_ _ h=>by cases h
 | @snoc l t c m t' c' m' o h ha ih=>
   intro hl x hx hg;simp only[cO,List.length_singleton]at hl;rcases iY.1 hx with hx|hx
   .obtain⟨n,hn,T,⟨c1,m1,h1⟩,h2⟩:=ih (by omega) x hx hg;exact⟨n,by simp;omega,T,⟨c1,m1,by rw[sG hn];exact h1⟩,h2⟩
   .simp only[xZ]at hx;subst hx;refine⟨l.length+1,by simp,t',⟨c',m',?_⟩,?_⟩
    .rw[pF (by simp)];exact .snoc h ha
    .exact((aQ7 (by omega) (h.ki (by omega)) x).of ha rfl).2.2.2 hg
section
variable{l:F5}{t:Tree}{c:N7}{m:W9}
def cE9(h:fH l t c m)(hl:l.length<=100){n:Nat}{T:Tree}(hT:Ev l n T){u:Int}{s:Str}(hh:Has T u s):V5 m s=some u:=by
 obtain⟨c',m',hK⟩:=hT;have hlen:(l.take n).length<=100:=Y2 (by rw[Y1];omega) hl;have h1:=(hK.ki hlen).has (by omega) hh;obtain⟨o,ho,h2⟩:=((hK.ki hlen).own s u).1 h1;exact((h.ki hl).own s u).2 ⟨o,EY ho,h2⟩
def da1(h:fH l t c m)(hl:l.length<=100){u:Int}{s:Str}(hm:V5 m s=some u):∃n,n<=l.length/\∃T,Ev l n T/\Has T u s:=by
 obtain⟨o,ho,hg,rfl,rfl⟩:=((h.ki hl).own s u).1 hm;exact h.giv hl o ho hg
end
def fH.uniq{l:F5}{t:Tree}{c:N7}{m:W9}{t':Tree}{c':N7}{m':W9}(h:fH l t c m)(h':fH l t' c' m')(hl:l.length<=100):t=t':=by
 have e:=(QJ h hl).symm.trans (QJ h' hl);simp only[aQ,dR]at e;obtain⟨⟨_,e1,e2,_⟩,_⟩:=e;cases t;cases t'
 grind
def aS6{v:Int}{T:Tree}{z:Int}{k:Int->W9->U7}{w m:W9}(hb:T.Branches.length<=900)(hmk:uT (um T.Branches))(hF:∀u s,Has T u s->V5 m s=some u):
    ∀(n i fu:Nat)(w':W9)(q:List (Str×Bool)),T.Branches.length-i=n->i<=T.Branches.length->n<fu->(∀s b,V5 q s=some b->s≠[]/\∃p∈(um T.Branches).take i,p.2=s)->
    (w'.map Prod.fst).Nodup->(∀s u,V5 w' s=some u->V5 m s=some u)->(∀s u,V5 w' s=some u↔V5 w s=some u\/(s≠[]/\(u,s)∈(um T.Branches).take i))->
    ∃w'',CQ v (T,z) k fu (i:Int) w' q=k (IntKind.i64.wrap (v+1)) w''/\(w''.map Prod.fst).Nodup/\(∀s u,V5 w'' s=some u->V5 m s=some u)/\(∀s u,V5 w'' s=some u↔V5 w s=some u\/Has T u s)
 |_,i,0,_,_,_,_,h,_,_,_,_=>by omega
 |0,i,fu+1,w',q,hn,hi,_,hq,hnd,hf,hw=>by
  refine⟨w',?_,hnd,hf,λs u=>?_⟩
  .simp only[CQ,oM (show i=T.Branches.length by omega),G6]
  .rw[hw,pF (by rw[JX];omega)];rfl
 |n+1,i,fu+1,w',q,hn,hi,hfu,hq,hnd,hf,hw=>by
  have hi':i<T.Branches.length:=by omega
  have hiu:i<(um T.Branches).length:=by rw[JX];exact hi'
  have hui:(um T.Branches)[i]=(T.Branches[i].Unit.ID,T.Branches[i].Unit.Mark):=by simp[um]
  have htk:(um T.Branches).take (i+1)=(um T.Branches).take i++[(T.Branches[i].Unit.ID,T.Branches[i].Unit.Mark)]:=by rw[<-hui];exact(take_snoc hiu).symm
  simp only[CQ,nT hi',H9,aJ hi',F9,wrap_succ (n:=T.Branches.length) (by omega) hi'];generalize hB:T.Branches[i].Unit.Mark=s at*
  generalize T.Branches[i].Unit.ID=u at*
  by_cases hs:s=[]
  .rw[hs,yI,H9];refine aS6 hb hmk hF n (i+1) fu w' q (by omega) (by omega) (by omega) (λs' b h=>?_) hnd hf λs' u'=>?_
   .obtain⟨h1,p,hp,h2⟩:=hq s' b h
    grind
   .grind
  .rw[oG hs,G6];have hhas:Has T u s:=⟨hs,by rw[<-hui];exact gK hiu⟩;have hms:=hF u s hhas;have hqn:V5 q s=none:=by
    cases h:V5 q s with
    |none=>rfl
    |some b=>
     obtain⟨_,p,hp,h2⟩:=hq s b h;obtain⟨j,hj,hje⟩:=List.mem_take_iff_getElem.1 hp;have:=qM.1 hmk j i (by omega) hiu (by omega) (by rw[hui];exact hs)
     grind
   have next:∃w'',CQ v (T,z) k fu (((i+1:Nat)):Int) (aU w' s u) (aU q s true)=k (IntKind.i64.wrap (v+1)) w''/\(w''.map Prod.fst).Nodup/\(∀s u,V5 w'' s=some u->V5 m s=some u)/\(∀s u,V5 w'' s=some u↔V5 w s=some u\/Has T u s):=by
    refine aS6 hb hmk hF n (i+1) fu (aU w' s u) (aU q s true) (by omega) (by omega) (by omega) (λs' b h=>?_) (bH1 hnd _ _) (λs' u' h=>?_) λs' u'=>?_
    .rw[UH]at h;by_cases he:s'=s
     .grind
     .rw[oG he,G6]at h;obtain⟨h1,p,hp,h2⟩:=hq s' b h
      grind
    .rw[UH]at h
     grind
    .rw[UH,htk,iY,xZ,dR]
     grind
   have hlk:CW w' s 0=some ((V5 w' s).getD 0,(V5 w' s).isSome):=rfl;have hlq:rF q s false=some false:=by unfold rF;rw[hqn];rfl
   simp only[hlk,hlq,F9,G6];cases hu:V5 w' s with
   |none=>grind
   |some u'=>grind
def bE8{w:W9}{x:List Marking}{z:Int}(hl:x.length<=900)(hx:∀y∈x,V5 w y.Mark=some y.Unit):∀(n i fu:Nat),x.length-i=n->i<=x.length->n<fu->UC w (x,z) fu (i:Int)=some true
 |_,i,0,_,_,h=>by omega
 |0,i,fu+1,hn,hi,_=>by simp only[UC,oM (show i=x.length by omega),G6]
 |n+1,i,fu+1,hn,hi,hf=>by
  have hi':i<x.length:=by omega
  have hk:CW w x[i].Mark 0=some (x[i].Unit,true):=by unfold CW;rw[hx _ (gK hi')];rfl
  simp only[UC,nT hi',H9,aJ hi',F9,wrap_succ (n:=x.length) (by omega) hi',hk,fG,G6,vC];exact bE8 hl hx n (i+1) fu (by omega) (by omega) (by omega)
theorem dA9{l:F5}{t:Tree}{c:N7}{m:W9}(h:fH l t c m)(hl:l.length<=100):aB5 l=some (PW (m.map λp=>⟨p.1,p.2⟩),0):=by
 have hI:=h.ki hl;have hml:=hI.ml;unfold aB5;rw[QJ h hl,F9];simp only[yI,rX];rw[aI (show m.length<=4000 by omega),aI hI.nd];rfl
structure OW(l:List Opn)(m w:List (Str×Int))(n:Nat):Prop where
 nd:(w.map Prod.fst).Nodup
 sub:∀s u,V5 w s=some u->V5 m s=some u
 iff:∀s u,V5 w s=some u↔∃j,j<n/\∃T,Ev l j T/\Has T u s
def bH2{l:F5}{t:Tree}{c:N7}{m:W9}(h:fH l t c m)(hl:l.length<=24):∀(k n fu:Nat)(w:W9),l.length+1-n=k->n<=l.length+1->k<fu->OW l m w n->IJ l 1000 fu (n:Int) w=some true
 |_,n,0,_,_,_,h,_=>by omega
 |0,n,fu+1,w,hk,hn,_,ho=>by
  have hI:=h.ki (by omega);have hml:=hI.ml;obtain rfl:n=l.length+1:=by omega
  have e:∀s,V5 w s=V5 m s:=λs=>by
   cases hm:V5 m s with
   |some u=>
    obtain⟨j,hj,T,h1,h2⟩:=da1 h (by omega) hm;exact(ho.iff s u).2 ⟨j,by omega,T,h1,h2⟩
   |none=>
    cases hw:V5 w s with
    |none=>rfl
    |some u=>rw[ho.sub s u hw]at hm;cases hm
  have hlen:=cZ1 ho.nd hI.nd e;have hp:(PW (m.map λp=>(⟨p.1,p.2⟩:Marking))).Perm (m.map λp=>(⟨p.1,p.2⟩:Marking)):=List.mergeSort_perm _ _;have hpl:=hp.length_eq;rw[X0]at hpl;simp only[IJ];rw[X0,oU (by unfold okI;omega),fZ (by omega),G6,JH (by omega),F9,dA9 h (by omega),F9];simp only[vC,G6,X0,hpl,hlen]
  exact bE8 (by omega) (λy hy=>by
   have:=hp.mem_iff.1 hy;obtain⟨p,hp,rfl⟩:=jH.1 this;rw[e]
   exact cY9 hI.nd hp) _ 0 1000 rfl (by omega) (by omega)
 |k+1,n,fu+1,w,hk,hn,hf,ho=>by
  have hnl:n<=l.length:=by omega
  obtain⟨T,cT,mT,hT⟩:=h.pre n hnl;have htl:(l.take n).length<=24:=Y2 (by rw[Y1];omega) hl;have hIT:=hT.ki (by omega);have hsm:=hIT.sm (by omega);simp only[IJ];rw[X0,oU (show okI ((l.length:Int)+1) by unfold okI;omega),aI (by omega),H9,bb5 hnl,F9,JH (by omega),F9,aB6 hT (by omega),F9];simp only[vC,G6];obtain⟨w'',e,h1,h2,h3⟩:=aS6 (v:=(n:Int)) (T:=T) (z:=0) (k:=λae2 ae3=>IJ l 1000 fu ae2 ae3) (w:=w) (m:=m) (by have:=hsm.b;omega) (hIT.UJ (by omega)) (λu s hh=>cE9 h (by omega) ⟨cT,mT,hT⟩ hh) T.Branches.length 0 1000 w [] (by omega) (by omega) (by have:=hsm.b;omega) (λs b h=>by cases h) ho.nd ho.sub (λs u=>by simp);refine Eq.trans e ?_;rw[oU (by unfold okI;omega)];refine bH2 h hl k (n+1) fu w'' (by omega) (by omega) (by omega) ⟨h1,h2,λs u=>?_⟩;rw[h3,ho.iff];constructor
  .rintro(⟨j,hj,h4⟩|hh)
   .grind
   .exact⟨n,by omega,T,⟨cT,mT,hT⟩,hh⟩
  .rintro⟨j,hj,T',⟨c',m',h4⟩,h5⟩;rcases fJ j n with h6|h6
   .exact .inl ⟨j,h6,T',⟨c',m',h4⟩,h5⟩
   .obtain rfl:j=n:=by omega
    rw[hT.uniq h4 (by omega)]
    grind
def topMarksUnique.bE5(l:F5)(hl:l.length<=9223372036854775807):bE1 l=some true:=by
 show as1 1000 l=_;unfold as1 CU;rw[F9,fG,G6];obtain⟨q,hq,hq'⟩:=bQ1 hl;rw[hq,F9];cases q with
 |false=>rfl
 |true=>
  have aN1:=hq' rfl;rw[fG,G6];obtain⟨g,hg,⟨t,c,m,hK⟩,hlen,_⟩:=bF6 aN1;rw[hg,F9];exact bH2 hK hlen (g.length+1) 0 1000 [] (by omega) (by omega) (by omega) ⟨.nil,λs u h=>(by cases h),λs u=>⟨λh=>(by cases h),λ⟨j,hj,_⟩=>by omega⟩⟩
end
section
def topMarksUnique.law(l:F5)(h:aV8 l):bE1 l=some true:=topMarksUnique.bE5 l h.1
end
end Go.Proofs.YtibiibjbmhckgaaGreatDoor
