import Derived.Test.YtibiibjbmhckgaaGreatDoorQ3
import Derived.Maps.RangeRun
import Derived.Deep.AppendSrc
set_option linter.unusedVariables false
set_option linter.unusedSimpArgs false
set_option linter.defProp false
section
namespace Go.Ev
open Go Go.F7
noncomputable section
def allB{α:Type}(f:α->Bool)(l:List α):Bool:=List.rec (motive:=λ_=>Bool) true (λx _ ih=>bq (f x) ih false) l
abbrev dB:=Env->St->RO
def partT(t:Nat)(cs:J7)(o:Nat):pK:=oB (co6 I7 t) λg=>bq g (oB (sizeT I7 t) λn=>oB (uN n (qX o cs)) λl=>some (.g l)) (BM cs o)
def iU(s:St)(b:Nat)(k:Nat->J7->RO):RO:=oR (s.1.get (pa b)) λo=>bg7 o k
def oN(o:AO)(mk:Nat->AV)(s:St):RO:=St.rec (motive:=λ_=>RO) (λh nx ro=>fN nx λnx=>.one (mk nx) ⟨h.set (pa nx) (some o),Nat.succ nx,ro⟩) s
def setH(s:St)(b:Nat)(x:Option AO)(K:St->RO):RO:=St.rec (motive:=λ_=>RO) (λh nx ro=>bR (Nat.ble ro b) (K ⟨h.set (pa b) x,nx,ro⟩)) s
def af4(b o:Nat)(s:St):RO:=fN o λo=>.one (.p b o) s
def af0(k:IntKind)(n:Nat)(s:St):RO:=fN n λn=>.one (.n k n) s
def DL(x:Operand):dB:=λe s=>oR (look x e) λa=>.one a s
def VL(c a b:Operand):dB:=λe s=>oR (look c e) λc=>aj6 c (oR (look a e) λa=>.one a s) (oR (look b e) λa=>.one a s)
def aV9(t:Nat):dB:=λ_ s=>oR (QW I7 t) λz=>oN (.c t z) (λb=>.p b 0) s
def UQ(t:Nat)(x:Operand):dB:=λe s=>oR (look x e) λa=>oN (.c t (cellsOf a)) (λb=>.p b 0) s
def DU(at':Nat->FH)(ps:KU):Env->J7->wF:=
 List.rec (motive:=λ_=>Env->J7->wF) (λ_ z=>some z)
  (λx _ ih e z=>oB (at' x.1) λw=>oB (look x.2 e) λa=>bg (Nat.beq (dM (cellsOf a)) w.2) (bg (Nat.ble 1 w.2) (oB (xG w.1 (cellsOf a) z) λz=>ih e z))) ps
def fieldAt(t k:Nat):FH:=oB (bt5 I7 t k) λw=>oB (sizeT I7 w.2) λn=>some (w.1,n)
def elemAt(n i:Nat):FH:=some (Nat.mul i n,n)
def cu4(t:Nat):Option (Nat->Option (Nat×Nat)):=oB (I7 t) λi=>match i.desc with
 |.struct fs=>bg (allB (λf=>(I7 f.type).isSome) fs.toList) (some (fieldAt t))
 |.array _ el=>oB (sizeT I7 el) λn=>some (elemAt n)
 |_=>none
def UR(t:Nat)(ps:zY):dB:=λe s=>oR (cu4 t) λw=>oR (QW I7 t) λz=>oR (DU w ps.toList e z) λz=>.one (.g z) s
def IX(t n:Nat)(ps:zY):dB:=λe s=>oR (WO I7 t) λel=>oR (I7 el) λi=>
 bR (Nat.ble n 4096) (bR (Nat.ble i.size 256) (bR (Nat.ble 1 i.size) (oR (XP i n) λz=>oR (DU (elemAt i.size) ps.toList e z) λz=>oN (.c el z) (λb=>.s b 0 n (some n)) s)))
def VF(t:Nat)(x:Operand):dB:=λe s=>oR (look x e) λa=>oP a λb o=>iU s b λ_ cs=>oR (partT t cs o) λv=>.one v s
def VP(t:Nat)(x y:Operand):dB:=λe s=>oR (look x e) λa=>oR (look y e) λv=>oR (sizeT I7 t) λn=>oP a λb o=>bR (Nat.beq (dM (cellsOf v)) n) (bR (Nat.ble 1 n) (iU s b λel cs=>
 oR (xG o (cellsOf v) cs) λcs=>setH s b (some (.c el cs)) λs=>.one un s))
def bL9(a:AV):Bool:=match a with
 |.p _ _=>true
 |.f _ _ _=>true
 |.y _=>true
 |_=>false
def VK(x:Operand):dB:=λe s=>oR (look x e) λa=>bR (bL9 a) (.one a s)
def lim:IntKind->Nat
 |.i8=>0x80
 |.i16=>0x8000
 |.i32=>0x80000000
 |.i64=>0x8000000000000000
 |.u8=>0x100
 |.u16=>0x10000
 |.u32=>0x100000000
 |.u64=>0x10000000000000000
def fK:IntKind->Nat
 |.i8=>0
 |.i16=>1
 |.i32=>2
 |.i64=>3
 |.u8=>4
 |.u16=>5
 |.u32=>6
 |.u64=>7
def ofV(v:Value):Option AV:=match v with
 |.int k i=>some (fI k i id)
 |.bool b=>some (fQ b id)
 |_=>none
def nD(op:BinOp)(k:IntKind)(a b:Int):Option AV:=match op with
 |.shr=>bq (decide (0<=b)) (some (fI k (a.fdiv (2^(min b.toNat k.bits))) id)) none
 |.shl=>bq (decide (0<=b)) (some (fI k (k.wrap (a*2^(min b.toNat k.bits))) id)) none
 |.quo=>bq (decide (b=0)) none (some (fI k (k.wrap (a.tdiv b)) id))
 |.rem=>bq (decide (b=0)) none (some (fI k (a.tmod b) id))
 |op=>oB (tK op k a b) ofV
def aa9(op:BinOp):Bool:=BinOp.rec (motive:=λ_=>Bool) false false false false false false false false true true false false false false false false false op
abbrev NK:=IntKind->Nat->Nat->pK
def c06:NK:=λk a b=>bq (Nat.blt (Nat.add a b) (lim k)) (fN (Nat.add a b) λn=>some (.n k n)) (nD .add k (.ofNat a) (.ofNat b))
def c30:NK:=λk a b=>bq (Nat.ble b a) (bq (Nat.blt a (lim k)) (fN (Nat.sub a b) λn=>some (.n k n)) (nD .sub k (.ofNat a) (.ofNat b))) (nD .sub k (.ofNat a) (.ofNat b))
def rQ(b:Bool):pK:=bq b (some (.q true)) (some (.q false))
def c07:NK:=λ_ a b=>rQ (Nat.beq a b)
def c27:NK:=λ_ a b=>bq (Nat.beq a b) (some (.q false)) (some (.q true))
def c26:NK:=λ_ a b=>rQ (Nat.blt a b)
def c22:NK:=λ_ a b=>rQ (Nat.ble a b)
def c09:NK:=λ_ a b=>rQ (Nat.blt b a)
def c08:NK:=λ_ a b=>rQ (Nat.ble b a)
def CX(op:BinOp):NK:=λk a b=>nD op k (.ofNat a) (.ofNat b)
def aF4(op:BinOp):NK:=BinOp.rec (motive:=λ_=>NK) c06 c30 (CX .mul) (CX .quo) (CX .rem) (CX .and) (CX .or) (CX .xor) (CX .shl) (CX .shr) (CX .andNot) c07 c27 c26 c22 c09 c08 op
def bn0(op:BinOp)(a b:List Nat):Option AV:=match op with
 |.add=>bq (Nat.ble (Nat.add (dM a) (dM b)) 1000000) (some (fL (fV a b) .str)) none
 |.eql=>rQ (BH a b)
 |.neq=>bq (BH a b) (some (.q false)) (some (.q true))
 |.lss=>rQ (UE a b)
 |.leq=>bq (UE b a) (some (.q false)) (some (.q true))
 |.gtr=>rQ (UE b a)
 |.geq=>bq (UE a b) (some (.q false)) (some (.q true))
 |_=>none
def bm9(op:BinOp)(a b:Bool):Option AV:=match op with
 |.eql=>rQ (bq a b (bq b false true))
 |.neq=>rQ (bq a (bq b false true) b)
 |_=>none
def eqT(t:Nat)(a b:AV):Option Bool:=oB (I7 t) λi=>match i.desc,a,b with
 |.slice _,.ns,.ns=>some true
 |.slice _,.ns,.s _ _ _ _=>some false
 |.slice _,.s _ _ _ _,.ns=>some false
 |.map _ _,.nm,.nm=>some true
 |.map _ _,.nm,.m _=>some false
 |.map _ _,.m _,.nm=>some false
 |.func _ _ _,.nf,.nf=>some true
 |.func _ _ _,.nf,.f _ _ _=>some false
 |.func _ _ _,.f _ _ _,.nf=>some false
 |.pointer _,.np,.np=>some true
 |.pointer _,.np,.p _ _=>some false
 |.pointer _,.p _ _,.np=>some false
 |.pointer el,.p x i,.p y j=>oB (sizeT I7 el) λz=>bg (Nat.ble 1 z) (bg (Nat.beq x y) (bg (Nat.beq i j) (some true)))
 |_,_,_=>none
def YJ(x y:AV):Option Bool:=match x,y with
    |.n k a,.n j b=>bq (Nat.beq (fK k) (fK j)) (some (Nat.beq a b)) none
    |.str a,.str b=>some (BH a b)
    |.q a,.q b=>some (bq a b (bq b false true))
    |_,_=>none
def ZH(a:J7):J7->U7:=List.rec (motive:=λ_=>J7->U7) (λb=>List.rec (motive:=λ_=>U7) (some true) (λ_ _ _=>none) b)
 (λx _ ih b=>List.rec (motive:=λ_=>U7) none (λy r _=>oB (YJ x y) λq=>bq q (ih r) (some false)) b) a
def aQ1(t:Nat):Bool:=match I7 t with|some { desc:=.bool, .. }=>true|_=>false
def dJ(t:Nat)(op:BinOp)(a b:AV):Option AV:=match a,b with
 |.n k a,.n j b=>bq (aa9 op) (nD op k (.ofNat a) (.ofNat b)) (bq (Nat.beq (fK k) (fK j)) (nD op k (.ofNat a) (.ofNat b)) none)
 |.n k a,.neg j b=>bq (Nat.beq (fK k) (fK j)) (nD op k (.ofNat a) (.negSucc b)) none
 |.neg k a,.n j b=>bq (Nat.beq (fK k) (fK j)) (nD op k (.negSucc a) (.ofNat b)) none
 |.neg k a,.neg j b=>bq (Nat.beq (fK k) (fK j)) (nD op k (.negSucc a) (.negSucc b)) none
 |.str a,.str b=>bn0 op a b
 |.q a,.q b=>bg (aQ1 t) (bm9 op a b)
 |a,b=>match op with
  |.eql=>oB (eqT t a b) rQ
  |.neq=>oB (eqT t a b) λq=>bq q (some (.q false)) (some (.q true))
  |_=>none
def ct4(j:IntKind)(y:Nat)(k:IntKind)(x:Nat)(t:Nat)(op:BinOp)(a b:AV):pK:=bq (Nat.beq (fK k) (fK j)) (aF4 op k x y) (dJ t op a b)
def ct3(k:IntKind)(x:Nat)(t:Nat)(op:BinOp)(a b:AV):pK:=
 AV.rec (motive_1:=λ_=>IntKind->Nat->Nat->BinOp->AV->AV->pK) (motive_2:=λ_=>Unit) ct4
  (λ_ _ _ _=>dJ) (λ_ _ _=>dJ) (λ_ _ _=>dJ) (λ_ _=>dJ) (λ_ _=>dJ) (λ_ _=>dJ) (λ_ _=>dJ) (λ_ _=>dJ)
  (λ_ _ _ _=>dJ) (λ_ _ _ _ _ _=>dJ) (λ_ _ _=>dJ) (λ_ _ _ _ _ _ _=>dJ) (λ_ _ _=>dJ) (λ_ _ _ _=>dJ) (λ_ _ _ _=>dJ) () (λ_ _ _ _=>()) b k x t op a b
def bm8(t:Nat)(op:BinOp)(a b:AV):pK:=
 AV.rec (motive_1:=λ_=>Nat->BinOp->AV->AV->pK) (motive_2:=λ_=>Unit) ct3
   (λ_ _=>dJ) (λ_=>dJ) (λ_=>dJ) dJ dJ dJ dJ dJ
   (λ_ _=>dJ) (λ_ _ _ _=>dJ) (λ_=>dJ) (λ_ _ _ _ _=>dJ) (λ_=>dJ) (λ_ _=>dJ) (λ_ _=>dJ) () (λ_ _ _ _=>()) a t op a b
def UO(op:BinOp)(t:Nat)(x y:Operand)(_:Nat):dB:=λe s=>oR (look x e) λa=>oR (look y e) λb=>oR (bm8 t op a b) λr=>.one r s
def unA(op:UnOp)(a:AV):Option AV:=match op,a with
 |.not,.q b=>bq b (some (.q false)) (some (.q true))
 |.neg,.n k n=>some (fI k (k.wrap (0 - .ofNat n)) id)
 |.neg,.neg k n=>some (fI k (k.wrap (0 - .negSucc n)) id)
 |_,_=>none
def VQ(op:UnOp)(_:Nat)(x:Operand):dB:=λe s=>oR (look x e) λa=>oR (unA op a) λr=>.one r s
def aH4(d:Nat)(a:AV):Option AV:=match I7 d,a with
 |some { desc:=.int k, .. },.n _ n=>bq (Nat.blt n (lim k)) (some (.n k n)) (some (fI k (k.wrap (.ofNat n)) id))
 |some { desc:=.int k, .. },.neg _ n=>some (fI k (k.wrap (.negSucc n)) id)
 |some { desc:=.string, .. },.str s=>some (.str s)
 |_,_=>none
def ao3(sr d b o:Nat)(s:St):RO:=oR (I7 sr) λi=>oR (I7 d) λj=>match i.desc,j.desc with
 |.pointer t,.unsafePointer=>oR (sizeT I7 t) λz=>bR (Nat.ble 1 z) (iU s b λ_ cs=>bR (Nat.blt o (dM cs)) (.one (.p b o) s))
 |.unsafePointer,.pointer t=>oR (sizeT I7 t) λz=>bR (Nat.ble 1 z) (iU s b λel cs=>bR (Nat.beq el mM) (bR (Nat.beq t am1) (bR (Nat.beq o 0) (bR (Nat.ble 2 (dM cs)) (.one (.p b o) s)))))
 |_,_=>.no
def ao4(sr d:Nat)(a:AV)(s:St):RO:=match a with
 |.p b o=>ao3 sr d b o s
 |a=>oR (I7 sr) λ_=>oR (aH4 d a) λr=>.one r s
def UU(sr d:Nat)(x:Operand):dB:=λe s=>oR (look x e) λa=>ao4 sr d a s
def VH(g:Fn)(fs cs:Array Operand):dB:=λe s=>match g with
 |.func f=>oR (tX fs.toList e) λfs=>oR (tX cs.toList e) λcs=>.one (.f f fs cs) s
 |_=>.no
def aW0(_:Nat)(r:zZ):dB:=λ_ s=>Option.rec (motive:=λ_=>RO) (oN (.m []) .m s) (λ_=>.no) r
def UK(a:AV):E8:=match a with|.n _ n=>some n|_=>none
def DN(o:Option Operand)(e:Env):Option (Option AV):=match o with
 |none=>some none
 |some o=>oB (look o e) λa=>some (some a)
def mxA(len:Nat)(cap:Option Nat)(mx:Option AV):Option (Option Nat):=match mx with
 |none=>some cap
 |some v=>oB (UK v) λm=>bg (match cap with|some c=>Nat.ble m c|none=>Nat.ble m len) (some (some m))
def orA(d:Nat)(x:Option AV):Option Nat:=match x with
 |none=>some d
 |some v=>UK v
def YH(len:Nat)(cap:E8)(lo hi mx:pK):Option (Nat×Nat×E8):=oB (mxA len cap mx) λm=>oB (orA len hi) λh=>
 bg (match m with|some m=>Nat.ble h m|none=>Nat.ble h len) (oB (orA 0 lo) λl=>bg (Nat.ble l h) (some (l,h,m)))
def af6(b o l:Nat)(c:Option Nat)(s:St):RO:=fN o λo=>fN l λl=>match c with
 |none=>.one (.s b o l none) s
 |some c=>fN c λc=>.one (.s b o l (some c)) s
def rowIs(el:Nat)(b:Nat)(c:Option Nat)(s:St)(k:RO):RO:=match c with
 |some _=>k
 |none=>iU s b λfB _=>bR (Nat.beq el fB) k
def atEnd(l:Nat)(m:Option Nat):Bool:=match m with
 |some m=>Nat.beq m l
 |none=>false
def ay6(t:Nat)(a:AV)(lo hi mx:Option AV)(s:St):RO:=match I7 t,a,mx with
 |some { desc:=.string, .. },.str l,none=>oR (YH (dM l) (some (dM l)) lo hi none) λw=>oR (uN (Nat.sub w.2.1 w.1) (qX w.1 l)) λr=>.one (.str r) s
 |some { desc:=.slice el, .. },.s b o n c,mx=>oR (sizeT I7 el) λz=>oR (YH n c lo hi mx) λw=>rowIs el b c s
  (af6 b (bq (atEnd w.1 w.2.2) o (Nat.add o (Nat.mul w.1 z))) (Nat.sub w.2.1 w.1) (w.2.2.map λm=>Nat.sub m w.1) s)
 |some { desc:=.slice el, .. },.ns,mx=>oR (sizeT I7 el) λ_=>oR (YH 0 (some 0) lo hi mx) λ_=>.one .ns s
 |some { desc:=.array n el, .. },.p b o,none=>oR (sizeT I7 el) λz=>oR (YH n (some n) lo hi none) λw=>
  af6 b (bq (atEnd w.1 w.2.2) o (Nat.add o (Nat.mul w.1 z))) (Nat.sub w.2.1 w.1) (w.2.2.map λm=>Nat.sub m w.1) s
 |_,_,_=>.no
def bL8(hi mx:Option Operand):Bool:=match hi,mx with
 |none,some _=>false
 |_,_=>true
def VO(t:Nat)(x:Operand)(lo hi mx:zZ):dB:=λe s=>bR (bL8 hi mx) (oR (look x e) λa=>oR (DN lo e) λlo=>oR (DN hi e) λhi=>oR (DN mx e) λmx=>ay6 t a lo hi mx s)
def VB(t:Nat)(x:Operand)(k:Nat):dB:=λe s=>oR (look x e) λa=>oR (fieldAt t k) λw=>bR (Nat.ble 1 w.2) (oP a λb o=>af4 b (Nat.add o w.1) s)
def EM(a:AV)(k:J7->RO):RO:=match a with|.g cs=>k cs|_=>.no
def VA(t:Nat)(x:Operand)(k:Nat):dB:=λe s=>oR (look x e) λa=>oR (bt5 I7 t k) λw=>EM a λcs=>oR (partT w.2 cs w.1) λr=>.one r s
def bF0(t:Nat):E8:=oB (I7 t) λi=>match i.desc with|.array n _=>some n|_=>none
def VE(t:Nat)(x i:Operand):dB:=λe s=>oR (look x e) λa=>oR (look i e) λi=>oR (bs4 I7 t) λw=>oR (sizeT I7 w.2) λz=>EN i λ_ n=>
 bq w.1 (XL a λb o l _=>bR (Nat.blt n l) (af4 b (Nat.add o (Nat.mul n z)) s)) (oR (bF0 t) λl=>oP a λb o=>bR (Nat.blt n l) (af4 b (Nat.add o (Nat.mul n z)) s))
def VD(t:Nat)(x i:Operand):dB:=λe s=>oR (look x e) λa=>oR (look i e) λi=>EN i λ_ n=>bq (aQ4 I7 t) (match a with
    |.str l=>oR (BM l n) λc=>.one (.n .u8 c) s
    |_=>.no)
 (oR (bF0 t) λl=>oR (bs4 I7 t) λw=>oR (sizeT I7 w.2) λz=>EM a λcs=>bR (Nat.blt n l) (oR (partT w.2 cs (Nat.mul n z)) λr=>.one r s))
def ab3(a b:AV):Option Bool:=match a,b with
 |.g a,.g b=>ZH a b
 |.n k a,.n j b=>bq (Nat.beq (fK k) (fK j)) (some (Nat.beq a b)) none
 |.str a,.str b=>some (BH a b)
 |_,_=>none
def BA(t:Nat)(c:AV):Bool:=match I7 t,c with
 |some { desc:=.int _, .. },.n _ _=>true
 |some { desc:=.string, .. },.str _=>true
 |some { desc:=.bool, .. },.q _=>true
 |_,_=>false
def MK(fs:List Field):Nat->J7->Bool:=List.rec (motive:=λ_=>Nat->J7->Bool) (λ_ l=>List.rec (motive:=λ_=>Bool) true (λ_ _ _=>false) l)
 (λf _ ih i l=>List.rec (motive:=λ_=>Bool) false (λc r _=>bq (Nat.beq f.offset i) (bq (decide (f.name= "_")) false (bq (BA f.type c) (ih (Nat.succ i) r) false)) false) l) fs
def yN(kt:Nat)(d:TypeDesc)(k:AV):Bool:=match d,k with
 |.int _,.n _ _=>true
 |.string,.str _=>true
 |.struct fs,.g cs=>bq (MK fs.toList 0 cs) (WL kt) false
 |_,_=>false
def ab4(t:Nat)(k:AV):Bool:=match I7 t with
 |some { desc:=.map kt _, .. }=>(match I7 kt with|some i=>yN kt i.desc k|none=>false)
 |_=>false
def cg5(t:Nat):E8:=oB (I7 t) λi=>match i.desc with|.map _ et=>some et|_=>none
def ZI(k:AV)(l:kS):Option (Option (Nat×AV)):=
 List.rec (motive:=λ_=>Nat->Option (Option (Nat×AV))) (λ_=>some none) (λx _ ih i=>oB (ab3 k x.1) λq=>bq q (some (some (i,x.2))) (ih (Nat.succ i))) l 0
def jV(l:kS)(n:Nat)(x:AV×AV):kS:=List.rec (motive:=λ_=>Nat->kS) (λ_=>[]) (λy r ih n=>Nat.rec (motive:=λ_=>kS) (x::r) (λn _=>y::ih n) n) l n
def mapOf(h:Hp)(m:AV):Option (List (AV×AV)):=match m with
 |.m b=>(match h.get (pa b)with|some (.m es)=>some es|_=>none)
 |.nm=>some []
 |_=>none
def VG(t:Nat)(m k:Operand)(ok:Bool):dB:=λe s=>oR (look m e) λm=>oR (look k e) λk=>bR (ab4 t k) (oR (cg5 t) λvt=>oR (mapOf s.1 m) λes=>oR (ZI k es) λr=>match r with
 |some w=>.one (bq ok (.t [w.2,.q true]) w.2) s
 |none=>oR (QW I7 vt) λz=>oR (partT vt z 0) λv=>.one (bq ok (.t [v,.q false]) v) s)
def OI(s:St)(m:AV)(k:Nat->List (AV×AV)->RO):RO:=match m with
 |.m b=>(match s.1.get (pa b)with|some (.m es)=>k b es|_=>.no)
 |_=>.no
def yZ(t:Nat)(m k v:Operand):dB:=λe s=>oR (look m e) λm=>oR (look k e) λk=>oR (look v e) λv=>bR (ab4 t k) (OI s m λb es=>oR (ZI k es) λr=>
 fL (match r with|some w=>jV es w.1 (k,v)|none=>fV es [(k,v)]) λes=>setH s b (some (.m es)) λs=>.one un s)
def VI(t:Nat)(m k:Operand):dB:=λe s=>oR (look m e) λm=>oR (look k e) λk=>bR (ab4 t k) (oR (cg5 t) λvt=>OI s m λb es=>oR (ZI k es) λr=>match r with
 |some w=>fL (jV es w.1 (k,w.2)) λes'=>setH s b (some (.m es')) λs=>fN w.1 λj=>.one (.t [w.2,.n .i64 j]) s
 |none=>oR (QW I7 vt) λz=>oR (partT vt z 0) λv=>fL (fV es [(k,v)]) λes'=>setH s b (some (.m es')) λs=>fN (dM es) λj=>.one (.t [v,.n .i64 j]) s)
def UY(_:Nat)(m st v:Operand):dB:=λe s=>oR (look m e) λm=>oR (look st e) λst=>oR (look v e) λv=>OI s m λb es=>EN st λ_ j=>oR (BM es j) λx=>
 fL (jV es j (x.1,v)) λes=>setH s b (some (.m es)) λs=>.one un s
def VN(t:Nat)(x:Operand):dB:=λe s=>oR (look x e) λa=>oR (I7 t) λi=>match i.desc,a with
 |.string,.str l=>oN (.si l 0) (λb=>.p b 0) s
 |.map _ _,.m b=>(match s.1.get (pa b)with|some (.m es)=>fN (dM es) λn=>oN (.mi b [] n) (λb=>.p b 0) s|_=>.no)
 |_,_=>.no
def RX(a b:AV):Bool:=match a,b with
 |.n k a,.n j b=>bq (Nat.beq (fK k) (fK j)) (Nat.beq a b) false
 |.neg k a,.neg j b=>bq (Nat.beq (fK k) (fK j)) (Nat.beq a b) false
 |.q a,.q b=>bq a b (bq b false true)
 |.str a,.str b=>BH a b
 |.ns,.ns=>true
 |.np,.np=>true
 |.nm,.nm=>true
 |.nf,.nf=>true
 |.ni,.ni=>true
 |_,_=>false
def al5(a:J7):J7->Bool:=List.rec (motive:=λ_=>J7->Bool) (λb=>List.rec (motive:=λ_=>Bool) true (λ_ _ _=>false) b)
 (λx _ ih b=>List.rec (motive:=λ_=>Bool) false (λy r _=>bq (RX x y) (ih r) false) b) a
def an8:CI->CI->Bool
 |.v x,.v y=>RX x y
 |.s e l xs,.s f m ys=>bq (Nat.beq e f) (bq (Nat.beq l m) (al5 xs ys) false) false
 |_,_=>false
def YM(a:A):A->Bool:=List.rec (motive:=λ_=>A->Bool) (λb=>List.rec (motive:=λ_=>Bool) true (λ_ _ _=>false) b)
 (λx _ ih b=>List.rec (motive:=λ_=>Bool) false (λy r _=>bq (an8 x y) (ih r) false) b) a
def UG(x:Nat)(l:O1):Bool:=List.rec (motive:=λ_=>Bool) false (λy _ ih=>bq (Nat.beq x y) true ih) l
def leftOf(seen:O1)(es:kS):List (Nat×AV×AV):=
 List.rec (motive:=λ_=>Nat->List (Nat×AV×AV)) (λ_=>[]) (λx _ ih i=>bq (UG i seen) (ih (Nat.succ i)) ((i,x.1,x.2)::ih (Nat.succ i))) es 0
def sO(a b:RO):RO:=match a,b with
 |.one v s,.one v' s'=>.many [(v,s),(v',s')]
 |.one v s,.many l=>.many ((v,s)::l)
 |.many l,.one v s=>.many (l++[(v,s)])
 |.many l,.many l'=>.many (l++l')
 |_,_=>.no
def wH(l:List RO):RO:=match l with
 |[]=>.no
 |x::r=>(match r with
  |[]=>x
  |_::_=>List.rec (motive:=λ_=>RO) (.many []) (λy _ ih=>sO y ih) (x::r))
def IU(b m:Nat)(seen:O1)(n:Nat)(s:St)(x:Nat×AV×AV):RO:=fL (fV seen [x.1]) λseen=>setH s b (some (.mi m seen n)) λs=>.one (.t [.q true,x.2.1,x.2.2]) s
def bH8(b m:Nat)(seen:List Nat)(n:Nat)(s:St)(l:List (Nat×AV×AV)):RO:=match l with
 |[]=>.one (.t [.q false]) s
 |x::r=>wH (jS (IU b m seen n s) (x::r))
def VJ(x:Operand)(str:Bool):dB:=λe s=>oR (look x e) λa=>oP a λb o=>bR (Nat.beq o 0) (oR (s.1.get (pa b)) λw=>match w,str with
 |.si l pos,true=>(match qX pos l with
  |[]=>.one (.t [.q false]) s
  |c::_=>bR (Nat.blt c 128) (fN (Nat.succ pos) λpos'=>setH s b (some (.si l pos')) λs=>.one (.t [.q true,.n .i64 pos,.n .i32 c]) s))
 |.mi m seen n,false=>(match s.1.get (pa m)with
  |some (.m es)=>bR (Nat.beq (dM es) n) (bH8 b m seen n s (leftOf seen es))
  |_=>.no)
 |_,_=>.no)
def UW(x:Operand):dB:=λe s=>oR (look x e) λa=>oP a λb o=>bR (Nat.beq o 0) (match s.1.get (pa b)with
 |some (.mi m seen n)=>(match s.1.get (pa m),seen.getLast? with
  |some (.m es),some j=>bR (Nat.beq (dM es) n) (oR (BM es j) λx=>.one (.t [x.1,x.2]) s)
  |_,_=>.no)
 |_=>.no)
def UZ(x:Operand)(k:Nat):dB:=λe s=>oR (look x e) λa=>match a with
 |.t cs=>oR (BM cs k) λa=>.one a s
 |_=>.no
def AX(l:O1):J7:=jS (AV.n .u8) l
def cellsS(sz:Nat)(a:AV)(s:St)(k:Nat->List AV->RO):RO:=match a with
 |.ns=>k 0 []
 |.s b o l _=>iU s b λ_ cs=>oR (uN (Nat.mul l sz) (qX o cs)) λr=>k l r
 |.str l=>bR (Nat.beq sz 1) (fL (AX l) λr=>k (dM l) r)
 |_=>.no
def aQ2(t:Option Nat):Bool:=match t with
 |some t=>(match I7 t with|some { desc:=.int _, .. }=>true|_=>false)
 |none=>false
def YC(el sz:Nat)(x:AV)(n:Nat)(ys:List AV)(s:St):RO:=match x with
 |.ns=>bq (Nat.beq n 0) (.one .ns s) (fN n λn=>oN (.c el ys) (λb=>.s b 0 n none) s)
 |.s b o l c=>bq (Nat.beq n 0) (.one (.s b o l c) s) (bR (Nat.ble (Nat.add l n) 4194304) (iU s b λfB cs=>oR (uN (Nat.mul l sz) (qX o cs)) λold=>(match c with
  |some c=>bq (Nat.blt c (Nat.add l n)) (fL (fV old ys) λcs=>fN (Nat.add l n) λl=>oN (.c el cs) (λb=>.s b 0 l none) s)
    (bR (Nat.beq el fB) (oR (xG (Nat.add o (Nat.mul l sz)) ys cs) λcs=>fN (Nat.add l n) λl=>setH s b (some (.c el cs)) λs=>.one (.s b o l (some c)) s))
  |none=>bR (Nat.beq el fB) (bR (bq (Nat.beq el mM) false true) (fL (fV old ys) λcs=>fN (Nat.add l n) λl=>setH s b none λs=>oN (.c el cs) (λb=>.s b 0 l none) s)))))
 |_=>.no
def kindOk(t2:Option Nat)(y:AV):Bool:=match t2 with
 |some t=>(match I7 t,y with
  |some { desc:=.slice _, .. },.s _ _ _ _=>true
  |some { desc:=.slice _, .. },.ns=>true
  |some { desc:=.string, .. },.str _=>true
  |_,_=>false)
 |none=>false
def al3(t:Nat)(t2:E8)(x y:AV)(s:St):RO:=oR (WO I7 t) λel=>oR (I7 el) λi=>bR (Nat.ble i.bytes 4096) (bR (Nat.ble 1 i.size)
 (bq (aQ2 t2) (match y with|.n _ n=>bR (Nat.ble n 4096) (oR (XP i n) λys=>YC el i.size x n ys s)|_=>.no)
   (bR (kindOk t2 y) (cellsS i.size y s λn ys=>bR (Nat.ble n 100000) (YC el i.size x n ys s)))))
def ao5(t:Nat)(x y:AV)(s:St):RO:=oR (WO I7 t) λel=>oR (sizeT I7 el) λz=>bR (Nat.ble 1 z) (match x with
 |.s b o l _=>cellsS z y s λn ys=>bq (Nat.beq (Nat.min n l) 0) (.one (.n .i64 0) s) (iU s b λfB cs=>oR (uN (Nat.mul (Nat.min n l) z) ys) λys=>oR (xG o ys cs) λcs=>setH s b (some (.c fB cs)) λs=>af0 .i64 (Nat.min n l) s)
 |.ns=>cellsS z y s λ_ _=>.one (.n .i64 0) s
 |_=>.no)
def an9(t:Nat)(x:AV)(s:St):RO:=oR (WO I7 t) λel=>oR (I7 el) λi=>match x with
 |.s b o l _=>iU s b λfB cs=>bq (Nat.beq l 0) (.one un s) (oR (XP i l) λz=>oR (xG o z cs) λcs=>setH s b (some (.c fB cs)) λs=>.one un s)
 |.ns=>.one un s
 |_=>.no
def byteOf(a:AV):E8:=match a with|.n k n=>bg (Nat.beq (fK k) 4) (bg (Nat.blt n 256) (some n))|_=>none
def aF7(l:J7):Option O1:=List.rec (motive:=λ_=>Option O1) (some []) (λx _ ih=>oB (byteOf x) λb=>oB ih λr=>some (b::r)) l
def UD(a:AV)(s:St):RO:=match a with
 |.str l=>af0 .i64 (dM l) s
 |.ns=>.one (.n .i64 0) s
 |.nm=>.one (.n .i64 0) s
 |.s _ _ l _=>.one (.n .i64 l) s
 |.m b=>(match s.1.get (pa b)with|some (.m es)=>af0 .i64 (dM es) s|_=>.no)
 |_=>.no
def NZ(t:Nat)(x:AV):Bool:=match I7 t,x with
 |some { desc:=.string, .. },.str _=>true
 |some { desc:=.slice _, .. },.ns=>true
 |some { desc:=.slice _, .. },.s _ _ _ _=>true
 |some { desc:=.map _ _, .. },.nm=>true
 |some { desc:=.map _ _, .. },.m _=>true
 |_,_=>false
def am9(t el:Nat):Bool:=match I7 t with
 |some { desc:=.pointer e, .. }=>bq (Nat.beq e el) (match I7 e with|some i=>Nat.beq i.size 1|none=>false) false
 |_=>false
def an4(x:AV)(s:St):RO:=match x with
 |.ns=>.one (.n .i64 0) s
 |.s _ _ _ (some c)=>.one (.n .i64 c) s
 |_=>.no
def lK(b:Builtin)(tys:List Nat)(args:List AV)(s:St):RO:=match b,args with
 |.len,[x]=>(match tys with|[t]=>bR (NZ t x) (UD x s)|_=>.no)
 |.cap,[x]=>(match tys with|[t]=>bR (NZ t x) (an4 x s)|_=>.no)
 |.min,[.n k a,.n j b]=>bR (Nat.beq (fK k) (fK j)) (bq (Nat.blt b a) (.one (.n k b) s) (.one (.n k a) s))
 |.max,[.n k a,.n j b]=>bR (Nat.beq (fK k) (fK j)) (bq (Nat.blt a b) (.one (.n k b) s) (.one (.n k a) s))
 |.append,[x,y]=>(match tys with|[t,t2]=>al3 t (some t2) x y s|_=>.no)
 |.copy,[x,y]=>(match tys with|[t,_]=>ao5 t x y s|_=>.no)
 |.clear,[x]=>(match tys with|[t]=>an9 t x s|_=>.no)
 |.unsafeSliceData,[.s b o l none]=>bR (Nat.ble 1 l) (.one (.p b o) s)
 |.unsafeSliceData,[.ns]=>.one .np s
 |.unsafeString,[.np,n]=>(match n,tys with|.n .i64 n,[_,_]=>bR (Nat.beq n 0) (.one (.str []) s)|_,_=>.no)
 |.unsafeString,[.p b o,n]=>(match tys with|[t,_]=>oR (UK n) λn=>bR (Nat.ble 1 n) (bR (Nat.ble n 1000000) (iU s b λel cs=>bR (am9 t el) (oR (uN n (qX o cs)) λr=>oR (aF7 r) λl=>setH s b none λs=>.one (.str l) s)))|_=>.no)
 |_,_=>.no
def KY(l:J7):Env:=List.rec (motive:=λ_=>Nat->Env->Env) (λ_ e=>e) (λx _ ih i e=>ih (Nat.succ i) (yM i x e)) l 0 zeroE
def aw9(h:Hp)(b:Nat):Option (Nat×J7):=match h.get (pa b)with|some (.c el cs)=>some (el,cs)|_=>none
def aw4(e:Env)(s:St)(r:ResultVar):Option AV:=match r with
 |.tmp t=>fE t e
 |.cell x t=>(match fE x e with|some (.p b o)=>oB (aw9 s.1 b) λw=>partT t w.2 o|_=>none)
def bS6(l:sH):Env->St->wF:=List.rec (motive:=λ_=>Env->St->wF) (λ_ _=>some [])
 (λx _ ih e s=>oB (aw4 e s x) λa=>oB (ih e s) λr=>some (a::r)) l
def kJ(e:Env)(s:St)(l:List ResultVar):Option AV:=match l with
 |[x]=>aw4 e s x
 |l=>oB (bS6 l e s) λr=>some (.t r)
def ag9(a:AV):Bool:=match a with
 |.n _ _=>true
 |.neg _ _=>true
 |.q _=>true
 |.str _=>true
 |.ns=>true
 |.np=>true
 |.nm=>true
 |.nf=>true
 |.ni=>true
 |_=>false
def bo7(o z:Nat)(c:Option Nat)(n:Nat):Bool:=match c with
 |some c=>bq (Nat.ble 1 (Nat.mul c z)) (Nat.ble (Nat.add o (Nat.mul c z)) n) false
 |none=>true
def bp4(a:AV)(s:St):Option CI:=match a with
 |.s b o l c=>bg (Nat.ble s.ro b) (oB (aw9 s.1 b) λw=>bg (bq (Nat.beq w.1 mM) false true) (oB (sizeT I7 w.1) λz=>bg (bo7 o z c (dM w.2)) (oB (uN (Nat.mul l z) (qX o w.2)) λvs=>bg (allB ag9 vs) (some (.s w.1 l vs)))))
 |a=>bg (ag9 a) (some (.v a))
def ao0(l:J7)(s:St):Option A:=List.rec (motive:=λ_=>Option A) (some []) (λx _ ih=>oB (bp4 x s) λc=>oB ih λr=>some (c::r)) l
def aG8(one:Bool)(a:AV)(s:St):Option A:=match one,a with
 |true,a=>ao0 [a] s
 |false,.t cs=>ao0 cs s
 |_,_=>none
def cU7(c:CI)(s:St):RO:=match c with
 |.v x=>.one x s
 |.s el l cs=>oN (.c el cs) (λb=>.s b 0 l none) s
def CS(l:A):St->J7->(J7->St->RO)->RO:=
 List.rec (motive:=λ_=>St->J7->(J7->St->RO)->RO) (λs acc K=>K acc s) (λc _ ih s acc K=>RO.rec (motive:=λ_=>RO) .no (λa s=>ih s (fV acc [a]) K) (λ_=>.no) (cU7 c s)) l
def bE6(one:Bool)(l:A)(s:St):RO:=CS l s [] λr s=>match one,r with
 |true,[a]=>.one a s
 |false,r=>.one (.t r) s
 |_,_=>.no
def af9(s:St):St:=St.rec (motive:=λ_=>St) (λh nx _=>⟨h,nx,nx⟩) s
def DJ(l:sH):Bool:=match l with|[_]=>true|_=>false
def ZG(rs:sH)(x:Ex)(e:Env)(s:St):RO:=Ex.rec (motive:=λ_=>RO) (oR (kJ e s rs) λa=>.one a s) (λ_=>.no) (oR (kJ e s rs) λa=>.one a s) x
def MH(rs:sH)(x:Ex)(e:Env)(s:St):Option A:=Ex.rec (motive:=λ_=>Option A) (oB (kJ e s rs) λa=>aG8 (DJ rs) a s) (λ_=>none) (oB (kJ e s rs) λa=>aG8 (DJ rs) a s) x
def SB(up:Runner)(F:Func)(args:J7)(s:St):RO:=bR (Nat.ble (dM args) F.ntmps) (oR F.body λc=>RC.rec (motive:=λ_=>RO) .no (ZG F.results.toList) (λl=>wH (jS (λw=>ZG F.results.toList w.1 w.2.1 w.2.2) l)) (up c (KY args) s))
def ag8(a:A)(l:List (Option A)):Option A:=List.rec (motive:=λ_=>Option A) (some a) (λy _ ih=>oB y λb=>bq (YM a b) ih none) l
def bC8(rs:sH)(r:RC):Option A:=RC.rec (motive:=λ_=>Option A) none (MH rs) (λl=>match jS (λw=>MH rs w.1 w.2.1 w.2.2) l with|[]=>none|x::r=>oB x λa=>ag8 a r) r
def ar5(c:CI):Bool:=match c with|.s _ _ _=>true|.v _=>false
def bM2(l:A):Bool:=List.rec (motive:=λ_=>Bool) true (λc r ih=>bq (ar5 c) (allB (λc=>bq (ar5 c) false true) r) ih) l
def TW(up:Runner)(F:Func)(args:J7)(s:St):RO:=bR (Nat.ble (dM args) F.ntmps) (oR F.body λc=>oR (bC8 F.results.toList (up c (KY args) (af9 s))) λr=>bR (bM2 r) (bE6 (DJ F.results.toList) r s))
def AZ(up:Runner)(f:FuncId)(args:J7)(s:St):RO:=
 Option.rec (motive:=λ_=>RO) (oR (GH f) λF=>bq (ab2 f) (TW up F args s) (SB up F args s)) (λx=>oR (x args) λa=>.one a s) (aJ8 f)
def aG3(up:Runner)(f:FuncId)(args:J7)(s:St):RO:=Option.rec (motive:=λ_=>RO) (AZ up f args s) (λx=>oR (x args) λa=>.one a s) (aK1 f)
def bW6(ps:O1):J7->Env->Option Env:=List.rec (motive:=λ_=>J7->Env->Option Env) (λl e=>match l with|[]=>some e|_=>none)
 (λp _ ih l e=>List.rec (motive:=λ_=>Option Env) none (λa r _=>ih r (yM p a e)) l) ps
def roundEnd(b:Nat)(x:Ex)(_:Env)(s:St):RO:=match s.1.get (pa b)with
 |some (.l 1 e ps aW body _)=>(match x with
  |.n=>setH s b (some (.l 0 e ps aW body none)) λs=>.one (.q true) s
  |.r=>setH s b (some (.l 2 e ps aW body (some .ret))) λs=>.one (.q false) s
  |.x id=>setH s b (some (.l 2 e ps aW body (some (.exit id)))) λs=>.one (.q false) s)
 |_=>.no
def ag2(up:Runner)(b:Nat)(body:Code)(x:Ex)(e':Env)(s:St):RO:=match x,s.1.get (pa b)with
 |.n,some (.l 0 e ps aW bd _)=>setH s b (some (.l 1 e ps aW bd none)) λs=>RC.rec (motive:=λ_=>RO) .no (roundEnd b) (λl=>wH (jS (λw=>roundEnd b w.1 w.2.1 w.2.2) l)) (up body e' s)
 |_,_=>.no
def ag1(up:Runner)(b:Nat)(args:List AV)(s:St):RO:=match s.1.get (pa b)with
 |some (.l 0 e ps aW body _)=>oR (bW6 ps args e) λe0=>RC.rec (motive:=λ_=>RO) .no (ag2 up b body) (λ_=>.no) (up aW e0 s)
 |_=>.no
def an3(up:Runner)(fv:AV)(args:J7)(s:St):RO:=bg8 fv (λf fs cs=>aG3 up f (fV fs (fV args cs)) s) (λb=>ag1 up b args s)
def bo5(up:Runner)(c:Callee)(tys:O1)(args:J7)(e:Env)(s:St):RO:=
 Callee.rec (motive:=λ_=>RO) (λf=>oR (look f e) λfv=>an3 up fv args s) (λ_ _=>.no) (λb=>lK b tys args s) c
def IY(up:Runner)(c:Call):dB:=λe s=>oR (tX c.args.toList e) λargs=>bo5 up c.callee c.argTypes.toList args e s
abbrev OpK:=Runner->dB
def tY:OpK:=λ_ _ _=>.no
structure OO where
 run:OpK
def sS(op:Op):OO:=
 Op.rec (motive:=λ_=>OO)
   (λx=>⟨λup=>DL x⟩) (λx=>⟨λup=>DL x⟩) (λc a b=>⟨λup=>VL c a b⟩) (λt=>⟨λup=>aV9 t⟩) (λt x=>⟨λup=>UQ t x⟩) (λt p=>⟨λup=>UR t p⟩) (λt n p=>⟨λup=>IX t n p⟩)
   (λt m k v=>⟨λup=>yZ t m k v⟩) (λt x=>⟨λup=>VF t x⟩) (λt x y=>⟨λup=>VP t x y⟩) (λ_=>⟨tY⟩) (λ_=>⟨tY⟩) (λx=>⟨λup=>VK x⟩)
   (λo t x y u=>⟨λup=>UO o t x y u⟩) (λo t x=>⟨λup=>VQ o t x⟩) (λa b x=>⟨λup=>UU a b x⟩) (λ_ _=>⟨tY⟩) (λ_ _=>⟨tY⟩) (λf a b=>⟨λup=>VH f a b⟩) (λt r=>⟨λup=>aW0 t r⟩)
   (λ_ _=>⟨tY⟩) (λ_ _ _=>⟨tY⟩) (λt x l h m=>⟨λup=>VO t x l h m⟩) (λt x k=>⟨λup=>VB t x k⟩) (λt x k=>⟨λup=>VA t x k⟩) (λt x i=>⟨λup=>VE t x i⟩) (λt x i=>⟨λup=>VD t x i⟩)
   (λt m k ok=>⟨λup=>VG t m k ok⟩) (λt m k v=>⟨λup=>yZ t m k v⟩) (λt m k=>⟨λup=>VI t m k⟩) (λt m x v=>⟨λup=>UY t m x v⟩) (λt x=>⟨λup=>VN t x⟩) (λx b=>⟨λup=>VJ x b⟩) (λx=>⟨λup=>UW x⟩)
   (λ_ _ _ _=>⟨tY⟩) (λx k=>⟨λup=>UZ x k⟩) (λc=>⟨λup=>IY up c⟩) (λ_=>⟨tY⟩) (λ_=>⟨tY⟩) (λ_=>⟨tY⟩) (λ_ _=>⟨tY⟩) (λ_ _ _=>⟨tY⟩) (λ_ _=>⟨tY⟩) op
def jB(op:Op):OpK:=(sS op).run
structure OD where
 set:AV->Env->Env
def BD(d:E8):OD:=Option.rec (motive:=λ_=>OD) ⟨λ_ e=>e⟩ (λd=>⟨(FZ d).s⟩) d
def lU(d:E8)(a:AV)(e:Env):Env:=(BD d).set a e
def uO(all:List Oper)(e:Env)(g:Nat×Bool):Option Bool:=oB (BM all g.1) λoj=>oB oj.dst λd=>oB (fE d e) λa=>match a with
 |.q b=>some (bq b g.2 (bq g.2 false true))
 |.t []=>some false
 |_=>none
abbrev EvS:=Runner->Env->St->RC
structure OL where
 run:EvS
def an5(a b:RC):RC:=match a,b with
 |.one x e s,.one x' e' s'=>.many [(x,e,s),(x',e',s')]
 |.one x e s,.many l=>.many ((x,e,s)::l)
 |.many l,.one x e s=>.many (l++[(x,e,s)])
 |.many l,.many l'=>.many (l++l')
 |_,_=>.no
def sJ(l:List RC):RC:=List.rec (motive:=λ_=>RC) (.many []) (λy _ ih=>an5 y ih) l
def stO(v:AV)(s:St)(d:OD)(ih:OL)(up:Runner)(e:Env):RC:=ih.run up (d.set v e) s
def stM(l:List (AV×St))(d:OD)(ih:OL)(up:Runner)(e:Env):RC:=sJ (jS (λw=>stO w.1 w.2 d ih up e) l)
def stN(_:OD)(_:OL)(_:Runner)(_:Env):RC:=.no
def ED(op:OO)(d:OD)(ih:OL):EvS:=λup e s=>RO.rec (motive:=λ_=>OD->OL->Runner->Env->RC) stN stO stM (op.run up e s) d ih up e
def bw1(all:Y4)(g:Nat×Bool)(op:OO)(d:OD)(ih:OL):EvS:=λup e s=>
 Option.rec (motive:=λ_=>RC) .no (λq=>bq q (ED op d ih up e s) (ih.run up (d.set un e) s)) (uO all e g)
def sQ(all l:Y4):OL:=List.rec (motive:=λ_=>OL) ⟨λ_ e s=>.one .n e s⟩
 (λo _ ih=>Option.rec (motive:=λ_=>OL) ⟨ED (sS o.op) (BD o.dst) ih⟩ (λg=>⟨bw1 all g (sS o.op) (BD o.dst) ih⟩) o.guard) l
def iT:Op->Nat
 |.move _=>0
 |.assign _=>0
 |.pick _ _ _=>0
 |.build _ _=>0
 |.nilCheck _=>0
 |.binOp _ _ _ _ _=>0
 |.unOp _ _ _=>0
 |.makeFunc _ _ _=>0
 |.fieldAddr _ _ _=>0
 |.field _ _ _=>0
 |.indexAddr _ _ _=>0
 |.index _ _ _=>0
 |.extract _ _=>0
 |.load _ _=>1
 |.slice _ _ _ _ _=>1
 |.convert _ _ _=>1
 |.lookup _ _ _ _=>1
 |.alloc _=>3
 |.box _ _=>3
 |.buildSlice _ _ _=>3
 |.makeMap _ _=>3
 |.call c=>(match c.callee with|.builtin .len=>1|_=>2)
 |_=>2
def ZK(a b:AV):Bool:=match a,b with
 |.p b o,.p c i=>bq (Nat.beq b c) (Nat.beq o i) false
 |.s b o l c,.s b' o' l' c'=>bq (Nat.beq b b') (bq (Nat.beq o o') (bq (Nat.beq l l') (match c,c' with|none,none=>true|some x,some y=>Nat.beq x y|_,_=>false) false) false) false
 |.m b,.m c=>Nat.beq b c
 |.y b,.y c=>Nat.beq b c
 |a,b=>RX a b
def ML(a:J7):J7->Bool:=List.rec (motive:=λ_=>J7->Bool) (λb=>List.rec (motive:=λ_=>Bool) true (λ_ _ _=>false) b)
 (λx _ ih b=>List.rec (motive:=λ_=>Bool) false (λy r _=>bq (ZK x y) (ih r) false) b) a
def aE9(a b:AV):Bool:=match a,b with
 |.g a,.g b=>ML a b
 |.t a,.t b=>ML a b
 |.f f fs cs,.f g gs ds=>bq (Nat.beq f g) (bq (ML fs gs) (ML cs ds) false) false
 |a,b=>ZK a b
structure DR where
 i:Nat
 mask:Nat
 op:OO
 e:Env
 v:AV
structure DA where
 i:Nat
 b:Nat
 o:AO
structure DH where
 i:Nat
 mask:Nat
 s:St
def jP(mask seen:Nat)(l:List DA)(s:St):St:=List.rec (motive:=λ_=>St->St) (λs=>s) (λd _ ih s=>bq (Nat.testBit mask d.i) (bq (Nat.testBit seen d.i) (ih s) (ih ⟨s.h.set (pa d.b) (some d.o),s.nx,s.ro⟩)) (ih s)) l s
def PL(op:OO)(up:Runner)(e:Env)(s:St)(v:AV):Bool:=RO.rec (motive:=λ_=>Bool) false (λv' _=>aE9 v v') (λ_=>false) (op.run up e s)
def yQ(h0:DH)(l:List DH):DH:=List.rec (motive:=λ_=>DH) h0 (λh _ _=>h) l
def WA(r:DR)(up:Runner)(al:List DA)(h0:DH)(hs:List DH):Bool:=List.rec (motive:=λ_=>Bool) true
 (λh tl ih=>bq (Nat.testBit r.mask h.i) ih (bq (PL r.op up r.e (jP r.mask (yQ h0 tl).mask al (yQ h0 tl).s) r.v) ih false)) hs
structure DS where
 rs:List DR
 al:List DA
 hs:List DH
abbrev zQ:=O1->DS->Runner->Env->RC
def lastH(h0:DH)(d:DS):DH:=yQ h0 d.hs
def dr0(h0:DH)(i mask:Nat)(o:Oper)(ih:zQ)(ms:O1)(d:DS)(up:Runner)(e:Env):RC:=
 RO.rec (motive:=λ_=>RC) .no (λv _=>ih ms d up (lU o.dst v e)) (λ_=>.no) (jB o.op up e (lastH h0 d).s)
def dr1(h0:DH)(i mask:Nat)(o:Oper)(ih:zQ)(ms:O1)(d:DS)(up:Runner)(e:Env):RC:=
 RO.rec (motive:=λ_=>RC) .no (λv _=>bq (WA ⟨i,mask,sS o.op,e,v⟩ up d.al h0 d.hs) (ih ms ⟨⟨i,mask,sS o.op,e,v⟩::d.rs,d.al,d.hs⟩ up (lU o.dst v e)) .no) (λ_=>.no)
   (jB o.op up e (jP mask (lastH h0 d).mask d.al (lastH h0 d).s))
def dr2(h0:DH)(i mask:Nat)(o:Oper)(ih:zQ)(ms:O1)(d:DS)(up:Runner)(e:Env):RC:=
 bq (bq (allB (λh=>Nat.testBit mask h.i) d.hs) (bq (Nat.beq (Nat.lor mask (lastH h0 d).mask) mask) (bq (Nat.beq h0.s.ro 0) true (allB (λa=>Nat.testBit mask a.i) d.al)) false) false) (RO.rec (motive:=λ_=>RC) .no (λv s=>bq (allB (λr=>bq (Nat.testBit mask r.i) true (PL r.op up r.e (jP r.mask mask d.al s) r.v)) d.rs)
  (ih ms ⟨d.rs,d.al,⟨i,mask,s⟩::d.hs⟩ up (lU o.dst v e)) .no) (λ_=>.no) (jB o.op up e (jP mask (lastH h0 d).mask d.al (lastH h0 d).s))) .no
def dr3(b0:Nat)(h0:DH)(i mask:Nat)(o:Oper)(ih:zQ)(ms:O1)(d:DS)(up:Runner)(e:Env):RC:=
 bq (bq (Nat.beq h0.s.ro 0) true (allB (λh=>Nat.testBit mask h.i) d.hs)) (RO.rec (motive:=λ_=>RC) .no (λv s=>Option.rec (motive:=λ_=>RC) .no (λob=>ih ms ⟨d.rs,⟨i,Nat.add b0 i,ob⟩::d.al,d.hs⟩ up (lU o.dst v e)) (s.h.get (pa (Nat.add b0 i)))) (λ_=>.no)
  (jB o.op up e ⟨full AO 18,Nat.add b0 i,0⟩)) .no
def wP(b0:Nat)(h0:DH)(i mask:Nat)(o:Oper)(ih:zQ)(ms:List Nat)(d:DS)(up:Runner)(e:Env):RC:=match iT o.op with
 |0=>dr0 h0 i mask o ih ms d up e
 |1=>dr1 h0 i mask o ih ms d up e
 |2=>dr2 h0 i mask o ih ms d up e
 |_=>dr3 b0 h0 i mask o ih ms d up e
def wO(all:List Oper)(b0:Nat)(h0:DH)(o:Oper)(ih:Nat->zQ)(i:Nat):zQ:=λms d up e=>match o.guard with
 |none=>wP b0 h0 i (ms.headD 0) o (ih (Nat.succ i)) ms.tail d up e
 |some g=>(match uO all e g with
  |some true=>wP b0 h0 i (ms.headD 0) o (ih (Nat.succ i)) ms.tail d up e
  |some false=>ih (Nat.succ i) ms.tail d up (lU o.dst un e)
  |none=>.no)
def ao6(h0:DH)(d:DS)(e:Env):RC:=let h:=lastH h0 d; .one .n e (List.rec (motive:=λ_=>St->St) (λs=>s) (λa _ ih s=>bq (Nat.testBit h.mask a.i) (ih s) (ih ⟨s.h.set (pa a.b) (some a.o),s.nx,s.ro⟩)) d.al h.s)
def iO(all:Y4)(b0:Nat)(h0:DH)(l:Y4):Nat->zQ:=List.rec (motive:=λ_=>Nat->zQ) (λ_ _ d _ e=>ao6 h0 d e) (λo _ ih=>wO all b0 h0 o ih) l
def QK(ops:pJ)(mask:Nat)(ok:Oper)(l:Y4):Nat->Bool:=List.rec (motive:=λ_=>Nat->Bool) (λ_=>true) (λo _ ih i=>bq (Nat.testBit mask i) (ih (Nat.succ i)) (bq (o.apart ops ok) (ih (Nat.succ i)) false)) l
def aB8(ops:pJ)(ms:O1):Y4->Y4->Bool:=List.rec (motive:=λ_=>Y4->Y4->Bool) (λ_ l=>match l with|[]=>true|_::_=>false)
 (λm _ ih done l=>match l with|[]=>true|o::r=>bq (QK ops m o done 0) (ih (fV done [o]) r) false) ms
def FW(ops:pJ):Bool:=bq (aB8 ops (Region.before ops).toList [] ops.toList) (BG 0 ops.toList) false
def cA0(l:Y4)(ms:O1):EvS:=λup e s=>St.rec (motive:=λ_=>RC) (λh nx ro=>fN (Nat.add nx (Nat.succ (dM l))) λnx'=>iO l nx ⟨0,0,⟨h,nx',ro⟩⟩ l 0 ms ⟨[],[],[]⟩ up e) s
def aH2(ops:pJ):OL:=⟨cA0 ops.toList (Region.before ops).toList⟩
def bC(r:RC)(k:Ex->Env->St->RC):RC:=RC.rec (motive:=λ_=>RC) .no k (λl=>sJ (jS (λw=>k w.1 w.2.1 w.2.2) l)) r
def sqK(ib:OL)(up:Runner)(x:Ex)(e:Env)(s:St):RC:=Ex.rec (motive:=λ_=>OL->Runner->Env->St->RC) (λib up e s=>ib.run up e s) (λi _ _ e s=>.one (.x i) e s) (λ_ _ e s=>.one .r e s) x ib up e s
def cv4(ia ib:OL):EvS:=λup e s=>bC (ia.run up e s) (sqK ib up)
def aj7(a:AV)(k k':OL)(up:Runner)(e:Env)(s:St):RC:=match a with
 |.q b=>(bq b k k').run up e s
 |_=>.no
def cv3(c:OX)(ia ib:OL):EvS:=λup e s=>Option.rec (motive:=λ_=>RC) .no (λa=>aj7 a ia ib up e s) (c.get e)
def blK(id:Nat)(x:Ex)(e:Env)(s:St):RC:=Ex.rec (motive:=λ_=>RC) (.one .n e s) (λj=>bq (Nat.beq j id) (.one .n e s) (.one (.x j) e s)) (.one .r e s) x
def cv2(id:Nat)(ia:OL):EvS:=λup e s=>bC (ia.run up e s) (blK id)
def OB(k:Nat)(ia:OL):EvS:=Nat.rec (motive:=λ_=>EvS) (λ_ _ _=>.no)
 (λ_ ih up e s=>bC (ia.run up e s) λx e s=>Ex.rec (motive:=λ_=>RC) (ih up e s) (λi=>.one (.x i) e s) (.one .r e s) x) k
def aG1(ia:OL):EvS:=λup e s=>OB 4096 ia up e s
def YQ(s:St)(b:Nat):St:=⟨s.h.set (pa b) none,s.nx,s.ro⟩
def MI(b:Nat)(e:Env)(s:St):RC:=match s.1.get (pa b)with
 |some (.l 0 _ _ _ _ _)=>.one .n e (YQ s b)
 |some (.l 2 _ _ _ _ (some j))=>(match j with
  |.ret=>.one .r e (YQ s b)
  |.exit id=>.one (.x id) e (YQ s b)
  |_=>.no)
 |_=>.no
def av9(up:Runner)(fv:AV)(e:Env)(y:AV)(s:St):RC:=match y,fv with
 |.y b,.f f fs cs=>RO.rec (motive:=λ_=>RC) .no (λ_ s=>MI b e s) (λl=>sJ (jS (λw=>MI b e w.2) l)) (AZ up f (fV fs (fV [.y b] cs)) s)
 |_,_=>.no
def an2(g:Operand)(ps:Array Tmp)(aW body:Code):EvS:=λup e s=>Option.rec (motive:=λ_=>RC) .no (λfv=>
 RO.rec (motive:=λ_=>RC) .no (av9 up fv e) (λ_=>.no) (oN (.l 0 e ps.toList aW body none) .y s)) (look g e)
def comp(c:Code):OL:=
 Code.rec (motive:=λ_=>OL) ⟨λ_ e s=>.one .n e s⟩ (λ_ ops draw=>bq draw (aH2 ops) (sQ ops.toList ops.toList)) (λ_ _ ia ib=>⟨cv4 ia ib⟩) (λc _ _ ia ib=>⟨cv3 (bp8 c) ia ib⟩) (λid _ ia=>⟨cv2 id ia⟩) (λ_ ia=>⟨aG1 ia⟩)
  (λg ps a b _ _=>⟨an2 g ps a b⟩) (λid=>⟨λ_ e s=>.one (.x id) e s⟩) (λ_ _=>⟨λ_ _ _=>.no⟩) (λ_=>⟨λ_ _ _=>.no⟩) (λ_=>⟨λ_ _ _=>.no⟩) ⟨λ_ e s=>.one .r e s⟩ (λ_=>⟨λ_ _ _=>.no⟩) c
def IZ(n:Nat)(l:Y4):Bool:=allB (λo=>inRange n o.dst) l
def codeOk(n:Nat)(c:Code):Bool:=
 Code.rec (motive:=λ_=>Bool) true (λ_ ops d=>bq (IZ n ops.toList) (bq d (FW ops) true) false) (λ_ _ a b=>bq a b false) (λ_ _ _ a b=>bq a b false) (λ_ _ a=>a) (λ_ a=>a)
  (λ_ ps x y a b=>bq (allB (λp=>Nat.blt p n) ps.toList) (bq (eF x) (bq (eF y) (bq a b false) false) false) false) (λ_=>true) (λ_ _=>true) (λ_=>true) (λ_=>true) true (λ_=>true) c
def aL1(F:Func):Bool:=match F.body with|some c=>codeOk F.ntmps c|none=>true
def Bt.all{α:Type}(f:α->Bool)(t:Bt α):Bool:=Bt.rec (motive:=λ_=>Bool) true (λ_ v _ _ a b=>bq (f v) (bq a b false) false) t
def evN(n:Nat):Runner:=Nat.rec (motive:=λ_=>Runner) (λ_ _ _=>.no) (λ_ ih c e s=>(comp c).run ih e s) n
def st0:St:=⟨full AO 18,0,0⟩
def isTrue(a:AV):Bool:=match a with|.q b=>b|_=>false
def evT(n:Nat)(f:FuncId):Bool:=RO.rec (motive:=λ_=>Bool) false (λv _=>isTrue v) (λ_=>false) (AZ (evN n) f [] st0)
end
end Go.Ev
end
namespace Go
abbrev zV:=@List.getElem?_drop
abbrev rX:=@Bool.true_and
abbrev yI:=@beq_self_eq_true
abbrev uU:=@Nat.min_eq_left
end Go
namespace Go.Ev
section
open Go Go.F7
def U1{α β:Type}{a:Option α}{k:α->Option β}{r:β}(h:oB a k=some r):∃x,a=some x/\k x=some r:=by
 rcases a with _|x
 .cases h
 .exact⟨x,rfl,h⟩
def nK{β:Type}{c:Bool}{k:Option β}{r:β}(h:bg c k=some r):c=true/\k=some r:=by
 rcases c with _|_
 .cases h
 .exact⟨rfl,h⟩
@[simp] theorem am6 {α:Type} (a b:α):bq true a b=a:=rfl
@[simp] theorem LJ {α:Type} (a b:α):bq false a b=b:=rfl
@[simp] theorem jQ {R:Type} (n:Nat) (k:Nat->R):fN n k=k n:=by cases n<;>rfl
@[simp] theorem wR {R α:Type} (l:List α) (k:List α->R):fL l k=k l:=by
  induction l generalizing k with
  |nil=>rfl
  |cons x r ih=>exact ih _
@[simp] theorem cF8 {R:Type} (l:O1) (k:O1->R):fNs l k=k l:=by
  induction l generalizing k with
  |nil=>rfl
  |cons x r ih=>exact(jQ x λx=>fNs r λr=>k (x::r)).trans (ih _)
def aP9(k:IntKind):Int->AV
 |.ofNat n=>.n k n
 |.negSucc n=>.neg k n
@[simp] theorem BL {R:Type} (k:IntKind) (i:Int) (K:AV->R):fI k i K=K (aP9 k i):=by
  cases i with
  |ofNat n=>exact jQ n λn=>K (.n k n)
  |negSucc n=>exact jQ n λn=>K (.neg k n)
@[simp] theorem cF9 {R:Type} (b:Bool) (K:AV->R):fQ b K=K (.q b):=by cases b<;>rfl
def aX2:∀(m k j:Nat),OT m k=OT m j->k=j\/∀{α:Type}(t:Tr α),t.get (OT m k)=none
 |0,k,j,_=>.inr λt=>by cases t<;>rfl
 |m+1,k,j,h=>by
  have hz:∀k,OT (m+1) k=bq (Nat.beq k 0) .e (bq (Nat.beq (Nat.mod k 2) 1) (.a (OT m (Nat.div k 2))) (.b (OT m (Nat.sub (Nat.div k 2) 1)))):=λ_=>rfl;have hm:∀k,Nat.mod k 2=k % 2:=λ_=>rfl;have hd:∀k,Nat.div k 2=k/2:=λ_=>rfl;have hs:∀k,Nat.sub (k/2) 1=k/2-1:=λ_=>rfl;rw[hz k,hz j]at h;rw[hz k];simp only[hm,hd,hs]at h⊢;by_cases k0:k=0
  .subst k0;by_cases j0:j=0
   .grind
   .exfalso;have:Nat.beq j 0=false:=by cases hb:Nat.beq j 0 with|false=>rfl|true=>exact absurd (G5 hb) j0
    rw[this]at h;simp at h;cases hb:Nat.beq (j % 2) 1<;>rw[hb]at h<;>cases h
  .have hk:Nat.beq k 0=false:=by cases hb:Nat.beq k 0 with|false=>rfl|true=>exact absurd (G5 hb) k0
   rw[hk]at h⊢;simp only[LJ]at h⊢;by_cases j0:j=0
   .exfalso;subst j0;simp at h;cases hb:Nat.beq (k % 2) 1<;>rw[hb]at h<;>cases h
   .have hj:Nat.beq j 0=false:=by cases hb:Nat.beq j 0 with|false=>rfl|true=>exact absurd (G5 hb) j0
    rw[hj]at h;simp only[LJ]at h;rcases hb:Nat.beq (k % 2) 1 with _|_
    .have hb':k % 2≠1:=λe=>by rw[e]at hb;cases hb
     rw[hb]at h;rcases hc:Nat.beq (j % 2) 1 with _|_
     .have hc':j % 2≠1:=λe=>by rw[e]at hc;cases hc
      rw[hc]at h;simp only[LJ]at h⊢;injection h with h
      rcases aX2 m _ _ h with e|e
      .grind
      .exact .inr λt=>by cases t with|lf=>rfl|nd v a b=>exact e b
     .rw[hc]at h;cases h
    .have hb':=G5 hb;rw[hb]at h;cases hc:Nat.beq (j % 2) 1 with
     |false=>rw[hc]at h;cases h
     |true=>
      have hc':=G5 hc;rw[hc]at h;simp only[am6]at h⊢;injection h with h
      rcases aX2 m _ _ h with e|e
      .grind
      .exact .inr λt=>by cases t with|lf=>rfl|nd v a b=>exact e a
def Tr.mQ{α:Type}(t:Tr α)(p:Pa)(x:Option α)(q:Pa)(y:α)(h:(t.set p x).get q=some y):(p=q/\x=some y)\/(p≠q/\t.get q=some y):=by
 induction t generalizing p q with
 |lf=>cases h
 |nd v a b iha ihb=>
  cases p with
  |e=>
   cases q with
   |e=>exact .inl ⟨rfl,h⟩
   |a q=>exact .inr ⟨(λe=>by cases e),h⟩
   |b q=>exact .inr ⟨(λe=>by cases e),h⟩
   |z=>cases h
  |a p=>
   cases q with
   |e=>exact .inr ⟨(λe=>by cases e),h⟩
   |a q=>rcases iha p q h with⟨e,h⟩|⟨e,h⟩
         .grind
         .exact .inr ⟨λh=>e (by injection h),h⟩
   |b q=>exact .inr ⟨(λe=>by cases e),h⟩
   |z=>cases h
  |b p=>
   cases q with
   |e=>exact .inr ⟨(λe=>by cases e),h⟩
   |b q=>rcases ihb p q h with⟨e,h⟩|⟨e,h⟩
         .grind
         .exact .inr ⟨λh=>e (by injection h),h⟩
   |a q=>exact .inr ⟨(λe=>by cases e),h⟩
   |z=>cases h
  |z=>
   refine .inr ⟨λe=>?_,h⟩;subst e;cases h
def mQ{α:Type}{t:Tr α}{k:Nat}{x:Option α}{j:Nat}{y:α}(h:(t.set (pa k) x).get (pa j)=some y):(j=k/\x=some y)\/(j≠k/\t.get (pa j)=some y):=by
 rcases Tr.mQ t _ x _ y h with⟨e,h1⟩|⟨e,h1⟩
 .rcases aX2 18 _ _ e with e'|e'
  .grind
  .exfalso;have:pa j=pa k:=e.symm;rw[this]at h;have:=e' (t.set (pa k) x);rw[show(t.set (pa k) x).get (pa k)=none from this]at h;cases h
 .grind
theorem ap7{α:Type}:∀(n:Nat)(p:Pa),(full α n).get p=none
 |0,_=>rfl
 |n+1,p=>by
  cases p with
  |e=>rfl
  |a p=>exact ap7 n p
  |b p=>exact ap7 n p
  |z=>rfl
def YR{α:Type}(n:Nat)(l:List α):qX n l=l.drop n:=by
 induction n generalizing l with
 |zero=>rfl
 |succ n ih=>cases l with|nil=>rfl|cons x r=>exact ih r
def az1{α:Type}{n:Nat}{l r:List α}(h:uN n l=some r):r=l.take n/\r.length=n:=by
 induction n generalizing l r with
 |zero=>cases h;exact⟨rfl,rfl⟩
 |succ n ih=>
  rcases l with _|⟨x,l⟩
  .cases h
  .have⟨s,h1,h2⟩:=U1 h;injection h2 with h2
   subst h2;have⟨h3,h4⟩:=ih h1
   grind
def BN{α:Type}(l:List α)(n:Nat):BM l n=l[n]?:=by
 unfold BM;rw[YR];induction n generalizing l with
 |zero=>cases l<;>rfl
 |succ n ih=>cases l with|nil=>rfl|cons x r=>simpa using ih r
def Tn:Nat->Type
 |0=>Unit
 |n+1=>Nd (Tn n)
def gB:(n:Nat)->Nat->Tn n->Option AV
 |0,_,_=>none
 |n+1,k,e=>if k=0 then Nd.v e else if k % 2=1 then gB n (k/2) (Nd.a e)else gB n (k/2-1) (Nd.b e)
noncomputable def kY:(n:Nat)->Nat->AV->Tn n->Tn n
 |0,_,_,e=>e
 |n+1,k,x,e=>if k=0 then sV x e else if k % 2=1 then sA (kY n (k/2) x) e else sB (kY n (k/2-1) x) e
def aY3:∀(n k j:Nat)(x:AV)(e:Tn n)(y:AV),gB n j (kY n k x e)=some y->(j=k/\y=x)\/(j≠k/\gB n j e=some y)
 |0,_,_,_,_,_,h=>by cases h
 |n+1,k,j,x,e,y,h=>by
  have hs:∀(j:Nat)(e:Tn (n+1)),gB (n+1) j e=if j=0 then Nd.v (β:=Tn n) e else if j % 2=1 then gB n (j/2) (Nd.a (β:=Tn n) e)else gB n (j/2-1) (Nd.b (β:=Tn n) e):=λ_ _=>rfl
  have hp:kY (n+1) k x e=(if k=0 then sV (β:=Tn n) x e else if k % 2=1 then sA (β:=Tn n) (kY n (k/2) x) e else sB (β:=Tn n) (kY n (k/2-1) x) e:Nd (Tn n)):=rfl;rw[hs]at h⊢;rw[hp]at h;have eV:Nd.v (sV (β:=Tn n) x e)=some x/\Nd.a (sV (β:=Tn n) x e)=Nd.a (β:=Tn n) e/\Nd.b (sV (β:=Tn n) x e)=Nd.b (β:=Tn n) e:=by have⟨v,a,b⟩:=e;exact⟨rfl,rfl,rfl⟩
  have eA:∀f,Nd.v (sA (β:=Tn n) f e)=Nd.v (β:=Tn n) e/\Nd.a (sA (β:=Tn n) f e)=f (Nd.a (β:=Tn n) e)/\Nd.b (sA (β:=Tn n) f e)=Nd.b (β:=Tn n) e:=λf=>by have⟨v,a,b⟩:=e;exact⟨rfl,rfl,rfl⟩
  have eB:∀f,Nd.v (sB (β:=Tn n) f e)=Nd.v (β:=Tn n) e/\Nd.a (sB (β:=Tn n) f e)=Nd.a (β:=Tn n) e/\Nd.b (sB (β:=Tn n) f e)=f (Nd.b (β:=Tn n) e):=λf=>by have⟨v,a,b⟩:=e;exact⟨rfl,rfl,rfl⟩
  by_cases hk:k=0
  .grind
  .rw[H7 hk]at h;by_cases hk1:k % 2=1
   .rw[I9 hk1]at h;by_cases hj:j=0
    .grind
    .rw[H7 hj]at h⊢;by_cases hj1:j % 2=1
     .rw[I9 hj1]at h⊢;rcases aY3 n (k/2) (j/2) x _ y ((congrArg (gB n (j/2)) (eA _).2.1).symm.trans h)with⟨h1,h2⟩|⟨h1,h2⟩
      .grind
      .grind
     .grind
   .rw[H7 hk1]at h;by_cases hj:j=0
    .grind
    .rw[H7 hj]at h⊢;by_cases hj1:j % 2=1
     .grind
     .rw[H7 hj1]at h⊢;rcases aY3 n (k/2-1) (j/2-1) x _ y ((congrArg (gB n (j/2-1)) (eB _).2.2).symm.trans h)with⟨h1,h2⟩|⟨h1,h2⟩
      .grind
      .grind
theorem bu5:bu4=(List.range 160).map λk=>⟨λe=>gB 8 k e,λx e=>kY 8 k x e⟩:=by rfl
theorem TG{t:Nat}(h:t<160):FZ t=⟨λe=>gB 8 t e,λx e=>kY 8 t x e⟩:=by
 unfold FZ;rw[BN,bu5,P9,bj2 h];rfl
def ZM{t:Nat}(h:160<=t):FZ t=⟨λ_=>none,λ_ e=>e⟩:=by
 unfold FZ;rw[BN,uQ (by rw[bu5];simpa using h)]
def bs3{t j:Nat}{x:AV}{e:Env}{y:AV}(h:fE j (yM t x e)=some y):(j=t/\y=x)\/(j≠t/\fE j e=some y):=by
 unfold fE yM at*
 rcases fJ j 160 with hj|hj
 .rcases fJ t 160 with ht|ht
  .rw[TG hj,TG ht]at h;rw[TG hj];exact aY3 8 t j x e y h
  .rw[ZM ht]at h
   grind
 .rw[ZM hj]at h;cases h
def dI1(t:Nat):fE t zeroE=none:=by
 unfold fE;rcases fJ t 160 with ht|ht
 .rw[TG ht];show gB 8 t zeroE=none;have hu:∀k,gB 0 k ()=none:=λ_=>rfl;have st:∀(n:Nat)(x:Tn n),(∀k,gB n k x=none)->∀k,gB (n+1) k (n0 x:Nd (Tn n))=none:=λn x hx k=>by
   show(if k=0 then none else if k % 2=1 then gB n (k/2) x else gB n (k/2-1) x)=none
   grind
  exact st 7 _ (st 6 _ (st 5 _ (st 4 _ (st 3 _ (st 2 _ (st 1 _ (st 0 _ hu))))))) t
 .rw[ZM ht]
def qU{α:Type}(a b:List α):fV a b=a++b:=by
 induction a with
 |nil=>rfl
 |cons x r ih=>exact congrArg (x::·) ih
def kE{α:Type}(l:List α):dM l=l.length:=by
 induction l with
 |nil=>rfl
 |cons x r ih=>exact congrArg Nat.succ ih
def yY{α β:Type}(f:α->β)(l:List α):jS f l=l.map f:=by
 induction l with
 |nil=>rfl
 |cons x r ih=>exact congrArg (f x::·) ih
def da0{α:Type}{xs l r:List α}(h:bM8 xs l=some r):xs.length<=l.length/\r=xs++l.drop xs.length:=by
 induction xs generalizing l r with
 |nil=>cases h;exact⟨aF _,rfl⟩
 |cons x xs ih=>
  rcases l with _|⟨y,l⟩
  .cases h
  .have⟨s,h1,h2⟩:=U1 h;injection h2 with h2
   subst h2;have⟨h3,h4⟩:=ih h1
   grind
def av5{α:Type}{n:Nat}{xs l r:List α}(h:xG n xs l=some r):n+xs.length<=l.length/\r=l.take n++xs++l.drop (n+xs.length):=by
 induction n generalizing l r with
 |zero=>
  have⟨h1,h2⟩:=da0 h
  grind
 |succ n ih=>
  rcases l with _|⟨y,l⟩
  .cases h
  .have⟨s,h1,h2⟩:=U1 h;injection h2 with h2
   subst h2;have⟨h3,h4⟩:=ih h1
   grind
def bP7{α:Type}{n:Nat}{xs l r:List α}(h:xG n xs l=some r)(j:Nat):r[j]?=if j<n then l[j]? else if j<n+xs.length then xs[j-n]? else l[j]?:=by
 obtain⟨h1,rfl⟩:=av5 h
 grind
def db9{α:Type}{n:Nat}{xs l r:List α}(h:xG n xs l=some r):r.length=l.length:=by
 obtain⟨h1,rfl⟩:=av5 h;simp;omega
def bs8(a b:O1):BH a b=decide (a=b):=by
 induction a generalizing b with
 |nil=>cases b<;>rfl
 |cons x r ih=>
  rcases b with _|⟨y,s⟩
  .rfl
  .show bq (Nat.beq x y) (BH r s) false=_;rw[ih];by_cases h:x=y
   .subst h;simp
   .have:Nat.beq x y=false:=by cases hb:Nat.beq x y with|false=>rfl|true=>exact absurd (G5 hb) h
    rw[this];simp[h]
def cX2{l:List Operand}{e:Env}{r:J7}(h:tX l e=some r):r.length=l.length/\∀(i:Nat)(x:Operand),l[i]?=some x->∃a,r[i]?=some a/\look x e=some a:=by
 induction l generalizing r with
 |nil=>cases h;exact⟨rfl,λi x h=>by simp at h⟩
 |cons o l ih=>
  have⟨a,h1,h⟩:=U1 h;have⟨s,h2,h⟩:=U1 h;injection h with h
  subst h;have⟨h3,h4⟩:=ih h2;refine⟨by simp[h3],λi x hx=>?_⟩;rcases i with _|i
  .grind
  .grind
@[simp] theorem aC3 (k:IntKind) (n:Nat) (f:IntKind->Nat->RO):EN (.n k n) f=f k n:=rfl
@[simp] theorem bh0 (b o:Nat) (f:Nat->Nat->RO):oP (.p b o) f=f b o:=rfl
@[simp] theorem dD7 (b o l:Nat) (c:E8) (f:Nat->Nat->Nat->E8->RO):XL (.s b o l c) f=f b o l c:=rfl
@[simp] theorem dD4 (cs:J7) (f:J7->RO):EM (.g cs) f=f cs:=rfl
def L6{α:Type}{a:Option α}{k:α->RO}(h:oR a k≠.no):∃x,a=some x/\oR a k=k x:=by
 rcases a with _|x
 .exact absurd rfl h
 .exact⟨x,rfl,rfl⟩
theorem Z7{c:Bool}{k:RO}(h:bR c k≠.no):c=true:=by
 rcases c with _|_
 .exact absurd rfl h
 .rfl
@[simp] theorem Z8 (k:RO):bR true k=k:=rfl
def bg9{a:AV}{k:IntKind->Nat->RO}(h:EN a k≠.no):∃j n,a=.n j n:=by cases a<;>first|exact⟨_,_,rfl⟩|exact absurd rfl h
def dD5{a:AV}{k k':RO}(h:aj6 a k k'≠.no):∃b,a=.q b:=by cases a<;>first|exact⟨_,rfl⟩|exact absurd rfl h
def XK{a:AV}{k:Nat->Nat->RO}(h:oP a k≠.no):∃b o,a=.p b o:=by cases a<;>first|exact⟨_,_,rfl⟩|exact absurd rfl h
def dD6{a:AV}{k:Nat->Nat->Nat->E8->RO}(h:XL a k≠.no):∃b o l c,a=.s b o l c:=by cases a<;>first|exact⟨_,_,_,_,rfl⟩|exact absurd rfl h
def cg9{a:AV}{k:J7->RO}(h:EM a k≠.no):∃cs,a=.g cs:=by cases a<;>first|exact⟨_,rfl⟩|exact absurd rfl h
def dD3{a:AV}{k:FuncId->J7->J7->RO}{ky:Nat->RO}(h:bg8 a k ky≠.no):(∃f fs cs,a=.f f fs cs)\/∃b,a=.y b:=by
 cases a<;>first|exact .inl ⟨_,_,_,rfl⟩|exact .inr ⟨_,rfl⟩|exact absurd rfl h
def dD2{o:AO}{k:Nat->J7->RO}(h:bg7 o k≠.no):∃el cs,o=.c el cs:=by cases o<;>first|exact⟨_,_,rfl⟩|exact absurd rfl h
def xH{s:St}{b:Nat}{k:Nat->J7->RO}(h:iU s b k≠.no):∃el cs,s.h.get (pa b)=some (.c el cs)/\iU s b k=k el cs:=by
 have⟨o,h1,h2⟩:=L6 h;have h3:iU s b k=bg7 o k:=h2;rw[h3]at h;obtain⟨el,cs,rfl⟩:=dD2 h;exact⟨el,cs,h1,h3⟩
theorem uK{s:St}{b:Nat}{x:Option AO}{K:St->RO}(h:setH s b x K≠.no):s.ro<=b/\setH s b x K=K ⟨s.h.set (pa b) x,s.nx,s.ro⟩:=by
 have h1:Nat.ble s.ro b=true:=Z7 h;refine⟨I8 h1,?_⟩;show bR (Nat.ble s.ro b) _=_;rw[h1];rfl
def CY(o:AO)(mk:Nat->AV)(s:St):oN o mk s=.one (mk s.nx) ⟨s.h.set (pa s.nx) (some o),s.nx+1,s.ro⟩:=
 jQ s.nx λnx=>RO.one (mk nx) ⟨s.h.set (pa nx) (some o),Nat.succ nx,s.ro⟩
@[simp] theorem af5 (b o:Nat) (s:St):af4 b o s=.one (.p b o) s:=jQ o λo=>RO.one (.p b o) s
@[simp] theorem af2 (k:IntKind) (n:Nat) (s:St):af0 k n s=.one (.n k n) s:=jQ n λn=>RO.one (.n k n) s
@[simp] theorem aw5 (b o l:Nat) (c:E8) (s:St):af6 b o l c s=.one (.s b o l c) s:=by
  unfold af6;rw[jQ,jQ];cases c with
  |none=>rfl
  |some c=>exact jQ c λc=>RO.one (.s b o l (some c)) s
end
section
open Go Go.F7 Go.RowKit
structure Loc where
 blk:Nat
 sh:Nat
 el:Nat
 tot:Nat
abbrev Ren:=Nat->Option Loc
def xX(ρ ρ':Ren):Prop:=∀b L,ρ b=some L->ρ' b=some L
structure Ext(ρ ρ':Ren):Prop where
 tOz:xX ρ ρ'
 low:∀b c L,b<c->ρ c=some L->ρ' b=ρ b
instance {ρ ρ':Ren}:CoeOut (Ext ρ ρ') (xX ρ ρ'):=⟨λh=>h.tOz⟩
instance {ρ ρ':Ren}:CoeFun (Ext ρ ρ') λ_=>∀b L,ρ b=some L->ρ' b=some L:=⟨λh=>h.tOz⟩
def Ext.refl(ρ:Ren):Ext ρ ρ:=⟨λ_ _ h=>h,λ_ _ _ _ _=>rfl⟩
def Ext.trans{ρ ρ' XQ:Ren}(h:Ext ρ ρ')(k:Ext ρ' XQ):Ext ρ XQ:=⟨λb L e=>k.tOz b L (h.tOz b L e),λb c L hb hc=>(k.low b c L hb (h.tOz c L hc)).trans (h.low b c L hb hc)⟩
def AQ:AV->Bool
 |.g _=>false
 |.t _=>false
 |_=>true
inductive RV(ρ:Ren):AV->Value->Prop
 |n (k:IntKind) (n:Nat):RV ρ (.n k n) (.int k (.ofNat n))
 |neg (k:IntKind) (n:Nat):RV ρ (.neg k n) (.int k (.negSucc n))
 |q (b:Bool):RV ρ (.q b) (.bool b)
 |str (s:ByteArray):RV ρ (.str (s.data.toList.map UInt8.toNat)) (.string s)
 |ns:RV ρ .ns (.slice none 0 0)
 |np:RV ρ .np (.pointer none)
 |nm:RV ρ .nm (.map none)
 |nf:RV ρ .nf .nilFunc
 |ni:RV ρ .ni .nilIface
 |p (b o:Nat) (L:Loc) (h:ρ b=some L):RV ρ (.p b o) (.pointer (some ⟨L.blk,o+L.sh,none⟩))
 |s (b o l cap off:Nat) (c:Option Nat) (L:Loc) (h:ρ b=some L) (hl:l<=cap) (hc:∀k,c=some k->cap=k) (ho:off=o+L.sh\/cap=0)
    (hb:c=none->∃i,I7 L.el=some i/\off+cap*i.size<=L.tot):RV ρ (.s b o l c) (.slice (some ⟨L.blk,off,none⟩) l cap)
 |m (b:Nat) (L:Loc) (h:ρ b=some L):RV ρ (.m b) (.map (some L.blk))
 |f (f:FuncId) (fs cs:List AV) (vs us:List Value) (h1:fs.length=vs.length) (h2:cs.length=us.length) (h3:∀(i:Nat)(c:AV)(x:Value),fs[i]?=some c->vs[i]?=some x->RV ρ c x)
    (h4:∀(i:Nat)(c:AV)(x:Value),cs[i]?=some c->us[i]?=some x->RV ρ c x):RV ρ (.f f fs cs) (.func (.func f) vs.toArray us.toArray)
 |y (b:Nat) (L:Loc) (h:ρ b=some L):RV ρ (.y b) (.func (.yield L.blk) #[] #[])
 |g (cs:List AV) (vs:List Value) (h1:cs.length=vs.length) (h2:∀(i:Nat)(c:AV)(x:Value),cs[i]?=some c->vs[i]?=some x->RV ρ c x) (h3:∀c∈cs,AQ c=true):RV ρ (.g cs) (.agg vs.toArray)
 |t (cs:List AV) (vs:List Value) (h1:cs.length=vs.length) (h2:∀(i:Nat)(c:AV)(x:Value),cs[i]?=some c->vs[i]?=some x->RV ρ c x):RV ρ (.t cs) (.tuple vs.toArray)
def RV.ext{ρ ρ':Ren}(he:xX ρ ρ'){a:AV}{x:Value}(h:RV ρ a x):RV ρ' a x:=by
 induction h with
 |n=>exact .n _ _
 |neg=>exact .neg _ _
 |q=>exact .q _
 |str=>exact .str _
 |ns=>exact .ns
 |np=>exact .np
 |nm=>exact .nm
 |nf=>exact .nf
 |ni=>exact .ni
 |p b o L h=>exact .p b o L (he b L h)
 |s b o l cap off c L h hl hc ho hb=>exact .s b o l cap off c L (he b L h) hl hc ho hb
 |m b L h=>exact .m b L (he b L h)
 |f f fs cs vs us h1 h2 _ _ i3 i4=>exact .f f fs cs vs us h1 h2 i3 i4
 |y b L h=>exact .y b L (he b L h)
 |g cs vs h1 _ h3 i2=>exact .g cs vs h1 i2 h3
 |t cs vs h1 _ i2=>exact .t cs vs h1 i2
def RV.atom{ρ:Ren}{a:AV}{x:Value}(h:RV ρ a x)(ha:AQ a=true):x.oneCell'=true:=by
 cases h<;>first|rfl|(simp[AQ]at ha)
def O5(ρ:Ren)(cs:J7)(vs:H6):Prop:=cs.length=vs.length/\∀(i:Nat)(c:AV)(x:Value),cs[i]?=some c->vs[i]?=some x->RV ρ c x
def O5.nil(ρ:Ren):O5 ρ [] []:=⟨rfl,λi c x h=>by simp at h⟩
def O5.cons{ρ:Ren}{c:AV}{x:Value}{cs:J7}{vs:H6}(h:RV ρ c x)(hs:O5 ρ cs vs):O5 ρ (c::cs) (x::vs):=by
 refine⟨by simp[hs.1],λi c' x' h1 h2=>?_⟩;rcases i with _|i
 .grind
 .simp at h1 h2;exact hs.2 i c' x' h1 h2
def O5.ext{ρ ρ':Ren}(he:xX ρ ρ'){cs:J7}{vs:H6}(h:O5 ρ cs vs):O5 ρ' cs vs:=⟨h.1,λi c x h1 h2=>(h.2 i c x h1 h2).ext he⟩
def O5.append{ρ:Ren}{cs ds:J7}{vs us:H6}(h:O5 ρ cs vs)(k:O5 ρ ds us):O5 ρ (cs++ds) (vs++us):=by
 refine⟨by simp[h.1,k.1],λi c x h1 h2=>?_⟩;rcases fJ i cs.length with hlt|hge
 .rw[dX hlt]at h1;rw[dX (by rw[<-h.1];exact hlt)]at h2;exact h.2 i c x h1 h2
 .rw[dN hge]at h1;rw[dN (by rw[<-h.1];exact hge),<-h.1]at h2;exact k.2 _ c x h1 h2
def O5.get{ρ:Ren}{cs:J7}{vs:H6}(h:O5 ρ cs vs){i:Nat}{c:AV}(hc:cs[i]?=some c):∃x,vs[i]?=some x/\RV ρ c x:=by
 have hlt:=(P7.1 hc).1;rw[h.1]at hlt;exact⟨_,J9 hlt,h.2 i c _ hc (J9 hlt)⟩
def aX(ρ:Ren)(e:Env)(tmps:S9):Prop:=∀t a,fE t e=some a->∃x,tmps[t]?=some x/\RV ρ a x
def aX.ext{ρ ρ':Ren}(he:xX ρ ρ'){e:Env}{tm:S9}(h:aX ρ e tm):aX ρ' e tm:=λt a ht=>by
 have⟨x,h1,h2⟩:=h t a ht;exact⟨x,h1,h2.ext he⟩
def lQ(q:Nat)(j:Option Code):lF:=match q,j with
 |0,_=>.on
 |1,_=>.busy
 |_,some j=>.off j
 |_,none=>.busy
def X7(ρ:Ren)(w:World)(b:Nat):AO->Prop
 |.c el cs=>∃L arr,ρ b=some L/\L.el=el/\w.heap[L.blk]?=some (.cells arr el (0,0))/\arr.size=L.tot/\∀(i:Nat)(c:AV),cs[i]?=some c->AQ c=true/\∃x,arr[i+L.sh]?=some x/\RV ρ c x
 |.m es=>∃L arr,ρ b=some L/\w.heap[L.blk]?=some (.map arr arr.size)/\es.length=arr.size/\
   ∀(i:Nat)(k v:AV)(m:MapEntry),es[i]?=some (k,v)->arr[i]?=some m->RV ρ k m.key/\RV ρ v m.val/\m.born=i
 |.l q e ps aW body j=>∃L R,ρ b=some L/\w.heap[L.blk]?=some (.loop ((lQ q j).put R))/\R.params.toList=ps/\R.assign=aW/\R.body=body/\aX ρ e R.tmps/\
   (allB (λp=>Nat.blt p R.tmps.size) ps&&codeOk R.tmps.size aW&&codeOk R.tmps.size body&&eF aW&&eF body)=true
 |.si l pos=>∃L s,ρ b=some L/\w.heap[L.blk]?=some (.stringIter s pos)/\s.data.toList.map UInt8.toNat=l/\L.sh=0
 |.mi m seen n=>∃L M,ρ b=some L/\ρ m=some M/\w.heap[L.blk]?=some (.mapIter (some M.blk) n seen.toArray n)/\L.sh=0
def X7.ext{ρ ρ':Ren}(he:xX ρ ρ'){w:World}{b:Nat}{o:AO}(h:X7 ρ w b o):X7 ρ' w b o:=by
 cases o with
 |c el cs=>
  have⟨L,arr,h1,h2,h3,h4,h5⟩:=h;exact⟨L,arr,he _ _ h1,h2,h3,h4,λi c hc=>by have⟨g1,x,g2,g3⟩:=h5 i c hc;exact⟨g1,x,g2,g3.ext he⟩⟩
 |m es=>
  have⟨L,arr,h1,h2,h3,h4⟩:=h;exact⟨L,arr,he _ _ h1,h2,h3,λi k v m g1 g2=>by have⟨q1,q2,q3⟩:=h4 i k v m g1 g2;exact⟨q1.ext he,q2.ext he,q3⟩⟩
 |l q e ps aW body j=>
  have⟨L,R,h1,h2,h3,h4,h5,h6,h7⟩:=h;exact⟨L,R,he _ _ h1,h2,h3,h4,h5,h6.ext he,h7⟩
 |si l pos=>
  have⟨L,s,h1,h2⟩:=h;exact⟨L,s,he _ _ h1,h2⟩
 |mi m seen n=>
  have⟨L,M,h1,h2,h3⟩:=h;exact⟨L,M,he _ _ h1,he _ _ h2,h3⟩
def X7.loc{ρ:Ren}{w:World}{b:Nat}{o:AO}(h:X7 ρ w b o):∃L,ρ b=some L/\L.blk<w.heap.size:=by
 cases o with
 |c el cs=>have⟨L,arr,h1,h2,h3,_⟩:=h;exact⟨L,h1,(X6.1 h3).1⟩
 |m es=>have⟨L,arr,h1,h2,_⟩:=h;exact⟨L,h1,(X6.1 h2).1⟩
 |l q e ps aW body j=>have⟨L,R,h1,h2,_⟩:=h;exact⟨L,h1,(X6.1 h2).1⟩
 |si l pos=>have⟨L,s,h1,h2,_⟩:=h;exact⟨L,h1,(X6.1 h2).1⟩
 |mi m seen n=>have⟨L,M,h1,h2,h3,_⟩:=h;exact⟨L,h1,(X6.1 h3).1⟩
def X7.world{ρ:Ren}{w w':World}{b:Nat}{o:AO}(h:X7 ρ w b o)(hw:∀L,ρ b=some L->w'.heap[L.blk]?=w.heap[L.blk]?):X7 ρ w' b o:=by
 cases o with
 |c el cs=>have⟨L,arr,h1,h2,h3,h4⟩:=h;exact⟨L,arr,h1,h2,(hw L h1).trans h3,h4⟩
 |m es=>have⟨L,arr,h1,h2,h3⟩:=h;exact⟨L,arr,h1,(hw L h1).trans h2,h3⟩
 |l q e ps aW body j=>have⟨L,R,h1,h2,h3⟩:=h;exact⟨L,R,h1,(hw L h1).trans h2,h3⟩
 |si l pos=>have⟨L,s,h1,h2,h3⟩:=h;exact⟨L,s,h1,(hw L h1).trans h2,h3⟩
 |mi m seen n=>have⟨L,M,h1,h2,h3,h4⟩:=h;exact⟨L,M,h1,h2,(hw L h1).trans h3,h4⟩
def GE(w:World):Prop:=∃m,w.cell? ⟨mxB,0,none⟩=some (.int .i64 m)
structure Rl(S:Nat->Prop)(w0:World)(ρ:Ren)(s:St)(w:World):Prop where
 kept:Kept S w0 w
 slt:∀k,S k->k<w0.heap.size
 gs:∀w',Kept S w0 w'->GE w'
 fresh:∀b,s.nx<=b->ρ b=none
 oO:s.ro<=s.nx
 obj:∀b o,s.h.get (pa b)=some o->X7 ρ w b o
 own:∀b o L,s.h.get (pa b)=some o->ρ b=some L->s.ro<=b->¬S L.blk
 lJ:∀b cs L,s.h.get (pa b)=some (.c mM cs)->ρ b=some L->L.sh=0
 inj:∀b b' o o' L L',s.h.get (pa b)=some o->s.h.get (pa b')=some o'->ρ b=some L->ρ b'=some L'->L.blk=L'.blk->b=b'
section
variable{S:U2}{w0:World}{ρ:Ren}{s:St}{w:World}
def Rl.lt(h:Rl S w0 ρ s w){b:Nat}{o:AO}(hb:s.h.get (pa b)=some o):b<s.nx:=by
 have⟨L,hL,_⟩:=(h.obj b o hb).loc;rcases fJ b s.nx with h1|h1
 .exact h1
 .rw[h.fresh b h1]at hL;cases hL
def Rl.world(h:Rl S w0 ρ s w){w':World}(hk:Kept S w w')(hw:∀b o L,s.h.get (pa b)=some o->ρ b=some L->w'.heap[L.blk]?=w.heap[L.blk]?):Rl S w0 ρ s w':=
 { h with
   kept:=h.kept.trans hk
   obj:=λb o hb=>(h.obj b o hb).world λL hL=>hw b o L hb hL }
def Rl.YG(h:Rl S w0 ρ s w){b el:Nat}{cs:J7}{L:Loc}(hb:s.h.get (pa b)=some (.c el cs))(hL:ρ b=some L)(he:el=mM):L.sh=0:=by subst he;exact h.lJ b cs L hb hL
def bH(ρ:Ren)(b:Nat)(L:Loc):Ren:=λc=>if c=b then some L else ρ c
def ae1{b:Nat}(hf:ρ b=none)(L:Loc):xX ρ (bH ρ b L):=λc M h=>by
 unfold bH
 grind
def JC{b:Nat}(hf:∀c,b<=c->ρ c=none)(L:Loc):Ext ρ (bH ρ b L):=⟨ae1 (hf b (N8 _)) L,λc d M hc hd=>H7 λe=>by
 subst e;rw[hf d (Nat.le_of_lt hc)]at hd
 cases hd⟩
theorem kH(b:Nat)(L:Loc):bH ρ b L b=some L:=I9 rfl
def Rl.new(h:Rl S w0 ρ s w){w':World}{o:AO}{L:Loc}(hk:Kept S w w')(hw:∀b o L,s.h.get (pa b)=some o->ρ b=some L->w'.heap[L.blk]?=w.heap[L.blk]?)
    (hnS:¬S L.blk) (hne:∀b o M,s.h.get (pa b)=some o->ρ b=some M->M.blk≠L.blk) (ho:X7 (bH ρ s.nx L) w' s.nx o) (hbl:∀cs,o=.c mM cs->L.sh=0):
    Rl S w0 (bH ρ s.nx L) ⟨s.h.set (pa s.nx) (some o),s.nx+1,s.ro⟩ w':=by
 have hx:Ext ρ (bH ρ s.nx L):=JC h.fresh L;have hold:∀b M,b≠s.nx->bH ρ s.nx L b=some M->ρ b=some M:=λb M hb hM=>by unfold bH at hM;rwa [H7 hb]at hM
 have hnew:∀M,bH ρ s.nx L s.nx=some M->M=L:=λM hM=>by rw[kH]at hM;exact(jJ hM).symm
 refine⟨h.kept.trans hk,h.slt,h.gs,λb hb=>?_,Y2 h.oO (Nat.le_succ _),λb o' hb=>?_,λb o' M hb hM hr=>?_,λb cs M hb hM=>?_,λb b' o1 o2 M M' hb hb' hM hM' he=>?_⟩
 .show bH ρ s.nx L b=none;have hb':s.nx+1<=b:=hb;unfold bH;rw[H7 (by omega)];exact h.fresh b (by omega)
 .rcases mQ hb with⟨rfl,e⟩|⟨hne',hb'⟩
  .grind
  .exact((h.obj b o' hb').world λM hM=>hw b o' M hb' hM).ext hx
 .rcases mQ hb with⟨rfl,e⟩|⟨hne',hb'⟩
  .grind
  .exact h.own b o' M hb' (hold b M hne' hM) hr
 .rcases mQ hb with⟨rfl,e⟩|⟨hne',hb'⟩
  .grind
  .exact h.lJ b cs M hb' (hold b M hne' hM)
 .rcases mQ hb with⟨rfl,e⟩|⟨h1,hb1⟩<;>rcases mQ hb' with⟨rfl,e'⟩|⟨h2,hb2⟩
  .rfl
  .grind
  .grind
  .exact h.inj b b' o1 o2 M M' hb1 hb2 (hold b M h1 hM) (hold b' M' h2 hM') he
def Rl.drop(h:Rl S w0 ρ s w)(b:Nat):Rl S w0 ρ ⟨s.h.set (pa b) none,s.nx,s.ro⟩ w:=by
 have hg:∀c o,(s.h.set (pa b) none).get (pa c)=some o->s.h.get (pa c)=some o/\c≠b:=λc o hc=>by
  rcases mQ hc with⟨_,e⟩|⟨h1,h2⟩
  .cases e
  .grind
 exact⟨h.kept,h.slt,h.gs,h.fresh,h.oO,λc o hc=>h.obj c o (hg c o hc).1,λc o L hc=>h.own c o L (hg c o hc).1,λc cs L hc=>h.lJ c cs L (hg c _ hc).1,λc c' o o' L L' hc hc'=>h.inj c c' o o' L L' (hg c o hc).1 (hg c' o' hc').1⟩
def Rl.write(h:Rl S w0 ρ s w){w':World}{b:Nat}{o o':AO}{L:Loc}(hb:s.h.get (pa b)=some o)(hL:ρ b=some L)(hr:s.ro<=b)(hk:Kept (λk=>k≠L.blk) w w')(ho:X7 ρ w' b o')(hbl:∀cs,o'=.c mM cs->L.sh=0):Rl S w0 ρ ⟨s.h.set (pa b) (some o'),s.nx,s.ro⟩ w':=by
 have hS:=h.own b o L hb hL hr;have vK:Kept S w w':=⟨hk.os,hk.tape,hk.output,hk.size,λk hk'=>hk.block k (λe=>hS (e▸hk')),hk.dK⟩;refine⟨h.kept.trans vK,h.slt,h.gs,h.fresh,h.oO,λc x hc=>?_,λc x M hc hM hrc=>?_,λc cs M hc hM=>?_,λc c' x x' M M' hc hc' hM hM' he=>?_⟩
 .rcases mQ hc with⟨rfl,e⟩|⟨hne,hc'⟩
  .grind
  .refine(h.obj c x hc').world λM hM=>hk.block _ λe=>?_;exact hne (h.inj c b x o M L hc' hb hM hL e)
 .rcases mQ hc with⟨rfl,e⟩|⟨hne,hc'⟩
  .grind
  .exact h.own c x M hc' hM hrc
 .rcases mQ hc with⟨rfl,e⟩|⟨hne,hc'⟩
  .grind
  .exact h.lJ c cs M hc' hM
 .have e1:∀c x,(s.h.set (pa b) (some o')).get (pa c)=some x->∃y,s.h.get (pa c)=some y:=λc x hc=>by
   rcases mQ hc with⟨rfl,_⟩|⟨_,h2⟩
   .grind
   .grind
  have⟨y,hy⟩:=e1 c x hc;have⟨y',hy'⟩:=e1 c' x' hc';exact h.inj c c' y y' M M' hy hy' hM hM' he
end
def Has(r:RO)(v:AV)(s:St):Prop:=r=.one v s\/∃l,r=.many l/\(v,s)∈l
def cZ(P:Program)(o:Oper)(f:dB):Prop:=
 ∀(S:U2)(w0:World)(ρ:Ren)(e:Env)(s:St)(a:Act)(w:World)(next:kR)(Q:dD),
  f e s≠.no->aX ρ e a.tmps->Rl S w0 ρ s w->(∀v s' ρ' x w',Has (f e s) v s'->Ext ρ ρ'->Rl S w0 ρ' s' w'->s'.ro=s.ro->s.nx<=s'.nx->RV ρ' v x->next (a.put o.dst x) w')->Oper.dV P o a w next Q
section
variable{P:Program}{S:U2}{w0:World}{ρ:Ren}{e:Env}{s:St}{a:Act}{w:World}
def yT(k:IntKind)(i:Int):RV ρ (aP9 k i) (.int k i):=by cases i;exact .n _ _;exact .neg _ _
def bq0{v:Value}{x:AV}(h:SN v=some x):RV ρ x v:=by
 unfold SN at h;split at h
 .simp at h;subst h;exact yT _ _
 .simp at h;subst h;exact .q _
 .simp at h;subst h;exact .str _
 .simp at h;subst h;exact .ns
 .simp at h;subst h;exact .np
 .simp at h;subst h;exact .nm
 .simp at h;subst h;exact .nf
 .simp at h;subst h;exact .ni
 .simp at h;subst h;exact .t [] [] rfl (λi c x h=>by simp at h)
 .cases h
def bG{x:Operand}{v:AV}(h:look x e=some v)(he:aX ρ e a.tmps):RV ρ v (a.eval x):=by
 cases x with
 |tmp t=>
  obtain⟨y,h1,h2⟩:=he t v h;have:a.eval (.tmp t)=y:=by simp[Act.eval,bY,h1]
  grind
 |const c=>exact bq0 h
 |global g=>cases h
 |func f=>
  have h:some (AV.f f [] [])=some v:=h;injection h with h
  subst h;exact .f f [] [] [] [] rfl rfl (λi c x h=>by simp at h) (λi c x h=>by simp at h)
def as2{l:List Operand}{r:J7}(h:tX l e=some r)(he:aX ρ e a.tmps):O5 ρ r (l.map a.eval):=by
 obtain⟨h1,h2⟩:=cX2 h;refine⟨by simp[h1],λi c x hc hx=>?_⟩;rw[P9]at hx;cases hl:l[i]? with
 |none=>grind
 |some o=>
  rw[hl]at hx;simp at hx;subst hx;obtain⟨b,g1,g2⟩:=h2 i o hl;rw[hc]at g1;injection g1 with g1
  subst g1;exact bG g2 he
def eH{o:Oper}{next:kR}{Q:dD}{r:RO}{v:AV}{x:Value}(hr:r=.one v s)(hR:Rl S w0 ρ s w)(hx:RV ρ v x)(hrun:(execOp a.eval o).run P w=.ok (.value x) w)
    (hn:∀v s' ρ' x w',Has r v s'->Ext ρ ρ'->Rl S w0 ρ' s' w'->s'.ro=s.ro->s.nx<=s'.nx->RV ρ' v x->next (a.put o.dst x) w'):Oper.dV P o a w next Q:=
 bP hrun (hn v s ρ x w (.inl hr) (Ext.refl _) hR rfl (N8 _) hx)
def bW0(o:Oper)(x:Operand)(ho:o.op=.move x\/o.op=.assign x):cZ P o (DL x):=by
 intro S w0 ρ e s a w next Q h he hR hn
 obtain⟨v,h1,h2⟩:=L6 h;exact eH h2 hR (bG h1 he) (by rcases ho with ho|ho<;>simp[execOp,ho]) hn
def dl2(o:Oper)(c x y:Operand)(ho:o.op=.pick c x y):cZ P o (VL c x y):=by
 intro S w0 ρ e s a w next Q h he hR hn
 obtain⟨v,h1,h2⟩:=L6 h;replace h2:VL c x y e s=_:=h2;rw[h2]at h hn;obtain⟨b,rfl⟩:=dD5 h;have hc:=bG h1 he;have hcv:a.eval c=.bool b:=by generalize a.eval c=y at hc;cases hc;rfl
 cases b with
 |true=>
  obtain⟨u,g1,g2⟩:=L6 (show oR (look x e) (λa=>RO.one a s)≠.no from h);exact eH g2 hR (bG g1 he) (by simp[execOp,ho,hcv,asBool]) hn
 |false=>
  obtain⟨u,g1,g2⟩:=L6 (show oR (look y e) (λa=>RO.one a s)≠.no from h);exact eH g2 hR (bG g1 he) (by simp[execOp,ho,hcv,asBool]) hn
def dl1(o:Oper)(x:Operand)(ho:o.op=.nilCheck x):cZ P o (VK x):=by
 intro S w0 ρ e s a w next Q h he hR hn
 obtain⟨v,h1,h2⟩:=L6 h;replace h2:VK x e s=_:=h2;rw[h2]at h hn;have hk:=Z7 h;rw[hk]at hn;have hx:=bG h1 he;refine eH rfl hR hx ?_ hn;generalize hax:a.eval x=y at hx;cases hx<;>first|(simp[bL9]at hk;done)|simp[execOp,ho,hax]
def dk7(o:Oper)(g:Fn)(fs cs:yD)(ho:o.op=.makeFunc g fs cs):cZ P o (VH g fs cs):=by
 intro S w0 ρ e s a w next Q h he hR hn
 cases g with
 |func f=>
  obtain⟨v,h1,h2⟩:=L6 (show oR (tX fs.toList e) _≠.no from h);replace h2:VH (.func f) fs cs e s=oR (tX cs.toList e) _:=h2;rw[h2]at h hn;obtain⟨u,g1,g2⟩:=L6 h;rw[g2]at hn;have r1:=as2 h1 he;have r2:=as2 g1 he;refine eH rfl hR (.f f v u _ _ r1.1 r2.1 r1.2 r2.2) ?_ hn;have:∀l:yD,l.map a.eval=(l.toList.map a.eval).toArray:=λl=>by grind
  simp[execOp,ho,Instr.makeFunc,this]
 |_=>exact absurd rfl h
def Cells(ρ:Ren)(cs:J7)(f:Nat->uY):Prop:=∀(i:Nat)(c:AV),cs[i]?=some c->AQ c=true/\∃x,f i=some x/\RV ρ c x
def aX5{t:Nat}{cs:J7}{o:Nat}{v:AV}(h:partT t cs o=some v):∃i,I7 t=some i/\((i.isAgg=false/\cs[o]?=some v)\/(i.isAgg=true/\∃l,v=.g l/\l.length=i.size/\∀(j:Nat)(c:AV),l[j]?=some c->cs[o+j]?=some c)):=by
 obtain⟨g,h1,h2⟩:=U1 h;obtain⟨i,h3,h4⟩:=U1 h1;injection h4 with h4
 subst h4;refine⟨i,h3,?_⟩;cases hg:i.isAgg with
 |false=>
  rw[hg]at h2;simp only[LJ]at h2;exact .inl ⟨rfl,by rw[<-BN];exact h2⟩
 |true=>
  rw[hg]at h2;simp only[am6]at h2;obtain⟨n,h5,h6⟩:=U1 h2;obtain⟨i',h7,h8⟩:=U1 h5;rw[h3]at h7;injection h7 with h7
  subst h7;injection h8 with h8
  subst h8;obtain⟨l,h9,h10⟩:=U1 h6;injection h10 with h10
  obtain⟨h11,h12⟩:=az1 h9;refine .inr ⟨rfl,l,h10.symm,h12,λj c hj=>?_⟩;have hlt:j<i.size:=by grind
  rw[h11,YR,kN,I9 hlt,zV]at hj;exact hj
def db0{t:Nat}{cs:J7}{o:Nat}{v:AV}{f:Nat->uY}(h:partT t cs o=some v)(hc:Cells ρ cs f):∃i,I7 t=some i/\((i.isAgg=false/\AQ v=true/\∃x,f o=some x/\RV ρ v x)\/
    (i.isAgg=true/\∃l,v=.g l/\l.length=i.size/\Cells ρ l λj=>f (o+j))):=by
 obtain⟨i,h1,h2⟩:=aX5 h;refine⟨i,h1,h2.imp (λ⟨g1,g2⟩=>⟨g1,hc o v g2⟩) λ⟨g1,l,g2,g3,g4⟩=>⟨g1,l,g2,g3,λj c hj=>hc _ c (g4 j c hj)⟩⟩
def Cells.agg{l:J7}{f:Nat->uY}(hc:Cells ρ l f):∃vs:H6,vs.length=l.length/\(∀(j:Nat)(x:Value),vs[j]?=some x->f j=some x)/\RV ρ (.g l) (.agg vs.toArray):=by
 refine⟨(List.range l.length).map λj=>(f j).getD undef,by simp,λj x hj=>?_,.g _ _ (by simp) (λj c x h1 h2=>?_) λc hm=>?_⟩
 .have hlt:j<l.length:=by have:=(P7.1 hj).1;simpa using this
  obtain⟨_,y,hy,_⟩:=hc j _ (J9 hlt)
  grind
 .have hlt:=(P7.1 h1).1;obtain⟨_,y,hy,hr⟩:=hc j c h1
  grind
 .obtain⟨j,hj⟩:=List.getElem?_of_mem hm;exact(hc j c hj).1
def bV0(hT:∀t i,I7 t=some i->O6 P t i){t b sh o el:Nat}{arr:S9}{cs:J7}{v:AV}(hh:w.heap[b]?=some (.cells arr el (0,0)))(hc:Cells ρ cs λi=>arr[i+sh]?)(hp:partT t cs o=some v):
    ∃x,(Instr.loadAt t (.pointer (some ⟨b,o+sh,none⟩))).run P w=.ok x w/\RV ρ v x:=by
 have hcell:∀k,w.cell? ⟨b,k,none⟩=arr[k]?:=λk=>kU w b k arr el (0,0) hh;obtain⟨i,hti,h⟩:=db0 hp hc;have hr:=(hT _ _ hti).IB w;rcases h with⟨hg,_,x,hx,jD⟩|⟨hg,l,rfl,hl,hcl⟩
 .rw[hg]at hr;refine⟨x,?_,jD⟩;have:w.cell? ⟨b,o+sh,none⟩=some x:=(hcell _).trans hx;simp[Instr.loadAt,Instr.sureAddr,loadVar,hr,Go.load,Sem.run,this]
 .rw[hg]at hr;obtain⟨vs,h1,h2,h3⟩:=hcl.agg
  have hcells:=run_loadCells_list (P:=P) w ⟨b,o+sh,none⟩ vs (λj v yS=>by
   have:=h2 j v yS;rw[iI,hcell,<-this];congr 1
   omega)
  rw[h1,hl]at hcells;refine⟨_,?_,h3⟩;simp[Instr.loadAt,Instr.sureAddr,loadVar,hr,(hT _ _ hti).sizeOf w,hcells]
def Rl.cells(hR:Rl S w0 ρ s w){b el:Nat}{cs:J7}(h:s.h.get (pa b)=some (.c el cs)):∃L arr,ρ b=some L/\L.el=el/\w.heap[L.blk]?=some (.cells arr el (0,0))/\arr.size=L.tot/\Cells ρ cs λi=>arr[i+L.sh]?:=hR.obj _ _ h
def vU{b o:Nat}{x:Value}(h:RV ρ (.p b o) x):∃L,ρ b=some L/\x=.pointer (some ⟨L.blk,o+L.sh,none⟩):=by cases h with|p _ _ L h=>exact⟨L,h,rfl⟩
theorem fM{k:IntKind}{n:Nat}{x:Value}(h:RV ρ (.n k n) x):x=.int k (.ofNat n):=by cases h;rfl
theorem dk5(hT:∀t i,I7 t=some i->O6 P t i)(o:Oper)(t:Nat)(x:Operand)(ho:o.op=.load t x):cZ P o (VF t x):=by
 intro S w0 ρ e s a w next Q h he hR hn
 obtain⟨v,h1,h2⟩:=L6 h;replace h2:VF t x e s=_:=h2;rw[h2]at h hn;obtain⟨b,off,rfl⟩:=XK h;obtain⟨el,cs,h3,h4⟩:=xH (show iU s b _≠.no from h);rw[show oP (.p b off) _=iU s b _ from rfl,h4]at h hn;obtain⟨r,h5,h6⟩:=L6 h;rw[h6]at hn;obtain⟨L,arr,g1,g2,g3,g4,g5⟩:=hR.cells h3;obtain⟨L',g6,g7⟩:=vU (bG h1 he);rw[g1]at g6;injection g6 with g6
 subst g6;obtain⟨y,g8,g9⟩:=bV0 hT g3 g5 h5;refine eH rfl hR g9 ?_ hn;simp only[execOp,ho,g7,J6,g8];rfl
def dj8(hT:∀t i,I7 t=some i->O6 P t i)(o:Oper)(t:Nat)(x:Operand)(k:Nat)(ho:o.op=.fieldAddr t x k):cZ P o (VB t x k):=by
 intro S w0 ρ e s a w next Q h he hR hn
 obtain⟨v,h1,h2⟩:=L6 h;replace h2:VB t x k e s=_:=h2;rw[h2]at h hn;obtain⟨u,h3,h4⟩:=L6 h;rw[h4]at h hn;have h5:=Z7 h;rw[h5]at h hn;obtain⟨b,off,rfl⟩:=XK (show oP v _≠.no from h);obtain⟨fo,h6,h7⟩:=U1 h3;obtain⟨z,h8,h9⟩:=U1 h7;injection h9 with h9
 subst h9;obtain⟨i,h10,h11⟩:=U1 h6;obtain⟨j,h12,h13⟩:=U1 h8;injection h13 with h13
 subst h13;have h5:1<=j.size:=I8 h5;obtain⟨L,g1,g2⟩:=vU (bG h1 he);split at h11
 .rename_i fs hd;split at h11
  .rename_i f hf;injection h11 with h11
   subst h11;have hu:=(hT _ _ h10).u;rw[hd]at hu;refine eH (af5 _ _ _) hR (.p _ _ L g1) ?_ hn;have hne:¬j.size=0:=by omega
   have hadd:off+L.sh+f.offset=Nat.add off f.offset+L.sh:=by grind
   simp[execOp,ho,g2,Instr.fieldAt,O4 hu,hf,Instr.sureAddr,fieldPlace,(hT _ _ h12).sizeOf w,hne,iI,hadd]
  .cases h11
 .cases h11
end
section
variable{P:Program}{S:U2}{w0:World}{ρ:Ren}{e:Env}{s:St}{a:Act}{w:World}
def JG{cs:J7}{x:Value}(h:RV ρ (.g cs) x):∃vs:H6,x=.agg vs.toArray/\cs.length=vs.length/\Cells ρ cs λi=>vs[i]?:=by
 cases h with
 |g _ vs h1 h2 h3=>
  refine⟨vs,rfl,h1,λi c hc=>⟨h3 c (iZ hc),?_⟩⟩;have hlt:=(P7.1 hc).1;exact⟨_,J9 (by omega),h2 i c _ hc (J9 (by omega))⟩
def bV1(hT:∀t i,I7 t=some i->O6 P t i){t o:Nat}{cs:J7}{vs:H6}{v:AV}(hl:cs.length=vs.length)(hc:Cells ρ cs λi=>vs[i]?)(hp:partT t cs o=some v):
    ∃x,(Go.part t vs.toArray o).run P w=.ok x w/\RV ρ v x:=by
 have⟨i,hti,h⟩:=aX5 hp;have hr:=(hT _ _ hti).IB w;rcases h with⟨hg,hx⟩|⟨hg,l,rfl,hl2,hcl⟩
 .rw[hg]at hr;have⟨_,x,hv,jD⟩:=hc _ _ hx;exact⟨x,by simp[Go.part,hr,hv],jD⟩
 .rw[hg]at hr;have hfit:i.size=0\/o+i.size<=cs.length:=by
   rcases Nat.eq_zero_or_pos i.size with h0|h0
   .grind
   .right;have:=(P7.1 (hcl (i.size-1) _ (J9 (by omega)))).1;omega
  refine⟨.agg ((vs.drop o).take i.size).toArray,by simp[Go.part,hr,(hT _ _ hti).sizeOf w],.g l _ ?_ (λj c x hj hx=>?_) λc hm=>?_⟩
  .grind
  .have hlt:j<i.size:=by rw[<-hl2];exact(P7.1 hj).1
   rw[kN,I9 hlt,zV]at hx;have⟨_,y,hy,jD⟩:=hc _ _ (hcl j c hj)
   grind
  .have⟨j,hj⟩:=List.getElem?_of_mem hm;exact(hc _ c (hcl j c hj)).1
def dj7(hT:∀t i,I7 t=some i->O6 P t i)(o:Oper)(t:Nat)(x:Operand)(k:Nat)(ho:o.op=.field t x k):cZ P o (VA t x k):=by
 intro S w0 ρ e s a w next Q h he hR hn
 have⟨v,h1,h2⟩:=L6 h;replace h2:VA t x k e s=_:=h2;rw[h2]at h hn;have⟨u,h3,h4⟩:=L6 h;rw[h4]at h hn;clear h4;obtain⟨cs,rfl⟩:=cg9 h;have⟨r,h5,h6⟩:=L6 (show oR (partT u.2 cs u.1) _≠.no from h);replace hn:=λv s' ρ' x w' (hv:Has (.one r s) v s')=>hn v s' ρ' x w' (by rw[show EM (.g cs) _=oR (partT u.2 cs u.1) _ from rfl,h6];exact hv);have⟨i,h10,h11⟩:=U1 h3;have⟨vs,g1,g2,g3⟩:=JG (bG h1 he);split at h11
 .rename_i fs hd;split at h11
  .rename_i f hf;injection h11 with h11
   subst h11;have hu:=(hT _ _ h10).u;rw[hd]at hu;have⟨y,g4,g5⟩:=bV1 (w:=w) hT g2 g3 h5;refine eH rfl hR g5 ?_ hn;simp[execOp,ho,g1,Instr.field,O4 hu,hf,asAgg,g4]
  .cases h11
 .cases h11
def bV6{cs:J7}{x:Value}(h:RV ρ (.t cs) x):∃vs:H6,x=.tuple vs.toArray/\O5 ρ cs vs:=by
 cases h with|t _ vs h1 h2=>exact⟨vs,rfl,h1,h2⟩
def dj6(o:Oper)(x:Operand)(k:Nat)(ho:o.op=.extract x k):cZ P o (UZ x k):=by
 intro S w0 ρ e s a w next Q h he hR hn
 have⟨v,h1,h2⟩:=L6 h;replace h2:UZ x k e s=_:=h2;rw[h2]at h hn;split at h
 .rename_i cs;simp only at hn;have⟨r,h5,h6⟩:=L6 h;rw[h6]at hn;rw[BN]at h5;have⟨vs,g1,g2⟩:=bV6 (bG h1 he);have⟨y,g3,g4⟩:=g2.get h5;refine eH rfl hR g4 ?_ hn;simp[execOp,ho,g1,Instr.extract,g3]
 .grind
def dl6(o:Oper)(op:UnOp)(t:Nat)(x:Operand)(ho:o.op=.unOp op t x):cZ P o (VQ op t x):=by
 intro S w0 ρ e s a w next Q h he hR hn
 have⟨v,h1,h2⟩:=L6 h;replace h2:VQ op t x e s=_:=h2;rw[h2]at h hn;have⟨r,h3,h4⟩:=L6 h;rw[h4]at hn;have hx:=bG h1 he;clear h2 h4 h;unfold unA at h3;split at h3
 .rename_i b;have hv:a.eval x=.bool b:=by generalize a.eval x=y at hx;cases hx;rfl
  have:r=.q (!b):=by cases b<;>simp[bq]at h3<;>exact h3.symm
  subst this;exact eH rfl hR (.q _) (by simp[execOp,ho,hv,Op.unary]) hn
 .rename_i k n;injection h3 with h3
  rw[BL]at h3;subst h3;exact eH rfl hR (yT _ _) (by simp[execOp,ho,fM hx,Op.unary,Op.intArith]) hn
 .rename_i k n;injection h3 with h3
  rw[BL]at h3;subst h3;have hv:a.eval x=.int k (.negSucc n):=by generalize a.eval x=y at hx;cases hx;rfl
  exact eH rfl hR (yT _ _) (by simp[execOp,ho,hv,Op.unary,Op.intArith]) hn
 .cases h3
def wrap_small(k:IntKind){n:Nat}(h:n<lim k):k.wrap (.ofNat n)=.ofNat n:=by
 have e:(Int.ofNat n:Int)=(n:Int):=rfl;cases k<;>simp only[lim]at h<;>simp[IntKind.wrap,IntKind.signed,IntKind.bits]<;>omega
def dj3(hT:∀t i,I7 t=some i->O6 P t i)(hB:∀n,2<=n->liesAt P P.depth mM (n/P.cellsOf mM) 0 am1 1=true)(o:Oper)(sr d:Nat)(x:Operand)(ho:o.op=.convert sr d x):cZ P o (UU sr d x):=by
 intro S w0 ρ e s a w next Q h he hR hn
 have⟨v,h1,h2⟩:=L6 h;replace h2:UU sr d x e s=_:=h2;rw[h2]at h hn;clear h2;have hx:=bG h1 he;by_cases hp:∃b o,v=.p b o
 .obtain⟨b,off,rfl⟩:=hp;rw[show ao4 sr d (.p b off) s=ao3 sr d b off s from rfl]at h hn;have⟨L,g1,g2⟩:=vU hx;have⟨i,h3,h4⟩:=L6 h;replace h4:ao3 sr d b off s=_:=h4;rw[h4]at h hn;clear h4;have⟨j,h5,h6⟩:=L6 h;rw[h6]at h hn;clear h6;have hs:=(hT _ _ h3).u;have hd:=(hT _ _ h5).u;split at h
  .rename_i t e1 e2;rw[e1,e2]at hn;simp only at hn;rw[e1]at hs;rw[e2]at hd;have⟨z,h7,h8⟩:=L6 h;rw[h8]at h hn;clear h8;have h9:=Z7 h;rw[h9,Z8]at h hn;have⟨el,cs,h10,h11⟩:=xH h;rw[h11]at h hn;clear h11;have h12:=Z7 h;rw[h12,Z8]at hn;have⟨k,h13,dL⟩:=U1 h7;injection dL with dL
   subst dL;have⟨L',arr,q1,q2,q3,q4,q5⟩:=hR.cells h10;rw[g1]at q1;injection q1 with q1
   subst q1;have⟨J,hj,hjs,_,_⟩:=(hT _ _ h13).gX;have hlt:off<cs.length:=by rw[<-kE];exact fA h12
   have⟨_,y,hy,_⟩:=q5 off _ (J9 hlt);have hlt2:=(X6.1 hy).1;have h9:=I8 h9;have hrun:=Lib.run_to_unsafe (P:=P) w (src:=sr) (dst:=d) (t:=t) (e:=el) (j:=J) (cells:=arr.size) ⟨L.blk,off+L.sh,none⟩ hs hd hj (by omega) (by simp[World.shape?,q3]) hlt2;refine eH rfl hR hx ?_ hn;simp only[execOp,ho,g2,J6,hrun];rfl
  .rename_i t e1 e2;rw[e1,e2]at hn;simp only at hn;rw[e1]at hs;rw[e2]at hd;have⟨z,h7,h8⟩:=L6 h;rw[h8]at h hn;clear h8;have h9:=Z7 h;rw[h9,Z8]at h hn;have⟨el,cs,h10,h11⟩:=xH h;rw[h11]at h hn;clear h11;have h12:=Z7 h;rw[h12,Z8]at h hn;have h13:=Z7 h;rw[h13,Z8]at h hn;have dL:=Z7 h;rw[dL,Z8]at h hn;have h15:=Z7 h;rw[h15,Z8]at hn;have h12:=G5 h12;have h13:=G5 h13;have dL:=G5 dL;have h15:=I8 h15;rw[kE]at h15;have⟨L',arr,q1,q2,q3,q4,q5⟩:=hR.cells h10;rw[g1]at q1;injection q1 with q1
   subst q1;have⟨k,h16,h17⟩:=U1 h7;have⟨J,hj,hjs,_,_⟩:=(hT _ _ h16).gX;have hsh:=hR.YG h10 g1 h12;have⟨_,y,hy,_⟩:=q5 1 _ (J9 (by omega));have hlt2:=(X6.1 hy).1;subst dL
   have hrun:=Lib.run_from_unsafe (P:=P) w (src:=sr) (dst:=d) (u:=t) (e:=el) (j:=J) (cells:=arr.size) ⟨L.blk,0+L.sh,none⟩ hs hd hj (by simp[World.shape?,q3]) (by
    show liesAt P P.depth el (arr.size/P.cellsOf el) (0+L.sh) t 1=true;rw[hsh,h12,h13]
    exact hB _ (by omega))
   refine eH rfl hR hx ?_ hn;simp only[execOp,ho,g2,J6,hrun];rfl
  .grind
 have e1:ao4 sr d v s=oR (I7 sr) λ_=>oR (aH4 d v) λr=>.one r s:=by
  cases v<;>first|rfl|exact absurd ⟨_,_,rfl⟩ hp
 rw[e1]at h hn;have⟨i,h3,h4⟩:=L6 h;rw[h4]at h hn;have⟨r,h5,h6⟩:=L6 h;rw[h6]at hn;have hs:=(hT _ _ h3).u;clear h4 h6 h e1 hp;unfold aH4 at h5;split at h5
 .rename_i k _ _ _ _ _ j n hd;have hu:=(hT _ _ hd).u;simp only at hu;have hr:RV ρ r (.int k (k.wrap (.ofNat n))):=by
   cases hb:Nat.blt n (lim k)with
   |true=>
    rw[hb]at h5;injection h5 with h5
    subst h5;rw[wrap_small k (fA hb)];exact .n _ _
   |false=>
    rw[hb]at h5;injection h5 with h5
    rw[BL]at h5;subst h5;exact yT _ _
  refine eH rfl hR hr ?_ hn;simp only[execOp,ho,convert,fM hx,J6,O4 hu,O4 hs,O8];simp[Conv.intToInt]
 .rename_i k _ _ _ _ _ j n hd;have hu:=(hT _ _ hd).u;simp only at hu;injection h5 with h5
  rw[BL]at h5;subst h5;have hv:a.eval x=.int j (.negSucc n):=by generalize a.eval x=y at hx;cases hx;rfl
  refine eH rfl hR (yT _ _) ?_ hn;simp only[execOp,ho,convert,hv,J6,O4 hu,O4 hs,O8];simp[Conv.intToInt]
 .rename_i _ _ _ _ _ l hd;have hu:=(hT _ _ hd).u;simp only at hu;injection h5 with h5
  subst h5;generalize hax:a.eval x=y at hx;have hx':=hx;cases hx with
  |str b=>
   refine eH rfl hR hx' ?_ hn;simp only[execOp,ho,convert,hax,J6,O4 hu,O4 hs,O8];simp
 .cases h5
def aG6{v:AV}{x:Value}(h:RV ρ v x)(ht:∀cs,v≠.t cs):x.cells.size=(cellsOf v).length/\Cells ρ (cellsOf v) λi=>x.cells[i]?:=by
 have one:∀(v:AV)(x:Value),cellsOf v=[v]->x.cells=#[x]->AQ v=true->RV ρ v x->x.cells.size=(cellsOf v).length/\Cells ρ (cellsOf v) λi=>x.cells[i]?:=by
  intro v x h1 h2 h3 h4;refine⟨by simp[h1,h2],λj d hj=>?_⟩;rw[h1]at hj
  match j,hj with
  |0,hj=>grind
  |j+1,hj=>simp at hj
 cases h with
 |g cs vs h1 h2 h3=>
  have⟨us,g1,g2,g3⟩:=JG (RV.g cs vs h1 h2 h3);injection g1 with g1
  have g1:vs=us:=by grind
  subst g1;refine⟨by simp[Value.cells,cellsOf,h1],λj d hj=>?_⟩;have:=g3 j d hj;simpa[Value.cells]using this
 |t cs vs=>grind
 |n k m=>exact one _ _ rfl rfl rfl (.n k m)
 |neg k m=>exact one _ _ rfl rfl rfl (.neg k m)
 |q b=>exact one _ _ rfl rfl rfl (.q b)
 |str b=>exact one _ _ rfl rfl rfl (.str b)
 |ns=>exact one _ _ rfl rfl rfl .ns
 |np=>exact one _ _ rfl rfl rfl .np
 |nm=>exact one _ _ rfl rfl rfl .nm
 |nf=>exact one _ _ rfl rfl rfl .nf
 |ni=>exact one _ _ rfl rfl rfl .ni
 |p b o L h=>exact one _ _ rfl rfl rfl (.p b o L h)
 |s b o l cap off c L h hl hc ho hb=>exact one _ _ rfl rfl rfl (.s b o l cap off c L h hl hc ho hb)
 |m b L h=>exact one _ _ rfl rfl rfl (.m b L h)
 |f f fs cs vs us h1 h2 h3 h4=>exact one _ _ rfl rfl rfl (.f f fs cs vs us h1 h2 h3 h4)
 |y b L h=>exact one _ _ rfl rfl rfl (.y b L h)
def Cells.ext{ρ':Ren}(hx:xX ρ ρ'){cs:J7}{f:Nat->uY}(h:Cells ρ cs f):Cells ρ' cs f:=λi c hc=>by
 have⟨h1,x,h2,h3⟩:=h i c hc;exact⟨h1,x,h2,h3.ext hx⟩
def kept_alloc(hR:Rl S w0 ρ s w)(o:Obj):Kept S w (w.alloc o):=(Kept.refl S w).alloc (λk hk=>aH (hR.slt k hk) hR.kept.size) o
def Rl.notS(hR:Rl S w0 ρ s w){k:Nat}(h:w.heap.size<=k):¬S k:=λhk=>by have:=hR.slt k hk;have:=hR.kept.size;omega
def Rl.newRow(hR:Rl S w0 ρ s w){w':World}(el:Nat)(cs:J7)(arr:S9)(hw:w'=w.alloc (.cells arr el)\/w'=w.drew.alloc (.cells arr el))(hc:Cells ρ cs λi=>arr[i]?):
    Ext ρ (bH ρ s.nx ⟨w.heap.size,0,el,arr.size⟩)/\Rl S w0 (bH ρ s.nx ⟨w.heap.size,0,el,arr.size⟩) ⟨s.h.set (pa s.nx) (some (.c el cs)),s.nx+1,s.ro⟩ w':=by
 have hx:Ext ρ (bH ρ s.nx ⟨w.heap.size,0,el,arr.size⟩):=JC hR.fresh _;have hold:∀k,k<w.heap.size->w'.heap[k]?=w.heap[k]?:=λk hk=>by rcases hw with rfl|rfl;exact vJ w _ hk;exact vJ w.drew _ hk
 have hnew:w'.heap[w.heap.size]?=some (.cells arr el (0,0)):=by rcases hw with rfl|rfl;exact bJ w _;exact bJ w.drew _
 have hloc:∀b o L,s.h.get (pa b)=some o->ρ b=some L->L.blk<w.heap.size:=λb o L hb hL=>by
  have⟨M,h1,h2⟩:=(hR.obj b o hb).loc
  grind
 refine⟨hx,hR.new (L:=⟨w.heap.size,0,el,arr.size⟩) ?_ (λb o L hb hL=>hold _ (hloc b o L hb hL)) (hR.notS (N8 _)) (λb o M hb hM=>Nat.ne_of_lt (hloc b o M hb hM)) ?_ (λ_ _=>rfl)⟩
 .rcases hw with rfl|rfl
  .exact kept_alloc hR _
  .have:=(Kept.refl S w).drew;exact this.alloc (λk hk=>aH (hR.slt k hk) hR.kept.size) _
 .exact⟨_,arr,kH _ _,rfl,hnew,rfl,λi c hi=>(hc.ext hx) i c hi⟩
def dH9{i:TI}{z:J7}(h:ak1 i=some z):O5 ρ z i.zero/\∀c∈z,AQ c=true\/c=un:=by
 have:∀(l:H6)(z:J7),List.rec (motive:=λ_=>wF) (some []) (λx _ ih=>oB (SN x) λa=>oB ih λr=>some (a::r)) l=some z->O5 ρ z l/\∀c∈z,AQ c=true\/c=un:=by
  intro l;induction l with
  |nil=>intro z h;cases h;exact⟨O5.nil ρ,λc h=>by simp at h⟩
  |cons x l ih=>
   intro z h;have⟨a,h1,h⟩:=U1 h;have⟨r,h2,h⟩:=U1 h;injection h with h
   subst h;have⟨g1,g2⟩:=ih r h2;refine⟨O5.cons (bq0 h1) g1,λc hc=>?_⟩;rcases lD.1 hc with rfl|hc
   .unfold SN at h1;split at h1
    .rename_i k i;simp at h1;subst h1;cases i<;>exact .inl rfl
    all_goals first|(simp at h1;subst h1;exact .inl rfl)|(simp at h1;subst h1;exact .inr rfl)|cases h1
   .grind
 exact this _ _ h
def aD3{t:Nat}{i:TI}(hi:O6 P t i){z:J7}(h:ak1 i=some z):z.length=i.size/\Cells ρ z λj=>(Q9 i).cells[j]?:=by
 have⟨h1,h2⟩:=dH9 (ρ:=ρ) h;refine⟨by rw[h1.1,hi.len],λj c hj=>?_⟩;have⟨x,h3,h4⟩:=h1.get hj;rw[lX hi];refine⟨?_,x,by simpa using h3,h4⟩;rcases h2 c (iZ hj)with h5|h5
 .exact h5
 .exfalso;have ho:=hi.one;rw[oW]at ho;have:=ho x (iZ h3);rw[h5]at h4;cases h4;simp[Value.oneCell']at this
def EZ(P:Program)(o:Oper)(f:dB):Prop:=
 ∀(ρ:Ren)(e:Env)(s0:St)(a:Act),f e s0≠.no->aX ρ e a.tmps->∃(ob:AO) (mk:Nat->AV),(∀s,f e s=oN ob mk s)/\
  ∀w:World,∃(O:Obj) (x:Value) (L:Loc),(execOp a.eval o).run P w=.ok (.value x) (w.alloc O)/\L.blk=w.heap.size/\L.sh=0/\∀b,ρ b=none->X7 (bH ρ b L) (w.alloc O) b ob/\RV (bH ρ b L) (mk b) x
def as6{o:Oper}{f:dB}(h:EZ P o f):cZ P o f:=by
 intro S w0 ρ e s a w next Q hne he hR hn
 have⟨ob,mk,h1,h2⟩:=h ρ e s a hne he;have⟨O,x,L,q1,q2,q3,q4⟩:=h2 w;rw[h1 s,CY]at hn;have hf:=hR.fresh _ (N8 _);have⟨q5,q6⟩:=q4 s.nx hf;have hloc:∀b o M,s.h.get (pa b)=some o->ρ b=some M->M.blk<w.heap.size:=λb o M hb hL=>by
  have⟨M',h1,h2⟩:=(hR.obj b o hb).loc
  grind
 exact bP q1 (hn _ _ _ _ _ (.inl rfl) (JC hR.fresh L) (hR.new (kept_alloc hR _) (λb o M hb hM=>vJ w _ (hloc b o M hb hM)) (hR.notS (Nat.le_of_eq q2.symm)) (λb o M hb hM=>by rw[q2];exact Nat.ne_of_lt (hloc b o M hb hM)) q5 (λ_ _=>q3)) rfl (Nat.le_succ _) q6)
def aZ8{o:Oper}{a:Act}{el:Nat}{cs:J7}{arr:S9}{mk:Nat->AV}{x:Value}(hc:Cells ρ cs λi=>arr[i]?)(hrun:(execOp a.eval o).run P w=.ok (.value x) (w.alloc (.cells arr el)))
    (hx:∀b,ρ b=none->RV (bH ρ b ⟨w.heap.size,0,el,arr.size⟩) (mk b) x):
    ∃(O:Obj) (x:Value) (L:Loc),(execOp a.eval o).run P w=.ok (.value x) (w.alloc O)/\L.blk=w.heap.size/\L.sh=0/\∀b,ρ b=none->X7 (bH ρ b L) (w.alloc O) b (.c el cs)/\RV (bH ρ b L) (mk b) x:=
 ⟨_,x,⟨w.heap.size,0,el,arr.size⟩,hrun,rfl,rfl,λb hb=>⟨⟨_,arr,kH _ _,rfl,bJ w _,rfl,λi c hi=>(hc.ext (ae1 hb _)) i c hi⟩,hx b hb⟩⟩
def bH3(hT:∀t i,I7 t=some i->O6 P t i)(o:Oper)(t:Nat)(ho:o.op=.alloc t):EZ P o (aV9 t):=by
 intro ρ e s0 a h he;have⟨z,h1,h2⟩:=L6 h;have⟨i,h3,h4⟩:=U1 h1;have⟨hz1,hz2⟩:=aD3 (ρ:=ρ) (hT _ _ h3) h4;have⟨j,hj,hjs,_,hjz⟩:=(hT _ _ h3).gX;refine⟨.c t z,λb=>.p b 0,λs=>by show oR (QW I7 t) _=_;rw[h1];rfl,λw=>aZ8 (x:=.pointer (some ⟨w.heap.size,0,none⟩)) hz2 ?_ λb hb=>.p _ _ _ (kH _ _)⟩;simp[execOp,ho,Instr.alloc,zeroValue,typeInfo,hj,hjz,newVar,newRow]
def bH4(o:Oper)(t:Nat)(x:Operand)(ho:o.op=.box t x):EZ P o (UQ t x):=by
 intro ρ e s0 a h he;have⟨v,h1,h2⟩:=L6 h;have hx:=bG h1 he;have hc:Cells ρ (cellsOf v) λi=>(a.eval x).cells[i]?:=by
  by_cases ht:∃cs,v=.t cs
  .obtain⟨cs,rfl⟩:=ht;exact λi c hc=>by simp[cellsOf]at hc
  .exact(aG6 hx λcs hcs=>ht ⟨cs,hcs⟩).2
 refine⟨.c t (cellsOf v),λb=>.p b 0,λs=>by show oR (look x e) _=_;rw[h1];rfl,λw=>aZ8 (x:=.pointer (some ⟨w.heap.size,0,none⟩)) hc ?_ λb hb=>.p _ _ _ (kH _ _)⟩;simp[execOp,ho,Instr.box,newVar,newRow]
def di6(hT:∀t i,I7 t=some i->O6 P t i)(o:Oper)(t:Nat)(ho:o.op=.alloc t):cZ P o (aV9 t):=as6 (bH3 hT o t ho)
def di8(o:Oper)(t:Nat)(x:Operand)(ho:o.op=.box t x):cZ P o (UQ t x):=as6 (bH4 o t x ho)
def Rl.store(hR:Rl S w0 ρ s w){b el off:Nat}{cs ds cs':J7}{L:Loc}{arr:S9}{vs:H6}(hb:s.h.get (pa b)=some (.c el cs))(hL:ρ b=some L)(hel:L.el=el)
    (hh:w.heap[L.blk]?=some (.cells arr el (0,0))) (htot:arr.size=L.tot) (hc:Cells ρ cs λi=>arr[i+L.sh]?) (hr:s.ro<=b) (hp:xG off ds cs=some cs') (hl:vs.length=ds.length) (hv:Cells ρ ds λi=>vs[i]?):
    (off+L.sh+vs.length<=arr.size\/vs=[])/\Rl S w0 ρ ⟨s.h.set (pa b) (some (.c el cs')),s.nx,s.ro⟩ (w.setRow L.blk (arr.toList.take (off+L.sh)++vs++arr.toList.drop (off+L.sh+vs.length)).toArray):=by
 have⟨hfit,_⟩:=av5 hp;have by2:off+L.sh+vs.length<=arr.size\/vs=[]:=by
  rcases Nat.eq_zero_or_pos ds.length with h0|h0
  .grind
  .left;have⟨_,x,hx,_⟩:=hc (off+ds.length-1) _ (J9 (by omega))
   grind
 refine⟨by2,?_⟩;have hsz:(arr.toList.take (off+L.sh)++vs++arr.toList.drop (off+L.sh+vs.length)).length=arr.size:=by grind
 have hget:∀j,(arr.toList.take (off+L.sh)++vs++arr.toList.drop (off+L.sh+vs.length))[j]?=if off+L.sh<=j/\j<off+L.sh+vs.length then vs[j-(off+L.sh)]? else arr[j]?:=by
  intro j;rcases by2 with h|h
  .have hl1:(arr.toList.take (off+L.sh)).length=off+L.sh:=by simp;omega
   rw[lC];by_cases hj:j<off+L.sh
   .grind
   .rw[dN (by omega),hl1];by_cases hj2:j<off+L.sh+vs.length
    .grind
    .rw[dN (by omega),H7 (by omega),zV,kM]
     grind
  .subst h;rw[H7 (by simp)];simp
 refine hR.write (hbl:=λds e=>by injection e with e;exact hR.YG hb hL e) hb hL hr ⟨rfl,rfl,rfl,by simp[World.setRow],λk hk=>vW w L.blk k _ hk,λk hk=>ax6 w L.blk k _ hk⟩ ⟨L,_,hL,hel,rU w L.blk arr _ el (0,0) hh,by simpa[htot]using hsz,λi c hi=>?_⟩;rw[bP7 hp]at hi;rw[List.getElem?_toArray,hget];by_cases h1:i<off
 .rw[I9 h1]at hi;rw[H7 (by omega)];exact hc i c hi
 .rw[H7 h1]at hi;by_cases h2:i<off+ds.length
  .rw[I9 h2]at hi;rw[I9 (by omega),(by omega:i+L.sh-(off+L.sh)=i-off)];exact hv _ c hi
  .rw[H7 h2]at hi;rw[H7 (by omega)];exact hc i c hi
def cells_one{l:J7}{vs:H6}(hl:vs.length=l.length)(h:Cells ρ l λi=>vs[i]?):∀v∈vs,v.oneCell'=true:=λv hv=>by
 have⟨j,hj⟩:=List.getElem?_of_mem hv;have hlt:=(P7.1 hj).1;have⟨h1,x,h2,h3⟩:=h j _ (J9 (by omega));simp only at h2;rw[hj]at h2;injection h2 with h2
 subst h2;exact h3.atom h1
def dl5(hT:∀t i,I7 t=some i->O6 P t i)(o:Oper)(t:Nat)(x y:Operand)(ho:o.op=.store t x y):cZ P o (VP t x y):=by
 intro S w0 ρ e s a w next Q h he hR hn
 have⟨v,h1,h2⟩:=L6 h;replace h2:VP t x y e s=_:=h2;rw[h2]at h hn;have⟨u,h3,h4⟩:=L6 h;rw[h4]at h hn;have⟨n,h5,h6⟩:=L6 h;rw[h6]at h hn;obtain⟨b,off,rfl⟩:=XK h;have h7:=Z7 (show bR (Nat.beq (dM (cellsOf u)) n) _≠.no from h);rw[show oP (.p b off) _=bR (Nat.beq (dM (cellsOf u)) n) _ from rfl,h7,Z8]at h hn;have h8:=Z7 h;rw[h8,Z8]at h hn;have⟨el,cs,h9,h10⟩:=xH h;rw[h10]at h hn;have⟨cs',h11,h12⟩:=L6 h;rw[h12]at h hn;have⟨h13,dL⟩:=uK h;rw[dL]at hn;have h7:=G5 h7;have h8:=I8 h8;rw[kE]at h7;have⟨i,h15,h16⟩:=U1 h5;injection h16 with h16
 have⟨L,arr,g1,g2,g3,g4,g5⟩:=hR.cells h9;have⟨L',g6,g7⟩:=vU (bG h1 he);rw[g1]at g6;injection g6 with g6
 subst g6;have hy:=bG h3 he;have⟨hc1,hc2⟩:=aG6 hy λcs hcs=>by subst hcs;simp[cellsOf]at h7;omega
 have⟨hfit,hR'⟩:=hR.store (vs:=(a.eval y).cells.toList) h9 g1 g2 g3 g4 g5 h13 h11 (by simpa using hc1) (λi c hi=>by have:=hc2 i c hi;simpa using this);have hne:(a.eval y).cells.toList≠[]:=λh0=>by grind
 have hfit:=hfit.resolve_right hne;have hone:∀v∈(a.eval y).cells.toList,v.oneCell'=true:=cells_one (by simpa using hc1) (λi c hi=>by have:=hc2 i c hi;simpa using this);have hrun:=run_storeCells_at (P:=P) L.blk (off+L.sh) el (a.eval y).cells.toList 0 arr w g3 (by simpa using hfit) hone;have hfin:=hn un _ ρ undef _ (.inl rfl) (Ext.refl _) hR' rfl (N8 _) (.t [] [] rfl λi c x h=>by simp at h);refine QU ?_ hfin;simp only[execOp,ho,g7,Instr.storeAt,Instr.sureAddr,storeVar,J6,U5,O8,(hT _ _ h15).sizeOf w];rw[H7 (by rw[hc1,h7,h16];simp)];simp only[U5,O8,hrun,pG]
end
section
variable{P:Program}{S:U2}{w0:World}{ρ:Ren}{e:Env}{s:St}{a:Act}{w:World}
def vO{k j:IntKind}(h:Nat.beq (fK k) (fK j)=true):k=j:=by cases k<;>cases j<;>first|rfl|cases h
theorem Y8{α:Type}(c:Bool)(a b:α):bq c a b=if c then a else b:=by cases c<;>rfl
theorem zA{b:Bool}{r:AV}(h:rQ b=some r):r=.q b:=by cases b<;>cases h<;>rfl
theorem ac6{b:Bool}{r:AV}(h:bq b (some (AV.q false)) (some (.q true))=some r):r=.q (!b):=by cases b<;>cases h<;>rfl
def uZ(a b:Nat):Nat.beq a b=decide (a=b):=by
 by_cases h:a=b
 .subst h;simp
 .simp[h];cases hb:Nat.beq a b with|false=>rfl|true=>exact absurd (G5 hb) h
def LH(a b:Nat):Nat.blt a b=decide (a<b):=by
 by_cases h:a<b
 .simp only[h,pV];exact Nat.ble_eq_true_of_le h
 .simp only[h,decide_false];cases hb:Nat.blt a b with|false=>rfl|true=>exact absurd (fA hb) h
def am2(a b:Nat):Nat.ble a b=decide (a<=b):=by
 by_cases h:a<=b
 .simp only[h,pV];exact Nat.ble_eq_true_of_le h
 .simp only[h,decide_false];cases hb:Nat.ble a b with|false=>rfl|true=>exact absurd (I8 hb) h
def c95{v:Value}{r:AV}(h:ofV v=some r):RV ρ r v:=by
 unfold ofV at h;split at h
 .injection h with h;rw[BL]at h;subst h;exact yT _ _
 .injection h with h;rw[cF9]at h;subst h;exact .q _
 .cases h
def WR{op:BinOp}{k j:IntKind}{x y:Int}{r:AV}(h:nD op k x y=some r)(hk:aa9 op=true\/k=j)(ib:Bool):jO op ib (.int k x) (.int j y) (RV ρ r):=by
 have rest:∀op:BinOp,op≠.shr->op≠.shl->op≠.quo->op≠.rem->oB (tK op k x y) ofV=some r->k=j->jO op ib (.int k x) (.int j y) (RV ρ r):=by
  intro op h1 h2 h3 h4 h hk;subst hk;have⟨v,g1,g2⟩:=U1 h;have hv:=c95 (ρ:=ρ) g2;cases op<;>first|contradiction|(simp only[jO];rw[g1];simpa using hv)
 cases op
 case shr=>
  simp only[nD]at h;rw[Y8]at h;split at h
  .rename_i hy;injection h with h;rw[BL]at h;subst h
   exact⟨iR hy,yT _ _⟩
  .cases h
 case shl=>
  simp only[nD]at h;rw[Y8]at h;split at h
  .rename_i hy;injection h with h;rw[BL]at h;subst h
   exact⟨iR hy,yT _ _⟩
  .cases h
 case quo=>
  simp only[nD]at h;rw[Y8]at h;split at h
  .cases h
  .rename_i hy;injection h with h;rw[BL]at h;subst h
   exact⟨hk.resolve_left (by simp[aa9]),by simpa using hy,yT _ _⟩
 case rem=>
  simp only[nD]at h;rw[Y8]at h;split at h
  .cases h
  .rename_i hy;injection h with h;rw[BL]at h;subst h
   exact⟨hk.resolve_left (by simp[aa9]),by simpa using hy,yT _ _⟩
 all_goals exact rest _ (by simp) (by simp) (by simp) (by simp) h (hk.resolve_left (by simp[aa9]))
def ct5{op:BinOp}{k:IntKind}{x y:Nat}{r:AV}(h:aF4 op k x y=some r)(ib:Bool):jO op ib (.int k (.ofNat x)) (.int k (.ofNat y)) (RV ρ r):=by
 have slow:∀op,nD op k (.ofNat x) (.ofNat y)=some r->jO op ib (.int k (.ofNat x)) (.int k (.ofNat y)) (RV ρ r):=λop h=>WR h (.inr rfl) ib;have q:∀(op:BinOp)(b:Bool),tK op k (.ofNat x) (.ofNat y)=some (.bool b)->op≠.shr->op≠.shl->op≠.quo->op≠.rem->r=.q b->jO op ib (.int k (.ofNat x)) (.int k (.ofNat y)) (RV ρ r):=by
  intro op b h1 h2 h3 h4 h5 hr;subst hr;cases op<;>first|contradiction|(simp only[jO];rw[h1];simpa using RV.q b)
 cases op
 case add=>
  replace h:bq (Nat.blt (Nat.add x y) (lim k)) (fN (Nat.add x y) λn=>some (.n k n)) (nD .add k (.ofNat x) (.ofNat y))=some r:=h;rw[Y8]at h;split at h
  .rename_i hlt;rw[jQ]at h;injection h with h
   subst h;simp only[jO,tK,pV,H9];have:=wrap_small k (fA hlt);have e:Int.ofNat x+Int.ofNat y=Int.ofNat (Nat.add x y):=rfl;rw[e,this];exact .n _ _
  .grind
 case sub=>
  replace h:bq (Nat.ble y x) (bq (Nat.blt x (lim k)) (fN (Nat.sub x y) λn=>some (.n k n)) (nD .sub k (.ofNat x) (.ofNat y))) (nD .sub k (.ofNat x) (.ofNat y))=some r:=h;rw[Y8]at h;split at h
  .rename_i hle;rw[Y8]at h;split at h
   .rename_i hlt;rw[jQ]at h;injection h with h
    subst h;simp only[jO,tK,pV,H9];have hle:=I8 hle;have hlt:=fA hlt;have:=wrap_small k (show Nat.sub x y<lim k from Nat.lt_of_le_of_lt (Nat.sub_le _ _) hlt);have e:Int.ofNat x-Int.ofNat y=Int.ofNat (Nat.sub x y):=(Int.ofNat_sub hle).symm;rw[e,this];exact .n _ _
   .grind
  .grind
 case eql=>exact q .eql (Nat.beq x y) (by simp only[tK,uZ];congr 2;by_cases e:x=y<;>simp[e];omega) (by simp) (by simp) (by simp) (by simp) (zA h)
 case neq=>exact q .neq (!Nat.beq x y) (by simp only[tK,uZ];congr 2;by_cases e:x=y<;>simp[e,bne];omega) (by simp) (by simp) (by simp) (by simp) (ac6 h)
 case lss=>exact q .lss (Nat.blt x y) (by simp[tK,LH]) (by simp) (by simp) (by simp) (by simp) (zA h)
 case leq=>exact q .leq (Nat.ble x y) (by simp[tK,am2]) (by simp) (by simp) (by simp) (by simp) (zA h)
 case gtr=>exact q .gtr (Nat.blt y x) (by simp[tK,LH]) (by simp) (by simp) (by simp) (by simp) (zA h)
 case geq=>exact q .geq (Nat.ble y x) (by simp[tK,am2]) (by simp) (by simp) (by simp) (by simp) (zA h)
 all_goals exact slow _ h
def toNat_inj{l m:mG}(h:l.map UInt8.toNat=m.map UInt8.toNat):l=m:=by
 induction l generalizing m with
 |nil=>cases m with|nil=>rfl|cons y r=>simp at h
 |cons x l ih=>
  rcases m with _|⟨y,r⟩
  .simp at h
  .simp at h;rw[ih h.2,UInt8.toNat_inj.1 h.1]
def ap3(l m:mG):BH (l.map UInt8.toNat) (m.map UInt8.toNat)=(l==m):=by
 rw[bs8];by_cases h:l=m
 .grind
 .have:(l==m)=false:=by simpa using h
  rw[this];simp only[decide_eq_false_iff_not];exact λh'=>h (toNat_inj h')
def as5(l m:mG):UE (l.map UInt8.toNat) (m.map UInt8.toNat)=Op.bytesLess l m:=by
 induction l generalizing m with
 |nil=>cases m<;>rfl
 |cons x l ih=>
  rcases m with _|⟨y,m⟩
  .rfl
  .show bq (Nat.beq x.toNat y.toNat) (UE (l.map UInt8.toNat) (m.map UInt8.toNat)) (Nat.blt x.toNat y.toNat)=_;rw[ih,Y8,uZ,LH];simp only[Op.bytesLess,UInt8.lt_iff_toNat_lt];by_cases h:x=y
   .grind
   .have h':¬x.toNat=y.toNat:=λe=>h (UInt8.toNat_inj.1 e)
    grind
def bF1(l m:mG):Op.bytesLess m l= !(Op.bytesLess l m || l==m):=by
 induction l generalizing m with
 |nil=>cases m<;>rfl
 |cons x l ih=>
  rcases m with _|⟨y,m⟩
  .rfl
  .simp only[Op.bytesLess,UInt8.lt_iff_toNat_lt,ih,List.cons_beq_cons];by_cases h:x=y
   .grind
   .have h1:¬x.toNat=y.toNat:=λe=>h (UInt8.toNat_inj.1 e);have hb:(x==y)=false:=by grind
    have hb':(y==x)=false:=by grind
    grind
def ct6{op:BinOp}{x y:ByteArray}{r:AV}(h:bn0 op (x.data.toList.map UInt8.toNat) (y.data.toList.map UInt8.toNat)=some r)(ib:Bool):jO op ib (.string x) (.string y) (RV ρ r):=by
 have q:∀(op:BinOp)(b:Bool),EF op x y=some (.bool b)->op≠.add->r=.q b->jO op ib (.string x) (.string y) (RV ρ r):=by
  intro op b h1 h2 hr;subst hr;cases op<;>first|contradiction|(simp only[jO];rw[h1];exact RV.q b)
 cases op
 case add=>
  replace h:bq (Nat.ble (Nat.add (dM (x.data.toList.map UInt8.toNat)) (dM (y.data.toList.map UInt8.toNat))) 1000000) (some (fL (fV (x.data.toList.map UInt8.toNat) (y.data.toList.map UInt8.toNat)) .str)) none=some r:=h;rw[Y8]at h;split at h
  .rename_i hle;have hle:=I8 hle;rw[kE,kE]at hle;simp only[X0,iW]at hle;replace hle:x.size+y.size<=1000000:=hle;rw[wR,qU]at h;injection h with h
   subst h;refine⟨by omega,_,rfl,?_⟩;have:=RV.str (ρ:=ρ) (x++y);simpa using this
  .cases h
 case eql=>exact q .eql _ (by simp only[EF];rw[<-ap3]) (by simp) (zA h)
 case neq=>exact q .neq _ (by simp only[EF];rw[<-ap3]) (by simp) (ac6 h)
 case lss=>exact q .lss _ (by simp only[EF];rw[<-as5]) (by simp) (zA h)
 case leq=>exact q .leq _ (by simp only[EF];rw[as5,bF1 x.data.toList y.data.toList,Bool.not_not]) (by simp) (ac6 h)
 case gtr=>exact q .gtr _ (by simp only[EF];rw[as5,bF1 x.data.toList y.data.toList]) (by simp) (zA h)
 case geq=>exact q .geq _ (by simp only[EF];rw[<-as5]) (by simp) (ac6 h)
 all_goals cases h
def bt0{t:Nat}{x y:Value}{q:Bool}{w:World}(he:∀d:Nat,(Op.equalIn (d+1) t x y).run P w=.ok q w)(h1:binOp .eql t x y=(do pure (.bool (<-Op.equal t x y))))(h2:binOp .neq t x y=(do pure (.bool (!(<-Op.equal t x y)))))
    (h3:∀ox oy op,(eqGuard op t ox oy x y).run P w=.ok () w):
    (binOp .eql t x y).run P w=.ok (.bool q) w/\(binOp .neq t x y).run P w=.ok (.bool (!q)) w/\(∀ox oy op,(eqGuard op t ox oy x y).run P w=.ok () w):=by
 have he2:(Op.equal t x y).run P w=.ok q w:=he 9999;refine⟨?_,?_,h3⟩
 .rw[h1];simp[he2]
 .rw[h2];simp[he2]
def bs9(hT:∀t i,I7 t=some i->O6 P t i){t:Nat}{u v:AV}{x y:Value}{q:Bool}(h:eqT t u v=some q)(hx:RV ρ u x)(hy:RV ρ v y)(w:World):
    (binOp .eql t x y).run P w=.ok (.bool q) w/\(binOp .neq t x y).run P w=.ok (.bool (!q)) w/\(∀ox oy op,(eqGuard op t ox oy x y).run P w=.ok () w):=by
 have⟨i,h1,h0⟩:=U1 h;clear h;have hu:=(hT _ _ h1).u;split at h0
 case h_13 el b i' c j hd=>
  rw[hd]at hu;have⟨z,h2,h⟩:=U1 h0;have⟨h3,h⟩:=nK h;have⟨h4,h⟩:=nK h;have⟨h5,h⟩:=nK h;injection h with h
  subst h;have h4:=G5 h4;have h5:=G5 h5;subst h4;subst h5;have⟨L,g1,g2⟩:=vU hx;have⟨L',g3,g4⟩:=vU hy;rw[g1]at g3;injection g3 with g3
  subst g3;subst g2;subst g4;have⟨k,h6,h7⟩:=U1 h2;injection h7 with h7
  have h3:=I8 h3;refine bt0 (λd=>?_) (by simp only[binOp]) (by simp only[binOp]) (λox oy op=>by simp[eqGuard]);have hne:¬k.size=0:=by omega
  simp[Op.equalIn,O4 hu,(hT _ _ h6).sizeOf w,hne,run_sameAddr_same]
 all_goals first
  |(injection h0 with h0;subst h0;rename_i hd;rw[hd]at hu;cases hx;cases hy;exact bt0 (λd=>by simp[Op.equalIn,O4 hu]) (by simp only[binOp]) (by simp only[binOp]) (λox oy op=>by simp[eqGuard]))
  |cases h0
def cR4(hT:∀t i,I7 t=some i->O6 P t i){t:Nat}(h:aQ1 t=true):P.underlying t=some .bool:=by
 unfold aQ1 at h;split at h
 .rename_i hd;exact(hT _ _ hd).u
 .cases h
def di7(hT:∀t i,I7 t=some i->O6 P t i)(o:Oper)(op:BinOp)(t:Nat)(x y:Operand)(u:Nat)(ho:o.op=.binOp op t x y u):cZ P o (UO op t x y u):=by
 intro S w0 ρ e s a w next Q h he hR hn
 have⟨v,h1,h2⟩:=L6 h;replace h2:UO op t x y u e s=_:=h2;rw[h2]at h hn;clear h2;have⟨v',h3,h4⟩:=L6 h;rw[h4]at h hn;clear h4;have⟨r,h5,h6⟩:=L6 h;rw[h6]at hn;clear h6 h;have hx:=bG h1 he;have hy:=bG h3 he;have fin:∀ib,(ib=true->P.underlying t=some .bool)->jO op ib (a.eval x) (a.eval y) (RV ρ r)->Oper.dV P o a w next Q:=by
  intro ib hib hw;have⟨z,hz,hrun⟩:=bU7 (P:=P) (t:=t) (ox:=x) (oy:=y) hib hw w;refine eH rfl hR hz ?_ hn;simp only[execOp,ho,J6]at hrun⊢;rw[hrun];rfl
 have int:∀{k:IntKind}{i:Int}{z:AV},RV ρ (aP9 k i) (a.eval x)->True:=λ_=>trivial;have slow:dJ t op v v'=some r->Oper.dV P o a w next Q:=by
  intro h;unfold dJ at h;split at h
  .rename_i k n j m;rw[Y8]at h;have ex:=fM hx;have ey:=fM hy;split at h
   .rename_i hs;exact fin false (λh=>by cases h) (by rw[ex,ey];exact WR h (.inl hs) _)
   .rw[Y8]at h;split at h
    .rename_i hk;exact fin false (λh=>by cases h) (by rw[ex,ey];exact WR h (.inr (vO hk)) _)
    .cases h
  .rename_i k n j m;rw[Y8]at h;split at h
   .rename_i hk;have ex:=fM hx;have ey:a.eval y=.int j (.negSucc m):=by generalize a.eval y=z at hy;cases hy;rfl
    exact fin false (λh=>by cases h) (by rw[ex,ey];exact WR h (.inr (vO hk)) _)
   .cases h
  .rename_i k n j m;rw[Y8]at h;split at h
   .rename_i hk;have ey:=fM hy;have ex:a.eval x=.int k (.negSucc n):=by generalize a.eval x=z at hx;cases hx;rfl
    exact fin false (λh=>by cases h) (by rw[ex,ey];exact WR h (.inr (vO hk)) _)
   .cases h
  .rename_i k n j m;rw[Y8]at h;split at h
   .rename_i hk;have ey:a.eval y=.int j (.negSucc m):=by generalize a.eval y=z at hy;cases hy;rfl
    have ex:a.eval x=.int k (.negSucc n):=by generalize a.eval x=z at hx;cases hx;rfl
    exact fin false (λh=>by cases h) (by rw[ex,ey];exact WR h (.inr (vO hk)) _)
   .cases h
  .generalize hax:a.eval x=z at hx;generalize hay:a.eval y=z' at hy;cases hx;cases hy;exact fin false (λh=>by cases h) (by rw[hax,hay];exact ct6 h _)
  .rename_i p q;have⟨hb,h⟩:=nK h;have ex:a.eval x=.bool p:=by generalize a.eval x=z at hx;cases hx;rfl
   have ey:a.eval y=.bool q:=by generalize a.eval y=z at hy;cases hy;rfl
   refine fin true (λ_=>cR4 hT hb) ?_;rw[ex,ey];cases op<;>simp only[bm9]at h<;>first
    |cases h
    |(have hr:=zA h
      subst hr;simp only[jO,H9]
      cases p<;>cases q<;>exact RV.q _)
  .split at h
   .have⟨q,g1,g2⟩:=U1 h;have⟨e1,_,e3⟩:=bs9 hT g1 hx hy w;have:=zA g2;subst this;refine eH rfl hR (.q q) ?_ hn;simp[execOp,ho,J6,e1,e3]
   .have⟨q,g1,g2⟩:=U1 h;have⟨_,e2,e3⟩:=bs9 hT g1 hx hy w;have:=ac6 g2;subst this;refine eH rfl hR (.q _) ?_ hn;simp[execOp,ho,J6,e2,e3]
   .cases h
 by_cases hnn:∃k n j m,v=.n k n/\v'=.n j m
 .obtain⟨k,n,j,m,rfl,rfl⟩:=hnn;replace h5:bq (Nat.beq (fK k) (fK j)) (aF4 op k n m) (dJ t op (.n k n) (.n j m))=some r:=h5;rw[Y8]at h5;split at h5
  .rename_i hk;have:=vO hk;subst this;exact fin false (λh=>by cases h) (by rw[fM hx,fM hy];exact ct5 h5 _)
  .grind
 .have:bm8 t op v v'=dJ t op v v':=by
   cases v<;>first|rfl|(cases v'<;>first|rfl|exact absurd ⟨_,_,_,_,rfl,rfl⟩ hnn)
  grind
end
section
variable{P:Program}{S:U2}{w0:World}{ρ:Ren}{e:Env}{s:St}{a:Act}{w:World}
def AL{α:Type}{f:α->Bool}{l:List α}(h:allB f l=true):∀x∈l,f x=true:=by
 induction l with
 |nil=>grind
 |cons y l ih=>
  replace h:bq (f y) (allB f l) false=true:=h;rw[Y8]at h
  grind
def aX6(pl:Nat->FH)(at':Nat->FH)(hpl:∀i w,at' i=some w->pl i=some w)(he:aX ρ e a.tmps):
    ∀(ps:KU)(z z':J7)(cells:S9),DU at' ps e z=some z'->cells.size=z.length->Cells ρ z (λi=>cells[i]?)->
     ∃cells',Instr.fill pl cells (ps.map λp=>(p.1,a.eval p.2))=some cells'/\cells'.size=z'.length/\Cells ρ z' λi=>cells'[i]?
 |[],z,z',cells,h,hs,hc=>by cases h;exact⟨cells,rfl,hs,hc⟩
 |p::ps,z,z',cells,h,hs,hc=>by
  have⟨wd,h1,h⟩:=U1 h;have⟨v,h2,h⟩:=U1 h;have⟨h3,h⟩:=nK h;have⟨h4,h⟩:=nK h;have⟨y,h5,h⟩:=U1 h;have h3:=G5 h3;have h4:=I8 h4;rw[kE]at h3;have hx:=bG h2 he;have⟨g1,g2⟩:=aG6 hx λcs hcs=>by subst hcs;simp[cellsOf]at h3;omega
  have⟨hfit,_⟩:=av5 h5;have hfold:=foldl_set wd.1 (a.eval p.2).cells.toList 0 cells (by simp;omega);have heq:(a.eval p.2).cells.zipIdx.foldl (λcs (p:Value×Nat)=>cs.setIfInBounds (wd.1+p.2) p.1) cells=((a.eval p.2).cells.toList.zipIdx 0).foldl (λcs (p:Value×Nat)=>cs.setIfInBounds (wd.1+p.2) p.1) cells:=by
   rw[<-zL,Array.toList_zipIdx]
  have⟨cells',h6,h7,h8⟩:=aX6 pl at' hpl he ps y z' ((a.eval p.2).cells.zipIdx.foldl (λcs (p:Value×Nat)=>cs.setIfInBounds (wd.1+p.2) p.1) cells) h (by rw[heq,hfold.1,hs,db9 h5]) (by
   intro i c hi;rw[bP7 h5]at hi;rw[heq];show _/\∃x,(((a.eval p.2).cells.toList.zipIdx 0).foldl (λcs (p:Value×Nat)=>cs.setIfInBounds (wd.1+p.2) p.1) cells)[i]?=some x/\_;rw[hfold.2 i];by_cases hi1:i<wd.1
   .rw[I9 hi1]at hi;rw[H7 (by omega)];exact hc i c hi
   .rw[H7 hi1]at hi;by_cases hi2:i<wd.1+(cellsOf v).length
    .rw[I9 hi2]at hi;rw[I9 (by simp;omega)];have:=g2 _ c hi
     grind
    .rw[H7 hi2]at hi;rw[H7 (by simp;omega)]
     exact hc i c hi)
  refine⟨cells',?_,h7,h8⟩;simp only[kP,Instr.fill,hpl _ _ h1]
  grind
def di9(hT:∀t i,I7 t=some i->O6 P t i)(o:Oper)(t:Nat)(ps:zY)(ho:o.op=.build t ps):cZ P o (UR t ps):=by
 intro S w0 ρ e s a w next Q h he hR hn
 have⟨at',h1,h2⟩:=L6 h;replace h2:UR t ps e s=_:=h2;rw[h2]at h hn;clear h2;have⟨z,h3,h4⟩:=L6 h;rw[h4]at h hn;clear h4;have⟨z',h5,h6⟩:=L6 h;rw[h6]at hn;clear h6 h;have⟨i,h7,h8⟩:=U1 h1;have⟨i',h9,h10⟩:=U1 h3;rw[h7]at h9;injection h9 with h9
 subst h9;have hi:=hT _ _ h7;have⟨hz1,hz2⟩:=aD3 (ρ:=ρ) hi h10;have⟨j,hj,hjs,hjb,hjz⟩:=hi.gX;have hu:=hi.u;have hzs:(Q9 i).cells.size=z.length:=by rw[lX hi,hz1];simp[hi.len]
 have fin:∀(pl:Nat->FH),(∀i w,at' i=some w->pl i=some w)->(∀cells,Instr.fill pl (Q9 i).cells (ps.toList.map λp=>(p.1,a.eval p.2))=some cells->P.built t (ps.map λ(i,x)=>(i,a.eval x)).toList=some cells)->Oper.dV P o a w next Q:=by
  intro pl hpl hb;have⟨cells,g1,g2,g3⟩:=aX6 pl at' hpl he ps.toList z z' _ h5 hzs hz2;have hrun:=run_build w t _ cells (hb cells g1);have⟨vs,q1,q2,q3⟩:=g3.agg;have:cells=vs.toArray:=by
   apply Array.ext';apply nZ
   grind
  subst this;refine eH rfl hR q3 ?_ hn;simp only[execOp,ho,J6,hrun];rfl
 split at h8
 .rename_i fs hd;rw[hd]at hu;have⟨hall,h8⟩:=nK h8;injection h8 with h8
  subst h8;have hall:=AL hall
  let places:=fs.toList.map λf=>(f.offset,match I7 f.type with|some ti=>ti.size|.none=>0)
  have hmap:fs.toList.mapM (λf=>(P.info? f.type).map λi=>(f.offset,i.size))=some places:=by
   have:∀l:List Field,(∀f∈l,(I7 f.type).isSome=true)->l.mapM (λf=>(P.info? f.type).map λi=>(f.offset,i.size))=some (l.map λf=>(f.offset,match I7 f.type with|some ti=>ti.size|.none=>0)):=by
    intro l;induction l with
    |nil=>grind
    |cons f l ih=>
     intro hl;have hf:=hl f (by simp);cases htf:I7 f.type with
     |none=>grind
     |some ti=>
      have⟨jf,hjf,cM3,_,_⟩:=(hT _ _ htf).gX
      grind
   grind
  refine fin (λk=>places[k]?) (λk wd hk=>?_) λcells hc=>?_
  .have⟨ft,g1,g2⟩:=U1 hk;have⟨n,g3,g4⟩:=U1 g2;injection g4 with g4
   subst g4;have⟨i2,g5,g6⟩:=U1 g1;rw[h7]at g5;injection g5 with g5
   subst g5;rw[hd]at g6;simp only at g6;split at g6
   .rename_i f hf;injection g6 with g6
    subst g6;have⟨i3,g7,g8⟩:=U1 g3
    grind
   .cases g6
  .unfold Program.built;simp only[hj,hu,hjz,hmap];rw[Array.toList_map]
   grind
 .rename_i n el hd;rw[hd]at hu;have⟨m,g1,g2⟩:=U1 h8;injection g2 with g2
  subst g2;have⟨k,g3,g4⟩:=U1 g1;injection g4 with g4
  subst g4;have⟨K,hK,hKs,_,_⟩:=(hT _ _ g3).gX;refine fin (λi=>some (i*k.size,k.size)) (λi wd hi=>hi) λcells hc=>?_;unfold Program.built;simp only[hj,hu,hjz,hK,hKs];rw[Array.toList_map]
  grind
 .cases h8
def dI3{i:TI}{n:Nat}{z:J7}(h:XP i n=some z):∃y,ak1 i=some y/\z.length=n*y.length/\∀k,k<n*y.length->z[k]?=y[k % y.length]?:=by
 have⟨y,h1,h2⟩:=U1 h;injection h2 with h2
 refine⟨y,h1,?_⟩;subst h2;clear h;induction n with
 |zero=>exact⟨by show([]:J7).length=_;simp,λk hk=>by simp at hk⟩
 |succ n ih=>
  have e:(Nat.rec (motive:=λ_=>J7) [] (λ_ ih=>fV y ih) (n+1))=y++(Nat.rec (motive:=λ_=>J7) [] (λ_ ih=>fV y ih) n):=qU _ _;rw[e];have⟨i1,i2⟩:=ih;refine⟨by rw[cO,i1,Nat.succ_mul];omega,λk hk=>?_⟩;rcases fJ k y.length with hlt|hge
  .rw[dX hlt,Nat.mod_eq_of_lt hlt]
  .rw[dN hge];rw[Nat.succ_mul]at hk;rw[i2 (k-y.length) (by omega),Nat.mod_eq_sub_mod hge]
def bi5{t n:Nat}{i:TI}(hi:O6 P t i){z:J7}(h:XP i n=some z):z.length=n*i.size/\Cells ρ z λk=>(((Array.range (n*i.size)).map ((Q9 i).cells[· % (Q9 i).cells.size]!)):S9)[k]?:=by
 have⟨y,h1,h2,h3⟩:=dI3 h;have⟨hy1,hy2⟩:=aD3 (ρ:=ρ) hi h1;have hzs:(Q9 i).cells.size=i.size:=by rw[lX hi];simp[hi.len]
 rw[hy1]at h2 h3;refine⟨h2,λk c hk=>?_⟩;have hlt:k<n*i.size:=by grind
 rw[h3 k hlt]at hk;have⟨g1,x,g2,g3⟩:=hy2 _ c hk
 grind
def bH5(hT:∀t i,I7 t=some i->O6 P t i)(o:Oper)(t n:Nat)(ps:zY)(ho:o.op=.buildSlice t n ps):EZ P o (IX t n ps):=by
 intro ρ e s a h he;have⟨el,h1,h2⟩:=L6 h;have e1:∀s,IX t n ps e s=oR (I7 el) λi=>bR (Nat.ble n 4096) (bR (Nat.ble i.size 256) (bR (Nat.ble 1 i.size) (oR (XP i n) λz=>oR (DU (elemAt i.size) ps.toList e z) λz=>oN (.c el z) (λb=>.s b 0 n (some n)) s))):=λs=>by
  show oR (WO I7 t) _=_;rw[h1];rfl
 rw[e1 s]at h;clear h2;have⟨i,h3,h4⟩:=L6 h;rw[h4]at h;clear h4;have h5:=Z7 h;rw[h5,Z8]at h;have h6:=Z7 h;rw[h6,Z8]at h;have h7:=Z7 h;rw[h7,Z8]at h;have⟨z,h8,h9⟩:=L6 h;rw[h9]at h;clear h9;have⟨z',h10,h11⟩:=L6 h;have e2:∀s,IX t n ps e s=oN (.c el z') (λb=>.s b 0 n (some n)) s:=λs=>by
  rw[e1 s,h3];show bR (Nat.ble n 4096) _=_;rw[h5,Z8,h6,Z8,h7,Z8,h8];show oR (DU (elemAt i.size) ps.toList e z) _=_;rw[h10];rfl
 clear h11 h;have h5:=I8 h5;have h6:=I8 h6;have h7:=I8 h7;have hi:=hT _ _ h3;have⟨j,hj,hjs,hjb,hjz⟩:=hi.gX;have⟨ti,h12,h13⟩:=U1 h1;split at h13
 rotate_left
 .cases h13
 rename_i fB hd;injection h13 with h13
 subst h13;have hu:=(hT _ _ h12).u;rw[hd]at hu;have⟨hz1,hz2⟩:=bi5 (ρ:=ρ) hi h8
 let zero:S9:=if n*i.size=0 then #[]else(Q9 i).cells
 have⟨cells,yR,hcs,hrep⟩:=aX6 (λk=>some (k*i.size,i.size)) (elemAt i.size) (λ_ _ h=>h) he ps.toList z z' ((Array.range (n*i.size)).map (zero[· % zero.size]!)) h10 (by simp[hz1]) (by
  by_cases h0:n*i.size=0
  .grind
  .have hze:zero=(Q9 i).cells:=by simp[zero,h0]
   rw[hze];exact hz2)
 have hlim:¬(n*i.size>2^24):=by
  have:n*i.size<=4096*256:=Nat.mul_le_mul h5 h6;omega
 have hrun:∀w:World,(execOp a.eval o).run P w=.ok (.value (.slice (some ⟨w.heap.size,0,none⟩) n n)) (w.alloc (.cells cells fB)):=by
  intro w;have tJ:Instr.fill (λi'=>some (i'*i.size,i.size)) ((Array.range (n*i.size)).map (zero[· % zero.size]!)) (ps.map λ(i,x)=>(i,a.eval x)).toList=some cells:=by
   rw[Array.toList_map];exact yR
  simp only[execOp,ho,Instr.buildSlice,J6,O4 hu,O8,hi.sizeOf w,H7 hlim,U5];by_cases h0:n*i.size=0
  .have hze:zero=#[]:=by simp[zero,h0]
   rw[hze]at tJ;rw[I9 h0];simp only[J6,U5,O8,tJ];rfl
  .have hze:zero=(Q9 i).cells:=by simp[zero,h0]
   rw[hze]at tJ;have hzv:(zeroValue fB).run P w=.ok (Q9 i) w:=by simp[zeroValue,typeInfo,hj,hjz]
   simp only[H7 h0,J6,hzv,O8,U5,tJ];rfl
 exact⟨_,_,e2,λw=>aZ8 hrep (hrun w) λb hb=>.s _ _ _ _ _ _ _ (kH _ _) (N8 _) (λk hk=>(jJ hk)) (.inl rfl) (λh=>by cases h)⟩
def dj0(hT:∀t i,I7 t=some i->O6 P t i)(o:Oper)(t n:Nat)(ps:zY)(ho:o.op=.buildSlice t n ps):cZ P o (IX t n ps):=as6 (bH5 hT o t n ps ho)
def aT4{v:AV}{n:Nat}(h:UK v=some n):∃k,v=.n k n:=by
 unfold UK at h
 grind
def dk4(hT:∀t i,I7 t=some i->O6 P t i)(o:Oper)(t:Nat)(x y:Operand)(ho:o.op=.indexAddr t x y):cZ P o (VE t x y):=by
 intro S w0 ρ e s a w next Q h he hR hn
 have⟨v,h1,h2⟩:=L6 h;replace h2:VE t x y e s=_:=h2;rw[h2]at h hn;clear h2;have⟨u,h3,h4⟩:=L6 h;rw[h4]at h hn;clear h4;have⟨wd,h5,h6⟩:=L6 h;rw[h6]at h hn;clear h6;have⟨z,h7,h8⟩:=L6 h;rw[h8]at h hn;clear h8;obtain⟨k,n,rfl⟩:=bg9 h;have hy:=fM (bG h3 he);have hx:=bG h1 he;have⟨i,g1,g2⟩:=U1 h5;have⟨j,g3,g4⟩:=U1 h7;injection g4 with g4
 subst g4;have hu:=(hT _ _ g1).u;have run:∀(b off len:Nat)(L:Loc),n<len->ρ b=some L->((P.underlying t=some (.slice wd.2)/\∃cap,a.eval x=.slice (some ⟨L.blk,off+L.sh,none⟩) len cap)\/(P.underlying t=some (.array len wd.2)/\a.eval x=.pointer (some ⟨L.blk,off+L.sh,none⟩)))->
  (∀v s' ρ' x w',Has (.one (.p b (Nat.add off (Nat.mul n j.size))) s) v s'->Ext ρ ρ'->Rl S w0 ρ' s' w'->s'.ro=s.ro->s.nx<=s'.nx->RV ρ' v x->next (a.put o.dst x) w')->Oper.dV P o a w next Q:=by
  intro b off len L hlt hL hcase hn;refine eH rfl hR (.p _ _ L hL) ?_ hn;have hm:(0:Int)<=Int.ofNat n/\Int.ofNat n<(len:Int):=⟨Int.natCast_nonneg n,by show(n:Int)<len;omega⟩;have hadd:off+L.sh+n*j.size=Nat.add off (Nat.mul n j.size)+L.sh:=by grind
  rcases hcase with⟨hq,cap,hv⟩|⟨hq,hv⟩
  .simp only[execOp,ho,hv,hy,Instr.indexAt,asIntOf,J6,U5,O8,O4 hq,(hT _ _ g3).sizeOf w,I9 hm,iI];simp[hadd]
  .simp only[execOp,ho,hv,hy,Instr.indexAt,Instr.sureAddr,asIntOf,J6,U5,O8,O4 hq,(hT _ _ g3).sizeOf w,I9 hm,iI];simp[hadd]
 split at g2
 .rename_i el hd;rw[hd]at hu;injection g2 with g2
  subst g2;simp only[aC3,am6]at h hn;obtain⟨b,off,l,c,rfl⟩:=dD6 h;simp only[dD7]at h hn;have hlt:=Z7 h;simp only[hlt,Z8,af5]at hn;have hlt:=fA hlt;generalize hax:a.eval x=z at hx;cases hx with
  |s _ _ _ cap off' _ L hL hl hc ho' hb=>
   have hoff:off'=off+L.sh:=by grind
   subst hoff;exact run b off l L hlt hL (.inl ⟨hu,cap,hax⟩) hn
 .rename_i m el hd;rw[hd]at hu;injection g2 with g2
  subst g2;simp only[aC3,LJ]at h hn;have⟨l,h9,h10⟩:=L6 h;rw[h10]at h hn;clear h10;obtain⟨b,off,rfl⟩:=XK h;simp only[bh0]at h hn;have hlt:=Z7 h;simp only[hlt,Z8,af5]at hn;have hlt:=fA hlt;have⟨i2,q1,q2⟩:=U1 h9;rw[g1]at q1;injection q1 with q1
  subst q1;rw[hd]at q2;injection q2 with q2
  subst q2;have⟨L,hL,hv⟩:=vU hx
  grind
 .cases g2
def cR6(hT:∀t i,I7 t=some i->O6 P t i){t:Nat}(h:aQ4 I7 t=true):P.underlying t=some .string:=by
 unfold aQ4 at h;split at h
 .rename_i hd;exact(hT _ _ hd).u
 .cases h
def dj9(hT:∀t i,I7 t=some i->O6 P t i)(o:Oper)(t:Nat)(x y:Operand)(ho:o.op=.index t x y):cZ P o (VD t x y):=by
 intro S w0 ρ e s a w next Q h he hR hn
 have⟨v,h1,h2⟩:=L6 h;replace h2:VD t x y e s=_:=h2;rw[h2]at h hn;clear h2;have⟨u,h3,h4⟩:=L6 h;rw[h4]at h hn;clear h4;obtain⟨k,n,rfl⟩:=bg9 h;simp only[aC3]at h hn;have hy:=fM (bG h3 he);have hx:=bG h1 he;rw[Y8]at h hn;split at h
 .rename_i hs;rw[I9 hs]at hn;have hu:=cR6 hT hs;split at h
  .rename_i l;simp only at hn;have⟨c,h5,h6⟩:=L6 h;rw[h6]at hn;rw[BN]at h5;generalize hax:a.eval x=z at hx;cases hx with
   |str b=>
    rw[P9]at h5;cases hb:b.data.toList[n]? with
    |none=>grind
    |some ch=>
     rw[hb]at h5;simp at h5;subst h5;refine eH rfl hR (.n .u8 _) ?_ hn;have hlt:n<b.data.toList.length:=(P7.1 hb).1;have h0:(0:Int)<=Int.ofNat n:=Int.natCast_nonneg n;have hbb:b[(Int.ofNat n).toNat]?=some ch:=by
      have h2:n<b.size:=by simpa using hlt
      show b[n]?=some ch;rw[getElem?_pos b n h2];rw[J9 hlt]at hb;injection hb with hb
      rw[<-hb];rfl
     simp only[execOp,ho,hax,hy,Instr.index,asIntOf,J6,U5,O8,O4 hu,I9 h0,hbb];rfl
  .grind
 .rename_i hs;rw[H7 hs]at hn;have⟨l,h5,h6⟩:=L6 h;rw[h6]at h hn;clear h6;have⟨wd,h7,h8⟩:=L6 h;rw[h8]at h hn;clear h8;have⟨z,h9,h10⟩:=L6 h;rw[h10]at h hn;clear h10;obtain⟨cs,rfl⟩:=cg9 h;simp only[dD4]at h hn;have hlt:=Z7 h;simp only[hlt,Z8]at h hn;have⟨r,h11,h12⟩:=L6 h;rw[h12]at hn;have hlt:=fA hlt;have⟨i,g1,g2⟩:=U1 h5;have⟨i2,g3,g4⟩:=U1 h7;rw[g1]at g3;injection g3 with g3
  subst g3;have⟨j,g5,g6⟩:=U1 h9;injection g6 with g6
  subst g6;have hu:=(hT _ _ g1).u;split at g2
  .rename_i m el hd;rw[hd]at hu g4;injection g2 with g2
   subst g2;injection g4 with g4
   subst g4;have⟨vs,q1,q2,q3⟩:=JG hx;have⟨y',q4,q5⟩:=bV1 (w:=w) hT q2 q3 h11;refine eH rfl hR q5 ?_ hn;have h0:(0:Int)<=Int.ofNat n/\Int.ofNat n<(m:Int):=⟨Int.natCast_nonneg n,by show(n:Int)<m;omega⟩;simp only[execOp,ho,q1,hy,Instr.index,asIntOf,J6,U5,O8,O4 hu,I9 h0,(hT _ _ g5).sizeOf w];replace q4:(Go.part el vs.toArray ((Int.ofNat n).toNat*j.size)).run P w=_:=q4;rw[q4];rfl
  .cases g2
def XZ(ρ:Ren)(x:pK)(y:uY):Prop:=(x=none/\y=none)\/∃v z,x=some v/\y=some z/\RV ρ v z
theorem bn4{k:IntKind}{n y:Nat}{code:BoundsCode}(h:n<=y):(Instr.sliceBound (.int k (.ofNat n)) y code).run P w=.ok n w:=by
 have h0:(0:Int)<=Int.ofNat n/\Int.ofNat n<=(y:Int):=⟨Int.natCast_nonneg n,by show(n:Int)<=y;omega⟩;simp only[Instr.sliceBound,asIntOf,J6,U5,O8,I9 h0];rfl
def bn5{k:IntKind}{n y:Nat}{code:BoundsCode}(h:n<=y):(Instr.sliceBound (.int k (n:Int)) y code).run P w=.ok n w:=bn4 h
def bM5{d n:Nat}{x:pK}{y:uY}(h:orA d x=some n)(hx:XZ ρ x y):(y=none/\n=d/\x=none)\/∃k,y=some (.int k (.ofNat n))/\x≠none:=by
 rcases hx with⟨rfl,rfl⟩|⟨v,z,rfl,rfl,hr⟩
 .cases h;exact .inl ⟨rfl,rfl,rfl⟩
 .obtain⟨k,rfl⟩:=aT4 h;exact .inr ⟨k,by rw[fM hr],by simp⟩
def am4{len cap':Nat}{c:E8}{lo hi mx:pK}{b:Nat×Nat×E8}(h:YH len c lo hi mx=some b)(hc:∀k,c=some k->cap'=k)(hl:len<=cap')
    {lo' hi' mx':uY} (h1:XZ ρ lo lo') (h2:XZ ρ hi hi') (h3:XZ ρ mx mx') (ZX:mx=none\/hi≠none) (q:Bool):
    ∃m,(Instr.sliceBounds q len cap' lo' hi' mx').run P w=.ok (b.1,b.2.1,m) w/\b.1<=b.2.1/\b.2.1<=m/\m<=cap'/\(∀k,b.2.2=some k->m=k)/\(b.2.2=none->c=none/\m=cap'/\b.2.1<=len):=by
 have⟨mm,g1,h⟩:=U1 h;have⟨hh,g2,h⟩:=U1 h;have⟨g3,h⟩:=nK h;have⟨l,g4,h⟩:=U1 h;have⟨g5,h⟩:=nK h;injection h with h
 subst h;have g5:=I8 g5;simp only;have hm:∃m,(match mx' with|some v=>Instr.sliceBound v cap' (if q then .slice3Acap else .slice3Alen)|none=>(pure cap':Sem Nat)).run P w=.ok m w/\hh<=m/\m<=cap'/\(∀k,mm=some k->m=k)/\(mm=none->c=none/\m=cap'/\hh<=len):=by
  rcases h3 with⟨rfl,rfl⟩|⟨v,z,rfl,rfl,hr⟩
  .injection g1 with g1
   subst g1;refine⟨cap',rfl,?_,N8 _,hc,λh=>⟨h,rfl,?_⟩⟩
   .cases c with
    |none=>exact Y2 (I8 g3) hl
    |some k=>rw[hc k rfl];exact I8 g3
   .subst h;exact I8 g3
  .have⟨n,q1,q2⟩:=U1 g1;have⟨q3,q4⟩:=nK q2;injection q4 with q4
   subst q4;obtain⟨k,rfl⟩:=aT4 q1;have hle:n<=cap':=by
    cases c with
    |none=>exact Y2 (I8 q3) hl
    |some k=>rw[hc k rfl];exact I8 q3
   refine⟨n,?_,I8 g3,hle,λk hk=>jJ hk,λh=>by cases h⟩;simp only[fM hr];exact bn4 hle
 have⟨m,q1,q2,q3,q4,q5⟩:=hm;refine⟨m,?_,g5,q2,q3,q4,q5⟩;have e1:=bM5 g2 h2;have e2:=bM5 g4 h1;simp only[Instr.sliceBounds,J6];have q1':=q1;rcases h3 with⟨rfl,rfl⟩|⟨v,z,rfl,rfl,hr⟩
 .simp only[U5,Result.ok.injEq,and_true]at q1;subst q1;simp only[U5,O8];rcases e1 with⟨rfl,rfl,_⟩|⟨k,rfl,_⟩<;>rcases e2 with⟨rfl,rfl,_⟩|⟨k2,rfl,_⟩<;>simp[bn5,q2,g5]
 .simp only at q1;rcases e1 with⟨rfl,rfl,e1⟩|⟨k,rfl,_⟩
  .grind
  .rcases e2 with⟨rfl,rfl,_⟩|⟨k2,rfl,_⟩<;>simp[q1,bn5,q2,g5]
def aW3{o:zZ}{x:pK}(h:DN o e=some x)(he:aX ρ e a.tmps):XZ ρ x (o.map a.eval):=by
 rcases o with _|o
 .cases h;exact .inl ⟨rfl,rfl⟩
 .have⟨v,h1,h2⟩:=U1 h;injection h2 with h2
  subst h2;exact .inr ⟨v,_,rfl,rfl,bG h1 he⟩
def zD{b o l:Nat}{c:E8}{x:Value}(h:RV ρ (.s b o l c) x):∃cap off L,ρ b=some L/\x=.slice (some ⟨L.blk,off,none⟩) l cap/\l<=cap/\(∀k,c=some k->cap=k)/\(off=o+L.sh\/cap=0)/\
    (c=none->∃i,I7 L.el=some i/\off+cap*i.size<=L.tot):=by
 cases h with|s _ _ _ cap off _ L h hl hc ho hb=>exact⟨cap,off,L,h,rfl,hl,hc,ho,hb⟩
def dt6(b:ByteArray)(l h:Nat)(hle:l<=h)(hh:h<=b.size):(b.extract l h).data.toList=(b.data.toList.drop l).take (h-l):=by
 rw[ByteArray.data_extract,Array.toList_extract]
def dh2{el b:Nat}{c:E8}{k:RO}(h:rowIs el b c s k≠.no):(c=none->∃cs,s.h.get (pa b)=some (.c el cs))/\rowIs el b c s k=k:=by
 rcases c with _|n
 .have⟨fB,cs,q1,q2⟩:=xH (show iU s b _≠.no from h);have q2':rowIs el b none s k=bR (Nat.beq el fB) k:=q2;rw[q2']at h⊢;have q3:=Z7 h;rw[q3];have:=G5 q3;subst this;exact⟨λ_=>⟨cs,q1⟩,rfl⟩
 .exact⟨(λh=>by cases h),rfl⟩
def dl4(hT:∀t i,I7 t=some i->O6 P t i)(o:Oper)(t:Nat)(x:Operand)(lo hi mx:zZ)(ho:o.op=.slice t x lo hi mx):cZ P o (VO t x lo hi mx):=by
 intro S w0 ρ e s a w next Q h he hR hn
 have hmx:=Z7 h;have e0:VO t x lo hi mx e s=oR (look x e) λa=>oR (DN lo e) λlo=>oR (DN hi e) λhi=>oR (DN mx e) λmx=>ay6 t a lo hi mx s:=by
  show bR (bL8 hi mx) _=_;rw[hmx];rfl
 rw[e0]at h hn;clear e0;have⟨v,h1,h2⟩:=L6 h;rw[h2]at h hn;clear h2;have⟨lo',h3,h4⟩:=L6 h;rw[h4]at h hn;clear h4;have⟨hi',h5,h6⟩:=L6 h;rw[h6]at h hn;clear h6;have⟨mx',h7,h8⟩:=L6 h;rw[h8]at h hn;clear h8;have r1:=aW3 h3 he;have r2:=aW3 h5 he;have r3:=aW3 h7 he;have hx:=bG h1 he;have ZX:mx'=none\/hi'≠none:=by
  cases mx with
  |none=>cases h7;exact .inl rfl
  |some m=>
   cases hi with
   |none=>cases hmx
   |some q=>
    have⟨u,_,h9⟩:=U1 h5
    grind
 have row:∀(b of n cap off:Nat)(c:E8)(L:Loc)(el:Nat)(i:TI)(bd:Nat×Nat×E8)(m:Nat),ρ b=some L->I7 el=some i->n<=cap->(off=of+L.sh\/cap=0)->(∀k,c=some k->cap=k)->
  (c=none->L.el=el/\off+cap*i.size<=L.tot)->
  bd.1<=bd.2.1->bd.2.1<=m->m<=cap->(∀k,bd.2.2=some k->m=k)->(bd.2.2=none->c=none/\m=cap/\bd.2.1<=n)->
  RV ρ (.s b (bq (atEnd bd.1 bd.2.2) of (Nat.add of (Nat.mul bd.1 i.size))) (Nat.sub bd.2.1 bd.1) (bd.2.2.map λm=>Nat.sub m bd.1))
   (.slice (some (if m=bd.1 then(⟨L.blk,off,none⟩:Addr)else(⟨L.blk,off,none⟩:Addr).add (bd.1*i.size))) (bd.2.1-bd.1) (m-bd.1)):=by
  intro b of n cap off c L el i bd m hL hi hn hoff hck hb g1 g2 g3 g4 g5;have ha:(if m=bd.1 then(⟨L.blk,off,none⟩:Addr)else(⟨L.blk,off,none⟩:Addr).add (bd.1*i.size))=⟨L.blk,if m=bd.1 then off else off+bd.1*i.size,none⟩:=by
   split
   .rfl
   .rw[iI]
  rw[ha];refine .s _ _ _ _ _ _ L hL (Nat.sub_le_sub_right g2 _) (λk hk=>?_) ?_ λhnn=>?_
  .cases hbd:bd.2.2 with
   |none=>grind
   |some k'=>grind
  .by_cases hm:m=bd.1
   .right;omega
   .left;rw[H7 hm];have hcap:cap≠0:=by omega
    have hoff:=hoff.resolve_right hcap;cases hbd:bd.2.2 with
    |none=>simp only[atEnd,LJ];show _=of+bd.1*i.size+L.sh;omega
    |some k'=>
     have hk:=g4 k' hbd;have hb2:Nat.beq k' bd.1=false:=by rw[uZ];simp;omega
     simp only[atEnd,hb2,LJ];show _=of+bd.1*i.size+L.sh;omega
  .have hbd:bd.2.2=none:=by cases hbd:bd.2.2 with|none=>rfl|some k=>rw[hbd]at hnn;cases hnn
   have⟨hc,hm,_⟩:=g5 hbd;have⟨he1,he2⟩:=hb hc;refine⟨i,by rw[he1];exact hi,?_⟩;by_cases hm2:m=bd.1
   .grind
   .rw[H7 hm2];have e:(m-bd.1)*i.size=m*i.size-bd.1*i.size:=Nat.sub_mul _ _ _;have h3:bd.1*i.size<=m*i.size:=iJ _ (by omega)
    grind
 unfold ay6 at h hn;split at h
 ·
  rename_i _ _ _ _ _ _ _ l hd;simp only[hd]at hn;have⟨bd,g1,g2⟩:=L6 h;rw[g2]at h hn;clear g2;have⟨r,g3,g4⟩:=L6 h;rw[g4]at hn;clear g4;have hu:=(hT _ _ hd).u;simp only at hu;generalize hax:a.eval x=z at hx;cases hx with
  |str bs=>
   have hsz:dM (bs.data.toList.map UInt8.toNat)=bs.size:=by rw[kE];simp
   rw[hsz]at g1;have⟨m,q1,q2,q3,q4,q5,q6⟩:=am4 (P:=P) (w:=w) g1 (λk hk=>jJ hk) (N8 _) r1 r2 r3 ZX false;have⟨t1,t2⟩:=az1 g3;rw[YR]at t1;have bz1:mx.map a.eval=none:=by
    rcases r3 with⟨_,h⟩|⟨v,z,h,_⟩
    .exact h
    .cases h
   rw[bz1]at q1;have hv:RV ρ (.str r) (.string (bs.extract bd.1 bd.2.1)):=by
    have:=RV.str (ρ:=ρ) (bs.extract bd.1 bd.2.1);rw[dt6 _ _ _ q2 (Y2 q3 q4)]at this;rw[t1];have e:(bs.data.toList.map UInt8.toNat).drop bd.1=(bs.data.toList.drop bd.1).map UInt8.toNat:=by rw[List.map_drop]
    rw[e,<-List.map_take];exact this
   refine eH rfl hR hv ?_ hn;simp only[execOp,ho,hax,bz1,Instr.sliceAt,Instr.slice,J6,O4 hu,O8,q1];simp[q1]
 ·
  rename_i el _ _ _ _ _ b of n c hd;simp only[hd]at hn;have⟨z,g1,g2⟩:=L6 h;rw[g2]at h hn;clear g2;have⟨bd,g3,g4⟩:=L6 h;rw[g4]at h hn;clear g4;have hu:=(hT _ _ hd).u;simp only at hu;have⟨i,g5,g6⟩:=U1 g1;injection g6 with g6
  subst g6;have⟨cap,off,L,hL,hax,hl,hck,hoff,hb⟩:=zD hx;have⟨hrow,hone⟩:=dh2 h;rw[hone,aw5]at hn;have⟨m,q1,q2,q3,q4,q5,q6⟩:=am4 (P:=P) (w:=w) g3 hck hl r1 r2 r3 ZX true;refine eH rfl hR (row b of n cap off c L el i bd m hL g5 hl hoff hck (λhc=>?_) q2 q3 q4 q5 q6) ?_ hn
  .have⟨cs,hcs⟩:=hrow hc;have⟨L',arr,p1,p2,_⟩:=hR.cells hcs
   grind
  .simp only[execOp,ho,hax,Instr.sliceAt,Instr.slice,J6,O4 hu,O8,q1,(hT _ _ g5).sizeOf w];by_cases hm:m=bd.1
   .simp[hm,q1,(hT _ _ g5).sizeOf w]
   .simp[hm,q1,(hT _ _ g5).sizeOf w]
 ·
  rename_i el _ _ _ _ _ hd;simp only[hd]at hn;have⟨z,g1,g2⟩:=L6 h;rw[g2]at h hn;clear g2;have⟨bd,g3,g4⟩:=L6 h;rw[g4]at hn;clear g4;have hu:=(hT _ _ hd).u;simp only at hu;have⟨i,g5,g6⟩:=U1 g1;generalize hax:a.eval x=z' at hx;cases hx;have⟨m,q1,q2,q3,q4,q5,q6⟩:=am4 (P:=P) (w:=w) g3 (λk hk=>jJ hk) (N8 _) r1 r2 r3 ZX true;have e1:m=0:=by omega
  have e2:bd.1=0:=by omega
  have e3:bd.2.1=0:=by omega
  refine eH rfl hR .ns ?_ hn;simp only[execOp,ho,hax,Instr.sliceAt,Instr.slice,J6,O4 hu,O8,q1,(hT _ _ g5).sizeOf w];simp[q1,(hT _ _ g5).sizeOf w,e1,e2,e3]
 ·
  rename_i n el _ _ _ _ _ b of hd;simp only[hd]at hn;have⟨z,g1,g2⟩:=L6 h;rw[g2]at h hn;clear g2;have⟨bd,g3,g4⟩:=L6 h;rw[g4,aw5]at hn;clear g4;have hu:=(hT _ _ hd).u;simp only at hu;have⟨i,g5,g6⟩:=U1 g1;injection g6 with g6
  subst g6;have⟨L,hL,hax⟩:=vU hx;have⟨m,q1,q2,q3,q4,q5,q6⟩:=am4 (P:=P) (w:=w) g3 (λk hk=>jJ hk) (N8 _) r1 r2 r3 ZX false;refine eH rfl hR (row b of n n (of+L.sh) (some n) L el i bd m hL g5 (N8 _) (.inl rfl) (λk hk=>jJ hk) (λhc=>by cases hc) q2 q3 q4 q5 q6) ?_ hn;simp only[execOp,ho,hax,Instr.sliceAt,Instr.sureAddr,J6,U5,O4 hu,O8,q1,(hT _ _ g5).sizeOf w]
  first|done|simp[q1,(hT _ _ g5).sizeOf w]
 .grind
end
section
variable{P:Program}{S:U2}{w0:World}{ρ:Ren}{e:Env}{s:St}{a:Act}{w:World}
def YK(hT:∀t i,I7 t=some i->O6 P t i){t:Nat}{c:AV}(h:BA t c=true):(∃i,I7 t=some i/\i.isAgg=false)/\
    ((∃k',P.underlying t=some (.int k')/\∃k n,c=.n k n)\/(P.underlying t=some .string/\∃l,c=.str l)\/(P.underlying t=some .bool/\∃b,c=.q b)):=by
 unfold BA at h;split at h
 .rename_i hd;have:=hT _ _ hd;exact⟨⟨_,hd,by have:=this.agg;simpa[YN]using this⟩,.inl ⟨_,this.u,_,_,rfl⟩⟩
 .rename_i hd;have:=hT _ _ hd;exact⟨⟨_,hd,by have:=this.agg;simpa[YN]using this⟩,.inr (.inl ⟨this.u,_,rfl⟩)⟩
 .rename_i hd;have:=hT _ _ hd;exact⟨⟨_,hd,by have:=this.agg;simpa[YN]using this⟩,.inr (.inr ⟨this.u,_,rfl⟩)⟩
 .cases h
def str_inj{b1 b2:ByteArray}(h:(b1.data.toList==b2.data.toList)=true):b1=b2:=by
 have:=mP h;have e:b1.data=b2.data:=Array.ext' this;have⟨d1⟩:=b1;have⟨d2⟩:=b2
 grind
theorem cE7(x:AV)(l:J7)(y:AV)(m:J7):ZH (x::l) (y::m)=oB (YJ x y) λq=>bq q (ZH l m) (some false):=rfl
def cw0{x y:AV}{u v:Value}{q:Bool}(h:YJ x y=some q)(hx:RV ρ x u)(hy:RV ρ y v):
    (∃k a b,u=.int k (.ofNat a)/\v=.int k (.ofNat b)/\q=decide (a=b))\/(∃b1 b2:ByteArray,u=.string b1/\v=.string b2/\q=(b1.data.toList==b2.data.toList))\/∃p r,u=.bool p/\v=.bool r/\q=(p==r):=by
 unfold YJ at h;split at h
 .rename_i k a j b;rw[Y8]at h;split at h
  .rename_i hkj;injection h with h
   have:=vO hkj;subst this;exact .inl ⟨k,a,b,fM hx,fM hy,by rw[<-h,uZ]⟩
  .cases h
 .injection h with h
  cases hx with
  |str b1=>
   cases hy with
   |str b2=>exact .inr (.inl ⟨b1,b2,rfl,rfl,by rw[<-h,ap3]⟩)
 .rename_i p r;injection h with h
  have e1:u=.bool p:=by cases hx;rfl
  have e2:v=.bool r:=by cases hy;rfl
  exact .inr (.inr ⟨p,r,e1,e2,by rw[<-h];cases p<;>cases r<;>rfl⟩)
 .cases h
def bq6(a b:Nat):(Int.ofNat a==Int.ofNat b)=decide (a=b):=by grind
def cv9(hT:∀t i,I7 t=some i->O6 P t i){x y:AV}{u v:Value}{q:Bool}{t:Nat}(hf:BA t x=true)(h:YJ x y=some q)(hx:RV ρ x u)(hy:RV ρ y v)(n:Nat):
    (Op.equalIn (n+1) t u v).run P w=.ok q w/\(q=true->v=u):=by
 have⟨_,hk⟩:=YK hT hf;rcases cw0 h hx hy with⟨k,a,b,rfl,rfl,rfl⟩|⟨b1,b2,rfl,rfl,rfl⟩|⟨p,r,rfl,rfl,rfl⟩
 .rcases hk with⟨k',hd,_⟩|⟨_,l,rfl⟩|⟨_,b,rfl⟩
  .refine⟨?_,λhq=>?_⟩
   .rw[run_equalIn_int w n t k k' _ _ hd,bq6]
   .grind
  .cases hx
  .cases hx
 .rcases hk with⟨k',hd,k,n,rfl⟩|⟨hd,_⟩|⟨_,b,rfl⟩
  .cases hx
  .refine⟨?_,λhq=>by rw[str_inj hq]⟩;rw[run_equalIn_string w n t _ _ hd,ByteArray.toList_eq,ByteArray.toList_eq]
  .cases hx
 .rcases hk with⟨k',hd,k,n,rfl⟩|⟨_,l,rfl⟩|⟨hd,_⟩
  .cases hx
  .cases hx
  .refine⟨by rw[run_equalIn_bool' w n t _ _ hd],λhq=>by rw[mP hq]⟩
def a00{t:Nat}{i:TI}(hi:O6 P t i)(hg:i.isAgg=false){xs:S9}{o:Nat}{v:Value}(hx:xs[o]?=some v):(Go.part t xs o).run P w=.ok v w:=by
 have hr:=hi.IB w;rw[hg]at hr;simp[Go.part,hr,hx]
def bt6(hT:∀t i,I7 t=some i->O6 P t i)(xs ys:H6)(n:Nat):∀(fs:List Field)(i:Nat)(cs ds:J7)(us vs:H6)(q:Bool),MK fs i cs=true->ZH cs ds=some q->O5 ρ cs us->O5 ρ ds vs->xs.drop i=us->ys.drop i=vs->
    (Op.eqFields (n+1) xs.toArray ys.toArray fs).run P w=.ok q w/\(q=true->vs=us)
 |[],i,cs,ds,us,vs,q,hf,hq,hx,hy,_,_=>by
  cases cs with
  |nil=>
   cases ds with
   |nil=>
    injection hq with hq
    subst hq;have e1:us=[]:=mD hx.1.symm;have e2:vs=[]:=mD hy.1.symm;exact⟨by simp[Op.eqFields],λ_=>by rw[e1,e2]⟩
   |cons d ds=>cases hq
  |cons c cs=>cases hf
 |f::fs,i,cs,ds,us,vs,q,hf,hq,hx,hy,hxs,hys=>by
  rcases cs with _|⟨c,cs⟩
  .cases hf
  .rcases ds with _|⟨d,ds⟩
   .cases hq
   .replace hf:bq (Nat.beq f.offset i) (bq (decide (f.name= "_")) false (bq (BA f.type c) (MK fs (i+1) cs) false)) false=true:=hf;simp only[Y8]at hf;split at hf<;>rename_i h1
    rotate_left
    .cases hf
    split at hf<;>rename_i h2
    .cases hf
    split at hf<;>rename_i h3
    rotate_left
    .cases hf
    have h1:=G5 h1;have h2:f.name≠ "_" :=λe=>h2 (by simp[e]);rw[cE7]at hq;have⟨p,g1,g2⟩:=U1 hq;rcases us with _|⟨u,us⟩
    .have:=hx.1;simp at this
    .rcases vs with _|⟨v,vs⟩
     .have:=hy.1;simp at this
     .have⟨r1,r2⟩:=cv9 (w:=w) hT h3 g1 (hx.2 0 c u rfl rfl) (hy.2 0 d v rfl rfl) n;have⟨⟨ti,hti,hag⟩,_⟩:=YK hT h3;have hxi:xs.toArray[f.offset]?=some u:=by
       have:=congrArg (λl=>l[0]?) hxs
       grind
      have hyi:ys.toArray[f.offset]?=some v:=by
       have:=congrArg (λl=>l[0]?) hys
       grind
      have p1:=a00 (w:=w) (hT _ _ hti) hag hxi;have p2:=a00 (w:=w) (hT _ _ hti) hag hyi;have tl:∀{c:AV}{cs:J7}{u:Value}{us:H6},O5 ρ (c::cs) (u::us)->O5 ρ cs us:=λh=>⟨by have:=h.1;simpa using this,λi c x h1 h2=>h.2 (i+1) c x (by simpa using h1) (by simpa using h2)⟩;have dr:∀{l:H6}{u:Value}{us:H6},l.drop i=u::us->l.drop (i+1)=us:=λ{l u us} h=>by
       rw[<-List.drop_drop,h];rfl
      rcases p with _|_
      .injection g2 with g2
       subst g2;exact⟨by simp[Op.eqFields,h2,p1,p2,r1],λh=>by cases h⟩
      .simp only[am6]at g2;have⟨q1,q2⟩:=bt6 hT xs ys n fs (i+1) cs ds us vs q hf g2 (tl hx) (tl hy) (dr hxs) (dr hys);refine⟨by simp[Op.eqFields,h2,p1,p2,r1,q1],λh=>by rw[r2 rfl,q2 h]⟩
def cw5(hT:∀t i,I7 t=some i->O6 P t i){t:Nat}{c:AV}{x:Value}(hf:BA t c=true)(hx:RV ρ c x)(em:Bool)(n:Nat):(Instr.checkKey em (n+1) t x).run P w=.ok () w:=by
 have⟨_,hk⟩:=YK hT hf;rcases hk with⟨k',hd,k,m,rfl⟩|⟨hd,l,rfl⟩|⟨hd,b,rfl⟩
 .have:=fM hx;subst this;simp[Instr.checkKey,O4 hd]
 .cases hx with|str b=>simp[Instr.checkKey,O4 hd]
 .have:x=.bool b:=by cases hx;rfl
  subst this;simp[Instr.checkKey,O4 hd]
def cw6(hT:∀t i,I7 t=some i->O6 P t i){kt:Nat}{i:TI}(hi:I7 kt=some i){k:AV}{x:Value}(hf:yN kt i.desc k=true)(hx:RV ρ k x)(em:Bool)(n:Nat):(Instr.checkKey em (n+1+1) kt x).run P w=.ok () w:=by
 have hu:=(hT _ _ hi).u;unfold yN at hf;split at hf
 .rename_i hd;rw[hd]at hu;have:=fM hx;subst this;simp[Instr.checkKey,O4 hu]
 .rename_i hd;rw[hd]at hu;cases hx with
  |str b=>
   simp[Instr.checkKey,O4 hu]
 .rename_i fs cs hd;rw[hd]at hu;rw[Y8]at hf;split at hf
  rotate_left
  .cases hf
  rename_i hff;obtain⟨vs,rfl,hl,hc⟩:=JG hx
  have jD:O5 ρ cs vs:=⟨hl,λj c x h1 h2=>by
   have⟨_,y,hy,hr⟩:=hc j c h1;simp only at hy
   rw[h2]at hy;injection hy with hy;rw[hy];exact hr⟩
  have key:∀(l:List Field)(i:Nat)(cs:J7)(us:H6),MK l i cs=true->O5 ρ cs us->vs.drop i=us->
   (forIn l PUnit.unit λf _=>(if f.name≠ "_" then(do let a <-part f.type vs.toArray f.offset;Instr.checkKey em (n+1) f.type a;pure (.yield PUnit.unit))else pure (.yield PUnit.unit):Sem (ForInStep PUnit))).run P w=.ok () w:=by
   intro l;induction l with
   |nil=>intro i cs us _ _ _;simp
   |cons f l ih=>
    intro i cs us hf hx hxs;cases cs with
    |nil=>cases hf
    |cons c cs=>
     replace hf:bq (Nat.beq f.offset i) (bq (decide (f.name= "_")) false (bq (BA f.type c) (MK l (i+1) cs) false)) false=true:=hf;simp only[Y8]at hf;split at hf<;>rename_i h1
     rotate_left
     .cases hf
     split at hf<;>rename_i h2
     .cases hf
     split at hf<;>rename_i h3
     rotate_left
     .cases hf
     have h1:=G5 h1;have h2:f.name≠ "_" :=λe=>h2 (by simp[e]);cases us with
     |nil=>have:=hx.1;simp at this
     |cons u us=>
      have⟨⟨ti,hti,hag⟩,_⟩:=YK hT h3;have hxi:vs.toArray[f.offset]?=some u:=by
       have:=congrArg (λl=>l[0]?) hxs
       grind
      have p1:=a00 (w:=w) (hT _ _ hti) hag hxi;have p2:=cw5 (w:=w) hT h3 (hx.2 0 c u rfl rfl) em n;have:=ih (i+1) cs us hf ⟨by have:=hx.1;simpa using this,λi c x h1 h2=>hx.2 (i+1) c x (by simpa using h1) (by simpa using h2)⟩ (by rw[<-List.drop_drop,hxs];rfl);simp only[List.forIn_cons,J6,I9 h2,p1,O8,p2,U5];exact this
  have:=key fs.toList 0 cs vs hff jD rfl;unfold Instr.checkKey;simp only[J6,O4 hu,O8];rw[<-Array.forIn_toList];rw[this];rfl
 .cases hf
def aG7(hT:∀t i,I7 t=some i->O6 P t i){kt:Nat}{i:TI}(hi:I7 kt=some i){k:AV}{x:Value}(hf:yN kt i.desc k=true)(hx:RV ρ k x)(em:Bool):(Instr.checkKey em 10000 kt x).run P w=.ok () w:=
 cw6 hT hi hf hx em 9998
noncomputable def ZJ (k:AV) (l:kS):Nat->Option (Option (Nat×AV)):=
 List.rec (motive:=λ_=>Nat->Option (Option (Nat×AV))) (λ_=>some none) (λx _ ih i=>oB (ab3 k x.1) λq=>bq q (some (some (i,x.2))) (ih (Nat.succ i))) l
theorem bu0(k:AV)(x:AV×AV)(l:kS)(n:Nat):ZJ k (x::l) n=oB (ab3 k x.1) λq=>bq q (some (some (n,x.2))) (ZJ k l (n+1)):=rfl
def Found(x:Value)(es:List (AV×AV))(l:List MapEntry)(n:Nat)(r:Option (Nat×AV))(r':Option (Nat×Value)):Prop:=
 match r with
 |none=>r'=none
 |some (j,v)=>∃kk m,n<=j/\es[j-n]?=some (kk,v)/\l[j-n]?=some m/\r'=some (j,m.val)/\m.key=x
def yA(ρ:Ren)(es:kS)(l:yE):Prop:=es.length=l.length/\∀(i:Nat)(k v:AV)(m:MapEntry),es[i]?=some (k,v)->l[i]?=some m->RV ρ k m.key/\RV ρ v m.val
def yA.tail{k v:AV}{es:kS}{m:MapEntry}{l:yE}(h:yA ρ ((k,v)::es) (m::l)):RV ρ k m.key/\RV ρ v m.val/\yA ρ es l:=
 ⟨(h.2 0 k v m rfl rfl).1,(h.2 0 k v m rfl rfl).2,by have:=h.1;simpa using this,λi k v m h1 h2=>h.2 (i+1) k v m (by simpa using h1) (by simpa using h2)⟩
def Found.succ{x:Value}{es:kS}{l:yE}{n:Nat}{r:Option (Nat×AV)}{r':Option (Nat×Value)}(p:AV×AV)(m:MapEntry)(h:Found x es l (n+1) r r'):Found x (p::es) (m::l) n r r':=by
 rcases r with _|w
 .exact h
 .have⟨kk,m',h1,h2,h3,h4,h5⟩:=h;have e:w.1-n=(w.1-(n+1))+1:=by omega
  exact⟨kk,m',by omega,by rw[e];simpa using h2,by rw[e];simpa using h3,h4,h5⟩
def aK4{d:TypeDesc}{k:AV}{x:Value}(hx:RV ρ k x)
    (hd:∀(a:AV)(y:Value)(q:Bool),RV ρ a y->ab3 k a=some q->Instr.sameNow d x y=some q/\(q=true->y=x)):
    ∀(es:kS)(l:yE)(n:Nat)(r:Option (Nat×AV)),yA ρ es l->ZJ k es n=some r->∃r',Instr.findNow d x l n=some r'/\Found x es l n r r'
 |[],l,n,r,hm,h=>by
  have:l=[]:=mD hm.1.symm;subst this;injection h with h
  subst h;exact⟨none,rfl,rfl⟩
 |(kk,v)::es,[],n,r,hm,h=>by have:=hm.1;simp at this
 |(kk,v)::es,m::l,n,r,hm,h=>by
  have⟨h1,h2,h3⟩:=hm.tail;rw[bu0]at h;have⟨q,g1,g2⟩:=U1 h;have⟨g3,g4⟩:=hd kk m.key q h1 g1;rcases q with _|_
  .have⟨r',q1,q2⟩:=aK4 hx hd es l (n+1) r h3 g2;exact⟨r',by simp[Instr.findNow,g3,q1],q2.succ _ _⟩
  .injection g2 with g2
   subst g2;exact⟨some (n,m.val),by simp[Instr.findNow,g3],kk,m,N8 _,by simp,by simp,rfl,g4 rfl⟩
def bu1{kt:Nat}{k:AV}{x:Value}(hx:RV ρ k x)
    (hd:∀(a:AV)(y:Value)(q:Bool),RV ρ a y->ab3 k a=some q->(Op.equal kt x y).run P w=.ok q w/\(q=true->y=x)):
    ∀(es:kS)(l:yE)(n:Nat)(r:Option (Nat×AV)),yA ρ es l->ZJ k es n=some r->∃r',(Instr.findAsking kt x l n).run P w=.ok r' w/\Found x es l n r r'
 |[],l,n,r,hm,h=>by
  have:l=[]:=mD hm.1.symm;subst this;injection h with h
  subst h;exact⟨none,rfl,rfl⟩
 |(kk,v)::es,[],n,r,hm,h=>by have:=hm.1;simp at this
 |(kk,v)::es,m::l,n,r,hm,h=>by
  have⟨h1,h2,h3⟩:=hm.tail;rw[bu0]at h;have⟨q,g1,g2⟩:=U1 h;have⟨g3,g4⟩:=hd kk m.key q h1 g1;rcases q with _|_
  .have⟨r',q1,q2⟩:=bu1 hx hd es l (n+1) r h3 g2;exact⟨r',by simp[Instr.findAsking,g3,q1],q2.succ _ _⟩
  .injection g2 with g2
   subst g2;exact⟨some (n,m.val),by simp[Instr.findAsking,g3],kk,m,N8 _,by simp,by simp,rfl,g4 rfl⟩
def aK5(hT:∀t i,I7 t=some i->O6 P t i)(hS:∀t,WL t=true->P.stoodInHeld t=false){kt:Nat}{i:TI}(hi:I7 kt=some i){k:AV}{x:Value}(hf:yN kt i.desc k=true)(hx:RV ρ k x)
    {es:kS} {l:yE} {r:Option (Nat×AV)} (hm:yA ρ es l) (h:ZI k es=some r):∃r',(Instr.findKey kt x l).run P w=.ok r' w/\Found x es l 0 r r':=by
 have hu:=(hT _ _ hi).u;replace h:ZJ k es 0=some r:=h;unfold yN at hf;split at hf
 .rename_i k' kk n hd;rw[hd]at hu;have:=fM hx;subst this
  have⟨r',h1,h2⟩:=aK4 (d:=.int k') hx (λa y q hy hq=>by
   cases a with
   |n j b=>
    replace hq:bq (Nat.beq (fK kk) (fK j)) (some (Nat.beq n b)) none=some q:=hq;rw[Y8]at hq;split at hq
    .rename_i hkj;injection hq with hq
     have:=vO hkj;subst this;have:=fM hy;subst this;rw[uZ]at hq;refine⟨?_,λh=>by rw[<-hq]at h;rw[iR h]⟩;rw[<-hq,<-bq6];simp only[Instr.sameNow,if_true]
    .cases hq
   |_=>cases hq) es l 0 r hm h
  exact⟨r',by simp only[Instr.findKey,J6,O4 hu,O8,h1];rfl,h2⟩
 .rename_i ll hd;rw[hd]at hu;cases hx with
  |str b1=>
   have⟨r',h1,h2⟩:=aK4 (d:=.string) (.str b1) (λa y q hy hq=>by
    cases a with
    |str l2=>
     replace hq:some (BH (b1.data.toList.map UInt8.toNat) l2)=some q:=hq;injection hq with hq
     cases hy with
     |str b2=>
      rw[ap3]at hq;refine⟨?_,λh=>by rw[<-hq]at h;rw[str_inj h]⟩;rw[<-hq];simp only[Instr.sameNow,aQ];exact YF _ _
    |_=>cases hq) es l 0 r hm h
   exact⟨r',by simp only[Instr.findKey,J6,O4 hu,O8,h1];rfl,h2⟩
 .rename_i fs cs hd;rw[hd]at hu;rw[Y8]at hf;split at hf
  rotate_left
  .cases hf
  rename_i hff;obtain⟨vs,rfl,hl,hc⟩:=JG hx
  have toR:∀{cs:J7}{vs:H6},cs.length=vs.length->Cells ρ cs (λi=>vs[i]?)->O5 ρ cs vs:=λhl hc=>⟨hl,λj c x h1 h2=>by
   have⟨_,y,hy,hr⟩:=hc j c h1;simp only at hy
   rw[h2]at hy;injection hy with hy;rw[hy];exact hr⟩
  have hfo:P.fieldsOf kt=fs:=by simp[Program.fieldsOf,hu]
  obtain⟨r',h1,h2⟩:=bu1 (w:=w) (kt:=kt) hx (λa y q hy hq=>by
   cases a with
   |g ds=>
    replace hq:ZH cs ds=some q:=hq;obtain⟨us,rfl,hl2,hc2⟩:=JG hy;have⟨g1,g2⟩:=bt6 (P:=P) (w:=w) hT vs us 9998 fs.toList 0 cs ds vs us q hff hq (toR hl hc) (toR hl2 hc2) rfl rfl;refine⟨?_,λh=>by rw[g2 h]⟩;show(Op.equalIn (9999+1) kt _ _).run P w=_;rw[run_equalIn_struct w 9999 kt _ _ (by rw[hfo];exact hu) (hS _ hf),hfo];exact g1
   |_=>cases hq) es l 0 r hm h
  cases l with
  |nil=>
   refine⟨none,by simp[Instr.findKey,O4 hu,Instr.findNow],?_⟩;have:es=[]:=mD hm.1;subst this;injection h with h
   subst h;rfl
  |cons m l=>
   refine⟨r',?_,h2⟩;have:Instr.findNow (.struct fs) (.agg vs.toArray) (m::l) 0=none:=by simp[Instr.findNow,Instr.sameNow]
   simp only[Instr.findKey,J6,O4 hu,O8,this];exact h1
 .cases hf
end
section
variable{P:Program}{S:U2}{w0:World}{ρ:Ren}{e:Env}{s:St}{a:Act}{w:World}
def aR2{t:Nat}{k:AV}(h:ab4 t k=true):∃i kt et j,I7 t=some i/\i.desc=.map kt et/\I7 kt=some j/\yN kt j.desc k=true:=by
 unfold ab4 at h
 grind
def Rl.IQ(hR:Rl S w0 ρ s w){b:Nat}{es:kS}(h:s.h.get (pa b)=some (.m es)):∃L arr,ρ b=some L/\w.heap[L.blk]?=some (.map arr arr.size)/\yA ρ es arr.toList/\∀(i:Nat)(m:MapEntry),arr[i]?=some m->m.born=i:=by
 have⟨L,arr,h1,h2,h3,h4⟩:=hR.obj _ _ h;refine⟨L,arr,h1,h2,⟨by simpa using h3,λi k v m g1 g2=>?_⟩,λi m g=>?_⟩
 .grind
 .have hlt:=(X6.1 g).1;exact(h4 i _ _ m (J9 (by omega)) g).2.2
def WE{b:Nat}{x:Value}(h:RV ρ (.m b) x):∃L,ρ b=some L/\x=.map (some L.blk):=by cases h with|m _ L h=>exact⟨L,h,rfl⟩
def ck6(hT:∀t i,I7 t=some i->O6 P t i){t:Nat}{z:J7}{v:AV}(hz:QW I7 t=some z)(hp:partT t z 0=some v)(w:World):∃x,(zeroValue t).run P w=.ok x w/\RV ρ v x:=by
 have⟨i,h1,h2⟩:=U1 hz;have hi:=hT _ _ h1;have⟨hz1,hz2⟩:=aD3 (ρ:=ρ) hi h2;have⟨j,hj,_,_,hjz⟩:=hi.gX;refine⟨Q9 i,by simp[zeroValue,typeInfo,hj,hjz],?_⟩;have⟨i',h3,h4⟩:=aX5 hp;rw[h1]at h3;injection h3 with h3
 subst h3;rcases h4 with⟨hg,hv⟩|⟨hg,l,rfl,hl,hc⟩
 .have⟨_,x,hx,hr⟩:=hz2 0 v hv;have:(Q9 i).cells=#[Q9 i]:=by
   have hs:=hi.single hg;have hl:=hi.len;rw[hs]at hl;have ho:=hi.one;unfold Q9;rw[hg]
   match hz:i.zero,hl with
   |[z],_=>
    rw[hz]at ho;simp at ho;simp only[G6,List.headD];cases z<;>first|rfl|simp[Value.oneCell']at ho
  grind
 .have e:Q9 i=.agg (Q9 i).cells:=by unfold Q9;rw[hg];rfl
  rw[e];have hl':l=z:=by
   apply nZ
   grind
  subst hl';have⟨vs,q1,q2,q3⟩:=hz2.agg;have:(Q9 i).cells=vs.toArray:=by
   apply Array.ext';apply nZ;intro k;have hsz:(Q9 i).cells.size=l.length:=by rw[lX hi,hz1];simp[hi.len]
   grind
  grind
def cX4{t kt vt:Nat}{x kx y:Value}{arr:lH}{r':Option (Nat×Value)}{q ok:Bool}(hu:P.underlying t=some (.map kt vt))(hx:(x=.map none/\arr=#[])\/∃b,x=.map (some b)/\w.heap[b]?=some (.map arr arr.size))
    (hck:∀em,(Instr.checkKey em 10000 kt kx).run P w=.ok () w) (hf:(Instr.findKey kt kx arr.toList).run P w=.ok r' w) (hy:(∃i,r'=some (i,y)/\q=true)\/(r'=none/\(zeroValue vt).run P w=.ok y w/\q=false)):
    (Instr.lookup t x kx ok).run P w=.ok (if ok then .tuple #[y,.bool q]else y) w:=by
 rcases hx with⟨rfl,rfl⟩|⟨b,rfl,hb⟩
 .rcases hy with⟨i,rfl,rfl⟩|⟨rfl,hz,rfl⟩
  .simp only[Instr.lookup,J6,O4 hu,O8,U5,hck,hf]
  .simp only[Instr.lookup,J6,O4 hu,O8,U5,hck,hf,hz]
 .rcases hy with⟨i,rfl,rfl⟩|⟨rfl,hz,rfl⟩
  .simp only[Instr.lookup,J6,O4 hu,O8,U5,qN hb,hck,hf]
  .simp only[Instr.lookup,J6,O4 hu,O8,U5,qN hb,hck,hf,hz]
def dk6(hT:∀t i,I7 t=some i->O6 P t i)(hS:∀t,WL t=true->P.stoodInHeld t=false)(o:Oper)(t:Nat)(m k:Operand)(ok:Bool)(ho:o.op=.lookup t m k ok):cZ P o (VG t m k ok):=by
 intro S w0 ρ e s a w next Q h he hR hn
 have⟨mv,h1,h2⟩:=L6 h;replace h2:VG t m k ok e s=_:=h2;rw[h2]at h hn;clear h2;have⟨kv,h3,h4⟩:=L6 h;rw[h4]at h hn;clear h4;have h5:=Z7 h;rw[h5,Z8]at h hn;have⟨vt,h6,h7⟩:=L6 h;rw[h7]at h hn;clear h7;have⟨es,h8,h9⟩:=L6 h;rw[h9]at h hn;clear h9;have⟨r,h10,h11⟩:=L6 h;rw[h11]at h hn;clear h11;have⟨i,kt,et,j,g1,g2,g3,g4⟩:=aR2 h5;have hu:=(hT _ _ g1).u;rw[g2]at hu;have hvt:vt=et:=by
  have⟨i',q1,q2⟩:=U1 h6
  grind
 subst hvt;have hm:=bG h1 he;have hk:=bG h3 he;have hes:∃arr:lH,yA ρ es arr.toList/\((a.eval m=.map none/\arr=#[])\/∃b,a.eval m=.map (some b)/\w.heap[b]?=some (.map arr arr.size)):=by
  unfold mapOf at h8;split at h8
  .rename_i b;split at h8
   .rename_i es' hb;injection h8 with h8
    subst h8;have⟨L,arr,q1,q2,q3,_⟩:=hR.IQ hb;have⟨L',q4,q5⟩:=WE hm
    grind
   .cases h8
  .injection h8 with h8
   subst h8;have:a.eval m=.map none:=by generalize a.eval m=z at hm;cases hm;rfl
   exact⟨#[],⟨rfl,λi k v m h=>by simp at h⟩,.inl ⟨this,rfl⟩⟩
  .cases h8
 have⟨arr,hmr,hrun⟩:=hes;have⟨r',q1,q2⟩:=aK5 (w:=w) hT hS g3 g4 hk hmr h10;have hck:=λem=>aG7 (w:=w) hT g3 g4 hk em;have fin:∀(v:AV)(x:Value)(q:Bool),RV ρ v x->((∃i,r'=some (i,x)/\q=true)\/(r'=none/\(zeroValue vt).run P w=.ok x w/\q=false))->
  (∀v' s' ρ' x w',Has (.one (bq ok (.t [v,.q q]) v) s) v' s'->Ext ρ ρ'->Rl S w0 ρ' s' w'->s'.ro=s.ro->s.nx<=s'.nx->RV ρ' v' x->next (a.put o.dst x) w')->Oper.dV P o a w next Q:=by
  intro v x q hv hx hn;have hp:O5 ρ [v,.q q] [x,.bool q]:=O5.cons hv (O5.cons (.q q) (O5.nil _));have hres:RV ρ (bq ok (.t [v,.q q]) v) (if ok then .tuple #[x,.bool q]else x):=by
   cases ok with
   |true=>exact .t _ _ hp.1 hp.2
   |false=>exact hv
  refine eH rfl hR hres ?_ hn;have hl:=cX4 (ok:=ok) hu hrun hck q1 hx;simp only[execOp,ho,J6,hl];rfl
 rcases r with _|w1
 .simp only at h hn;have q2:r'=none:=q2;subst q2;have⟨z,p1,p2⟩:=L6 h;rw[p2]at h hn;have⟨v,p3,p4⟩:=L6 h;rw[p4]at hn;have⟨x,p5,p6⟩:=ck6 (ρ:=ρ) hT p1 p3 w;exact fin v x false p6 (.inr ⟨rfl,p5,rfl⟩) hn
 .have⟨kk,me,p1,p2,p3,p4,p5⟩:=q2;simp only at hn;subst p4;have:=(hmr.2 _ kk w1.2 me p2 p3).2;exact fin w1.2 me.val true this (.inl ⟨_,rfl,rfl⟩) hn
abbrev EL(w:World)(b:Nat)(o:Obj):World:={ w with heap:=w.heap.setIfInBounds b o }
def Rl.putObj(hR:Rl S w0 ρ s w){b:Nat}{o o':AO}{L:Loc}{O O':Obj}(hb:s.h.get (pa b)=some o)(hL:ρ b=some L)(hO:w.heap[L.blk]?=some O)(hd:O≠lM)(hr:s.ro<=b)(ho:X7 ρ (EL w L.blk O') b o')(hbl:∀cs,o'≠.c mM cs):
    Rl S w0 ρ ⟨s.h.set (pa b) (some o'),s.nx,s.ro⟩ (EL w L.blk O'):=by
 refine hR.write hb hL hr ⟨rfl,rfl,rfl,by simp[EL],λk hk=>?_,λk hk=>?_⟩ ho (λcs e=>absurd e (hbl cs))
 .grind
 .grind
def JZ{b:Nat}{O O':Obj}(h:w.heap[b]?=some O):(EL w b O').heap[b]?=some O':=by grind
def cw1{t:Nat}{c:AV}{x:Value}(hT:∀t i,I7 t=some i->O6 P t i)(hf:BA t c=true)(hx:RV ρ c x)(n:Nat):Instr.sameBits n x x=true:=by
 have⟨_,hk⟩:=YK hT hf;rcases hk with⟨k',hd,k,m,rfl⟩|⟨hd,l,rfl⟩|⟨hd,b,rfl⟩
 .have:=fM hx;subst this;cases n<;>simp[Instr.sameBits]
 .cases hx with|str b=>
   have:(b==b)=true:=by
    have⟨⟨l⟩⟩:=b;rw[YF];simp
   cases n<;>simp[Instr.sameBits,this]
 .have:x=.bool b:=by cases hx;rfl
  subst this;cases n<;>simp[Instr.sameBits]
def cT0(hT:∀t i,I7 t=some i->O6 P t i){kt:Nat}{d:TypeDesc}{k:AV}{x:Value}(hf:yN kt d k=true)(hx:RV ρ k x)(n:Nat):Instr.sameBits (n+1) x x=true:=by
 unfold yN at hf;split at hf
 .have:=fM hx;subst this;simp[Instr.sameBits]
 .cases hx with|str b=>
   have:(b==b)=true:=by
    have⟨⟨l⟩⟩:=b;rw[YF];simp
   simp[Instr.sameBits,this]
 .rename_i fs cs;rw[Y8]at hf;split at hf
  rotate_left
  .cases hf
  rename_i hff;obtain⟨vs,rfl,hl,hc⟩:=JG hx;have:∀(fs:List Field)(i:Nat)(cs:J7)(us:H6),MK fs i cs=true->cs.length=us.length->Cells ρ cs (λi=>us[i]?)->((us.zip us).all λ(x,y)=>Instr.sameBits n x y)=true:=by
   intro fs;induction fs with
   |nil=>
    intro i cs us hf hl _;cases cs with
    |nil=>have:us=[]:=mD (by simpa using hl.symm);subst this;rfl
    |cons c cs=>cases hf
   |cons f fs ih=>
    intro i cs us hf hl hc;cases cs with
    |nil=>cases hf
    |cons c cs=>
     cases us with
     |nil=>simp at hl
     |cons u us=>
      replace hf:bq (Nat.beq f.offset i) (bq (decide (f.name= "_")) false (bq (BA f.type c) (MK fs (i+1) cs) false)) false=true:=hf;simp only[Y8]at hf;split at hf
      rotate_left
      .cases hf
      split at hf
      .cases hf
      split at hf<;>rename_i h3
      rotate_left
      .cases hf
      have⟨_,y,hy,hr⟩:=hc 0 c rfl;simp at hy;subst hy;simp only[List.zip_cons_cons,List.all_cons,cw1 hT h3 hr,rX];exact ih (i+1) cs us hf (by simpa using hl) λj c hj=>by have:=hc (j+1) c (by simpa using hj);simpa using this
  simp only[Instr.sameBits,yI,rX,List.toList_toArray]
  grind
 .cases hf
def bD6(hT:∀t i,I7 t=some i->O6 P t i){kt:Nat}{d:TypeDesc}{k:AV}{x:Value}(hf:yN kt d k=true)(hx:RV ρ k x):(Instr.keyThatStays x x).run P w=.ok x w:=by
 simp[Instr.keyThatStays,cT0 hT hf hx 9999]
def dl9(l:kS)(n:Nat)(x:AV×AV):jV l n x=l.set n x:=by
 induction l generalizing n with
 |nil=>rfl
 |cons y r ih=>cases n with|zero=>rfl|succ n=>exact congrArg (y::·) (ih n)
def X7.a07{b:Nat}{L:Loc}{arr:lH}{es:kS}{j:Nat}{k v:AV}{x y:Value}{w':World}(hL:ρ b=some L)(hm:yA ρ es arr.toList)(hbn:∀(i:Nat)(m:MapEntry),arr[i]?=some m->m.born=i)(hk:RV ρ k x)(hv:RV ρ v y)
    (hw:w'.heap[L.blk]?=some (.map (arr.modify j λe=>{ e with key:=x,val:=y }) arr.size)):X7 ρ w' b (.m (jV es j (k,v))):=by
 rw[dl9];have hl:es.length=arr.size:=by simpa using hm.1
 refine⟨L,arr.modify j λe=>{ e with key:=x,val:=y },hL,by rw[hw,Array.size_modify],by simp[hl],λi k' v' m h1 h2=>?_⟩;rw[zM]at h2;by_cases hij:j=i
 .subst hij;rw[I9 rfl]at h2;cases hm':arr[j]? with
  |none=>grind
  |some m0=>grind
 .rw[H7 hij]at h2;rw[List.getElem?_set_ne hij]at h1;have⟨q1,q2⟩:=hm.2 i k' v' m h1 (by simpa using h2)
  grind
def X7.bP6{b:Nat}{L:Loc}{arr:lH}{es:kS}{k v:AV}{x y:Value}{w':World}(hL:ρ b=some L)(hm:yA ρ es arr.toList)(hbn:∀(i:Nat)(m:MapEntry),arr[i]?=some m->m.born=i)(hk:RV ρ k x)(hv:RV ρ v y)
    (hw:w'.heap[L.blk]?=some (.map (arr.push { key:=x,val:=y,born:=arr.size }) (arr.size+1))):X7 ρ w' b (.m (fV es [(k,v)])):=by
 rw[qU];have hl:es.length=arr.size:=by simpa using hm.1
 refine⟨L,arr.push { key:=x,val:=y,born:=arr.size },hL,by rw[hw,Array.size_push],by simp[hl],λi k' v' m h1 h2=>?_⟩;rw[Array.getElem?_push]at h2;by_cases hij:i=arr.size
 .grind
 .rw[H7 hij]at h2;have hlt:=(X6.1 h2).1;rw[dX (by omega)]at h1;have⟨q1,q2⟩:=hm.2 i k' v' m h1 (by simpa using h2)
  grind
def aW7{m:AV}{k:Nat->kS->RO}(h:OI s m k≠.no):∃b es,m=.m b/\s.h.get (pa b)=some (.m es)/\OI s m k=k b es:=by
 unfold OI at h;split at h
 .rename_i b;split at h
  .rename_i es hb;refine⟨b,es,rfl,hb,?_⟩;simp only[OI,hb]
  .grind
 .grind
def bf3:RV ρ un undef:=.t [] [] rfl λi c x h=>by simp at h
def ac3(a:lH)(c:Nat):Obj.map a c≠lM:=λh=>nomatch h
def cf9(arr:Array MapEntry)(kx y:Value):Option (Nat×Value)->Obj
 |some (j,_)=>.map (arr.modify j λe=>{ e with key:=kx,val:=y }) arr.size
 |none=>.map (arr.push { key:=kx,val:=y,born:=arr.size }) (arr.size+1)
theorem cY1{t kt vt b:Nat}{kx y:Value}{arr:lH}{r':Option (Nat×Value)}(hu:P.underlying t=some (.map kt vt))(hb:w.heap[b]?=some (.map arr arr.size))
 (hck:∀em,(Instr.checkKey em 10000 kt kx).run P w=.ok () w) (hf:(Instr.findKey kt kx arr.toList).run P w=.ok r' w) (hkeep:∀j v,r'=some (j,v)->∃m,arr[j]?=some m/\m.key=kx) (hks:(Instr.keyThatStays kx kx).run P w=.ok kx w):
 (Instr.mapUpdate t (.map (some b)) kx y).run P w=.ok () (EL w b (cf9 arr kx y r')):=by
 rcases r' with _|jv
 .simp only[Instr.mapUpdate,J6,O4 hu,O8,qN hb,hck,hf,KQ _ hb];rfl
 .have⟨j,v⟩:=jv;have⟨m,h1,h2⟩:=hkeep j v rfl;have e:((arr[j]?).map (·.key)).getD kx=kx:=by grind
  simp only[Instr.mapUpdate,J6,O4 hu,O8,qN hb,hck,hf,e,hks,KQ _ hb];rfl
def bV9(hT:∀t i,I7 t=some i->O6 P t i)(hS:∀t,WL t=true->P.stoodInHeld t=false)(o:Oper)(t:Nat)(m k v:Operand)(ho:o.op=.mapUpdate t m k v\/o.op=.insert t m k v):cZ P o (yZ t m k v):=by
 intro S w0 ρ e s a w next Q h he hR hn
 have⟨mv,h1,h2⟩:=L6 h;replace h2:yZ t m k v e s=_:=h2;rw[h2]at h hn;clear h2;have⟨kv,h3,h4⟩:=L6 h;rw[h4]at h hn;clear h4;have⟨vv,h5,h6⟩:=L6 h;rw[h6]at h hn;clear h6;have h7:=Z7 h;rw[h7,Z8]at h hn;obtain⟨b,es,rfl,hb,h8⟩:=aW7 h;rw[h8]at h hn;clear h8;have⟨r,h9,h10⟩:=L6 h;rw[h10,wR]at h hn;clear h10;have⟨hro,h11⟩:=uK h;rw[h11]at hn;have⟨i,kt,et,j,g1,g2,g3,g4⟩:=aR2 h7;have hu:=(hT _ _ g1).u;rw[g2]at hu;have hk:=bG h3 he;have hv:=bG h5 he;have⟨L,arr,q1,q2,q3,q4⟩:=hR.IQ hb;have⟨L',q5,q6⟩:=WE (bG h1 he);rw[q1]at q5;injection q5 with q5
 subst q5;have⟨r',p1,p2⟩:=aK5 (w:=w) hT hS g3 g4 hk q3 h9;have hck:=λem=>aG7 (w:=w) hT g3 g4 hk em
 have hrun:=cY1 (y:=a.eval v) hu q2 hck p1 (λj0 v0 e0=>by
  cases r with
  |none=>have p2:r'=none:=p2;rw[p2]at e0;cases e0
  |some w1=>
   have⟨kk,me,_,_,g5,g6,g7⟩:=p2;rw[g6]at e0;injection e0 with e0
   injection e0 with e0 _
   subst e0
   exact⟨me,by simpa using g5,g7⟩) (bD6 hT g4 hk)
 have hex:(execOp a.eval o).run P w=.ok .skip (EL w L.blk (cf9 arr (a.eval k) (a.eval v) r')):=by
  rcases ho with ho|ho<;>simp only[execOp,ho,q6,J6,hrun,O8]<;>rfl
 refine QU hex (hn un _ ρ undef _ (.inl rfl) (Ext.refl _) ?_ rfl (N8 _) bf3);rcases r with _|w1
 .have p2:r'=none:=p2;subst p2;exact hR.putObj hb q1 q2 (ac3 _ _) hro (X7.bP6 q1 q3 q4 hk hv (JZ q2)) (λcs e=>by cases e)
 .have⟨kk,me,g0,_,g5,g6,g7⟩:=p2;subst g6;exact hR.putObj hb q1 q2 (ac3 _ _) hro (X7.a07 q1 q3 q4 hk hv (JZ q2)) (λcs e=>by cases e)
def bG1{t kt vt b:Nat}{kx z:Value}{arr:lH}{r':Option (Nat×Value)}(hu:P.underlying t=some (.map kt vt))(hb:w.heap[b]?=some (.map arr arr.size))(hz:r'=none->(zeroValue vt).run P w=.ok z w)
    (hck:∀em,(Instr.checkKey em 10000 kt kx).run P w=.ok () w) (hf:(Instr.findKey kt kx arr.toList).run P w=.ok r' w) (hkeep:∀j v,r'=some (j,v)->∃m,arr[j]?=some m/\m.key=kx/\m.val=v/\m.born=j) (hks:(Instr.keyThatStays kx kx).run P w=.ok kx w):
    (Instr.mapEntry t (.map (some b)) kx).run P w=.ok (match r' with|some (j,v)=>.tuple #[v,.int .i64 j]|none=>.tuple #[z,.int .i64 arr.size]) (EL w b (match r' with|some (j,v)=>.map (arr.modify j λe=>{ e with key:=kx,val:=v }) arr.size|none=>.map (arr.push { key:=kx,val:=z,born:=arr.size }) (arr.size+1))):=by
 rcases r' with _|jv
 .simp only[Instr.mapEntry,J6,O4 hu,O8,qN hb,hck,hf,hz rfl,KQ _ hb];rfl
 .have⟨j,v⟩:=jv;have⟨m,h1,h2,h3,h4⟩:=hkeep j v rfl;have e:((arr[j]?).map (·.key)).getD kx=kx:=by grind
  have e2:goInt ((Option.map (λx=>(x.born:Int)) arr[j]?).getD 0)=.int .i64 (j:Int):=by rw[h1];simp[goInt,h4]
  have e3:(arr.modify j λe=>{ e with key:=kx })=arr.modify j λe=>{ e with key:=kx,val:=v }:=by grind
  simp only[Instr.mapEntry,J6,O4 hu,O8,qN hb,hck,hf,e,e3,hks,KQ _ hb,U5]
  first|rw[e2]|simp only[e2]|skip
def bV5{x:AV}{y:Value}(h:RV ρ x y)(n:Nat):RV ρ (.t [x,.n .i64 n]) (.tuple #[y,.int .i64 n]):=by
 have hp:O5 ρ [x,.n .i64 n] [y,.int .i64 (.ofNat n)]:=O5.cons h (O5.cons (.n _ _) (O5.nil _));exact .t _ _ hp.1 hp.2
theorem dk9(hT:∀t i,I7 t=some i->O6 P t i)(hS:∀t,WL t=true->P.stoodInHeld t=false)(o:Oper)(t:Nat)(m k:Operand)(ho:o.op=.mapEntry t m k):cZ P o (VI t m k):=by
 intro S w0 ρ e s a w next Q h he hR hn
 have⟨mv,h1,h2⟩:=L6 h;replace h2:VI t m k e s=_:=h2;rw[h2]at h hn;clear h2;have⟨kv,h3,h4⟩:=L6 h;rw[h4]at h hn;clear h4;have h7:=Z7 h;rw[h7,Z8]at h hn;have⟨vt,h5,h6⟩:=L6 h;rw[h6]at h hn;clear h6;obtain⟨b,es,rfl,hb,h8⟩:=aW7 h;rw[h8]at h hn;clear h8;have⟨r,h9,h10⟩:=L6 h;rw[h10]at h hn;clear h10;have⟨i,kt,et,j,g1,g2,g3,g4⟩:=aR2 h7;have hu:=(hT _ _ g1).u;rw[g2]at hu;have hvt:vt=et:=by
  have⟨i',q1,q2⟩:=U1 h5
  grind
 subst hvt;have hk:=bG h3 he;have⟨L,arr,q1,q2,q3,q4⟩:=hR.IQ hb;have⟨L',q5,q6⟩:=WE (bG h1 he);rw[q1]at q5;injection q5 with q5
 subst q5;have⟨r',p1,p2⟩:=aK5 (w:=w) hT hS g3 g4 hk q3 h9;have hck:=λem=>aG7 (w:=w) hT g3 g4 hk em;have hks:=bD6 (P:=P) (w:=w) hT g4 hk;rcases r with _|w1
 .simp only at h hn;have p2:r'=none:=p2;subst p2;have⟨z,f1,f2⟩:=L6 h;rw[f2]at h hn;clear f2;have⟨v,f3,f4⟩:=L6 h;rw[f4,wR]at h hn;clear f4;have⟨hro,f5⟩:=uK h;rw[f5,jQ,kE]at hn;have⟨x,f6,f7⟩:=ck6 (ρ:=ρ) hT f1 f3 w;have hrun:=bG1 hu q2 (λ_=>f6) hck p1 (λj v e=>by cases e) hks;have hl:es.length=arr.size:=by simpa using q3.1
  rw[hl]at hn;refine bP ?_ (hn _ _ ρ _ _ (.inl rfl) (Ext.refl _) (hR.putObj hb q1 q2 (ac3 _ _) hro (X7.bP6 q1 q3 q4 hk f7 (JZ q2)) (λcs e=>by cases e)) rfl (N8 _) (bV5 f7 _));simp only[execOp,ho,q6,J6,hrun,O8];rfl
 .simp only[wR]at h hn;have⟨hro,f5⟩:=uK h;rw[f5,jQ]at hn;have⟨kk,me,_,g0,g5,g6,g7⟩:=p2;subst g6;simp only[Nat.sub_zero]at g0 g5;have hv:=(q3.2 _ kk w1.2 me g0 g5).2;have g5':arr[w1.1]?=some me:=by grind
  have hrun:=bG1 (z:=undef) hu q2 (λh=>by cases h) hck p1 (λj v e=>by
   injection e with e
   injection e with e1 e2
   subst e1;subst e2
   exact⟨me,g5',g7,rfl,q4 _ _ g5'⟩) hks
  refine bP ?_ (hn _ _ ρ _ _ (.inl rfl) (Ext.refl _) (hR.putObj hb q1 q2 (ac3 _ _) hro (X7.a07 q1 q3 q4 hk hv (JZ q2)) (λcs e=>by cases e)) rfl (N8 _) (bV5 hv _));simp only[execOp,ho,q6,J6,hrun,O8];rfl
def find_born{arr:lH}(hb:∀(i:Nat)(m:MapEntry),arr[i]?=some m->m.born=i){j:Nat}(hj:j<arr.size):arr.findIdx? (λe=>(e.born:Int)==(j:Int))=some j:=by
 rw[Array.findIdx?_eq_some_iff_getElem];refine⟨hj,?_,λi hi=>?_⟩
 .have:=hb j _ (lY hj);simp[this]
 .have:=hb i _ (lY (by omega));simp[this];omega
def dj5(o:Oper)(t:Nat)(m st v:Operand)(ho:o.op=.entryStore t m st v):cZ P o (UY t m st v):=by
 intro S w0 ρ e s a w next Q h he hR hn
 have⟨mv,h1,h2⟩:=L6 h;replace h2:UY t m st v e s=_:=h2;rw[h2]at h hn;clear h2;have⟨sv,h3,h4⟩:=L6 h;rw[h4]at h hn;clear h4;have⟨vv,h5,h6⟩:=L6 h;rw[h6]at h hn;clear h6;obtain⟨b,es,rfl,hb,h8⟩:=aW7 h;rw[h8]at h hn;clear h8;obtain⟨kk,j,rfl⟩:=bg9 h;simp only[aC3]at h hn;have⟨x,h9,h10⟩:=L6 h;rw[h10,wR]at h hn;clear h10;have⟨hro,f5⟩:=uK h;rw[f5]at hn;rw[BN]at h9;have hv:=bG h5 he;have⟨L,arr,q1,q2,q3,q4⟩:=hR.IQ hb;have⟨L',q5,q6⟩:=WE (bG h1 he);rw[q1]at q5;injection q5 with q5
 subst q5;have hst:=fM (bG h3 he);have hl:es.length=arr.size:=by simpa using q3.1
 have hj:j<arr.size:=by grind
 obtain⟨mm,hmm⟩:∃mm,arr[j]?=some mm:=⟨_,lY hj⟩;have⟨hk,_⟩:=q3.2 j x.1 x.2 mm h9 (by simpa using hmm);have e3:(arr.modify j λe=>{ e with val:=a.eval v })=arr.modify j λe=>{ e with key:=mm.key,val:=a.eval v }:=by grind
 refine QU (w':=EL w L.blk (.map (arr.modify j λe=>{ e with key:=mm.key,val:=a.eval v }) arr.size)) ?_
  (hn un _ ρ undef _ (.inl rfl) (Ext.refl _) (hR.putObj hb q1 q2 (ac3 _ _) hro (X7.a07 q1 q3 q4 hk hv (JZ q2)) (λcs e=>by cases e)) rfl (N8 _) bf3)
 have hfb:=find_born q4 hj;simp only[execOp,ho,q6,hst,Instr.entryStore,J6,O8,qN q2,asInt,asIntOf];have cL5:arr.findIdx? (λe=>(e.born:Int)==Int.ofNat j)=some j:=hfb;simp only[U5,O8,cL5,KQ _ q2,e3]
def bH6(o:Oper)(t:Nat)(r:zZ)(ho:o.op=.makeMap t r):EZ P o (aW0 t r):=by
 intro ρ e s0 a h he;rcases r with _|r
 .exact⟨.m [],.m,λs=>rfl,λw=>⟨.map #[] 0,.map (some w.heap.size),⟨w.heap.size,0,0,0⟩,by simp[execOp,ho,Instr.makeMap],rfl,rfl,λb hb=>⟨⟨_,#[],kH _ _,bJ w _,rfl,λi k v m h=>by simp at h⟩,.m _ _ (kH _ _)⟩⟩⟩
 .exact absurd rfl h
def dk8(o:Oper)(t:Nat)(r:zZ)(ho:o.op=.makeMap t r):cZ P o (aW0 t r):=as6 (bH6 o t r ho)
end
section
variable{P:Program}{S:U2}{w0:World}{ρ:Ren}{e:Env}{s:St}{a:Act}{w:World}
def Rl.newObj(hR:Rl S w0 ρ s w)(O:Obj)(o:AO)(ho:X7 (bH ρ s.nx ⟨w.heap.size,0,0,0⟩) (w.alloc O) s.nx o)(hbl:∀cs,o≠.c mM cs):
    Ext ρ (bH ρ s.nx ⟨w.heap.size,0,0,0⟩)/\Rl S w0 (bH ρ s.nx ⟨w.heap.size,0,0,0⟩) ⟨s.h.set (pa s.nx) (some o),s.nx+1,s.ro⟩ (w.alloc O):=by
 have hloc:∀b o L,s.h.get (pa b)=some o->ρ b=some L->L.blk<w.heap.size:=λb o L hb hL=>by
  have⟨M,h1,h2⟩:=(hR.obj b o hb).loc
  grind
 exact⟨JC hR.fresh _,hR.new (L:=⟨w.heap.size,0,0,0⟩) (kept_alloc hR _) (λb o L hb hL=>vJ w _ (hloc b o L hb hL)) (hR.notS (N8 _)) (λb o M hb hM=>Nat.ne_of_lt (hloc b o M hb hM)) ho
  (λcs e=>absurd e (hbl cs))⟩
def dl3(hT:∀t i,I7 t=some i->O6 P t i)(o:Oper)(t:Nat)(x:Operand)(ho:o.op=.range t x):cZ P o (VN t x):=by
 intro S w0 ρ e s a w next Q h he hR hn
 have⟨v,h1,h2⟩:=L6 h;replace h2:VN t x e s=_:=h2;rw[h2]at h hn;clear h2;have⟨i,h3,h4⟩:=L6 h;rw[h4]at h hn;clear h4;have hx:=bG h1 he;have hu:=(hT _ _ h3).u;split at h
 .rename_i l hd;rw[hd]at hu;rw[hd]at hn;simp only[CY]at hn;cases hax:a.eval x with
  |string b=>
   rw[hax]at hx;have hl:b.data.toList.map UInt8.toNat=l:=by cases hx;rfl
   have⟨hx',hR'⟩:=hR.newObj (.stringIter b 0) (.si l 0) ⟨_,b,kH _ _,bJ w _,hl,rfl⟩ (λcs e=>by cases e);refine bP (x:=.pointer (some ⟨w.heap.size,0,none⟩)) (w':=w.alloc (.stringIter b 0)) ?_ (hn _ _ _ _ _ (.inl rfl) hx' hR' rfl (Nat.le_succ _) (.p _ _ _ (kH _ _)));simp[execOp,ho,hax,Instr.range,O4 hu]
  |_=>rw[hax]at hx;cases hx
 .rename_i kt vt b hd;rw[hd]at hu;rw[hd]at hn;simp only at hn;split at h
  .rename_i es hb;rw[hb]at hn;simp only[jQ,CY,kE]at hn;have⟨L,arr,q1,q2,q3,q4⟩:=hR.IQ hb;have⟨L',q5,q6⟩:=WE hx;rw[q1]at q5;injection q5 with q5
   subst q5;have hl:es.length=arr.size:=by simpa using q3.1
   rw[hl]at hn;have hext:Ext ρ (bH ρ s.nx ⟨w.heap.size,0,0,0⟩):=JC hR.fresh _;have⟨hx',hR'⟩:=hR.newObj (.mapIter (some L.blk) arr.size #[] arr.size) (.mi b [] arr.size) ⟨_,L,kH _ _,hext _ _ q1,bJ w _,rfl⟩ (λcs e=>by cases e);refine bP (x:=.pointer (some ⟨w.heap.size,0,none⟩)) (w':=w.alloc (.mapIter (some L.blk) arr.size #[] arr.size)) ?_ (hn _ _ _ _ _ (.inl rfl) hx' hR' rfl (Nat.le_succ _) (.p _ _ _ (kH _ _)));simp[execOp,ho,q6,Instr.range,O4 hu,qN q2]
  .grind
 .grind
def ac4(x:Nat)(l:O1):UG x l=true↔x∈l:=by
 induction l with
 |nil=>simp[UG]
 |cons y l ih=>
  show bq (Nat.beq x y) true (UG x l)=true↔_;rw[Y8];by_cases h:x=y
  .subst h;simp
  .have:Nat.beq x y=false:=by rw[uZ];simp[h]
   grind
def bE9(seen:O1):∀(es:kS)(n:Nat)(x:Nat×AV×AV),x∈(List.rec (motive:=λ_=>Nat->List (Nat×AV×AV)) (λ_=>[]) (λx _ ih i=>bq (UG i seen) (ih (Nat.succ i)) ((i,x.1,x.2)::ih (Nat.succ i))) es n:List (Nat×AV×AV))↔n<=x.1/\es[x.1-n]?=some x.2/\x.1∉seen
 |[],n,x=>by simp
 |p::es,n,x=>by
  have ih:=bE9 seen es (n+1) x;show x∈bq (UG n seen) _ ((n,p.1,p.2)::_)↔_;have step:(n+1<=x.1/\es[x.1-(n+1)]?=some x.2/\x.1∉seen)↔(n<=x.1/\(p::es)[x.1-n]?=some x.2/\x.1∉seen)/\x.1≠n:=by
   constructor
   .grind
   .grind
  rw[Y8];by_cases hn:n∈seen
  .rw[I9 ((ac4 _ _).2 hn),ih,step];constructor
   .grind
   .grind
  .rw[H7 (λh=>hn ((ac4 _ _).1 h)),lD,ih,step];constructor
   .grind
   .grind
def co9{α:Type}{l:List α}{f:α->RO}{v:α->AV}{st:α->St}(hf:∀x∈l,f x=.one (v x) (st x)){x:α}(hx:x∈l):Has (wH (jS f l)) (v x) (st x):=by
 rw[yY]
 match l,hf,hx with
 |[y],hf,hx=>
  have:x=y:=by grind
  subst this;exact .inl (hf x hx)
 |y::z::r,hf,hx=>
  right;have key:∀l:List α,(∀x∈l,f x=.one (v x) (st x))->(List.rec (motive:=λ_=>RO) (.many []) (λy _ ih=>sO y ih) (l.map f):RO)=.many (l.map λx=>(v x,st x)):=by
   intro l;induction l with
   |nil=>intro _;rfl
   |cons y l ih=>
    intro hf;show sO (f y) (List.rec (motive:=λ_=>RO) (.many []) (λy _ ih=>sO y ih) (l.map f))=_;rw[ih λx hx=>hf x (RH _ hx),hf y (by simp)];rfl
  refine⟨(y::z::r).map λx=>(v x,st x),key (y::z::r) hf,?_⟩
  grind
theorem Rl.drew(hR:Rl S w0 ρ s w):Rl S w0 ρ s w.drew:=hR.world (Kept.refl S w).drew λ_ _ _ _ _=>rfl
def cR8(a:E8)(b:Nat)(c:Array Nat)(d:Nat):Obj.mapIter a b c d≠lM:=λh=>nomatch h
def dm5(b:ByteArray)(n:Nat):Obj.stringIter b n≠lM:=λh=>nomatch h
def dl0(o:Oper)(x:Operand)(q:Bool)(ho:o.op=.next x q):cZ P o (VJ x q):=by
 intro S w0 ρ e s a w next Q h he hR hn
 have⟨v,h1,h2⟩:=L6 h;replace h2:VJ x q e s=_:=h2;rw[h2]at h hn;clear h2;obtain⟨b,off,rfl⟩:=XK h;simp only[bh0]at h hn;have h3:=Z7 h;rw[h3,Z8]at h hn;have h3:=G5 h3;subst h3;have⟨ob,h4,h5⟩:=L6 h;rw[h5]at h hn;clear h5;have⟨L,q1,q2⟩:=vU (bG h1 he);have hob:=hR.obj _ _ h4;split at h
 ·
  rename_i l pos;simp only at hn;have⟨L',bs,p1,p2,p3,p4⟩:=hob;rw[q1]at p1;injection p1 with p1
  subst p1;replace q2:a.eval x=.pointer (some ⟨L.blk,0,none⟩):=by rw[q2,p4]
  rw[YR]at h hn;split at h
  .rename_i hd;rw[hd]at hn;simp only at hn;have hend:¬pos<bs.size:=by
    have:=List.drop_eq_nil_iff.1 hd;rw[<-p3]at this;simp at this;omega
   have hr:=Lib.run_next_end_at (P:=P) w L.blk bs pos o.type p2 hend;have hone:O5 ρ [.q false] [.bool false]:=O5.cons (.q false) (O5.nil _);refine eH rfl hR (.t _ _ hone.1 hone.2) ?_ hn;simp only[execOp,ho,q2,J6,hr,O8];rfl
  .rename_i c tl hd;rw[hd]at hn;simp only at hn;have h6:=Z7 h;rw[h6,Z8,jQ]at h hn;have⟨hro,h7⟩:=uK h;rw[h7]at hn;have h6:=fA h6;have hlt:pos<bs.size:=by
    have:pos<l.length:=by
     rcases fJ pos l.length with h|h
     .exact h
     .rw[List.drop_eq_nil_iff.2 h]at hd;cases hd
    rw[<-p3]at this;simpa using this
   have hc:(bs[pos]'hlt).toNat=c:=by
    have:l[pos]?=some c:=by
     have:=congrArg (λl=>l[0]?) hd
     grind
    rw[<-p3,P9]at this;have hb:bs.data.toList[pos]?=some (bs[pos]'hlt):=by
     rw[J9 (by simpa using hlt)];rfl
    grind
   have hr:=Lib.run_next_ascii_at (P:=P) w L.blk bs pos o.type p2 hlt (by omega);rw[hc]at hr;have htr:O5 ρ [.q true,.n .i64 pos,.n .i32 c] [.bool true,.int .i64 (.ofNat pos),.int .i32 (.ofNat c)]:=O5.cons (.q true) (O5.cons (.n _ _) (O5.cons (.n _ _) (O5.nil _)));refine bP (x:=.tuple #[.bool true,.int .i64 pos,.int .i32 c]) (w':=w.iterAt L.blk bs (pos+1)) ?_ (hn _ _ ρ _ _ (.inl rfl) (Ext.refl _) (hR.putObj h4 q1 p2 (dm5 _ _) hro ⟨L,bs,q1,JZ p2,p3,p4⟩ (λcs e=>by cases e)) rfl (N8 _) (.t _ _ htr.1 htr.2));simp only[execOp,ho,q2,J6,hr,O8];rfl
 ·
  rename_i m seen n;simp only at hn;have⟨L',M,p1,p2,p3,p4⟩:=hob;rw[q1]at p1;injection p1 with p1
  subst p1;replace q2:a.eval x=.pointer (some ⟨L.blk,0,none⟩):=by rw[q2,p4]
  split at h
  .rename_i es hb;rw[hb]at hn;simp only at hn;have h6:=Z7 h;rw[h6,Z8]at h hn;have h6:=G5 h6;rw[kE]at h6;have⟨M',arr,r1,r2,r3,r4⟩:=hR.IQ hb;rw[p2]at r1;injection r1 with r1
   subst r1;have hl:es.length=arr.size:=by simpa using r3.1
   rw[<-h6,hl]at p3;have hold:∀x∈arr.toList,x.born<arr.size:=λx hx=>by
    have⟨i,hi⟩:=List.getElem?_of_mem hx
    grind
   have hnext:=run_next_at (P:=P) w o.type L.blk M.blk arr.size arr.size seen.toArray arr arr.size p3 r2 hold (N8 _);have hleft:∀x:MapEntry,x∈(Go.leftOf arr seen.toArray).toList↔x∈arr.toList/\x.born∉seen:=λx=>by
    simp[Go.leftOf]
   have hmem:=λx=>bE9 seen es 0 x;cases hd:Ev.leftOf seen es with
   |nil=>
    rw[hd]at hn;simp only[bH8]at hn;rcases hnext with⟨_,hr⟩|⟨me,hme,_⟩
    .have hone:O5 ρ [.q false] [.bool false]:=O5.cons (.q false) (O5.nil _);refine eH rfl hR (.t _ _ hone.1 hone.2) ?_ hn;simp only[execOp,ho,q2,J6,hr,O8];rfl
    .exfalso;have⟨g1,g2⟩:=(hleft me).1 hme;have⟨i,hi⟩:=List.getElem?_of_mem g1;have hi':arr[i]?=some me:=by grind
     have hlt:i<es.length:=by grind
     have:(i,es[i])∈Ev.leftOf seen es:=(hmem (i,es[i])).2 ⟨aF _,by simp[hlt],by show i∉seen;rw[<-r4 i me hi'];exact g2⟩
     grind
   |cons x0 xs=>
    rw[hd]at h hn;have bA3:s.ro<=b:=by
     rcases fJ b s.ro with hlt|hge
     .exfalso;have hno:∀x,IU b m seen n s x=.no:=λx=>by
       unfold IU;rw[wR];show bR (Nat.ble s.ro b) _=_;have:Nat.ble s.ro b=false:=by rw[am2];simp;omega
       rw[this];rfl
      apply h;show wH (jS (IU b m seen n s) (x0::xs))=.no;cases xs with
      |nil=>exact hno x0
      |cons y ys=>
       show sO (IU b m seen n s x0) _=.no;rw[hno x0];rfl
     .exact hge
    have hone:∀x,IU b m seen n s x=.one (.t [.q true,x.2.1,x.2.2]) ⟨s.h.set (pa b) (some (.mi m (seen++[x.1]) n)),s.nx,s.ro⟩:=λx=>by
     unfold IU;rw[wR,qU];show bR (Nat.ble s.ro b) _=_;have:Nat.ble s.ro b=true:=by rw[am2];simp[bA3]
     rw[this];rfl
    rcases hnext with⟨h0,_⟩|⟨me,hme,w1,hw1,hr⟩
    .exfalso;have hx0:x0∈Ev.leftOf seen es:=by grind
     have⟨_,g2,g3⟩:=(hmem x0).1 hx0;rw[Nat.sub_zero]at g2;have hlt:=(P7.1 g2).1;have hm:arr[x0.1]?=some (arr[x0.1]'(by omega)):=lY (by omega)
     grind
    .have⟨g1,g2⟩:=(hleft me).1 hme;have⟨i,hi⟩:=List.getElem?_of_mem g1;have hi':arr[i]?=some me:=by grind
     have hlt:i<es.length:=by grind
     have hin:(i,es[i])∈x0::xs:=by
      rw[<-hd];exact(hmem (i,es[i])).2 ⟨aF _,by simp[hlt],by show i∉seen;rw[<-r4 i me hi'];exact g2⟩
     have hhas:=co9 (f:=IU b m seen n s) (λx _=>hone x) hin;have⟨t1,t2⟩:=r3.2 i es[i].1 es[i].2 me (J9 hlt) hi;have htr:O5 ρ [.q true,es[i].1,es[i].2] [.bool true,me.key,me.val]:=O5.cons (.q true) (O5.cons t1 (O5.cons t2 (O5.nil _)));have hR1:Rl S w0 ρ s w1:=by rcases hw1 with rfl|rfl;exact hR;exact hR.drew
     have p3':w1.heap[L.blk]?=some (.mapIter (some M.blk) arr.size seen.toArray arr.size):=by rcases hw1 with rfl|rfl<;>exact p3
     refine bP (x:=.tuple #[.bool true,me.key,me.val]) (w':=EL w1 L.blk (.mapIter (some M.blk) arr.size (seen.toArray.push me.born) arr.size)) ?_
      (hn _ _ ρ _ _ hhas (Ext.refl _) (hR1.putObj h4 q1 p3' (cR8 _ _ _ _) bA3 ⟨L,M,q1,p2,by rw[JZ p3',<-h6,hl,r4 i me hi'];simp,p4⟩ (λcs e=>by cases e)) rfl (N8 _) (.t _ _ htr.1 htr.2))
     simp only[execOp,ho,q2,J6,hr,O8];rfl
  .grind
 .grind
def dj4(o:Oper)(x:Operand)(ho:o.op=.entry x):cZ P o (UW x):=by
 intro S w0 ρ e s a w next Q h he hR hn
 have⟨v,h1,h2⟩:=L6 h;replace h2:UW x e s=_:=h2;rw[h2]at h hn;clear h2;obtain⟨b,off,rfl⟩:=XK h;simp only[bh0]at h hn;have h3:=Z7 h;rw[h3,Z8]at h hn;have h3:=G5 h3;subst h3;have⟨L,q1,q2⟩:=vU (bG h1 he);split at h
 .rename_i m seen n h4;rw[h4]at hn;simp only at hn;have⟨L',M,p1,p2,p3,p4⟩:=hR.obj _ _ h4;rw[q1]at p1;injection p1 with p1
  subst p1;replace q2:a.eval x=.pointer (some ⟨L.blk,0,none⟩):=by rw[q2,p4]
  split at h
  .rename_i es j hb hj;rw[hb,hj]at hn;simp only at hn;have h6:=Z7 h;rw[h6,Z8]at h hn;have h6:=G5 h6;rw[kE]at h6;have⟨xx,h7,h8⟩:=L6 h;rw[h8]at hn;rw[BN]at h7;have⟨M',arr,r1,r2,r3,r4⟩:=hR.IQ hb;rw[p2]at r1;injection r1 with r1
   subst r1;have hl:es.length=arr.size:=by simpa using r3.1
   have hjl:j<arr.size:=by grind
   have hm:arr[j]?=some arr[j]:=lY hjl;have⟨t1,t2⟩:=r3.2 j xx.1 xx.2 arr[j] h7 (by simp);have htr:O5 ρ [xx.1,xx.2] [arr[j].key,arr[j].val]:=O5.cons t1 (O5.cons t2 (O5.nil _));obtain⟨ys,hys⟩:∃ys,seen=ys++[j]:=by
    rw[List.getLast?_eq_some_iff]at hj;exact hj
   have hnd:(arr.toList.map (·.born)).Nodup:=by
    have:arr.toList.map (·.born)=List.range arr.size:=by
     apply nZ
     grind
    grind
   have hr:=run_entry_at (P:=P) w L.blk M.blk arr.size ys.toArray arr arr.size arr[j] (by rw[p3,hys,<-h6,hl,r4 j _ hm];simp) r2 (by simp) hnd;refine eH rfl hR (.t _ _ htr.1 htr.2) ?_ hn;simp only[execOp,ho,q2,J6,hr,O8];rfl
  .grind
 .grind
end
section
variable{P:Program}{S:U2}{w0:World}{ρ:Ren}{e:Env}{s:St}{a:Act}{w:World}
structure XT(P:Program)(t tx el:Nat)(i:TI)(x:Value)(n:Nat)(news:List Value)(w:World):Prop where
 len:news.length=n*i.size
 one:∀u∈news,u.oneCell'=true
 room:∀(ty b off sLen sCap e':Nat)(arr:Array Value),w.heap[b]?=some (.cells arr e' (0,0))->sLen+n<=sCap->off+sLen*i.size+news.length<=arr.size->
  (Builtin.append_ #[t,tx] ty #[.slice (some ⟨b,off,none⟩) sLen sCap,x]).run P w=.ok (.slice (some ⟨b,off,none⟩) (sLen+n) sCap) (w.setRow b (arr.toList.take (off+sLen*i.size)++news++arr.toList.drop (off+sLen*i.size+news.length)).toArray)
 same:n=0->∀(ty:Nat)(base:Option Addr)(sLen sCap:Nat),sLen<=sCap->(Builtin.append_ #[t,tx] ty #[.slice base sLen sCap,x]).run P w=.ok (.slice base sLen sCap) w
 grow:∀(ty:Nat)(base:Option Addr)(sLen sCap:Nat)(olds:List Value),(Builtin.firstCells i.size sLen (.slice base sLen sCap)).run P w.drew=.ok olds.toArray w.drew->sCap<sLen+n->sLen+n<=5000000->
  ∃m,sLen+n<=m/\m<=maxLen/\(Builtin.append_ #[t,tx] ty #[.slice base sLen sCap,x]).run P w=.ok (.slice (some ⟨w.heap.size,0,none⟩) (sLen+n) m) (w.drew.alloc (.cells ((olds++news).toArray++Builtin.zeroCells (Q9 i).cells (m-(sLen+n))) el))
def aE5(hT:∀t i,I7 t=some i->O6 P t i){t tx el:Nat}{i:TI}(ht:P.underlying t=some (.slice el))(hi:I7 el=some i)(hby:i.bytes<=4096){x:Value}{n:Nat}{news:H6}(hs:Src P i.size tx x n news w):XT P t tx el i x n news w:=by
 have⟨j,hj,hjs,hjb,hjz⟩:=(hT _ _ hi).gX;refine⟨hs.newsLen,hs.one,λty b off sLen sCap e' arr hh hroom hfit=>?_,λh0 ty base sLen sCap hle=>?_,λty base sLen sCap olds ho hg hle=>?_⟩
 .have hst:=run_storeCells_at P b (off+sLen*i.size) e' news 0 arr w hh (by simpa using hfit) hs.one;simp only[pG]at hst;rcases hs.kind with⟨e'',hk⟩|hk<;>simp[Builtin.append_,O4 ht,O4 hk,sizeOf,typeInfo,hj,hjs,hs.len,hroom,hs.cells,iI,hst]
 .subst h0;have hnil:news=[]:=mD (by rw[hs.newsLen];simp);subst hnil;rcases hs.kind with⟨e'',hk⟩|hk<;>cases base<;>simp[Builtin.append_,O4 ht,O4 hk,sizeOf,typeInfo,hj,hjs,hs.len,hle,hs.cells,storeCells]
 .have hfit:Builtin.nextslicecap (sLen+n) sCap*j.bytes<=281474976710656:=by
   refine growslice_fits hg ?_
   calc (sLen+n)*j.bytes<=5000000*4096:=Nat.mul_le_mul hle (by omega)
    _<=140737488355328:=by decide
  refine⟨_,grownCap_ge w (sLen+n) sCap el,grownCap_le_maxLen w (sLen+n) sCap el (by unfold maxLen;omega),?_⟩;exact run_append_grow_src (P:=P) w t tx ty el j (Q9 i) ht hj hjz base sLen sCap olds (by rw[hjs];exact ho) x n news (by rw[hjs];exact hs) hg (by omega) hfit
def wrap64{n:Nat}(h:n<=4096):IntKind.i64.wrap (n:Int)=n:=wrap_small .i64 (n:=n) (by show n<0x8000000000000000;omega)
def bl2(hT:∀t i,I7 t=some i->O6 P t i){t tx el:Nat}{i:TI}(ht:P.underlying t=some (.slice el))(hi:I7 el=some i)(hby:i.bytes<=4096)(hsz:1<=i.size){k kn:IntKind}(htn:P.underlying tx=some (.int kn)){n:Nat}(hn:n<=4096):
    XT P t tx el i (.int k (.ofNat n)) n (Builtin.zeroCells (Q9 i).cells n).toList w:=by
 have⟨j,hj,hjs,hjb,hjz⟩:=(hT _ _ hi).gX;have hzs:(Q9 i).cells.size=i.size:=by rw[lX (hT _ _ hi)];simp[(hT _ _ hi).len]
 have hone:∀u∈(Builtin.zeroCells (Q9 i).cells n).toList,u.oneCell'=true:=λu hu=>by
  simp only[Builtin.zeroCells,Array.toList_map,jH]at hu;obtain⟨q,hq,rfl⟩:=hu;have hq2:q % (Q9 i).cells.size<(Q9 i).cells.size:=Nat.mod_lt _ (by omega);rw[getElem!_pos (Q9 i).cells _ hq2];have ho:=(hT _ _ hi).one;rw[oW]at ho;have hmem:∀u∈(Q9 i).cells.toList,u.oneCell'=true:=by
   rw[lX (hT _ _ hi)]
   grind
  grind
 have hw:=wrap64 hn;have h48i:¬(281474976710656<(n:Int)*(j.bytes:Int)):=by
  rw[<-Int.natCast_mul];have:n*j.bytes<=4096*4096:=Nat.mul_le_mul hn (by omega);omega
 have hneg:¬((n:Int)<0):=by omega
 have hnl:(Builtin.zeroCells (Q9 i).cells n).toList.length=n*i.size:=by simp[size_zeroCells,hzs]
 refine⟨hnl,hone,λty b off sLen sCap e' arr hh hroom hfit=>?_,λh0 ty base sLen sCap hle=>?_,λty base sLen sCap olds ho hg hle=>?_⟩
 .have hst:=run_storeCells_at P b (off+sLen*i.size) e' (Builtin.zeroCells (Q9 i).cells n).toList 0 arr w hh (by simpa using hfit) hone;simp only[pG]at hst;simp only[iW]at hst⊢;by_cases hns:n*i.size=0
  .have hze:Builtin.zeroCells (Q9 i).cells n=#[]:=by apply Array.eq_empty_of_size_eq_zero;simpa using hnl.trans hns
   rw[hze]at hst⊢;simp[Builtin.append_,O4 ht,O4 htn,sizeOf,typeInfo,zeroValue,hj,hjs,hjz,asInt,asIntOf,hw,hneg,h48i,hns,hroom,iI,hst]
  .simp[Builtin.append_,O4 ht,O4 htn,sizeOf,typeInfo,zeroValue,hj,hjs,hjz,asInt,asIntOf,hw,hneg,h48i,hns,hroom,iI,hst]
 .subst h0;cases base<;>simp[Builtin.append_,O4 ht,O4 htn,sizeOf,typeInfo,hj,hjs,asInt,asIntOf,hle,storeCells,IntKind.wrap,IntKind.bits,IntKind.signed]
 .have hfit:Builtin.nextslicecap (sLen+n) sCap*j.bytes<=281474976710656:=by
   refine growslice_fits hg ?_
   calc (sLen+n)*j.bytes<=5000000*4096:=Nat.mul_le_mul hle (by omega)
    _<=140737488355328:=by decide
  have hnr:¬(sLen+n<=sCap):=by omega
  have h63':¬(9223372036854775807<((sLen:Int)+(n:Int))):=by omega
  have h48':¬(281474976710656<Builtin.nextslicecap (sLen+n) sCap*j.bytes):=by omega
  refine⟨_,grownCap_ge w (sLen+n) sCap el,grownCap_le_maxLen w (sLen+n) sCap el (by unfold maxLen;omega),?_⟩;rw[<-hjs]at ho hnl;by_cases hns:n*j.size=0
  .have hze:Builtin.zeroCells (Q9 i).cells n=#[]:=by apply Array.eq_empty_of_size_eq_zero;simpa using hnl.trans hns
   rw[hze];simp[Builtin.append_,O4 ht,O4 htn,sizeOf,typeInfo,zeroValue,hj,hjz,asInt,asIntOf,hw,hneg,h48i,hns,hnr,h63',h48',Question.forced,ho,newRow,grownCap]
  .simp[Builtin.append_,O4 ht,O4 htn,sizeOf,typeInfo,zeroValue,hj,hjz,asInt,asIntOf,hw,hneg,h48i,hns,hnr,h63',h48',Question.forced,ho,newRow,grownCap];congr 2
   grind
def KH(P:Program)(S:U2)(w0:World)(ρ:Ren)(s:St)(w:World)(r:RO)(m:Sem Value):Prop:=
 ∃v s' ρ' z w',r=.one v s'/\m.run P w=.ok z w'/\Ext ρ ρ'/\Rl S w0 ρ' s' w'/\s'.ro=s.ro/\s.nx<=s'.nx/\RV ρ' v z
def Cells.vals{l:J7}{f:Nat->uY}(hc:Cells ρ l f):∃vs:H6,vs.length=l.length/\(∀(j:Nat)(x:Value),vs[j]?=some x->f j=some x)/\Cells ρ l λj=>vs[j]?:=by
 have⟨vs,h1,h2,h3⟩:=hc.agg;have⟨us,e,h4,h5⟩:=JG h3
 grind
def Cells.take{l:J7}{f:Nat->uY}{o n:Nat}{r:J7}(hc:Cells ρ l f)(h:uN n (qX o l)=some r):r.length=n/\Cells ρ r λj=>f (o+j):=by
 have⟨h1,h2⟩:=az1 h;rw[YR]at h1;refine⟨h2,λj c hj=>?_⟩;have hlt:j<n:=by grind
 rw[h1,kN,I9 hlt,zV]at hj;exact hc _ c hj
def Cells.append{l m:J7}{vs us:H6}(h:Cells ρ l λj=>vs[j]?)(hl:vs.length=l.length)(k:Cells ρ m λj=>us[j]?):Cells ρ (l++m) λj=>(vs++us)[j]?:=by
 intro j c hj;rcases fJ j l.length with hlt|hge
 .rw[dX hlt]at hj;have:=h j c hj
  grind
 .rw[dN hge]at hj;have:=k _ c hj
  grind
def bb6(hR:Rl S w0 ρ s w){b o l sz el cap off:Nat}{L:Loc}{cs r:J7}(hb:s.h.get (pa b)=some (.c el cs))(hL:ρ b=some L)(hoff:off=o+L.sh\/cap=0)(hl:l<=cap)(hr:uN (Nat.mul l sz) (qX o cs)=some r):
    ∃vs:H6,vs.length=l*sz/\r.length=l*sz/\(Cells ρ r λj=>vs[j]?)/\∀(j:Nat)(x:Value),vs[j]?=some x->w.cell? ((⟨L.blk,off,none⟩:Addr).add j)=some x:=by
 have⟨L',arr,g1,g2,g3,g4,g5⟩:=hR.cells hb;rw[hL]at g1;injection g1 with g1
 subst g1;have⟨h1,h2⟩:=g5.take hr;have⟨vs,h3,h4,h5⟩:=h2.vals;have hlen:vs.length=l*sz:=h3.trans h1;refine⟨vs,hlen,h1,h5,λj x hj=>?_⟩;have hlt:=(P7.1 hj).1;have hc:cap≠0:=λh0=>by grind
 rw[hoff.resolve_right hc,iI,kU w L.blk _ arr el (0,0) g3,<-h4 j x hj]
 grind
def cw4(hT:∀t i,I7 t=some i->O6 P t i)(hR:Rl S w0 ρ s w){sz tx:Nat}{y:AV}{x:Value}{k:Nat->J7->RO}(hk:kindOk (some tx) y=true)(hx:RV ρ y x)(h:cellsS sz y s k≠.no):
    ∃n ys news,cellsS sz y s k=k n ys/\Src P sz tx x n news w/\ys.length=news.length/\Cells ρ ys λj=>news[j]?:=by
 unfold kindOk at hk;simp only at hk;split at hk
 .rename_i e' _ _ _ _ _ b o l c hd;have hu:=(hT _ _ hd).u;simp only at hu;obtain⟨cap,off,L,hL,rfl,hl,hck,hoff,hb⟩:=zD hx;have⟨el,cs,h1,h2⟩:=xH (show iU s b _≠.no from h);have h3:cellsS sz (.s b o l c) s k=oR (uN (Nat.mul l sz) (qX o cs)) λr=>k l r:=h2;rw[h3]at h;have⟨r,h4,h5⟩:=L6 h;have⟨vs,q1,q2,q3,q4⟩:=bb6 hR h1 hL hoff hl h4;exact⟨l,r,vs,h3.trans h5,Src.ofSlice w hu _ l cap vs q1 q4 (cells_one (by rw[q1,q2]) q3),by rw[q1,q2],q3⟩
 .rename_i e' _ _ _ _ _ hd;have hu:=(hT _ _ hd).u;simp only at hu;cases hx;exact⟨0,[],[],rfl,Src.ofNil w hu 0,rfl,λj c hj=>by simp at hj⟩
 .rename_i _ _ _ _ _ l hd;have hu:=(hT _ _ hd).u;simp only at hu;have h3:cellsS sz (.str l) s k=bR (Nat.beq sz 1) (fL (AX l) λr=>k (dM l) r):=rfl;rw[h3]at h;have h4:=Z7 h;have h5:=G5 h4;subst h5;cases hx with
  |str b=>
   refine⟨b.size,AX (b.data.toList.map UInt8.toNat),byteCells b,?_,Src.ofString w hu b,?_,?_⟩
   .rw[h3,wR,kE];simp
   .rw[byteCells_length,AX,yY];simp
   .rw[AX,yY];intro j c hj;simp only[P9]at hj;simp only[byteCells,P9];cases hb:b.data.toList[j]? with
    |none=>grind
    |some u=>rw[hb]at hj;simp at hj;subst hj;exact⟨rfl,_,rfl,.n _ _⟩
 .cases hk
def aL4(hT:∀t i,I7 t=some i->O6 P t i)(hR:Rl S w0 ρ s w){t tx el:Nat}{i:TI}(hi:I7 el=some i){y:Value}{n:Nat}{ys old:J7}{news olds:H6}(hA:XT P t tx el i y n news w)
    (oK:Cells ρ ys λj=>news[j]?) {ty l cap:Nat} {base:qP} (hold:(Builtin.firstCells i.size l (.slice base l cap)).run P w.drew=.ok olds.toArray w.drew) (hol:olds.length=l*i.size) (hoc:Cells ρ old λj=>olds[j]?) (cN4:olds.length=old.length) (hg:cap<l+n) (hle:l+n<=5000000):
    ∃z w' ρ',(Builtin.append_ #[t,tx] ty #[.slice base l cap,y]).run P w=.ok z w'/\Ext ρ ρ'/\Rl S w0 ρ' ⟨s.h.set (pa s.nx) (some (.c el (old++ys))),s.nx+1,s.ro⟩ w'/\RV ρ' (.s s.nx 0 (l+n) none) z:=by
 have⟨m,hm,_,hrun⟩:=hA.grow ty base l cap olds hold hg hle;have hzs:(Q9 i).cells.size=i.size:=by rw[lX (hT _ _ hi)];simp[(hT _ _ hi).len]
 obtain⟨arr,harr⟩:∃arr,arr=(olds++news).toArray++Builtin.zeroCells (Q9 i).cells (m-(l+n)):=⟨_,rfl⟩;rw[<-harr]at hrun;have hsz:arr.size=m*i.size:=by
  have e:m*i.size=(l+n)*i.size+(m-(l+n))*i.size:=by rw[<-mF];congr 1;omega
  rw[harr,e,mF];simp[size_zeroCells,hzs,hol,hA.len]
 have hcells:Cells ρ (old++ys) λj=>arr[j]?:=by
  intro j c hj;have⟨h1,x,h2,h3⟩:=hoc.append cN4 oK j c hj
  grind
 have⟨hx,hR'⟩:=hR.newRow (w':=w.drew.alloc (.cells arr el)) el (old++ys) arr (.inr rfl) hcells;refine⟨_,_,_,hrun,hx,hR',.s _ _ _ m 0 none _ (kH _ _) hm (λk hk=>by cases hk) (.inl rfl) λ_=>⟨i,hi,?_⟩⟩
 grind
def dh9{cap off l:Nat}{b o:Nat}{c:E8}{L:Loc}(hL:ρ b=some L)(hl:l<=cap)(hck:∀k,c=some k->cap=k)(hoff:off=o+L.sh\/cap=0)(hb:c=none->∃i,I7 L.el=some i/\off+cap*i.size<=L.tot):
    RV ρ (.s b o l c) (.slice (some ⟨L.blk,off,none⟩) l cap):=.s b o l cap off c L hL hl hck hoff hb
def bl4(hT:∀t i,I7 t=some i->O6 P t i)(hR:Rl S w0 ρ s w){t tx el:Nat}{i:TI}(hi:I7 el=some i)(hsz:1<=i.size){x y:Value}{xa:AV}{n:Nat}{ys:J7}{news:H6}(hA:XT P t tx el i y n news w)
    (oK:Cells ρ ys λj=>news[j]?) (hyl:ys.length=news.length) (hn:n<=100000) (hx:RV ρ xa x) (h:YC el i.size xa n ys s≠.no) (ty:Nat):
    KH P S w0 ρ s w (YC el i.size xa n ys s) (Builtin.append_ #[t,tx] ty #[x,y]):=by
 unfold YC at h⊢;split at h
 ·
  cases hx;rw[Y8]at h⊢;by_cases hn0:n=0
  .rw[I9 (by rw[hn0];rfl)];exact⟨_,s,ρ,_,w,rfl,hA.same hn0 ty none 0 0 (N8 _),Ext.refl _,hR,rfl,N8 _,.ns⟩
  .rw[H7 (by rw[uZ];simpa using hn0),jQ,CY];have⟨z,w',ρ',h1,h2,h3,h4⟩:=aL4 (ρ:=ρ) hT hR hi hA oK (ty:=ty) (l:=0) (cap:=0) (base:=none) (old:=[]) (olds:=[]) (run_firstCells_none w.drew i.size 0 0 0) (by simp) (λj c hj=>by simp at hj) rfl (by omega) (by omega);simp only[X9,uS]at h3 h4;exact⟨_,_,ρ',z,w',rfl,h1,h2,h3,rfl,Nat.le_succ _,h4⟩
 .rename_i b o l c;obtain⟨cap,off,L,hL,rfl,hl,hck,hoff,hb⟩:=zD hx;rw[Y8]at h⊢;by_cases hn0:n=0
  .rw[I9 (by rw[hn0];rfl)];refine⟨_,s,ρ,_,w,rfl,hA.same hn0 ty _ l cap hl,Ext.refl _,hR,rfl,N8 _,hx⟩
  rw[H7 (by rw[uZ];simpa using hn0)]at h⊢;have h1:=Z7 h;rw[h1,Z8]at h⊢;have h1:=I8 h1;replace h1:l+n<=4194304:=h1;have⟨fB,cs,h2,h3⟩:=xH h;rw[h3]at h⊢;clear h3;have⟨old,h4,h5⟩:=L6 h;rw[h5]at h⊢;clear h5;have⟨olds,q1,q2,q3,q4⟩:=bb6 hR h2 hL hoff hl h4;have hold:(Builtin.firstCells i.size l (.slice (some ⟨L.blk,off,none⟩) l cap)).run P w.drew=.ok olds.toArray w.drew:=run_firstCells_some w.drew i.size l _ l cap olds q1 q4;have⟨L',arr,g1,g2,g3,g4,g5⟩:=hR.cells h2;rw[hL]at g1;injection g1 with g1
  subst g1;have hnl:1<=news.length:=by rw[hA.len];exact Nat.mul_pos (by omega) hsz
  split at h
  .rename_i c0;have hc0:=hck c0 rfl;subst hc0;rw[Y8]at h⊢;by_cases hg:cap<l+n
   .rw[I9 (by rw[show Nat.blt cap (Nat.add l n)=decide (cap<l+n)from LH _ _];simpa using hg),wR,jQ,CY,qU];have⟨z,w',ρ',k1,k2,k3,k4⟩:=aL4 hT hR hi hA oK (ty:=ty) hold q1 q3 (by rw[q1,q2]) hg (by omega);exact⟨_,_,ρ',z,w',rfl,k1,k2,k3,rfl,Nat.le_succ _,k4⟩
   .rw[H7 (by rw[show Nat.blt cap (Nat.add l n)=decide (cap<l+n)from LH _ _];simpa using hg)]at h⊢;have h6:=Z7 h;rw[h6,Z8]at h⊢;have h6:=G5 h6;subst h6;have⟨cs',h7,h8⟩:=L6 h;rw[h8]at h⊢;clear h8;rw[jQ]at h⊢;have⟨h9,h10⟩:=uK h;rw[h10];have hoff:=hoff.resolve_right (by omega);have⟨hfit,hR'⟩:=hR.store (vs:=news) h2 hL g2 g3 g4 g5 h9 h7 (by omega) oK;have hfit:=hfit.resolve_right (λh0=>by rw[h0]at hnl;simp at hnl);have e:Nat.add o (Nat.mul l i.size)+L.sh=off+l*i.size:=by grind
    rw[e]at hfit hR';exact⟨_,_,ρ,_,_,rfl,hA.room ty L.blk off l cap el arr g3 (by omega) hfit,Ext.refl _,hR',rfl,N8 _,dh9 hL (by show l+n<=cap;omega) hck (.inl hoff) (λh=>by cases h)⟩
  .have h6:=Z7 h;rw[h6,Z8]at h⊢;have h6:=G5 h6;subst h6;have h7:=Z7 h;rw[h7,Z8]at h⊢;have hbl:el≠mM:=λe=>by rw[e]at h7;simp[Nat.beq_refl]at h7
   rw[wR,jQ]at h⊢;have⟨h9,h10⟩:=uK h;rw[h10,CY,qU];have hd:=hR.drop b;by_cases hg:cap<l+n
   .have⟨z,w',ρ',k1,k2,k3,k4⟩:=aL4 hT hd hi hA oK (ty:=ty) hold q1 q3 (by rw[q1,q2]) hg (by omega);exact⟨_,_,ρ',z,w',rfl,k1,k2,k3,rfl,Nat.le_succ _,k4⟩
   ·
    have hoff:=hoff.resolve_right (by omega);have⟨i',p1,p2⟩:=hb rfl;rw[g2,hi]at p1;injection p1 with p1
    subst p1;have hroom:(l+n)*i.size<=cap*i.size:=iJ _ (by omega);rw[mF]at hroom;have hfit:off+l*i.size+news.length<=arr.size:=by rw[hA.len,g4];omega
    have hrun:=hA.room ty L.blk off l cap el arr g3 (by omega) hfit;obtain⟨arr',harr⟩:∃arr',arr'=(arr.toList.take (off+l*i.size)++news++arr.toList.drop (off+l*i.size+news.length)).toArray:=⟨_,rfl⟩;rw[<-harr]at hrun;have cK3:arr'.size=arr.size:=by grind
    have hget:∀j,arr'[j]?=if j<off+l*i.size then arr[j]? else if j<off+l*i.size+news.length then news[j-(off+l*i.size)]? else arr[j]?:=by
     intro j;have hl1:(arr.toList.take (off+l*i.size)).length=off+l*i.size:=by simp;omega
     rw[harr,List.getElem?_toArray,lC];by_cases hj:j<off+l*i.size
     .grind
     .rw[H7 hj,dN (by omega),hl1]
      grind
    have dS9:∀(j:Nat)(x:Value),olds[j]?=some x->arr[j+off]?=some x:=λj x hj=>by
     have:=q4 j x hj;rw[iI,kU w L.blk _ arr el (0,0) g3]at this
     grind
    have hnS:=hR.own b _ L h2 hL h9;have hoth:∀c o M,(s.h.set (pa b) none).get (pa c)=some o->ρ c=some M->M.blk≠L.blk:=λc o M hc hM e=>by
     rcases mQ hc with⟨_,e'⟩|⟨hne,hc'⟩
     .cases e'
     .exact hne (hR.inj c b o _ M L hc' h2 hM hL e)
    have hx':Ext ρ (bH ρ s.nx ⟨L.blk,off,el,arr.size⟩):=JC hR.fresh _;have hR':=hd.new (w':=w.setRow L.blk arr') (o:=.c el (old++ys)) (L:=⟨L.blk,off,el,arr.size⟩)
     ⟨rfl,rfl,rfl,by simp[World.setRow],λk hk=>vW w L.blk k _ (λe=>hnS (e▸hk)),λk hk=>ax6 w L.blk k _ hk⟩
     (λc o M hc hM=>vW w L.blk _ _ (hoth c o M hc hM)) hnS hoth
     ⟨_,arr',kH _ _,rfl,rU w L.blk arr _ el (0,0) g3,cK3,λj c hj=>by
       have⟨k1,u,k2,k3⟩:=q3.append (by rw[q1,q2]) oK j c hj;refine⟨k1,u,?_,k3.ext hx'⟩;show arr'[j+off]?=some u;rw[hget];by_cases hj1:j<l*i.size
       .grind
       .have hlt:=(P7.1 k2).1;simp only at k2;rw[dN (by omega)]at k2;rw[cO]at hlt;rw[H7 (by omega),I9 (by omega),<-k2];congr 1
        omega⟩
     (λcs e=>absurd (by injection e) hbl)
    refine⟨_,_,_,_,_,rfl,hrun,hx',hR',rfl,Nat.le_succ _,.s _ _ _ cap off none ⟨L.blk,off,el,arr.size⟩ (kH _ _) (show l+n<=cap by omega) (λk hk=>by cases hk) (.inl (by simp)) λ_=>⟨i,hi,?_⟩⟩
    grind
 .grind
def bb4(hT:∀t i,I7 t=some i->O6 P t i){t el:Nat}(h:WO I7 t=some el):P.underlying t=some (.slice el):=by
 have⟨i,h1,h2⟩:=U1 h;have hu:=(hT _ _ h1).u
 grind
def cq5(hT:∀t i,I7 t=some i->O6 P t i)(hR:Rl S w0 ρ s w){t tx:Nat}{x y:Value}{xa ya:AV}(hx:RV ρ xa x)(hy:RV ρ ya y)(h:al3 t (some tx) xa ya s≠.no)(ty:Nat):
    KH P S w0 ρ s w (al3 t (some tx) xa ya s) (Builtin.append_ #[t,tx] ty #[x,y]):=by
 unfold al3 at h⊢;have⟨el,h1,h2⟩:=L6 h;rw[h2]at h⊢;clear h2;have⟨i,h3,h4⟩:=L6 h;rw[h4]at h⊢;clear h4;have h5:=Z7 h;rw[h5,Z8]at h⊢;have h6:=Z7 h;rw[h6,Z8]at h⊢;have h5:=I8 h5;have h6:=I8 h6;have ht:=bb4 hT h1;rw[Y8]at h⊢;by_cases hint:aQ2 (some tx)=true
 .rw[I9 hint]at h⊢;have hkn:∃kn,P.underlying tx=some (.int kn):=by
   unfold aQ2 at hint;simp only at hint;split at hint
   .rename_i k _ _ _ _ _ hd;exact⟨k,(hT _ _ hd).u⟩
   .cases hint
  have⟨kn,hkn⟩:=hkn;split at h
  .rename_i k n;have h7:=Z7 h;rw[h7,Z8]at h⊢;have h7:=I8 h7;have⟨ys,h8,h9⟩:=L6 h;rw[h9]at h⊢;have ey:=fM hy;subst ey;have hA:=bl2 (w:=w) hT ht h3 h5 h6 (k:=k) hkn h7;have⟨z1,z2⟩:=bi5 (ρ:=ρ) (hT _ _ h3) h8;have hzs:(Q9 i).cells.size=i.size:=by rw[lX (hT _ _ h3)];simp[(hT _ _ h3).len]
   have hze:(Builtin.zeroCells (Q9 i).cells n).toList.length=ys.length:=by rw[hA.len,z1]
   refine bl4 hT hR h3 h6 hA (λj c hj=>?_) hze.symm (by omega) hx h ty;have⟨a1,u,a2,a3⟩:=z2 j c hj;refine⟨a1,u,?_,a3⟩;simp only at a2⊢;rw[<-a2,kM,Builtin.zeroCells,hzs]
  .grind
 .rw[H7 hint]at h⊢;have h7:=Z7 h;rw[h7,Z8]at h⊢;have⟨n,ys,news,h8,h9,h10,h11⟩:=cw4 hT hR h7 hy h;rw[h8]at h⊢;have h12:=Z7 h;rw[h12,Z8]at h⊢;exact bl4 hT hR h3 h6 (aE5 hT ht h3 h5 h9) h11 h10 (I8 h12) hx h ty
end
section
variable{P:Program}{S:U2}{w0:World}{ρ:Ren}{e:Env}{s:St}{a:Act}{w:World}
def bp2(hR:Rl S w0 ρ s w){sz:Nat}{y:AV}{x:Value}{k:Nat->J7->RO}(hx:RV ρ y x)(h:cellsS sz y s k≠.no):
    ∃(n:Nat) (ys:J7) (vs:H6),cellsS sz y s k=k n ys/\(Builtin.lenOf x).run P w=.ok n w/\ys.length=n*sz/\vs.length=n*sz/\(Cells ρ ys λj=>vs[j]?)/\∀m,m<=n->(Builtin.firstCells sz m x).run P w=.ok (vs.take (m*sz)).toArray w:=by
 cases y with
 |ns=>
  cases hx;exact⟨0,[],[],rfl,rfl,by simp,by simp,λj c hj=>by simp at hj,λm hm=>by simp[Builtin.firstCells]⟩
 |s b o l c=>
  obtain⟨cap,off,L,hL,rfl,hl,hck,hoff,hb⟩:=zD hx;have⟨el,cs,h1,h2⟩:=xH (show iU s b _≠.no from h);have h3:cellsS sz (.s b o l c) s k=oR (uN (Nat.mul l sz) (qX o cs)) λr=>k l r:=h2;rw[h3]at h;have⟨r,h4,h5⟩:=L6 h;have⟨vs,q1,q2,q3,q4⟩:=bb6 hR h1 hL hoff hl h4;refine⟨l,r,vs,h3.trans h5,rfl,q2,q1,q3,λm hm=>run_firstCells_some w sz m _ l cap _ ?_ λj v hj=>?_⟩
  .have:m*sz<=l*sz:=iJ _ hm;simp;omega
  .grind
 |str l=>
  have h3:cellsS sz (.str l) s k=bR (Nat.beq sz 1) (fL (AX l) λr=>k (dM l) r):=rfl;rw[h3]at h;have h4:=Z7 h;have h5:=G5 h4;subst h5;cases hx with
  |str b=>
   refine⟨b.size,AX (b.data.toList.map UInt8.toNat),byteCells b,?_,rfl,?_,?_,?_,λm hm=>?_⟩
   .rw[h3,wR,kE];simp
   .rw[AX,yY];simp
   .rw[byteCells_length];simp
   .rw[AX,yY];intro j c hj;simp only[P9]at hj;simp only[byteCells,P9];cases hb:b.data.toList[j]? with
    |none=>grind
    |some u=>rw[hb]at hj;simp at hj;subst hj;exact⟨rfl,_,rfl,.n _ _⟩
   .simp only[Builtin.firstCells,U5];congr 1;apply Array.ext';simp[byteCells]
 |_=>exact absurd rfl h
def unV:RV ρ un (.tuple #[]):=.t [] [] rfl λi c x h=>by simp at h
def bM9(hR:Rl S w0 ρ s w){b o el off:Nat}{L:Loc}{cs ds cs':J7}{vs:H6}(hb:s.h.get (pa b)=some (.c el cs))(hL:ρ b=some L)(hoff:off=o+L.sh)(hr:s.ro<=b)(hp:xG o ds cs=some cs')(hl:vs.length=ds.length)(hv:Cells ρ ds λi=>vs[i]?):
    ∃w',(storeCells ⟨L.blk,off,none⟩ vs 0).run P w=.ok () w'/\Rl S w0 ρ ⟨s.h.set (pa b) (some (.c el cs')),s.nx,s.ro⟩ w':=by
 have⟨L',arr,g1,g2,g3,g4,g5⟩:=hR.cells hb;rw[hL]at g1;injection g1 with g1
 subst g1;have⟨hfit,hR'⟩:=hR.store (vs:=vs) hb hL g2 g3 g4 g5 hr hp hl hv;rw[<-hoff]at hfit hR';by_cases hn:vs=[]
 .subst hn;refine⟨w,by simp[storeCells],?_⟩;have:(arr.toList.take off++[]++arr.toList.drop (off+([]:H6).length)).toArray=arr:=by simp
  rw[this,setRow_self w L.blk arr el (0,0) g3]at hR';exact hR'
 .refine⟨_,run_storeCells_at (P:=P) L.blk off el vs 0 arr w g3 (by simpa using hfit.resolve_right hn) (cells_one hl hv),by simpa using hR'⟩
def cx5(hT:∀t i,I7 t=some i->O6 P t i)(hR:Rl S w0 ρ s w){t tx:Nat}{x y:Value}{xa ya:AV}(hx:RV ρ xa x)(hy:RV ρ ya y)(h:ao5 t xa ya s≠.no)(ty:Nat):
    KH P S w0 ρ s w (ao5 t xa ya s) (Builtin.copy_ #[t,tx] ty #[x,y]):=by
 unfold ao5 at h⊢;have⟨el,h1,h2⟩:=L6 h;rw[h2]at h⊢;clear h2;have⟨z,h3,h4⟩:=L6 h;rw[h4]at h⊢;clear h4;have h5:=Z7 h;rw[h5,Z8]at h⊢;have h5:=I8 h5;have ht:=bb4 hT h1;have⟨i,h6,h7⟩:=U1 h3;injection h7 with h7
 subst h7;have hsz:=(hT _ _ h6).sizeOf w;split at h
 .rename_i b o l c;obtain⟨cap,off,L,hL,rfl,hl,hck,hoff,hb⟩:=zD hx
  try simp only
  have⟨n,ys,vs,h8,h9,h10,h11,h12,h13⟩:=bp2 (P:=P) hR hy h;rw[h8]at h⊢;clear h8;have hfc:=h13 (Nat.min n l) (Nat.min_le_left _ _);rw[Y8]at h⊢;by_cases h0:Nat.min n l=0
  .rw[I9 (by rw[h0];rfl)];rw[h0]at hfc;refine⟨_,s,ρ,.int .i64 0,w,rfl,?_,Ext.refl _,hR,rfl,N8 _,.n _ _⟩;simp[Builtin.copy_,O4 ht,h9,hsz,h0,hfc,storeCells,goInt]
  .rw[H7 (by rw[uZ];simpa using h0)]at h⊢;have⟨fB,cs,q1,q2⟩:=xH h;rw[q2]at h⊢;clear q2;have⟨r,q3,q4⟩:=L6 h;rw[q4]at h⊢;clear q4;have⟨cs',q5,q6⟩:=L6 h;rw[q6]at h⊢;clear q6;have⟨q7,q8⟩:=uK h;rw[q8,af2];have hcap:cap≠0:=λe=>by grind
   have⟨r1,r2⟩:=az1 q3;have hml:Nat.min n l*i.size<=n*i.size:=iJ _ (Nat.min_le_left _ _)
   have⟨w',hst,hR'⟩:=bM9 (P:=P) (vs:=vs.take (Nat.min n l*i.size)) hR q1 hL (hoff.resolve_right hcap) q7 q5 (by rw[r2,Y1,h11];exact uU hml) (λj c hj=>by
    have hlt:j<Nat.min n l*i.size:=by grind
    rw[r1,kN,I9 (show j<Nat.mul (Nat.min n l) i.size from hlt)]at hj;have⟨a1,u,a2,a3⟩:=h12 j c hj;refine⟨a1,u,?_,a3⟩;simp only at a2⊢;rw[kN,I9 hlt]
    exact a2)
   refine⟨_,_,ρ,.int .i64 (.ofNat (Nat.min n l)),w',rfl,?_,Ext.refl _,hR',rfl,N8 _,.n _ _⟩;simp[Builtin.copy_,O4 ht,h9,hsz,hfc,hst,goInt]
 .cases hx
  try simp only
  have⟨n,ys,vs,h8,h9,h10,h11,h12,h13⟩:=bp2 (P:=P) hR hy h;rw[h8];have hfc:=h13 0 (aF _);refine⟨_,s,ρ,.int .i64 0,w,rfl,?_,Ext.refl _,hR,rfl,N8 _,.n _ _⟩;simp[Builtin.copy_,O4 ht,h9,hsz,hfc,goInt]
 .grind
def cw8(hT:∀t i,I7 t=some i->O6 P t i)(hR:Rl S w0 ρ s w){t:Nat}{x:Value}{xa:AV}(hx:RV ρ xa x)(h:an9 t xa s≠.no)(ty:Nat):
    KH P S w0 ρ s w (an9 t xa s) (Builtin.clear_ #[t] ty #[x]):=by
 unfold an9 at h⊢;have⟨el,h1,h2⟩:=L6 h;rw[h2]at h⊢;clear h2;have⟨i,h3,h4⟩:=L6 h;rw[h4]at h⊢;clear h4;have ht:=bb4 hT h1;split at h
 .rename_i b o l c;obtain⟨cap,off,L,hL,rfl,hl,hck,hoff,hb⟩:=zD hx
  try simp only
  have⟨fB,cs,q1,q2⟩:=xH h;rw[q2]at h⊢;clear q2;rw[Y8]at h⊢;by_cases h0:l=0
  .rw[I9 (by rw[h0];rfl)];subst h0;exact⟨_,s,ρ,.tuple #[],w,rfl,by simp[Builtin.clear_,O4 ht],Ext.refl _,hR,rfl,N8 _,unV⟩
  .rw[H7 (by rw[uZ];simpa using h0)]at h⊢;have⟨z,q3,q4⟩:=L6 h;rw[q4]at h⊢;clear q4;have⟨cs',q5,q6⟩:=L6 h;rw[q6]at h⊢;clear q6;have⟨q7,q8⟩:=uK h;rw[q8];have⟨z1,z2⟩:=bi5 (ρ:=ρ) (hT _ _ h3) q3;have hzs:(Q9 i).cells.size=i.size:=by rw[lX (hT _ _ h3)];simp[(hT _ _ h3).len]
   have⟨j,hj,hjs,hjb,hjz⟩:=(hT _ _ h3).gX
   have⟨w',hst,hR'⟩:=bM9 (P:=P) (vs:=(Builtin.zeroCells (Q9 i).cells l).toList) hR q1 hL (hoff.resolve_right (by omega)) q7 q5 (by simp[size_zeroCells,hzs,z1]) (λk c hk=>by
    have⟨a1,u,a2,a3⟩:=z2 k c hk;refine⟨a1,u,?_,a3⟩;simp only at a2⊢
    rw[<-a2,kM,Builtin.zeroCells,hzs])
   obtain⟨l',rfl⟩:∃l',l=l'+1:=⟨l-1,by omega⟩;refine⟨_,_,ρ,.tuple #[],w',rfl,?_,Ext.refl _,hR',rfl,N8 _,unV⟩;simp[Builtin.clear_,O4 ht,zeroValue,typeInfo,hj,hjz,hst]
 .cases hx;exact⟨_,s,ρ,.tuple #[],w,rfl,by simp[Builtin.clear_,O4 ht],Ext.refl _,hR,rfl,N8 _,unV⟩
 .grind
def cW6(hT:∀t i,I7 t=some i->O6 P t i)(hR:Rl S w0 ρ s w){t:Nat}{x:Value}{xa:AV}(hx:RV ρ xa x)(hk:NZ t xa=true)(h:UD xa s≠.no)(ty:Nat):
    KH P S w0 ρ s w (UD xa s) (Builtin.len_ #[t] ty #[x]):=by
 unfold NZ at hk;split at hk
 .rename_i _ _ _ _ _ l hd;have hu:=(hT _ _ hd).u;simp only at hu;cases hx with
  |str b=>
   refine⟨_,s,ρ,.int .i64 (.ofNat b.size),w,af2 _ _ _,by simp[Builtin.len_,O4 hu,goInt],Ext.refl _,hR,rfl,N8 _,?_⟩;have:dM (b.data.toList.map UInt8.toNat)=b.size:=by rw[kE];simp
   rw[this];exact .n _ _
 .rename_i _ _ _ _ _ _ hd;have hu:=(hT _ _ hd).u;simp only at hu;cases hx;exact⟨_,s,ρ,.int .i64 0,w,rfl,by simp[Builtin.len_,O4 hu,goInt],Ext.refl _,hR,rfl,N8 _,.n _ _⟩
 .rename_i _ _ _ _ _ _ b o l c hd;have hu:=(hT _ _ hd).u;simp only at hu;obtain⟨cap,off,L,hL,rfl,hl,hck,hoff,hb⟩:=zD hx;exact⟨_,s,ρ,.int .i64 (.ofNat l),w,rfl,by simp[Builtin.len_,O4 hu,goInt],Ext.refl _,hR,rfl,N8 _,.n _ _⟩
 .rename_i _ _ _ _ _ _ _ hd;have hu:=(hT _ _ hd).u;simp only at hu;cases hx;exact⟨_,s,ρ,.int .i64 0,w,rfl,by simp[Builtin.len_,O4 hu,goInt],Ext.refl _,hR,rfl,N8 _,.n _ _⟩
 .rename_i _ _ _ _ _ _ _ b hd;have hu:=(hT _ _ hd).u;simp only at hu;obtain⟨L,h1,rfl⟩:=WE hx;unfold UD at h⊢;simp only at h⊢;split at h
  .rename_i es hb;have⟨L',arr,q1,q2,q3,q4⟩:=hR.IQ hb;rw[h1]at q1;injection q1 with q1
   subst q1;refine⟨_,s,ρ,.int .i64 (.ofNat arr.size),w,af2 _ _ _,by simp[Builtin.len_,O4 hu,goInt,qN q2],Ext.refl _,hR,rfl,N8 _,?_⟩;have:dM es=arr.size:=by rw[kE];simpa using q3.1
   rw[this];exact .n _ _
  .grind
 .cases hk
def cW7{e:Nat}(hc:P.cellsOf e=1)(count off n:Nat)(hn:off+n<=count):liesAt P P.depth e count off e n=true:=by
 have hd:P.depth=(2*(P.types.size+Made.depth)+1)+1:=rfl;rw[hd];simp only[liesAt,Bool.or_eq_true];left;rw[hd];simp[rowAt,hc,hn,sameLayout,Nat.mod_one]
def dh8(w:World)(pt it ty e:Nat)(hp:P.underlying pt=some (.pointer e))(hc:P.cellsOf e=1)(g off cells:Nat)(hsh:w.shape? g=some (e,cells))(l:mG)(h0:l≠[])(hn:off+l.length<=cells)(h63:l.length<=9223372036854775807)
    (hcell:∀j x,l[j]?=some x->w.cell? ((⟨g,off,none⟩:Addr).add j)=some (.int .u8 x.toNat)) (k:IntKind):
    (Builtin.unsafeString_ #[pt,it] ty #[.pointer (some ⟨g,off,none⟩),.int k l.length]).run P w=.ok (.string ⟨l.toArray⟩) (w.freeze ⟨g,off,none⟩ l.length):=by
 have hl:l.length≠0:=by grind
 have hlb:=Lib.run_loadBytes (P:=P) w l ⟨g,off,none⟩ .empty hcell;have hlies:=cW7 (P:=P) hc (cells/P.cellsOf e) off l.length (by rw[hc];simpa using hn);have h63':¬(9223372036854775807:Int)<(l.length:Int):=by omega
 have hdef:Builtin.unsafeString_ #[pt,it] ty #[.pointer (some ⟨g,off,none⟩),.int k l.length]=
  (do
    let n <-asInt (.int k l.length)
    if n<0 then runtimePanic (.error "unsafe.String: len out of range")
    if n>IntKind.i64.max then unsupported (.unsafePointer "String: a length above the largest int")
    if n=0 then pure (.string .empty)
    else if <-variablesAt ⟨g,off,none⟩ (<-elemOf pt) n.toNat then do
     let s <-loadBytes ⟨g,off,none⟩ .empty n.toNat
     freeze ⟨g,off,none⟩ n.toNat
     pure (.string s)
    else unsupported (.unsafePointer "String: not so many bytes at ptr")):=rfl
 rw[hdef];have hmax:IntKind.i64.max=9223372036854775807:=rfl;have hneg:¬(l.length:Int)<0:=by omega
 simp[asInt,asIntOf,hmax,h63',hneg,hl,variablesAt,hsh,elemOf,O4 hp,hlies,hlb]
def cS9{A:U2}{g off n:Nat}(hS:¬A g){c:S9}{e:Nat}{fz:Nat×Nat}(hc:w.heap[g]?=some (.cells c e fz)):Kept A w (w.freeze ⟨g,off,none⟩ n)/\∀k,k≠g->(w.freeze ⟨g,off,none⟩ n).heap[k]?=w.heap[k]?:=by
 have hk:∀k,k≠g->(w.freeze ⟨g,off,none⟩ n).heap[k]?=w.heap[k]?:=λk hk=>by
  unfold World.freeze
  grind
 have hsz:(w.freeze ⟨g,off,none⟩ n).heap.size=w.heap.size:=by
  unfold World.freeze
  grind
 have ho:(w.freeze ⟨g,off,none⟩ n).os=w.os/\(w.freeze ⟨g,off,none⟩ n).tape=w.tape/\(w.freeze ⟨g,off,none⟩ n).output=w.output:=by
  unfold World.freeze
  grind
 exact⟨⟨ho.1,ho.2.1,ho.2.2,by omega,λk hks=>hk k λe=>hS (e▸hks),λk hkd=>by
  by_cases hkg:k=g
  .rw[hkg,hc]at hkd;exact nomatch hkd
  .rw[hk k hkg];exact hkd⟩,hk⟩
def bn9:∀{l:J7}{r:O1},aF7 l=some r->∃bs:mG,r=bs.map UInt8.toNat/\l=bs.map λb=>AV.n .u8 b.toNat
 |[],r,h=>by cases h;exact⟨[],rfl,rfl⟩
 |x::l,r,h=>by
  have⟨b,h1,h2⟩:=U1 h;have⟨r',h3,h4⟩:=U1 h2;injection h4 with h4
  subst h4;obtain⟨bs,rfl,rfl⟩:=bn9 h3;unfold byteOf at h1;split at h1
  .rename_i k n;have⟨h5,h6⟩:=nK h1;have⟨h7,h8⟩:=nK h6;injection h8 with h8
   subst h8;have hk:k=.u8:=vO (j:=.u8) h5;subst hk;have hlt:=fA h7;refine⟨UInt8.ofNat n::bs,?_,?_⟩<;>simp[Nat.mod_eq_of_lt hlt]
  .cases h1
def cu7(hT:∀t i,I7 t=some i->O6 P t i){t el:Nat}(h:am9 t el=true):P.underlying t=some (.pointer el)/\P.cellsOf el=1:=by
 unfold am9 at h;split at h
 .rename_i e _ _ _ _ _ hd;have hu:=(hT _ _ hd).u;simp only at hu;rw[Y8]at h;split at h
  .rename_i he;have he:=G5 he;subst he;split at h
   .rename_i i hi;have⟨j,hj,hjs,_,_⟩:=(hT _ _ hi).gX;refine⟨hu,?_⟩;simp[Program.cellsOf,hj,hjs,G5 h]
   .cases h
  .cases h
 .cases h
def dt7(hT:∀t i,I7 t=some i->O6 P t i)(hR:Rl S w0 ρ s w){t it b o:Nat}{n:AV}{x y:Value}(hx:RV ρ (.p b o) x)(hy:RV ρ n y)(h:lK .unsafeString [t,it] [.p b o,n] s≠.no)(ty:Nat):
    KH P S w0 ρ s w (lK .unsafeString [t,it] [.p b o,n] s) (Builtin.unsafeString_ #[t,it] ty #[x,y]):=by
 have e0:lK .unsafeString [t,it] [.p b o,n] s=oR (UK n) λn=>bR (Nat.ble 1 n) (bR (Nat.ble n 1000000) (iU s b λel cs=>bR (am9 t el) (oR (uN n (qX o cs)) λr=>oR (aF7 r) λl=>setH s b none λs=>.one (.str l) s))):=rfl;rw[e0]at h⊢;have⟨m,h1,h2⟩:=L6 h;rw[h2]at h⊢;clear h2;have h3:=Z7 h;rw[h3,Z8]at h⊢;have h4:=Z7 h;rw[h4,Z8]at h⊢;have h3:=I8 h3;have h4:=I8 h4;have⟨el,cs,h5,h6⟩:=xH h;rw[h6]at h⊢;clear h6;have h7:=Z7 h;rw[h7,Z8]at h⊢;have⟨r,h8,h9⟩:=L6 h;rw[h9]at h⊢;clear h9;have⟨l,h10,h11⟩:=L6 h;rw[h11]at h⊢;clear h11;have⟨h12,h13⟩:=uK h;rw[h13];obtain⟨k,rfl⟩:=aT4 h1;have ey:=fM hy;subst ey;obtain⟨L,g1,rfl⟩:=vU hx;have⟨L',arr,q1,q2,q3,q4,q5⟩:=hR.cells h5;rw[g1]at q1;injection q1 with q1
 subst q1;have⟨hu,hc⟩:=cu7 hT h7;have⟨r1,r2⟩:=q5.take h8;obtain⟨bs,rfl,rfl⟩:=bn9 h10;rw[X0]at r1;subst r1;have hcell:∀(j:Nat)(u:UInt8),bs[j]?=some u->w.cell? ((⟨L.blk,o+L.sh,none⟩:Addr).add j)=some (.int .u8 u.toNat):=λj u hj=>by
  have⟨_,v,a2,a3⟩:=r2 j (.n .u8 u.toNat) (by rw[P9,hj];rfl);rw[fM a3]at a2;rw[iI,kU w L.blk _ arr el (0,0) q3]
  grind
 have hlast:o+L.sh+bs.length<=arr.size:=by
  have hlt:bs.length-1<bs.length:=by omega
  have:=hcell (bs.length-1) _ (J9 hlt);rw[iI,kU w L.blk _ arr el (0,0) q3]at this
  grind
 have hrun:=dh8 w t it ty el hu hc L.blk (o+L.sh) arr.size (by simp[World.shape?,q3]) bs (λe=>by rw[e]at h3;simp at h3) hlast (by omega) hcell k;have hnS:=hR.own b _ L h5 g1 h12;have⟨hk,hoth⟩:=cS9 (A:=S) (w:=w) (off:=o+L.sh) (n:=bs.length) hnS q3;refine⟨_,_,ρ,.string ⟨bs.toArray⟩,_,rfl,hrun,Ext.refl _,(hR.drop b).world hk (λc o' M hc hM=>hoth _ λe=>?_),rfl,N8 _,.str ⟨bs.toArray⟩⟩;rcases mQ hc with⟨_,e'⟩|⟨hne,hc'⟩
 .cases e'
 .exact hne (hR.inj c b o' _ M L hc' h5 hM g1 e)
def ag4{x:AV}{vs:H6}(h:O5 ρ [x] vs):∃y,vs=[y]/\RV ρ x y:=by
 match vs,h with
 |[y],h=>exact⟨y,rfl,h.2 0 x y rfl rfl⟩
 |[],h=>simp[O5]at h
 |_::_::_,h=>have:=h.1;simp at this
def WG{x x':AV}{vs:H6}(h:O5 ρ [x,x'] vs):∃y y',vs=[y,y']/\RV ρ x y/\RV ρ x' y':=by
 match vs,h with
 |[y,y'],h=>exact⟨y,y',rfl,h.2 0 x y rfl rfl,h.2 1 x' y' rfl rfl⟩
 |[],h=>have:=h.1;simp at this
 |[_],h=>have:=h.1;simp at this
 |_::_::_::_,h=>have:=h.1;simp at this
def bE0(hT:∀t i,I7 t=some i->O6 P t i){t:Nat}{xa:AV}(h:NZ t xa=true)(hx:xa=.ns\/∃b o l c,xa=.s b o l c):∃el,P.underlying t=some (.slice el):=by
 unfold NZ at h;split at h
 .grind
 .rename_i hd;exact⟨_,(hT _ _ hd).u⟩
 .rename_i hd;exact⟨_,(hT _ _ hd).u⟩
 .grind
 .grind
 .cases h
def cu6(hT:∀t i,I7 t=some i->O6 P t i)(hR:Rl S w0 ρ s w){b:Builtin}{tys:O1}{args:J7}{vs:H6}(ha:O5 ρ args vs)(h:lK b tys args s≠.no)(ty:Nat)(cs:Array Bool):
    ∃v s' ρ' z w',lK b tys args s=.one v s'/\(builtin b tys.toArray ty cs vs.toArray).run P w=.ok (.value z) w'/\Ext ρ ρ'/\Rl S w0 ρ' s' w'/\s'.ro=s.ro/\s.nx<=s'.nx/\RV ρ' v z:=by
 have fin:∀{m:Sem Value}{r:RO},lK b tys args s=r->builtin b tys.toArray ty cs vs.toArray=(do pure (.value (<-m)))->KH P S w0 ρ s w r m->
  ∃v s' ρ' z w',lK b tys args s=.one v s'/\(builtin b tys.toArray ty cs vs.toArray).run P w=.ok (.value z) w'/\Ext ρ ρ'/\Rl S w0 ρ' s' w'/\s'.ro=s.ro/\s.nx<=s'.nx/\RV ρ' v z:=by
  rintro m r h1 h2 ⟨v,s',ρ',z,w',rfl,h4,h5⟩;exact⟨v,s',ρ',z,w',h1,by rw[h2];simp[h4],h5⟩
 unfold lK at h;split at h
 ·
  rename_i x;obtain⟨y,rfl,hy⟩:=ag4 ha;split at h
  .rename_i t;have hk:=Z7 h;rw[hk,Z8]at h;exact fin (by simp only[lK,hk,Z8]) rfl (cW6 hT hR hy hk h ty)
  .grind
 ·
  rename_i x;obtain⟨y,rfl,hy⟩:=ag4 ha;split at h
  .rename_i t;have hk:=Z7 h;rw[hk,Z8]at h;unfold an4 at h;split at h
   .cases hy;refine fin (r:=.one (.n .i64 0) s) (by simp only[lK,hk,Z8,an4]) rfl ⟨_,s,ρ,.int .i64 0,w,rfl,?_,Ext.refl _,hR,rfl,N8 _,.n _ _⟩;have⟨el,hu⟩:=bE0 hT hk (.inl rfl);simp[Builtin.cap_,O4 hu,goInt]
   .rename_i bb o l c;obtain⟨cap,off,L,hL,rfl,hl,hck,hoff,hb⟩:=zD hy;have hc:=hck c rfl;subst hc;refine fin (r:=.one (.n .i64 cap) s) (by simp only[lK,hk,Z8,an4]) rfl ⟨_,s,ρ,.int .i64 (.ofNat cap),w,rfl,?_,Ext.refl _,hR,rfl,N8 _,.n _ _⟩;have⟨el,hu⟩:=bE0 hT hk (.inr ⟨_,_,_,_,rfl⟩);simp[Builtin.cap_,O4 hu,goInt]
   .grind
  .grind
 ·
  rename_i k m k' m';obtain⟨y,y',rfl,hy,hy'⟩:=WG ha;have hk:=Z7 h;have hkk:=vO hk;subst hkk;have e1:=fM hy;have e2:=fM hy';subst e1;subst e2;refine fin (r:=.one (.n k (if m'<m then m' else m)) s) ?_ rfl ⟨_,s,ρ,.int k (.ofNat (if m'<m then m' else m)),w,rfl,?_,Ext.refl _,hR,rfl,N8 _,.n _ _⟩
  .simp only[lK,hk,Z8,Y8,LH]
   grind
  .by_cases hlt:m'<m
   .have:(m':Int)<(m:Int):=by omega
    simp[Builtin.min_,Builtin.min2,hlt,this]
   .have:¬(m':Int)<(m:Int):=by omega
    simp[Builtin.min_,Builtin.min2,hlt,this]
 ·
  rename_i k m k' m';obtain⟨y,y',rfl,hy,hy'⟩:=WG ha;have hk:=Z7 h;have hkk:=vO hk;subst hkk;have e1:=fM hy;have e2:=fM hy';subst e1;subst e2;refine fin (r:=.one (.n k (if m<m' then m' else m)) s) ?_ rfl ⟨_,s,ρ,.int k (.ofNat (if m<m' then m' else m)),w,rfl,?_,Ext.refl _,hR,rfl,N8 _,.n _ _⟩
  .simp only[lK,hk,Z8,Y8,LH]
   grind
  .by_cases hlt:m<m'
   .have:(m:Int)<(m':Int):=by omega
    simp[Builtin.max_,Builtin.max2,hlt,this]
   .have:¬(m:Int)<(m':Int):=by omega
    simp[Builtin.max_,Builtin.max2,hlt,this]
 ·
  rename_i x x';obtain⟨y,y',rfl,hy,hy'⟩:=WG ha;split at h
  .exact fin rfl rfl (cq5 hT hR hy hy' h ty)
  .grind
 ·
  rename_i x x';obtain⟨y,y',rfl,hy,hy'⟩:=WG ha;split at h
  .exact fin rfl rfl (cx5 hT hR hy hy' h ty)
  .grind
 ·
  rename_i x;obtain⟨y,rfl,hy⟩:=ag4 ha;split at h
  .exact fin rfl rfl (cw8 hT hR hy h ty)
  .grind
 ·
  rename_i bb o l;obtain⟨y,rfl,hy⟩:=ag4 ha;have h1:=Z7 h;have h2:=I8 h1;obtain⟨cap,off,L,hL,rfl,hl,hck,hoff,hb⟩:=zD hy;have hoff:=hoff.resolve_right (by omega);subst hoff;exact fin (r:=.one (.p bb o) s) (by simp only[lK,h1,Z8]) rfl ⟨_,s,ρ,_,w,rfl,Lib.run_unsafeSliceData_row w tys.toArray ty ⟨L.blk,o+L.sh,none⟩ l cap (by omega),Ext.refl _,hR,rfl,N8 _,.p _ _ L hL⟩
 .obtain⟨y,rfl,hy⟩:=ag4 ha;cases hy;exact fin (r:=.one .np s) rfl rfl ⟨_,s,ρ,.pointer none,w,rfl,rfl,Ext.refl _,hR,rfl,N8 _,.np⟩
 ·
  obtain⟨y,y',rfl,hy,hy'⟩:=WG ha;split at h
  .rename_i n t t';have h1:=Z7 h;have h2:=G5 h1;subst h2;cases hy;have e2:=fM hy';subst e2;exact fin (r:=.one (.str []) s) (by simp only[lK,h1,Z8]) rfl ⟨_,s,ρ,.string .empty,w,rfl,Lib.run_unsafeString_none w t t' ty none,Ext.refl _,hR,rfl,N8 _,.str .empty⟩
  .grind
 .rename_i bb o n;obtain⟨y,y',rfl,hy,hy'⟩:=WG ha;split at h
  .exact fin rfl rfl (dt7 hT hR hy hy' h ty)
  .grind
 .grind
def dj1(hT:∀t i,I7 t=some i->O6 P t i)(up:Runner)(o:Oper)(b:Builtin)(args:yD)(tys:Array Nat)(ho:o.op=.call ⟨.builtin b,args,tys⟩):cZ P o (IY up ⟨.builtin b,args,tys⟩):=by
 intro S w0 ρ e s a w next Q h he hR hn
 have⟨vs,h1,h2⟩:=L6 h;replace h2:IY up ⟨.builtin b,args,tys⟩ e s=lK b tys.toList vs s:=h2;rw[h2]at h hn;have hv:=as2 h1 he;have⟨v,s',ρ',z,w',q1,q2,q3,q4,q5,q6,q7⟩:=cu6 hT hR hv h o.type (args.map λ|.const _=>true|_=>false);obtain⟨dst,op,type,pos,after,guard⟩:=o;simp only at ho;subst ho;refine bP (x:=z) (w':=w') ?_ (hn v s' ρ' z w' (.inl q1) q3 q4 q5 q6 q7);rw[BJ];have e1:args.map a.eval=(args.toList.map a.eval).toArray:=by grind
 rw[e1];rw[Array.toArray_toList]at q2;exact q2
end
def jG(r:RC)(x:Ex)(e:Env)(s:St):Prop:=r=.one x e s\/∃l,r=.many l/\(x,e,s)∈l
def BK:Ex->Exit
 |.n=>.normal
 |.x id=>.exit id
 |.r=>.ret
structure kQ(S:Nat->Prop)(B m:Nat)(ρ:Ren)(s:St)(w:World)(e':Env)(s':St)(ρ':Ren)(a':Act)(w':World):Prop where
 ext:Ext ρ ρ'
 rl:Rl S w ρ' s' w'
 ro:s'.ro=s.ro
 nx:s.nx<=s'.nx
 env:aX ρ' e' a'.tmps
 sz:a'.tmps.size=m
 dK:lZ B w' a'.defers
 bw:B<=w'.heap.size
abbrev Pre(S:U2)(B m:Nat)(ρ:Ren)(e:Env)(s:St)(a:Act)(w:World):Prop:=kQ S B m ρ s w e s ρ a w
def ak7(P:Program)(run:Env->St->RC)(c:Code)(m:Nat):Prop:=
 ∀(τ:E8),(τ=none\/eF c=true)->∀(S:U2)(B:Nat)(ρ:Ren)(e:Env)(s:St)(a:Act)(w:World)(Q:dD),
  Pre S B m ρ e s a w->run e s≠.no->(∀x e' s' ρ' a' w',jG (run e s) x e' s'->kQ S B m ρ s w e' s' ρ' a' w'->Q (BK x) a' w')->c.wpIn (eU τ) 0 P Q a w
def wG(P:Program)(up:Runner):Prop:=∀c m,codeOk m c=true->ak7 P (up c) c m
section
variable{P:Program}{S:U2}{w0:World}{ρ:Ren}{e:Env}{s:St}{a:Act}{w:World}{B m:Nat}
def Rl.ae4(hR:Rl S w0 ρ s w):Rl S w ρ s w:={ hR with kept:=Kept.refl _ _,slt:=λk hk=>aH (hR.slt k hk) hR.kept.size,gs:=λw' h=>hR.gs w' (hR.kept.trans h) }
def Rl.onto{w1:World}(hR:Rl S w1 ρ s w)(hk:Kept S w0 w1)(hs:∀k,S k->k<w0.heap.size)(hg:∀w',Kept S w0 w'->GE w'):Rl S w0 ρ s w:={ hR with kept:=hk.trans hR.kept,slt:=hs,gs:=hg }
def kQ.trans{e1 e2:Env}{s1 s2:St}{ρ1 ρ2:Ren}{a1 a2:Act}{w1 w2:World}(h:kQ S B m ρ s w e1 s1 ρ1 a1 w1)(k:kQ S B m ρ1 s1 w1 e2 s2 ρ2 a2 w2):kQ S B m ρ s w e2 s2 ρ2 a2 w2:=
 ⟨h.ext.trans k.ext,k.rl.onto h.rl.kept h.rl.slt h.rl.gs,k.ro.trans h.ro,Y2 h.nx k.nx,k.env,k.sz,k.dK,k.bw⟩
def kQ.pre{e1:Env}{s1:St}{ρ1:Ren}{a1:Act}{w1:World}(h:kQ S B m ρ s w e1 s1 ρ1 a1 w1):Pre S B m ρ1 e1 s1 a1 w1:=
 ⟨Ext.refl _,h.rl.ae4,rfl,N8 _,h.env,h.sz,h.dK,h.bw⟩
theorem cv7(b:RC):an5 .no b=.no:=by cases b<;>rfl
theorem cv8(a:RC):an5 a .no=.no:=by cases a<;>rfl
def al1:∀{l:List RC},sJ l≠.no->(∃r,sJ l=.many r)/\∀y∈l,y≠.no/\∀x e s,jG y x e s->jG (sJ l) x e s
 |[],_=>⟨⟨[],rfl⟩,λy hy=>by simp at hy⟩
 |y::l,h=>by
  have h0:sJ (y::l)=an5 y (sJ l):=rfl;rw[h0]at h⊢;have hl:sJ l≠.no:=λe=>h (by rw[e,cv8]);have hy:y≠.no:=λe=>h (by rw[e,cv7]);have⟨⟨r,hr⟩,ih⟩:=al1 hl;rw[hr]at ih⊢
  have e1:∀x e s,jG (RC.many r) x e s↔(x,e,s)∈r:=λx e s=>⟨λh=>by
   rcases h with h|⟨l',h,hm⟩
   .cases h
   .injection h with h;subst h;exact hm,λh=>.inr ⟨r,rfl,h⟩⟩
  cases y with
  |no=>grind
  |one x0 e0 s0=>
   refine⟨⟨_,rfl⟩,λz hz=>?_⟩;rcases lD.1 hz with rfl|hz
   .refine⟨hy,λx e s h=>.inr ⟨_,rfl,?_⟩⟩;rcases h with h|⟨l',h,_⟩
    .grind
    .cases h
   .refine⟨(ih z hz).1,λx e s h=>.inr ⟨_,rfl,?_⟩⟩
    grind
  |many q=>
   refine⟨⟨_,rfl⟩,λz hz=>?_⟩;rcases lD.1 hz with rfl|hz
   .refine⟨hy,λx e s h=>.inr ⟨_,rfl,?_⟩⟩;rcases h with h|⟨l',h,hm⟩
    .cases h
    .grind
   .refine⟨(ih z hz).1,λx e s h=>.inr ⟨_,rfl,?_⟩⟩
    grind
def aF0{r:RC}{k:Ex->Env->St->RC}(h:bC r k≠.no):r≠.no/\∀x e s,jG r x e s->k x e s≠.no/\∀x' e' s',jG (k x e s) x' e' s'->jG (bC r k) x' e' s':=by
 cases r with
 |no=>exact absurd rfl h
 |one x0 e0 s0=>
  refine⟨λh=>(by cases h),λx e s hx=>?_⟩;rcases hx with hx|⟨l,hx,_⟩
  .injection hx with h1 h2 h3;subst h1;subst h2;subst h3;exact⟨h,λ_ _ _ h=>h⟩
  .cases hx
 |many l=>
  refine⟨λh=>(by cases h),λx e s hx=>?_⟩;have h0:bC (.many l) k=sJ (jS (λw=>k w.1 w.2.1 w.2.2) l):=rfl;rw[h0]at h⊢;rcases hx with hx|⟨l',hx,hm⟩
  .cases hx
  .injection hx with hx;subst hx
   refine(al1 h).2 _ ?_;rw[yY]
   grind
def dt4{op:OO}{d:OD}{ih:OL}{up:Runner}(h:ED op d ih up e s≠.no):op.run up e s≠.no/\∀v s',Has (op.run up e s) v s'->ih.run up (d.set v e) s'≠.no/\∀x e' s2,jG (ih.run up (d.set v e) s') x e' s2->jG (ED op d ih up e s) x e' s2:=by
 have h0:ED op d ih up e s=RO.rec (motive:=λ_=>OD->OL->Runner->Env->RC) stN stO stM (op.run up e s) d ih up e:=rfl;rw[h0]at h⊢;generalize op.run up e s=r at h⊢;cases r with
 |no=>exact absurd rfl h
 |one v0 s0=>
  refine⟨λh=>(by cases h),λv s' hv=>?_⟩;rcases hv with hv|⟨l,hv,_⟩
  .injection hv with h1 h2;subst h1;subst h2;exact⟨h,λ_ _ _ h=>h⟩
  .cases hv
 |many l=>
  refine⟨λh=>(by cases h),λv s' hv=>?_⟩;rcases hv with hv|⟨l',hv,hm⟩
  .cases hv
  .injection hv with hv;subst hv
   replace h:sJ (jS (λw=>stO w.1 w.2 d ih up e) l)≠.no:=h;have:=(al1 h).2 (stO v s' d ih up e) (by rw[yY];exact jH.2 ⟨_,hm,rfl⟩);exact this
def cp1:∀{l:List RO},wH l≠.no->∀y∈l,y≠.no/\∀v s,Has y v s->Has (wH l) v s:=by
 have one:∀r v s,Has (RO.many r) v s↔(v,s)∈r:=λr v s=>⟨λh=>by
  rcases h with h|⟨l',h,hm⟩
  .cases h
  .injection h with h;subst h;exact hm,λh=>.inr ⟨r,rfl,h⟩⟩
 have key:∀l:List RO,(List.rec (motive:=λ_=>RO) (.many []) (λy _ ih=>sO y ih) l:RO)≠.no->(∃r,(List.rec (motive:=λ_=>RO) (.many []) (λy _ ih=>sO y ih) l:RO)=.many r)/\
  ∀y∈l,y≠.no/\∀v s,Has y v s->Has (List.rec (motive:=λ_=>RO) (.many []) (λy _ ih=>sO y ih) l) v s:=by
  intro l;induction l with
  |nil=>exact λ_=>⟨⟨[],rfl⟩,λy hy=>by simp at hy⟩
  |cons y l ih=>
   intro h;have h0:(List.rec (motive:=λ_=>RO) (.many []) (λy _ ih=>sO y ih) (y::l):RO)=sO y (List.rec (motive:=λ_=>RO) (.many []) (λy _ ih=>sO y ih) l):=rfl;rw[h0]at h⊢;have hl:(List.rec (motive:=λ_=>RO) (.many []) (λy _ ih=>sO y ih) l:RO)≠.no:=λe=>h (by rw[e];cases y<;>rfl)
   have hy:y≠.no:=λe=>h (by rw[e];generalize (List.rec (motive:=λ_=>RO) (.many []) (λy _ ih=>sO y ih) l:RO)=z;cases z<;>rfl)
   have⟨⟨r,hr⟩,ih⟩:=ih hl;rw[hr]at ih⊢;cases y with
   |no=>grind
   |one v0 s0=>
    refine⟨⟨_,rfl⟩,λz hz=>?_⟩;rcases lD.1 hz with rfl|hz
    .refine⟨hy,λv s h=>.inr ⟨_,rfl,?_⟩⟩;rcases h with h|⟨l',h,_⟩
     .grind
     .cases h
    .exact⟨(ih z hz).1,λv s h=>.inr ⟨_,rfl,RH _ ((one r v s).1 ((ih z hz).2 v s h))⟩⟩
   |many q=>
    refine⟨⟨_,rfl⟩,λz hz=>?_⟩;rcases lD.1 hz with rfl|hz
    .refine⟨hy,λv s h=>.inr ⟨_,rfl,EW _ ((one q v s).1 h)⟩⟩
    .exact⟨(ih z hz).1,λv s h=>.inr ⟨_,rfl,EX _ ((one r v s).1 ((ih z hz).2 v s h))⟩⟩
 intro l h y hy
 match l,h,hy with
 |[z],h,hy=>
  have:y=z:=by grind
  subst this;exact⟨h,λ_ _ h=>h⟩
 |z::z'::r,h,hy=>exact(key _ h).2 y hy
def bR3{r:RC}{k:Ex->Env->St->RO}(h:RC.rec (motive:=λ_=>RO) .no k (λl=>wH (jS (λw=>k w.1 w.2.1 w.2.2) l)) r≠.no):
    r≠.no/\∀x e s,jG r x e s->k x e s≠.no/\∀v s',Has (k x e s) v s'->Has (RC.rec (motive:=λ_=>RO) .no k (λl=>wH (jS (λw=>k w.1 w.2.1 w.2.2) l)) r) v s':=by
 cases r with
 |no=>grind
 |one x0 e0 s0=>
  refine⟨λh=>(by cases h),λx e s hx=>?_⟩;rcases hx with hx|⟨l,hx,_⟩
  .grind
  .cases hx
 |many l=>
  refine⟨λh=>(by cases h),λx e s hx=>?_⟩;rcases hx with hx|⟨l',hx,hm⟩
  .cases hx
  .injection hx with hx;subst hx
   have:=cp1 (l:=jS (λw=>k w.1 w.2.1 w.2.2) l) h (k x e s) (by rw[yY];exact jH.2 ⟨_,hm,rfl⟩);exact this
theorem dm2(d:Nat)(v:AV)(e:Env):lU (some d) v e=yM d v e:=rfl
def aX.put{d:E8}{v:AV}{x:Value}(he:aX ρ e a.tmps)(hd:inRange a.tmps.size d=true)(hx:RV ρ v x):aX ρ (lU d v e) (a.put d x).tmps:=by
 rcases d with _|d
 .exact he
 .intro t y ht;have hlt:d<a.tmps.size:=fA hd;have e1:(a.put (some d) x).tmps=a.tmps.setIfInBounds d x:=rfl;rw[e1];rcases bs3 ht with⟨rfl,rfl⟩|⟨hne,h1⟩
  .grind
  .have⟨z,h2,h3⟩:=he t y h1
   grind
theorem put_defers(a:Act)(d:E8)(x:Value):(a.put d x).defers=a.defers:=by cases d<;>rfl
def VW(a:Act)(d:E8)(x:Value):(a.put d x).tmps.size=a.tmps.size:=by
 rcases d with _|d
 .rfl
 .show(a.tmps.setIfInBounds d x).size=_;simp
def kQ.put{d:E8}{v:AV}{x:Value}{s':St}{ρ':Ren}{w':World}(h:Pre S B m ρ e s a w)(hd:inRange m d=true)(hx':Ext ρ ρ')(hR:Rl S w ρ' s' w')(hro:s'.ro=s.ro)(hnx:s.nx<=s'.nx)(hx:RV ρ' v x):
    kQ S B m ρ s w (lU d v e) s' ρ' (a.put d x) w':=
 ⟨hx',hR,hro,hnx,aX.put (h.env.ext hx') (by rw[h.sz];exact hd) hx,(VW _ _ _).trans h.sz,by rw[put_defers];exact h.dK.kept hR.kept,Y2 h.bw hR.kept.size⟩
def unR:RV ρ un undef:=bf3
def bg5{all:Y4}{o:Oper}{g:Nat×Bool}{q:Bool}(hg:o.guard=some g)(h:uO all e g=some q)(he:aX ρ e a.tmps):Region.wanted o (yielded all.toArray a.tmps)=q:=by
 have⟨oj,h1,h⟩:=U1 h;have⟨d,h2,h⟩:=U1 h;have⟨v,h3,h⟩:=U1 h;rw[BN]at h1;have hd:(all.toArray[g.1]?).bind (·.dst)=some d:=by grind
 have⟨x,h4,h5⟩:=he d v h3;have hgd:a.tmps.getD d undef=x:=by rw[bY,h4];rfl
 have⟨j,want⟩:=g;simp only at h hd;split at h
 .rename_i b;injection h with h
  subst h;have hx:x=.bool b:=by cases h5;rfl
  rw[hx]at hgd;simp only[Region.wanted,hg,aD1 hd hgd];cases b<;>cases want<;>rfl
 .injection h with h
  subst h;have hx:x=undef:=by
   cases h5 with
   |t cs vs h1 h2=>
    have:vs=[]:=mD h1.symm;subst this;rfl
  rw[hx]at hgd;simp[Region.wanted,hg,bi4 hd hgd]
 .cases h
def aW1{up:Runner}(hop:∀o:Oper,cZ P o (jB o.op up)){τ:E8}{all:Y4}{Q:dD}:∀(l:Y4)(ρ:Ren)(e:Env)(s:St)(a:Act)(w:World),IZ m l=true->Pre S B m ρ e s a w->(sQ all l).run up e s≠.no->
    (∀x e' s' ρ' a' w',jG ((sQ all l).run up e s) x e' s'->kQ S B m ρ s w e' s' ρ' a' w'->Q (BK x) a' w')->wpListIn (eU τ) 0 P all.toArray Q l a w
 |[],ρ,e,s,a,w,_,hp,_,hQ=>hQ .n e s ρ a w (.inl rfl) hp
 |o::rest,ρ,e,s,a,w,ho,hp,h,hQ=>by
  have hd:inRange m o.dst=true:=AL ho o (by simp);have hrest:IZ m rest=true:=by
   have h0:IZ m (o::rest)=bq (inRange m o.dst) (IZ m rest) false:=rfl;rw[h0,hd]at ho;exact ho
  have exec:ED (sS o.op) (BD o.dst) (sQ all rest) up e s≠.no->(∀x e' s',jG (ED (sS o.op) (BD o.dst) (sQ all rest) up e s) x e' s'->jG ((sQ all (o::rest)).run up e s) x e' s')->
   Region.wanted o (yielded all.toArray a.tmps)=true->wpListIn (eU τ) 0 P all.toArray Q (o::rest) a w:=by
   intro h hin hw;unfold wpListIn;rw[I9 hw];have⟨h1,h2⟩:=dt4 h;refine hop o S w ρ e s a w _ _ h1 hp.env hp.rl (λv s' ρ' x w' hv hx hR hro hnx jD=>?_) τ;have⟨h3,h4⟩:=h2 v s' hv;have hp':=kQ.put hp hd hx hR hro hnx jD;exact aW1 hop rest ρ' _ s' _ w' hrest hp'.pre h3 λx e' s2 ρ2 a2 w2 hh hq=>hQ x e' s2 ρ2 a2 w2 (hin _ _ _ (h4 _ _ _ hh)) (hp'.trans hq)
  rcases hg:o.guard with _|g
  .have e0:(sQ all (o::rest)).run=ED (sS o.op) (BD o.dst) (sQ all rest):=by
    show(Option.rec (motive:=λ_=>OL) _ _ o.guard:OL).run=_;rw[hg];rfl
   refine exec (by rw[<-e0];exact h) (λ_ _ _ h=>by rw[e0];exact h) (by simp[Region.wanted,hg])
  .have e0:(sQ all (o::rest)).run=bw1 all g (sS o.op) (BD o.dst) (sQ all rest):=by
    show(Option.rec (motive:=λ_=>OL) _ _ o.guard:OL).run=_;rw[hg];rfl
   have e1:∀q,uO all e g=some q->(sQ all (o::rest)).run up e s=bq q (ED (sS o.op) (BD o.dst) (sQ all rest) up e s) ((sQ all rest).run up ((BD o.dst).set un e) s):=λq hq=>by
    rw[e0];show(Option.rec (motive:=λ_=>RC) _ _ (uO all e g):RC)=_;rw[hq]
    try rfl
   rcases hq:uO all e g with _|q
   .exfalso;apply h;rw[e0];show(Option.rec (motive:=λ_=>RC) _ _ (uO all e g):RC)=_;rw[hq]
    try rfl
   .have hw:=bg5 hg hq hp.env;have e2:=e1 q hq;rcases q with _|_
    .rw[e2]at h hQ;unfold wpListIn;rw[H7 (by simp[hw])];have hp':=kQ.put (v:=un) (x:=undef) hp hd (Ext.refl _) hp.rl rfl (N8 _) unR;exact⟨λ_ _=>trivial,aW1 hop rest ρ _ s _ w hrest hp'.pre h λx e' s2 ρ2 a2 w2 hh hq=>hQ x e' s2 ρ2 a2 w2 hh (hp'.trans hq)⟩
    .exact exec (by rw[e2]at h;exact h) (λ_ _ _ h=>by rw[e2];exact h) hw
end
def aD5(P:Program)(f:FuncId)(args:J7)(s:St)(r:RO):Prop:=r≠.no->rZ P f/\∀(S:U2)(ρ:Ren)(vs:H6)(w:World),O5 ρ args vs->Rl S w ρ s w->
 Calls P f vs.toArray w λen w'=>∃v s' ρ' x,en=.returned x/\Has r v s'/\Ext ρ ρ'/\Rl S w ρ' s' w'/\s'.ro=s.ro/\s.nx<=s'.nx/\RV ρ' v x
structure qO(P:Program):Prop where
 ty:∀t i,I7 t=some i->O6 P t i
 sk:∀t,WL t=true->P.stoodInHeld t=false
 YG:∀n,2<=n->liesAt P P.depth mM (n/P.cellsOf mM) 0 am1 1=true
 mixed:P.follows .mixedOrders=true
 fn:∀f F,GH f=some F->P.funcs[f]?=some F/\(F.name== "runtime.NumGoroutine")=false/\aL1 F=true
 ext:∀f g,aJ8 f=some g->rZ P f/\∀(ρ:Ren)(args:List AV)(v:AV)(vs:List Value)(w:World),g args=some v->O5 ρ args vs->GE w->Calls P f vs.toArray w λen w'=>∃x,en=.returned x/\RV ρ v x/\Below w.heap.size w w'
 bt3:∀f g,aK1 f=some g->∀(ρ:Ren)(args:List AV)(v:AV)(vs:List Value)(w:World),g args=some v->O5 ρ args vs->GE w->∃x,(callFunc f vs.toArray).run P w=.ok (.value x) w/\RV ρ v x
section
variable{P:Program}{S:U2}{w0:World}{ρ:Ren}{e:Env}{s:St}{a:Act}{w:World}{B m:Nat}
def X7.aT8{b:Nat}{o:AO}{L:Loc}(h:X7 ρ w b o)(hL:ρ b=some L):w.heap[L.blk]?≠some lM:=by
 intro hd;cases o with
 |c el cs=>
  obtain⟨L',arr,h1,h2,h3,_⟩:=h;rw[hL]at h1;injection h1 with h1;subst h1;rw[h3]at hd;exact nomatch hd
 |m es=>
  obtain⟨L',arr,h1,h2,_⟩:=h;rw[hL]at h1;injection h1 with h1;subst h1;rw[h2]at hd;exact nomatch hd
 |l q e ps aW body j=>
  obtain⟨L',R,h1,h2,_⟩:=h;rw[hL]at h1;injection h1 with h1;subst h1;rw[h2]at hd;exact nomatch hd
 |si l pos=>
  obtain⟨L',b',h1,h2,_⟩:=h;rw[hL]at h1;injection h1 with h1;subst h1;rw[h2]at hd;exact nomatch hd
 |mi m' seen n=>
  obtain⟨L',M,h1,h2,h3,_⟩:=h;rw[hL]at h1;injection h1 with h1;subst h1;rw[h3]at hd;exact nomatch hd
def Rl.shut(hR:Rl S w0 ρ s w){r:Nat}(hD:w.heap[r]?=some lM)(hB:w0.heap.size<=r):Rl S w0 ρ s (w.putObj r (.deferred none)):=by
 have hoth:∀k,k≠r->(w.putObj r (.deferred none)).heap[k]?=w.heap[k]?:=λk hk=>jA hk
 refine{ hR with
  kept:=⟨hR.kept.os,hR.kept.tape,hR.kept.output,by simpa using hR.kept.size,λk hk=>(hoth k (λe=>by have:=hR.slt k hk;omega)).trans (hR.kept.block k hk),
   λk hk=>(hoth k (λe=>by have:=(X6.1 hk).1;omega)).trans (hR.kept.dK k hk)⟩
  obj:=λb o hb=>(hR.obj b o hb).world λL hL=>hoth _ λe=>?_ }
 exact(hR.obj b o hb).aT8 hL (e▸hD)
def bt2{fn:Func}{R:Ending->World->Prop}{tm:S9}:∀(ds:List Deferred)(w:World),lZ w0.heap.size w ds->Rl S w0 ρ s w->
    (∀w',Rl S w0 ρ s w'->LeavesIn (eU none) 0 P fn tm R [] .returning w')->LeavesInM (eU none) 0 P fn tm R ds .returning w
 |[],w,_,hR,h=>h w hR
 |d::ds,w,⟨⟨r,hr,hD,hB,hne⟩,hds⟩,hR,h=>⟨λe=>(nomatch e),.inl ⟨r,_,by rw[hr],run_takeDeferred hD,bt2 ds _ (lZ.put hne hds) (hR.shut hD hB) h⟩⟩
def bS9(hT:∀t i,I7 t=some i->O6 P t i)(hR:Rl S w0 ρ s w)(he:aX ρ e a.tmps){rv:ResultVar}{v:AV}(h:aw4 e s rv=some v):∃x,(rJ a rv).run P w=.ok x w/\RV ρ v x:=by
 cases rv with
 |tmp t=>
  obtain⟨x,h1,h2⟩:=he t v h;exact⟨x,by simp[rJ,bY,h1],h2⟩
 |cell y t=>
  unfold aw4 at h;simp only at h;split at h
  .rename_i b o hy;obtain⟨wv,h1,h2⟩:=U1 h;unfold aw9 at h1;split at h1
   .rename_i el cs hb;injection h1 with h1
    subst h1;obtain⟨x,h3,h4⟩:=he y _ hy;obtain⟨L,g1,rfl⟩:=vU h4;obtain⟨L',arr,q1,q2,q3,q4,q5⟩:=hR.cells hb;rw[g1]at q1;injection q1 with q1
    subst q1;obtain⟨z,k1,k2⟩:=bV0 (P:=P) hT q3 q5 h2;refine⟨z,?_,k2⟩;simp only[Instr.loadAt,Instr.sureAddr,J6,U5,O8]at k1;simp only[rJ,bY,h3,Option.getD_some,asAddr,J6,U5,O8,k1]
   .cases h1
  .cases h
def bS7(hT:∀t i,I7 t=some i->O6 P t i)(hR:Rl S w0 ρ s w)(he:aX ρ e a.tmps):∀{rs:sH}{r:J7},bS6 rs e s=some r->
    ∃vs,(rs.mapM λrv=>rJ a rv).run P w=.ok vs w/\O5 ρ r vs/\vs.length=rs.length
 |[],r,h=>by cases h;exact⟨[],by simp,O5.nil _,rfl⟩
 |rv::rs,r,h=>by
  obtain⟨v,h1,h2⟩:=U1 h;obtain⟨r',h3,h4⟩:=U1 h2;injection h4 with h4
  subst h4;obtain⟨x,h5,h6⟩:=bS9 hT hR he h1;obtain⟨vs,h7,h8,h9⟩:=bS7 hT hR he h3;exact⟨x::vs,by simp only[List.mapM_cons,J6,h5,O8,h7,U5],O5.cons h6 h8,by simp[h9]⟩
def ae6(hT:∀t i,I7 t=some i->O6 P t i)(hR:Rl S w0 ρ s w)(he:aX ρ e a.tmps){fn:Func}{v:AV}(h:kJ e s fn.results.toList=some v):∃x,(results fn a.tmps).run P w=.ok x w/\RV ρ v x:=by
 unfold kJ at h;split at h
 .rename_i rv hrs;obtain⟨x,h1,h2⟩:=bS9 hT hR he h;exact⟨x,WC hrs h1,h2⟩
 .rename_i l hne;obtain⟨r,h1,h2⟩:=U1 h;injection h2 with h2
  subst h2;obtain⟨vs,h3,h4,h5⟩:=bS7 hT hR he h1;refine⟨_,aZ5 h3 (λe1=>?_),.t _ _ h4.1 h4.2⟩;rw[h5]at e1;obtain⟨rv,jD⟩:=List.length_eq_one_iff.1 e1
  grind
def bl9:∀{args:J7}{vs:H6}(i:Nat)(e:Env)(tm:S9),O5 ρ args vs->aX ρ e tm->(∀(j:Nat)(x:Value),vs[j]?=some x->tm[i+j]?=some x)->
    aX ρ ((List.rec (motive:=λ_=>Nat->Env->Env) (λ_ e=>e) (λx _ ih i e=>ih (Nat.succ i) (yM i x e)) args:Nat->Env->Env) i e) tm
 |[],vs,i,e,tm,_,he,_=>he
 |v::args,vs,i,e,tm,hv,he,ht=>by
  match vs,hv with
  |[],hv=>have:=hv.1;simp at this
  |x::vs,hv=>
   have h0:RV ρ v x:=hv.2 0 v x rfl rfl;have hs:O5 ρ args vs:=⟨by have:=hv.1;simpa using this,λj c y h1 h2=>hv.2 (j+1) c y (by simpa using h1) (by simpa using h2)⟩;refine bl9 (i+1) (yM i v e) tm hs (λt y hy=>?_) λj y hy=>?_
   .rcases bs3 hy with⟨rfl,rfl⟩|⟨_,h1⟩
    .exact⟨x,ht 0 x rfl,h0⟩
    .exact he t y h1
   .have:=ht (j+1) y (by simpa using hy)
    grind
def bn3(hP:qO P){up:Runner}(hup:wG P up){f:FuncId}{F:Func}{c:Code}(hF:GH f=some F)(hc:F.body=some c){args:J7}{vs:H6}(hl:args.length<=F.ntmps)(hv:O5 ρ args vs)(hR:Rl S w ρ s w)
    (hne:up c (KY args) s≠.no) {R:Ending->World->Prop}
    (hend:∀(x:Ex)(e':Env)(s':St)(ρ':Ren)(a':Act)(w':World),jG (up c (KY args) s) x e' s'->Ext ρ ρ'->Rl S w ρ' s' w'->s'.ro=s.ro->s.nx<=s'.nx->aX ρ' e' a'.tmps->(∀id,x≠.x id)/\∃v,(results F a'.tmps).run P w'=.ok v w'/\R (.returned v) w'):Calls P f vs.toArray w R:=by
 obtain⟨hf,hnm,hok⟩:=hP.fn f F hF;have hok:codeOk F.ntmps c=true:=by unfold aL1 at hok;rw[hc]at hok;exact hok
 have hvl:vs.length<=F.ntmps:=by rw[<-hv.1];exact hl
 have hpre:Pre S w.heap.size F.ntmps ρ (KY args) s { tmps:=vs.toArray++Array.replicate (F.ntmps-vs.toArray.size) undef,defers:=[] } w:=
  ⟨Ext.refl _,hR,rfl,N8 _,bl9 0 zeroE _ hv (λt y hy=>by rw[dI1]at hy;cases hy) (λj x hj=>by
    have hlt:=(P7.1 hj).1;simp only[X9];rw[QX (by simpa using hlt)]
    simpa using hj),by simp;omega,trivial,N8 _⟩
 refine SE.1 (callsIn_of_wp_marks (F:=eU none) (n:=0) hf hc trivial ?_);refine hup c F.ntmps hok none (.inl rfl) S w.heap.size ρ (KY args) s _ w _ hpre hne λx e' s' ρ' a' w' hh hp=>?_;have fin:(∀id,x≠.x id)->LeavesInM (eU none) 0 P F a'.tmps R a'.defers .returning w':=λ_=>
  bt2 a'.defers w' hp.dK hp.rl λw2 hR2=>(hend x e' s' ρ' a' w2 hh hp.ext hR2 hp.ro hp.nx hp.env).2
 have hx:=(hend x e' s' ρ' a' w' hh hp.ext hp.rl hp.ro hp.nx hp.env).1;cases x with
 |n=>exact fin hx
 |r=>exact fin hx
 |x id=>grind
def cu3(hP:qO P){up:Runner}(hup:wG P up){f:FuncId}{F:Func}(hF:GH f=some F)(args:J7)(s:St):aD5 P f args s (SB up F args s):=by
 intro h;unfold SB at h⊢;have h1:=Z7 h;rw[h1,Z8]at h⊢;have h1:=I8 h1;rw[kE]at h1;obtain⟨c,h2,h3⟩:=L6 h;rw[h3]at h⊢;clear h3;obtain⟨h4,h5⟩:=bR3 h;generalize (RC.rec (motive:=λ_=>RO) .no (ZG F.results.toList) (λl=>wH (jS (λw=>ZG F.results.toList w.1 w.2.1 w.2.2) l)) (up c (KY args) s):RO)=RR at h h5⊢;obtain⟨hf,hnm,_⟩:=hP.fn f F hF;refine⟨⟨F,hf,hnm,by rw[h2];rfl⟩,λS ρ vs w hv hR=>?_⟩;refine bn3 hP hup hF h2 h1 hv hR h4 λx e' s' ρ' a' w' hh hx hR' hro hnx he=>?_;obtain⟨h6,h7⟩:=h5 x e' s' hh;have res:oR (kJ e' s' F.results.toList) (λa=>RO.one a s')≠.no->(∀v s'',Has (oR (kJ e' s' F.results.toList) λa=>RO.one a s') v s''->Has (ZG F.results.toList x e' s') v s'')->
  ∃v,(results F a'.tmps).run P w'=.ok v w'/\∃v' s'' ρ' x,Ending.returned v=.returned x/\Has RR v' s''/\Ext ρ ρ'/\Rl S w ρ' s'' w'/\s''.ro=s.ro/\s.nx<=s''.nx/\RV ρ' v' x:=by
  intro g1 g2;obtain⟨u,g3,g4⟩:=L6 g1;obtain⟨y,g5,g6⟩:=ae6 hP.ty hR' he g3;exact⟨y,g5,u,s',ρ',y,rfl,h7 u s' (g2 u s' (.inl g4)),hx,hR',hro,hnx,g6⟩
 cases x with
 |n=>exact⟨λid e=>(by cases e),res h6 λ_ _ h=>h⟩
 |r=>exact⟨λid e=>(by cases e),res h6 λ_ _ h=>h⟩
 |x id=>exact absurd rfl h6
def bW2{v:AV}{x:Value}{ρ':Ren}(h:ag9 v=true)(hx:RV ρ v x):RV ρ' v x:=by
 cases hx<;>first|(simp[ag9]at h;done)|constructor
def aE8{a b:AV}(h:RX a b=true):a=b:=by
 unfold RX at h;split at h
 .rename_i k n j m;rw[Y8]at h;split at h
  .rename_i hk;rw[vO hk,G5 h]
  .cases h
 .rename_i k n j m;rw[Y8]at h;split at h
  .rename_i hk;rw[vO hk,G5 h]
  .cases h
 .rename_i p q;cases p<;>cases q<;>first|rfl|cases h
 .rename_i l m;rw[bs8]at h;rw[iR h]
 all_goals first|rfl|cases h
def bm3:∀{l m:J7},al5 l m=true->l=m
 |[],[],_=>rfl
 |[],_::_,h=>by cases h
 |_::_,[],h=>by cases h
 |x::l,y::m,h=>by
  have h0:al5 (x::l) (y::m)=bq (RX x y) (al5 l m) false:=rfl;rw[h0,Y8]at h;split at h
  .rename_i hx;rw[aE8 hx,bm3 h]
  .cases h
def cw7{a b:CI}(h:an8 a b=true):a=b:=by
 unfold an8 at h;split at h
 .rw[aE8 h]
 .rw[Y8]at h;split at h
  .rename_i h1;rw[Y8]at h;split at h
   .rename_i h2;rw[G5 h1,G5 h2,bm3 h]
   .cases h
  .cases h
 .cases h
def bq4:∀{l m:A},YM l m=true->l=m
 |[],[],_=>rfl
 |[],_::_,h=>by cases h
 |_::_,[],h=>by cases h
 |x::l,y::m,h=>by
  have h0:YM (x::l) (y::m)=bq (an8 x y) (YM l m) false:=rfl;rw[h0,Y8]at h;split at h
  .rename_i hx;rw[cw7 hx,bq4 h]
  .cases h
def cR9{rs:sH}{rc:RC}{r:A}(h:bC8 rs rc=some r):rc≠.no/\∀x e s,jG rc x e s->MH rs x e s=some r:=by
 cases rc with
 |no=>cases h
 |one x0 e0 s0=>
  refine⟨λh=>(by cases h),λx e s hx=>?_⟩;rcases hx with hx|⟨l,hx,_⟩
  .injection hx with h1 h2 h3;subst h1;subst h2;subst h3;exact h
  .cases hx
 |many l=>
  refine⟨λh=>(by cases h),λx e s hx=>?_⟩;rcases hx with hx|⟨l',hx,hm⟩
  .cases hx
  .injection hx with hx
   subst hx;replace h:(match jS (λw:Ex×Env×St=>MH rs w.1 w.2.1 w.2.2) l with|[]=>none|x::r=>oB x λa=>ag8 a r)=some r:=h;rw[yY]at h;have same:∀(a:A)(q:List (Option A))(b:A),ag8 a q=some b->a=b/\∀y∈q,y=some a:=by
    intro a q;induction q with
    |nil=>intro b h;cases h;exact⟨rfl,λy hy=>by simp at hy⟩
    |cons y q ih=>
     intro b h;obtain⟨c,h1,h2⟩:=U1 (show oB y (λb=>bq (YM a b) (ag8 a q) none)=some b from h);rw[Y8]at h2;split at h2
     .rename_i hc;have:=bq4 hc
      grind
     .cases h2
   have hmem:MH rs x e s∈l.map λw:Ex×Env×St=>MH rs w.1 w.2.1 w.2.2:=jH.2 ⟨_,hm,rfl⟩;revert h hmem;generalize (l.map λw:Ex×Env×St=>MH rs w.1 w.2.1 w.2.2)=q;intro h hmem
   match q,h,hmem with
   |y::q,h,hmem=>
    obtain⟨c,h1,h2⟩:=U1 (show oB y (λa=>ag8 a q)=some r from h)
    grind
def aR7(hT:∀t i,I7 t=some i->O6 P t i){S':U2}{ρ':Ren}{s':St}{w2:World}(hro:∀b o L,s.h.get (pa b)=some o->ρ b=some L->S' L.blk)(hsub:∀k,S k->S' k)(hR':Rl S' w0 ρ' s' w2){K:J7->St->RO}:
    ∀(cs:J7)(xs:H6)(r:A)(s1:St)(ρ1:Ren)(acc:J7)(KX:H6),ao0 cs s'=some r->O5 ρ' cs xs->Rl S w0 ρ1 s1 w2->Ext ρ ρ1->s.nx<=s1.nx->s1.ro=s.ro->O5 ρ1 acc KX->
     (bM2 r=true/\s1=s/\ρ1=ρ\/allB (λc=>bq (ar5 c) false true) r=true)->
     ∃vs sF ρF,CS r s1 acc K=K vs sF/\Ext ρ ρF/\Rl S w0 ρF sF w2/\sF.ro=s.ro/\s.nx<=sF.nx/\O5 ρF vs (KX++xs)
 |[],xs,r,s1,ρ1,acc,KX,hc,hx,hR,hx1,hnx,hr1,hacc,_=>by
  cases hc
  match xs,hx with
  |[],_=>exact⟨acc,s1,ρ1,rfl,hx1,hR,hr1,hnx,by simpa using hacc⟩
  |_::_,hx=>have:=hx.1;simp at this
 |c::cs,xs,r,s1,ρ1,acc,KX,hc,hx,hR,hx1,hnx,hr1,hacc,hone=>by
  obtain⟨ci,h1,h2⟩:=U1 hc;obtain⟨r',h3,h4⟩:=U1 h2;injection h4 with h4
  subst h4
  match xs,hx with
  |[],hx=>have:=hx.1;simp at this
  |x::xs,hx=>
   have hx0:RV ρ' c x:=hx.2 0 c x rfl rfl;have hxs:O5 ρ' cs xs:=⟨by have:=hx.1;simpa using this,λj u y g1 g2=>hx.2 (j+1) u y (by simpa using g1) (by simpa using g2)⟩;have dU4:∀v,v=c->ag9 v=true->ci=.v v->∃vs sF ρF,CS (ci::r') s1 acc K=K vs sF/\Ext ρ ρF/\Rl S w0 ρF sF w2/\sF.ro=s.ro/\s.nx<=sF.nx/\O5 ρF vs (KX++x::xs):=by
    intro v hv hs hci;subst hv;subst hci;have h0:CS (.v v::r') s1 acc K=CS r' s1 (fV acc [v]) K:=rfl;rw[h0,qU];obtain⟨vs,sF,ρF,g1,g2⟩:=aR7 hT hro hsub hR' cs xs r' s1 ρ1 (acc++[v]) (KX++[x]) h3 hxs hR hx1 hnx hr1 (hacc.append (O5.cons (bW2 hs hx0) (O5.nil _))) (hone.imp (λ⟨a1,a2⟩=>⟨a1,a2⟩) λa1=>a1);exact⟨vs,sF,ρF,g1,by simpa using g2⟩
   unfold bp4 at h1;split at h1
   .rename_i b o l cp _;obtain⟨k1,h1⟩:=nK h1;obtain⟨wr,k2,h1⟩:=U1 h1;obtain⟨k3,h1⟩:=nK h1;obtain⟨z,k4,h1⟩:=U1 h1;obtain⟨k5,h1⟩:=nK h1;obtain⟨ds,k6,h1⟩:=U1 h1;obtain⟨k7,h1⟩:=nK h1;injection h1 with h1
    subst h1;have k1:=I8 k1;unfold aw9 at k2;split at k2
    rotate_left
    .cases k2
    rename_i el row hb;injection k2 with k2
    subst k2;simp only at k3 k4 k5 k6;have hbl:el≠mM:=λe1=>by rw[e1]at k3;simp[Nat.beq_refl]at k3
    obtain⟨i,k8,k9⟩:=U1 k4;injection k9 with k9
    subst k9;obtain⟨cap,off,L,hL,rfl,hl,hck,hoff,hbd⟩:=zD hx0;obtain⟨L',arr,q1,q2,q3,q4,q5⟩:=hR'.cells hb;rw[hL]at q1;injection q1 with q1
    subst q1;have hst:s=s1/\ρ=ρ1/\allB (λc=>bq (ar5 c) false true) r'=true:=by
     rcases hone with⟨a1,a2,a3⟩|a1
     .exact⟨a2.symm,a3.symm,a1⟩
     .cases a1
    obtain⟨rfl,rfl,hrest⟩:=hst;have hfit:∃i,I7 el=some i/\off+cap*i.size<=arr.size:=by
     refine⟨i,k8,?_⟩;cases cp with
     |none=>grind
     |some c0=>
      have hc0:=hck c0 rfl;subst hc0;unfold bo7 at k5;simp only[Y8]at k5;split at k5
      .rename_i k10;have k10:=I8 k10;have k5:=I8 k5;replace k10:1<=cap*i.size:=k10;replace k5:o+cap*i.size<=dM row:=k5;rw[kE]at k5;have hcap:cap≠0:=λe1=>by grind
       rw[hoff.resolve_right hcap];obtain⟨_,y,hy,_⟩:=q5 (o+cap*i.size-1) _ (J9 (by omega))
       grind
      .cases k5
    obtain⟨d1,d2⟩:=q5.take k6;have bz2:¬S' L.blk:=hR'.own b _ L hb hL k1;have hne:∀c o M,s.h.get (pa c)=some o->ρ c=some M->M.blk≠L.blk:=λc o M hc hM e1=>bz2 (e1▸hro c o M hc hM);have hx':Ext ρ (bH ρ s.nx ⟨L.blk,off,el,arr.size⟩):=JC hR.fresh _;have hRn:=hR.new (w':=w2) (o:=.c el ds) (L:=⟨L.blk,off,el,arr.size⟩) (Kept.refl _ _) (λ_ _ _ _ _=>rfl) (λhk=>bz2 (hsub _ hk)) hne
     ⟨_,arr,kH _ _,rfl,q3,rfl,λj u hj=>by
       have hlt:j<l*i.size:=by grind
       have hcap:cap≠0:=λe1=>by grind
       obtain⟨g1,y,g2,g3⟩:=d2 j u hj;have hsc:=AL k7 u (iZ hj);refine⟨g1,y,?_,bW2 hsc g3⟩;rw[hoff.resolve_right hcap];simp only at g2⊢
       rw[<-g2];congr 1;omega⟩ (λcs e1=>absurd (by injection e1) hbl)
    have jD:RV (bH ρ s.nx ⟨L.blk,off,el,arr.size⟩) (.s s.nx 0 l none) (.slice (some ⟨L.blk,off,none⟩) l cap):=
     .s _ _ _ cap off none ⟨L.blk,off,el,arr.size⟩ (kH _ _) hl (λk hk=>by cases hk) (.inl (by simp)) λ_=>hfit
    have h0:CS (.s el l ds::r') s acc K=CS r' ⟨s.h.set (pa s.nx) (some (.c el ds)),s.nx+1,s.ro⟩ (fV acc [.s s.nx 0 l none]) K:=by
     show(RO.rec (motive:=λ_=>RO) .no (λa s=>CS r' s (fV acc [a]) K) (λ_=>.no) (oN (.c el ds) (λb=>.s b 0 l none) s):RO)=_;rw[CY]
    rw[h0,qU];obtain⟨vs,sF,ρF,g1,g2,g3,g4,g5,g6⟩:=aR7 hT hro hsub hR' cs xs r' ⟨s.h.set (pa s.nx) (some (.c el ds)),s.nx+1,s.ro⟩ _ (acc++[.s s.nx 0 l none]) (KX++[.slice (some ⟨L.blk,off,none⟩) l cap]) h3 hxs hRn hx' (Nat.le_succ _) rfl
     ((hacc.ext hx').append (O5.cons jD (O5.nil _))) (.inr hrest)
    exact⟨vs,sF,ρF,g1,g2,g3,g4,g5,by simpa using g6⟩
   .obtain⟨h5,h6⟩:=nK h1
    grind
def cS0(hP:qO P){up:Runner}(hup:wG P up){f:FuncId}{F:Func}(hF:GH f=some F)(args:J7)(s:St):aD5 P f args s (TW up F args s):=by
 intro h;unfold TW at h⊢;have h1:=Z7 h;rw[h1,Z8]at h⊢;have h1:=I8 h1;rw[kE]at h1;obtain⟨c,h2,h3⟩:=L6 h;rw[h3]at h⊢;clear h3;obtain⟨r,h4,h5⟩:=L6 h;rw[h5]at h⊢;clear h5;have h6:=Z7 h;rw[h6,Z8]at h⊢;obtain⟨h7,h8⟩:=cR9 h4;obtain⟨hf,hnm,_⟩:=hP.fn f F hF;refine⟨⟨F,hf,hnm,by rw[h2];rfl⟩,λS ρ vs w hv hR=>?_⟩;have dT2:(af9 s).nx=s.nx/\(af9 s).h=s.h/\(af9 s).ro=s.nx:=⟨rfl,rfl,rfl⟩
 let S':Nat->Prop:=λk=>S k\/∃b o L,s.h.get (pa b)=some o/\ρ b=some L/\L.blk=k
 have hRo:Rl S' w ρ (af9 s) w:=
  { kept:=Kept.refl _ _
    slt:=λk hk=>by
     rcases hk with hk|⟨b,o,L,g1,g2,g3⟩
     .exact hR.slt k hk
     .obtain⟨M,g4,g5⟩:=(hR.obj b o g1).loc
      grind
    gs:=λw' h=>hR.gs w' (h.mono λk hk=>.inl hk)
    fresh:=hR.fresh
    oO:=N8 _
    obj:=hR.obj
    own:=λb o L hb hL hr=>by
     have:=hR.lt hb
     grind
    lJ:=hR.lJ
    inj:=hR.inj }
 refine bn3 hP hup hF h2 h1 hv hRo h7 λx e' s' ρ' a' w' hh hx hR' hro hnx he=>?_;have hend:=h8 x e' s' hh;have res:oB (kJ e' s' F.results.toList) (λa=>aG8 (DJ F.results.toList) a s')=some r->∃v,(results F a'.tmps).run P w'=.ok v w'/\
  ∃v' s'' ρ' x,Ending.returned v=.returned x/\Has (bE6 (DJ F.results.toList) r s) v' s''/\Ext ρ ρ'/\Rl S w ρ' s'' w'/\s''.ro=s.ro/\s.nx<=s''.nx/\RV ρ' v' x:=by
  intro g1;obtain⟨u,g2,g3⟩:=U1 g1;obtain⟨y,g4,g5⟩:=ae6 hP.ty hR' he g2;have hkept:Kept S w w':=⟨hR'.kept.os,hR'.kept.tape,hR'.kept.output,hR'.kept.size,λk hk=>hR'.kept.block k (.inl hk),hR'.kept.dK⟩;have hRs:Rl S w ρ s w':=hR.world hkept λb o L hb hL=>hR'.kept.block _ (.inr ⟨b,o,L,hb,hL,rfl⟩)
  have lay:∀(cs:J7)(xs:H6),ao0 cs s'=some r->O5 ρ' cs xs->∃vs sF ρF,CS r s [] (λr s=>match DJ F.results.toList,r with
   |true,[a]=>RO.one a s
   |false,r=>.one (.t r) s
   |_,_=>.no)=(match DJ F.results.toList,vs with
   |true,[a]=>RO.one a sF
   |false,r=>.one (.t r) sF
   |_,_=>.no)/\Ext ρ ρF/\Rl S w ρF sF w'/\sF.ro=s.ro/\s.nx<=sF.nx/\O5 ρF vs xs:=by
   intro cs xs q1 q2
   have:=aR7 (s:=s) (ρ:=ρ) (S:=S) (w0:=w) hP.ty (S':=S') (λb o L hb hL=>.inr ⟨b,o,L,hb,hL,rfl⟩) (λk hk=>.inl hk) hR' (K:=λr s=>match DJ F.results.toList,r with
    |true,[a]=>RO.one a s
    |false,r=>.one (.t r) s
    |_,_=>.no) cs xs r s ρ [] [] q1 q2 hRs (Ext.refl _) (N8 _) rfl (O5.nil _) (.inl ⟨h6,rfl,rfl⟩)
   grind
  refine⟨y,g4,?_⟩;cases hone:DJ F.results.toList with
  |true=>
   rw[hone]at g3 lay;obtain⟨vs',sF,ρF,k1,k2,k3,k4,k5,k6⟩:=lay [u] [y] g3 (O5.cons g5 (O5.nil _))
   match vs',k6,k1 with
   |[v'],k6,k1=>exact⟨v',sF,ρF,y,rfl,.inl k1,k2,k3,k4,k5,k6.2 0 v' y rfl rfl⟩
   |[],k6,_=>have:=k6.1;simp at this
   |_::_::_,k6,_=>have:=k6.1;simp at this
  |false=>
   rw[hone]at g3 lay;cases u with
   |t cs=>
    obtain⟨xs,rfl,q2⟩:=bV6 g5;obtain⟨vs',sF,ρF,k1,k2,k3,k4,k5,k6⟩:=lay cs xs g3 q2;exact⟨.t vs',sF,ρF,_,rfl,.inl k1,k2,k3,k4,k5,.t _ _ k6.1 k6.2⟩
   |_=>cases g3
 cases x with
 |n=>exact⟨λid e=>(by cases e),res hend⟩
 |r=>exact⟨λid e=>(by cases e),res hend⟩
 |x id=>cases hend
def aG4(hP:qO P){up:Runner}(hup:wG P up)(f:FuncId)(args:J7)(s:St):aD5 P f args s (AZ up f args s):=by
 intro h;unfold AZ at h⊢;cases he:aJ8 f with
 |some g=>
  rw[he]at h;obtain⟨v,h1,h2⟩:=L6 (show oR (g args) (λa=>RO.one a s)≠.no from h);obtain⟨hb,hx⟩:=hP.ext f g he;refine⟨hb,λS ρ vs w hv hR=>(hx ρ args v vs w h1 hv (hR.gs w hR.kept)).mono ?_⟩;rintro en w' ⟨x,rfl,jD,hbel⟩;refine⟨v,s,ρ,x,rfl,.inl h2,Ext.refl _,hR.world (.of_below hbel hR.slt) λb o L hb hL=>?_,rfl,N8 _,jD⟩;obtain⟨M,g1,g2⟩:=(hR.obj b o hb).loc;rw[hL]at g1;injection g1 with g1;subst g1
  exact hbel.block _ g2
 |none=>
  rw[he]at h;obtain⟨F,h1,h2⟩:=L6 (show oR (GH f) (λF=>bq (ab2 f) (TW up F args s) (SB up F args s))≠.no from h);have h3:oR (GH f) (λF=>bq (ab2 f) (TW up F args s) (SB up F args s))≠.no:=h;rw[h2]at h3;show rZ P f/\∀(S:U2)(ρ:Ren)(vs:H6)(w:World),O5 ρ args vs->Rl S w ρ s w->Calls P f vs.toArray w λen w'=>∃v s' ρ' x,en=.returned x/\Has (oR (GH f) λF=>bq (ab2 f) (TW up F args s) (SB up F args s)) v s'/\Ext ρ ρ'/\Rl S w ρ' s' w'/\s'.ro=s.ro/\s.nx<=s'.nx/\RV ρ' v x;rw[h2];cases hj:ab2 f with
  |true=>rw[hj]at h3;exact cS0 hP hup h1 args s h3
  |false=>rw[hj]at h3;exact cu3 hP hup h1 args s h3
end
end
end Go.Ev
