import Derived.Test.YtibiibjbmhckgaaGreatDoorP3
import Derived.Maps.RangeRun
import Derived.Deep.AppendSrc
set_option linter.unusedVariables false
set_option linter.unusedSimpArgs false
section
namespace Go.Ev
open Go Go.F6
noncomputable section
def allB{α:Type}(f:α->Bool)(l:List α):Bool:=List.rec (motive:=λ_=>Bool) true (λx _ ih=>bq (f x) ih false) l
abbrev aZ:=Env->St->RO
def partT(t:Nat)(cs:List AV)(o:Nat):Option AV:=oB (ch2 H8 t) λg=>bq g (oB (sizeT H8 t) λn=>oB (rD n (oL o cs)) λl=>some (.g l)) (yQ cs o)
def gI(s:St)(b:Nat)(k:Nat->List AV->RO):RO:=oR (s.1.get (pa b)) λo=>a97 o k
def mM(o:AO)(mk:Nat->AV)(s:St):RO:=St.rec (motive:=λ_=>RO) (λh nx ro=>fN nx λnx=>.one (mk nx) ⟨h.set (pa nx) (some o),Nat.succ nx,ro⟩) s
def setH(s:St)(b:Nat)(x:Option AO)(K:St->RO):RO:=St.rec (motive:=λ_=>RO) (λh nx ro=>bR (Nat.ble ro b) (K ⟨h.set (pa b) x,nx,ro⟩)) s
def ZG(b o:Nat)(s:St):RO:=fN o λo=>.one (.p b o) s
def ZE(k:IntKind)(n:Nat)(s:St):RO:=fN n λn=>.one (.n k n) s
def zQ(x:Operand):aZ:=λe s=>oR (look x e) λa=>.one a s
def RS(c a b:Operand):aZ:=λe s=>oR (look c e) λc=>ac6 c (oR (look a e) λa=>.one a s) (oR (look b e) λa=>.one a s)
def aP3(t:Nat):aZ:=λ_ s=>oR (ND H8 t) λz=>mM (.c t z) (λb=>.p b 0) s
def QS(t:Nat)(x:Operand):aZ:=λe s=>oR (look x e) λa=>mM (.c t (cellsOf a)) (λb=>.p b 0) s
def zU(at':Nat->Option (Nat×Nat))(ps:List (Nat×Operand)):Env->List AV->Option (List AV):=
 List.rec (motive:=λ_=>Env->List AV->Option (List AV)) (λ_ z=>some z)
  (λx _ ih e z=>oB (at' x.1) λw=>oB (look x.2 e) λa=>bg (Nat.beq (bI (cellsOf a)) w.2) (bg (Nat.ble 1 w.2) (oB (uY w.1 (cellsOf a) z) λz=>ih e z))) ps
def fieldAt(t k:Nat):Option (Nat×Nat):=oB (bn4 H8 t k) λw=>oB (sizeT H8 w.2) λn=>some (w.1,n)
def elemAt(n i:Nat):Option (Nat×Nat):=some (Nat.mul i n,n)
def cm3(t:Nat):Option (Nat->Option (Nat×Nat)):=oB (H8 t) λi=>match i.desc with
 |.struct fs=>bg (allB (λf=>(H8 f.type).isSome) fs.toList) (some (fieldAt t))
 |.array _ el=>oB (sizeT H8 el) λn=>some (elemAt n)
 |_=>none
def QT(t:Nat)(ps:Array (Nat×Operand)):aZ:=λe s=>oR (cm3 t) λw=>oR (ND H8 t) λz=>oR (zU w ps.toList e z) λz=>.one (.g z) s
def EL(t n:Nat)(ps:Array (Nat×Operand)):aZ:=λe s=>oR (TK H8 t) λel=>oR (H8 el) λi=>
 bR (Nat.ble n 4096) (bR (Nat.ble i.size 256) (bR (Nat.ble 1 i.size) (oR (UO i n) λz=>oR (zU (elemAt i.size) ps.toList e z) λz=>mM (.c el z) (λb=>.s b 0 n (some n)) s)))
def RG(t:Nat)(x:Operand):aZ:=λe s=>oR (look x e) λa=>mQ a λb o=>gI s b λ_ cs=>oR (partT t cs o) λv=>.one v s
def RY(t:Nat)(x y:Operand):aZ:=λe s=>oR (look x e) λa=>oR (look y e) λv=>oR (sizeT H8 t) λn=>mQ a λb o=>bR (Nat.beq (bI (cellsOf v)) n) (bR (Nat.ble 1 n) (gI s b λel cs=>
 oR (uY o (cellsOf v) cs) λcs=>setH s b (some (.c el cs)) λs=>.one un s))
def bF6(a:AV):Bool:=match a with
 |.p _ _=>true
 |.f _ _ _=>true
 |.y _=>true
 |_=>false
def RQ(x:Operand):aZ:=λe s=>oR (look x e) λa=>bR (bF6 a) (.one a s)
def lim:IntKind->Nat
 |.i8=>0x80
 |.i16=>0x8000
 |.i32=>0x80000000
 |.i64=>0x8000000000000000
 |.u8=>0x100
 |.u16=>0x10000
 |.u32=>0x100000000
 |.u64=>0x10000000000000000
def dP:IntKind->Nat
 |.i8=>0
 |.i16=>1
 |.i32=>2
 |.i64=>3
 |.u8=>4
 |.u16=>5
 |.u32=>6
 |.u64=>7
def ofV(v:Value):Option AV:=match v with
 |.int k i=>some (fI k i id)
 |.bool b=>some (fQ b id)
 |_=>none
def lC(op:BinOp)(k:IntKind)(a b:Int):Option AV:=match op with
 |.shr=>bq (decide (0<=b)) (some (fI k (a.fdiv (2^(min b.toNat k.bits))) id)) none
 |.shl=>bq (decide (0<=b)) (some (fI k (k.wrap (a*2^(min b.toNat k.bits))) id)) none
 |.quo=>bq (decide (b=0)) none (some (fI k (k.wrap (a.tdiv b)) id))
 |.rem=>bq (decide (b=0)) none (some (fI k (a.tmod b) id))
 |op=>oB (qL op k a b) ofV
def XL(op:BinOp):Bool:=BinOp.rec (motive:=λ_=>Bool) false false false false false false false false true true false false false false false false false op
abbrev NK:=IntKind->Nat->Nat->Option AV
def cT8:NK:=λk a b=>bq (Nat.blt (Nat.add a b) (lim k)) (fN (Nat.add a b) λn=>some (.n k n)) (lC .add k (.ofNat a) (.ofNat b))
def cU6:NK:=λk a b=>bq (Nat.ble b a) (bq (Nat.blt a (lim k)) (fN (Nat.sub a b) λn=>some (.n k n)) (lC .sub k (.ofNat a) (.ofNat b))) (lC .sub k (.ofNat a) (.ofNat b))
def rQ(b:Bool):Option AV:=bq b (some (.q true)) (some (.q false))
def cT9:NK:=λ_ a b=>rQ (Nat.beq a b)
def cU4:NK:=λ_ a b=>bq (Nat.beq a b) (some (.q false)) (some (.q true))
def cU3:NK:=λ_ a b=>rQ (Nat.blt a b)
def cU2:NK:=λ_ a b=>rQ (Nat.ble a b)
def cU1:NK:=λ_ a b=>rQ (Nat.blt b a)
def cU0:NK:=λ_ a b=>rQ (Nat.ble b a)
def zJ(op:BinOp):NK:=λk a b=>lC op k (.ofNat a) (.ofNat b)
def az3(op:BinOp):NK:=BinOp.rec (motive:=λ_=>NK) cT8 cU6 (zJ .mul) (zJ .quo) (zJ .rem) (zJ .and) (zJ .or) (zJ .xor) (zJ .shl) (zJ .shr) (zJ .andNot) cT9 cU4 cU3 cU2 cU1 cU0 op
def bg7(op:BinOp)(a b:List Nat):Option AV:=match op with
 |.add=>bq (Nat.ble (Nat.add (bI a) (bI b)) 1000000) (some (fL (dW a b) .str)) none
 |.eql=>rQ (yN a b)
 |.neq=>bq (yN a b) (some (.q false)) (some (.q true))
 |.lss=>rQ (QF a b)
 |.leq=>bq (QF b a) (some (.q false)) (some (.q true))
 |.gtr=>rQ (QF b a)
 |.geq=>bq (QF a b) (some (.q false)) (some (.q true))
 |_=>none
def bg6(op:BinOp)(a b:Bool):Option AV:=match op with
 |.eql=>rQ (bq a b (bq b false true))
 |.neq=>rQ (bq a (bq b false true) b)
 |_=>none
def eqT(t:Nat)(a b:AV):Option Bool:=oB (H8 t) λi=>match i.desc,a,b with
 |.slice _,.ns,.ns=>some true
 |.slice _,.ns,.s _ _ _ _=>some false
 |.slice _,.s _ _ _ _,.ns=>some false
 |.map _ _,.nm,.nm=>some true
 |.map _ _,.nm,.m _=>some false
 |.map _ _,.m _,.nm=>some false
 |.func _ _ _,.nf,.nf=>some true
 |.func _ _ _,.nf,.f _ _ _=>some false
 |.func _ _ _,.f _ _ _,.nf=>some false
 |.pointer _,.np,.np=>some true
 |.pointer _,.np,.p _ _=>some false
 |.pointer _,.p _ _,.np=>some false
 |.pointer el,.p x i,.p y j=>oB (sizeT H8 el) λz=>bg (Nat.ble 1 z) (bg (Nat.beq x y) (bg (Nat.beq i j) (some true)))
 |_,_,_=>none
def VJ(x y:AV):Option Bool:=match x,y with
    |.n k a,.n j b=>bq (Nat.beq (dP k) (dP j)) (some (Nat.beq a b)) none
    |.str a,.str b=>some (yN a b)
    |.q a,.q b=>some (bq a b (bq b false true))
    |_,_=>none
def WH(a:List AV):List AV->Option Bool:=List.rec (motive:=λ_=>List AV->Option Bool) (λb=>List.rec (motive:=λ_=>Option Bool) (some true) (λ_ _ _=>none) b)
 (λx _ ih b=>List.rec (motive:=λ_=>Option Bool) none (λy r _=>oB (VJ x y) λq=>bq q (ih r) (some false)) b) a
def aJ9(t:Nat):Bool:=match H8 t with|some { desc:=.bool, .. }=>true|_=>false
def bF(t:Nat)(op:BinOp)(a b:AV):Option AV:=match a,b with
 |.n k a,.n j b=>bq (XL op) (lC op k (.ofNat a) (.ofNat b)) (bq (Nat.beq (dP k) (dP j)) (lC op k (.ofNat a) (.ofNat b)) none)
 |.n k a,.neg j b=>bq (Nat.beq (dP k) (dP j)) (lC op k (.ofNat a) (.negSucc b)) none
 |.neg k a,.n j b=>bq (Nat.beq (dP k) (dP j)) (lC op k (.negSucc a) (.ofNat b)) none
 |.neg k a,.neg j b=>bq (Nat.beq (dP k) (dP j)) (lC op k (.negSucc a) (.negSucc b)) none
 |.str a,.str b=>bg7 op a b
 |.q a,.q b=>bg (aJ9 t) (bg6 op a b)
 |a,b=>match op with
  |.eql=>oB (eqT t a b) rQ
  |.neq=>oB (eqT t a b) λq=>bq q (some (.q false)) (some (.q true))
  |_=>none
def cl3(j:IntKind)(y:Nat)(k:IntKind)(x:Nat)(t:Nat)(op:BinOp)(a b:AV):Option AV:=bq (Nat.beq (dP k) (dP j)) (az3 op k x y) (bF t op a b)
def cl2(k:IntKind)(x:Nat)(t:Nat)(op:BinOp)(a b:AV):Option AV:=
 AV.rec (motive_1:=λ_=>IntKind->Nat->Nat->BinOp->AV->AV->Option AV) (motive_2:=λ_=>Unit) cl3
  (λ_ _ _ _=>bF) (λ_ _ _=>bF) (λ_ _ _=>bF) (λ_ _=>bF) (λ_ _=>bF) (λ_ _=>bF) (λ_ _=>bF) (λ_ _=>bF)
  (λ_ _ _ _=>bF) (λ_ _ _ _ _ _=>bF) (λ_ _ _=>bF) (λ_ _ _ _ _ _ _=>bF) (λ_ _ _=>bF) (λ_ _ _ _=>bF) (λ_ _ _ _=>bF) () (λ_ _ _ _=>()) b k x t op a b
def bg5(t:Nat)(op:BinOp)(a b:AV):Option AV:=
 AV.rec (motive_1:=λ_=>Nat->BinOp->AV->AV->Option AV) (motive_2:=λ_=>Unit) cl2
   (λ_ _=>bF) (λ_=>bF) (λ_=>bF) bF bF bF bF bF
   (λ_ _=>bF) (λ_ _ _ _=>bF) (λ_=>bF) (λ_ _ _ _ _=>bF) (λ_=>bF) (λ_ _=>bF) (λ_ _=>bF) () (λ_ _ _ _=>()) a t op a b
def QO(op:BinOp)(t:Nat)(x y:Operand)(_:Nat):aZ:=λe s=>oR (look x e) λa=>oR (look y e) λb=>oR (bg5 t op a b) λr=>.one r s
def unA(op:UnOp)(a:AV):Option AV:=match op,a with
 |.not,.q b=>bq b (some (.q false)) (some (.q true))
 |.neg,.n k n=>some (fI k (k.wrap (0 - .ofNat n)) id)
 |.neg,.neg k n=>some (fI k (k.wrap (0 - .negSucc n)) id)
 |_,_=>none
def RZ(op:UnOp)(_:Nat)(x:Operand):aZ:=λe s=>oR (look x e) λa=>oR (unA op a) λr=>.one r s
def aB3(d:Nat)(a:AV):Option AV:=match H8 d,a with
 |some { desc:=.int k, .. },.n _ n=>bq (Nat.blt n (lim k)) (some (.n k n)) (some (fI k (k.wrap (.ofNat n)) id))
 |some { desc:=.int k, .. },.neg _ n=>some (fI k (k.wrap (.negSucc n)) id)
 |some { desc:=.string, .. },.str s=>some (.str s)
 |_,_=>none
def ah5(sr d b o:Nat)(s:St):RO:=oR (H8 sr) λi=>oR (H8 d) λj=>match i.desc,j.desc with
 |.pointer t,.unsafePointer=>oR (sizeT H8 t) λz=>bR (Nat.ble 1 z) (gI s b λ_ cs=>bR (Nat.blt o (bI cs)) (.one (.p b o) s))
 |.unsafePointer,.pointer t=>oR (sizeT H8 t) λz=>bR (Nat.ble 1 z) (gI s b λel cs=>bR (Nat.beq el kQ) (bR (Nat.beq t af4) (bR (Nat.beq o 0) (bR (Nat.ble 2 (bI cs)) (.one (.p b o) s)))))
 |_,_=>.no
def ah6(sr d:Nat)(a:AV)(s:St):RO:=match a with
 |.p b o=>ah5 sr d b o s
 |a=>oR (H8 sr) λ_=>oR (aB3 d a) λr=>.one r s
def QU(sr d:Nat)(x:Operand):aZ:=λe s=>oR (look x e) λa=>ah6 sr d a s
def RI(g:Fn)(fs cs:Array Operand):aZ:=λe s=>match g with
 |.func f=>oR (qN fs.toList e) λfs=>oR (qN cs.toList e) λcs=>.one (.f f fs cs) s
 |_=>.no
def aP4(_:Nat)(r:Option Operand):aZ:=λ_ s=>Option.rec (motive:=λ_=>RO) (mM (.m []) .m s) (λ_=>.no) r
def QK(a:AV):Option Nat:=match a with|.n _ n=>some n|_=>none
def zS(o:Option Operand)(e:Env):Option (Option AV):=match o with
 |none=>some none
 |some o=>oB (look o e) λa=>some (some a)
def mxA(len:Nat)(cap:Option Nat)(mx:Option AV):Option (Option Nat):=match mx with
 |none=>some cap
 |some v=>oB (QK v) λm=>bg (match cap with|some c=>Nat.ble m c|none=>Nat.ble m len) (some (some m))
def orA(d:Nat)(x:Option AV):Option Nat:=match x with
 |none=>some d
 |some v=>QK v
def VH(len:Nat)(cap:Option Nat)(lo hi mx:Option AV):Option (Nat×Nat×Option Nat):=oB (mxA len cap mx) λm=>oB (orA len hi) λh=>
 bg (match m with|some m=>Nat.ble h m|none=>Nat.ble h len) (oB (orA 0 lo) λl=>bg (Nat.ble l h) (some (l,h,m)))
def ZI(b o l:Nat)(c:Option Nat)(s:St):RO:=fN o λo=>fN l λl=>match c with
 |none=>.one (.s b o l none) s
 |some c=>fN c λc=>.one (.s b o l (some c)) s
def rowIs(el:Nat)(b:Nat)(c:Option Nat)(s:St)(k:RO):RO:=match c with
 |some _=>k
 |none=>gI s b λdK _=>bR (Nat.beq el dK) k
def atEnd(l:Nat)(m:Option Nat):Bool:=match m with
 |some m=>Nat.beq m l
 |none=>false
def ar6(t:Nat)(a:AV)(lo hi mx:Option AV)(s:St):RO:=match H8 t,a,mx with
 |some { desc:=.string, .. },.str l,none=>oR (VH (bI l) (some (bI l)) lo hi none) λw=>oR (rD (Nat.sub w.2.1 w.1) (oL w.1 l)) λr=>.one (.str r) s
 |some { desc:=.slice el, .. },.s b o n c,mx=>oR (sizeT H8 el) λz=>oR (VH n c lo hi mx) λw=>rowIs el b c s
  (ZI b (bq (atEnd w.1 w.2.2) o (Nat.add o (Nat.mul w.1 z))) (Nat.sub w.2.1 w.1) (w.2.2.map λm=>Nat.sub m w.1) s)
 |some { desc:=.slice el, .. },.ns,mx=>oR (sizeT H8 el) λ_=>oR (VH 0 (some 0) lo hi mx) λ_=>.one .ns s
 |some { desc:=.array n el, .. },.p b o,none=>oR (sizeT H8 el) λz=>oR (VH n (some n) lo hi none) λw=>
  ZI b (bq (atEnd w.1 w.2.2) o (Nat.add o (Nat.mul w.1 z))) (Nat.sub w.2.1 w.1) (w.2.2.map λm=>Nat.sub m w.1) s
 |_,_,_=>.no
def bF5(hi mx:Option Operand):Bool:=match hi,mx with
 |none,some _=>false
 |_,_=>true
def RX(t:Nat)(x:Operand)(lo hi mx:Option Operand):aZ:=λe s=>bR (bF5 hi mx) (oR (look x e) λa=>oR (zS lo e) λlo=>oR (zS hi e) λhi=>oR (zS mx e) λmx=>ar6 t a lo hi mx s)
def QZ(t:Nat)(x:Operand)(k:Nat):aZ:=λe s=>oR (look x e) λa=>oR (fieldAt t k) λw=>bR (Nat.ble 1 w.2) (mQ a λb o=>ZG b (Nat.add o w.1) s)
def BF(a:AV)(k:List AV->RO):RO:=match a with|.g cs=>k cs|_=>.no
def QY(t:Nat)(x:Operand)(k:Nat):aZ:=λe s=>oR (look x e) λa=>oR (bn4 H8 t k) λw=>BF a λcs=>oR (partT w.2 cs w.1) λr=>.one r s
def by6(t:Nat):Option Nat:=oB (H8 t) λi=>match i.desc with|.array n _=>some n|_=>none
def RF(t:Nat)(x i:Operand):aZ:=λe s=>oR (look x e) λa=>oR (look i e) λi=>oR (bm3 H8 t) λw=>oR (sizeT H8 w.2) λz=>BG i λ_ n=>
 bq w.1 (UK a λb o l _=>bR (Nat.blt n l) (ZG b (Nat.add o (Nat.mul n z)) s)) (oR (by6 t) λl=>mQ a λb o=>bR (Nat.blt n l) (ZG b (Nat.add o (Nat.mul n z)) s))
def RD(t:Nat)(x i:Operand):aZ:=λe s=>oR (look x e) λa=>oR (look i e) λi=>BG i λ_ n=>bq (aK3 H8 t) (match a with
    |.str l=>oR (yQ l n) λc=>.one (.n .u8 c) s
    |_=>.no)
 (oR (by6 t) λl=>oR (bm3 H8 t) λw=>oR (sizeT H8 w.2) λz=>BF a λcs=>bR (Nat.blt n l) (oR (partT w.2 cs (Nat.mul n z)) λr=>.one r s))
def XQ(a b:AV):Option Bool:=match a,b with
 |.g a,.g b=>WH a b
 |.n k a,.n j b=>bq (Nat.beq (dP k) (dP j)) (some (Nat.beq a b)) none
 |.str a,.str b=>some (yN a b)
 |_,_=>none
def yH(t:Nat)(c:AV):Bool:=match H8 t,c with
 |some { desc:=.int _, .. },.n _ _=>true
 |some { desc:=.string, .. },.str _=>true
 |some { desc:=.bool, .. },.q _=>true
 |_,_=>false
def JF(fs:List Field):Nat->List AV->Bool:=List.rec (motive:=λ_=>Nat->List AV->Bool) (λ_ l=>List.rec (motive:=λ_=>Bool) true (λ_ _ _=>false) l)
 (λf _ ih i l=>List.rec (motive:=λ_=>Bool) false (λc r _=>bq (Nat.beq f.offset i) (bq (decide (f.name= "_")) false (bq (yH f.type c) (ih (Nat.succ i) r) false)) false) l) fs
def wH(kt:Nat)(d:TypeDesc)(k:AV):Bool:=match d,k with
 |.int _,.n _ _=>true
 |.string,.str _=>true
 |.struct fs,.g cs=>bq (JF fs.toList 0 cs) (TD kt) false
 |_,_=>false
def XR(t:Nat)(k:AV):Bool:=match H8 t with
 |some { desc:=.map kt _, .. }=>(match H8 kt with|some i=>wH kt i.desc k|none=>false)
 |_=>false
def b87(t:Nat):Option Nat:=oB (H8 t) λi=>match i.desc with|.map _ et=>some et|_=>none
def WI(k:AV)(l:List (AV×AV)):Option (Option (Nat×AV)):=
 List.rec (motive:=λ_=>Nat->Option (Option (Nat×AV))) (λ_=>some none) (λx _ ih i=>oB (XQ k x.1) λq=>bq q (some (some (i,x.2))) (ih (Nat.succ i))) l 0
def iR(l:List (AV×AV))(n:Nat)(x:AV×AV):List (AV×AV):=List.rec (motive:=λ_=>Nat->List (AV×AV)) (λ_=>[]) (λy r ih n=>Nat.rec (motive:=λ_=>List (AV×AV)) (x::r) (λn _=>y::ih n) n) l n
def mapOf(h:Hp)(m:AV):Option (List (AV×AV)):=match m with
 |.m b=>(match h.get (pa b)with|some (.m es)=>some es|_=>none)
 |.nm=>some []
 |_=>none
def RH(t:Nat)(m k:Operand)(ok:Bool):aZ:=λe s=>oR (look m e) λm=>oR (look k e) λk=>bR (XR t k) (oR (b87 t) λvt=>oR (mapOf s.1 m) λes=>oR (WI k es) λr=>match r with
 |some w=>.one (bq ok (.t [w.2,.q true]) w.2) s
 |none=>oR (ND H8 vt) λz=>oR (partT vt z 0) λv=>.one (bq ok (.t [v,.q false]) v) s)
def KU(s:St)(m:AV)(k:Nat->List (AV×AV)->RO):RO:=match m with
 |.m b=>(match s.1.get (pa b)with|some (.m es)=>k b es|_=>.no)
 |_=>.no
def wS(t:Nat)(m k v:Operand):aZ:=λe s=>oR (look m e) λm=>oR (look k e) λk=>oR (look v e) λv=>bR (XR t k) (KU s m λb es=>oR (WI k es) λr=>
 fL (match r with|some w=>iR es w.1 (k,v)|none=>dW es [(k,v)]) λes=>setH s b (some (.m es)) λs=>.one un s)
def RJ(t:Nat)(m k:Operand):aZ:=λe s=>oR (look m e) λm=>oR (look k e) λk=>bR (XR t k) (oR (b87 t) λvt=>KU s m λb es=>oR (WI k es) λr=>match r with
 |some w=>fL (iR es w.1 (k,w.2)) λes'=>setH s b (some (.m es')) λs=>fN w.1 λj=>.one (.t [w.2,.n .i64 j]) s
 |none=>oR (ND H8 vt) λz=>oR (partT vt z 0) λv=>fL (dW es [(k,v)]) λes'=>setH s b (some (.m es')) λs=>fN (bI es) λj=>.one (.t [v,.n .i64 j]) s)
def QW(_:Nat)(m st v:Operand):aZ:=λe s=>oR (look m e) λm=>oR (look st e) λst=>oR (look v e) λv=>KU s m λb es=>BG st λ_ j=>oR (yQ es j) λx=>
 fL (iR es j (x.1,v)) λes=>setH s b (some (.m es)) λs=>.one un s
def RU(t:Nat)(x:Operand):aZ:=λe s=>oR (look x e) λa=>oR (H8 t) λi=>match i.desc,a with
 |.string,.str l=>mM (.si l 0) (λb=>.p b 0) s
 |.map _ _,.m b=>(match s.1.get (pa b)with|some (.m es)=>fN (bI es) λn=>mM (.mi b [] n) (λb=>.p b 0) s|_=>.no)
 |_,_=>.no
def NZ(a b:AV):Bool:=match a,b with
 |.n k a,.n j b=>bq (Nat.beq (dP k) (dP j)) (Nat.beq a b) false
 |.neg k a,.neg j b=>bq (Nat.beq (dP k) (dP j)) (Nat.beq a b) false
 |.q a,.q b=>bq a b (bq b false true)
 |.str a,.str b=>yN a b
 |.ns,.ns=>true
 |.np,.np=>true
 |.nm,.nm=>true
 |.nf,.nf=>true
 |.ni,.ni=>true
 |_,_=>false
def ae6(a:List AV):List AV->Bool:=List.rec (motive:=λ_=>List AV->Bool) (λb=>List.rec (motive:=λ_=>Bool) true (λ_ _ _=>false) b)
 (λx _ ih b=>List.rec (motive:=λ_=>Bool) false (λy r _=>bq (NZ x y) (ih r) false) b) a
def ah0:CI->CI->Bool
 |.v x,.v y=>NZ x y
 |.s e l xs,.s f m ys=>bq (Nat.beq e f) (bq (Nat.beq l m) (ae6 xs ys) false) false
 |_,_=>false
def VN(a:A):A->Bool:=List.rec (motive:=λ_=>A->Bool) (λb=>List.rec (motive:=λ_=>Bool) true (λ_ _ _=>false) b)
 (λx _ ih b=>List.rec (motive:=λ_=>Bool) false (λy r _=>bq (ah0 x y) (ih r) false) b) a
def QH(x:Nat)(l:List Nat):Bool:=List.rec (motive:=λ_=>Bool) false (λy _ ih=>bq (Nat.beq x y) true ih) l
def leftOf(seen:List Nat)(es:List (AV×AV)):List (Nat×AV×AV):=
 List.rec (motive:=λ_=>Nat->List (Nat×AV×AV)) (λ_=>[]) (λx _ ih i=>bq (QH i seen) (ih (Nat.succ i)) ((i,x.1,x.2)::ih (Nat.succ i))) es 0
def qA(a b:RO):RO:=match a,b with
 |.one v s,.one v' s'=>.many [(v,s),(v',s')]
 |.one v s,.many l=>.many ((v,s)::l)
 |.many l,.one v s=>.many (l++[(v,s)])
 |.many l,.many l'=>.many (l++l')
 |_,_=>.no
def tN(l:List RO):RO:=match l with
 |[]=>.no
 |x::r=>(match r with
  |[]=>x
  |_::_=>List.rec (motive:=λ_=>RO) (.many []) (λy _ ih=>qA y ih) (x::r))
def EI(b m:Nat)(seen:List Nat)(n:Nat)(s:St)(x:Nat×AV×AV):RO:=fL (dW seen [x.1]) λseen=>setH s b (some (.mi m seen n)) λs=>.one (.t [.q true,x.2.1,x.2.2]) s
def bB5(b m:Nat)(seen:List Nat)(n:Nat)(s:St)(l:List (Nat×AV×AV)):RO:=match l with
 |[]=>.one (.t [.q false]) s
 |x::r=>tN (iO (EI b m seen n s) (x::r))
def RN(x:Operand)(str:Bool):aZ:=λe s=>oR (look x e) λa=>mQ a λb o=>bR (Nat.beq o 0) (oR (s.1.get (pa b)) λw=>match w,str with
 |.si l pos,true=>(match oL pos l with
  |[]=>.one (.t [.q false]) s
  |c::_=>bR (Nat.blt c 128) (fN (Nat.succ pos) λpos'=>setH s b (some (.si l pos')) λs=>.one (.t [.q true,.n .i64 pos,.n .i32 c]) s))
 |.mi m seen n,false=>(match s.1.get (pa m)with
  |some (.m es)=>bR (Nat.beq (bI es) n) (bB5 b m seen n s (leftOf seen es))
  |_=>.no)
 |_,_=>.no)
def QV(x:Operand):aZ:=λe s=>oR (look x e) λa=>mQ a λb o=>bR (Nat.beq o 0) (match s.1.get (pa b)with
 |some (.mi m seen n)=>(match s.1.get (pa m),seen.getLast? with
  |some (.m es),some j=>bR (Nat.beq (bI es) n) (oR (yQ es j) λx=>.one (.t [x.1,x.2]) s)
  |_,_=>.no)
 |_=>.no)
def QX(x:Operand)(k:Nat):aZ:=λe s=>oR (look x e) λa=>match a with
 |.t cs=>oR (yQ cs k) λa=>.one a s
 |_=>.no
def yE(l:List Nat):List AV:=iO (AV.n .u8) l
def cellsS(sz:Nat)(a:AV)(s:St)(k:Nat->List AV->RO):RO:=match a with
 |.ns=>k 0 []
 |.s b o l _=>gI s b λ_ cs=>oR (rD (Nat.mul l sz) (oL o cs)) λr=>k l r
 |.str l=>bR (Nat.beq sz 1) (fL (yE l) λr=>k (bI l) r)
 |_=>.no
def aK1(t:Option Nat):Bool:=match t with
 |some t=>(match H8 t with|some { desc:=.int _, .. }=>true|_=>false)
 |none=>false
def VB(el sz:Nat)(x:AV)(n:Nat)(ys:List AV)(s:St):RO:=match x with
 |.ns=>bq (Nat.beq n 0) (.one .ns s) (fN n λn=>mM (.c el ys) (λb=>.s b 0 n none) s)
 |.s b o l c=>bq (Nat.beq n 0) (.one (.s b o l c) s) (bR (Nat.ble (Nat.add l n) 4194304) (gI s b λdK cs=>oR (rD (Nat.mul l sz) (oL o cs)) λold=>(match c with
  |some c=>bq (Nat.blt c (Nat.add l n)) (fL (dW old ys) λcs=>fN (Nat.add l n) λl=>mM (.c el cs) (λb=>.s b 0 l none) s)
    (bR (Nat.beq el dK) (oR (uY (Nat.add o (Nat.mul l sz)) ys cs) λcs=>fN (Nat.add l n) λl=>setH s b (some (.c el cs)) λs=>.one (.s b o l (some c)) s))
  |none=>bR (Nat.beq el dK) (bR (bq (Nat.beq el kQ) false true) (fL (dW old ys) λcs=>fN (Nat.add l n) λl=>setH s b none λs=>mM (.c el cs) (λb=>.s b 0 l none) s)))))
 |_=>.no
def kindOk(t2:Option Nat)(y:AV):Bool:=match t2 with
 |some t=>(match H8 t,y with
  |some { desc:=.slice _, .. },.s _ _ _ _=>true
  |some { desc:=.slice _, .. },.ns=>true
  |some { desc:=.string, .. },.str _=>true
  |_,_=>false)
 |none=>false
def ae4(t:Nat)(t2:Option Nat)(x y:AV)(s:St):RO:=oR (TK H8 t) λel=>oR (H8 el) λi=>bR (Nat.ble i.bytes 4096) (bR (Nat.ble 1 i.size)
 (bq (aK1 t2) (match y with|.n _ n=>bR (Nat.ble n 4096) (oR (UO i n) λys=>VB el i.size x n ys s)|_=>.no)
   (bR (kindOk t2 y) (cellsS i.size y s λn ys=>bR (Nat.ble n 100000) (VB el i.size x n ys s)))))
def ah7(t:Nat)(x y:AV)(s:St):RO:=oR (TK H8 t) λel=>oR (sizeT H8 el) λz=>bR (Nat.ble 1 z) (match x with
 |.s b o l _=>cellsS z y s λn ys=>bq (Nat.beq (Nat.min n l) 0) (.one (.n .i64 0) s) (gI s b λdK cs=>oR (rD (Nat.mul (Nat.min n l) z) ys) λys=>oR (uY o ys cs) λcs=>setH s b (some (.c dK cs)) λs=>ZE .i64 (Nat.min n l) s)
 |.ns=>cellsS z y s λ_ _=>.one (.n .i64 0) s
 |_=>.no)
def ah1(t:Nat)(x:AV)(s:St):RO:=oR (TK H8 t) λel=>oR (H8 el) λi=>match x with
 |.s b o l _=>gI s b λdK cs=>bq (Nat.beq l 0) (.one un s) (oR (UO i l) λz=>oR (uY o z cs) λcs=>setH s b (some (.c dK cs)) λs=>.one un s)
 |.ns=>.one un s
 |_=>.no
def byteOf(a:AV):Option Nat:=match a with|.n k n=>bg (Nat.beq (dP k) 4) (bg (Nat.blt n 256) (some n))|_=>none
def az6(l:List AV):Option (List Nat):=List.rec (motive:=λ_=>Option (List Nat)) (some []) (λx _ ih=>oB (byteOf x) λb=>oB ih λr=>some (b::r)) l
def QE(a:AV)(s:St):RO:=match a with
 |.str l=>ZE .i64 (bI l) s
 |.ns=>.one (.n .i64 0) s
 |.nm=>.one (.n .i64 0) s
 |.s _ _ l _=>.one (.n .i64 l) s
 |.m b=>(match s.1.get (pa b)with|some (.m es)=>ZE .i64 (bI es) s|_=>.no)
 |_=>.no
def KL(t:Nat)(x:AV):Bool:=match H8 t,x with
 |some { desc:=.string, .. },.str _=>true
 |some { desc:=.slice _, .. },.ns=>true
 |some { desc:=.slice _, .. },.s _ _ _ _=>true
 |some { desc:=.map _ _, .. },.nm=>true
 |some { desc:=.map _ _, .. },.m _=>true
 |_,_=>false
def ag2(t el:Nat):Bool:=match H8 t with
 |some { desc:=.pointer e, .. }=>bq (Nat.beq e el) (match H8 e with|some i=>Nat.beq i.size 1|none=>false) false
 |_=>false
def ag7(x:AV)(s:St):RO:=match x with
 |.ns=>.one (.n .i64 0) s
 |.s _ _ _ (some c)=>.one (.n .i64 c) s
 |_=>.no
def jX(b:Builtin)(tys:List Nat)(args:List AV)(s:St):RO:=match b,args with
 |.len,[x]=>(match tys with|[t]=>bR (KL t x) (QE x s)|_=>.no)
 |.cap,[x]=>(match tys with|[t]=>bR (KL t x) (ag7 x s)|_=>.no)
 |.min,[.n k a,.n j b]=>bR (Nat.beq (dP k) (dP j)) (bq (Nat.blt b a) (.one (.n k b) s) (.one (.n k a) s))
 |.max,[.n k a,.n j b]=>bR (Nat.beq (dP k) (dP j)) (bq (Nat.blt a b) (.one (.n k b) s) (.one (.n k a) s))
 |.append,[x,y]=>(match tys with|[t,t2]=>ae4 t (some t2) x y s|_=>.no)
 |.copy,[x,y]=>(match tys with|[t,_]=>ah7 t x y s|_=>.no)
 |.clear,[x]=>(match tys with|[t]=>ah1 t x s|_=>.no)
 |.unsafeSliceData,[.s b o l none]=>bR (Nat.ble 1 l) (.one (.p b o) s)
 |.unsafeSliceData,[.ns]=>.one .np s
 |.unsafeString,[.np,n]=>(match n,tys with|.n .i64 n,[_,_]=>bR (Nat.beq n 0) (.one (.str []) s)|_,_=>.no)
 |.unsafeString,[.p b o,n]=>(match tys with|[t,_]=>oR (QK n) λn=>bR (Nat.ble 1 n) (bR (Nat.ble n 1000000) (gI s b λel cs=>bR (ag2 t el) (oR (rD n (oL o cs)) λr=>oR (az6 r) λl=>setH s b none λs=>.one (.str l) s)))|_=>.no)
 |_,_=>.no
def GZ(l:List AV):Env:=List.rec (motive:=λ_=>Nat->Env->Env) (λ_ e=>e) (λx _ ih i e=>ih (Nat.succ i) (wG i x e)) l 0 zeroE
def ap7(h:Hp)(b:Nat):Option (Nat×List AV):=match h.get (pa b)with|some (.c el cs)=>some (el,cs)|_=>none
def ap2(e:Env)(s:St)(r:ResultVar):Option AV:=match r with
 |.tmp t=>dL t e
 |.cell x t=>(match dL x e with|some (.p b o)=>oB (ap7 s.1 b) λw=>partT t w.2 o|_=>none)
def bL6(l:List ResultVar):Env->St->Option (List AV):=List.rec (motive:=λ_=>Env->St->Option (List AV)) (λ_ _=>some [])
 (λx _ ih e s=>oB (ap2 e s x) λa=>oB (ih e s) λr=>some (a::r)) l
def jG(e:Env)(s:St)(l:List ResultVar):Option AV:=match l with
 |[x]=>ap2 e s x
 |l=>oB (bL6 l e s) λr=>some (.t r)
def ZW(a:AV):Bool:=match a with
 |.n _ _=>true
 |.neg _ _=>true
 |.q _=>true
 |.str _=>true
 |.ns=>true
 |.np=>true
 |.nm=>true
 |.nf=>true
 |.ni=>true
 |_=>false
def bi5(o z:Nat)(c:Option Nat)(n:Nat):Bool:=match c with
 |some c=>bq (Nat.ble 1 (Nat.mul c z)) (Nat.ble (Nat.add o (Nat.mul c z)) n) false
 |none=>true
def bj1(a:AV)(s:St):Option CI:=match a with
 |.s b o l c=>bg (Nat.ble s.ro b) (oB (ap7 s.1 b) λw=>bg (bq (Nat.beq w.1 kQ) false true) (oB (sizeT H8 w.1) λz=>bg (bi5 o z c (bI w.2)) (oB (rD (Nat.mul l z) (oL o w.2)) λvs=>bg (allB ZW vs) (some (.s w.1 l vs)))))
 |a=>bg (ZW a) (some (.v a))
def ah2(l:List AV)(s:St):Option A:=List.rec (motive:=λ_=>Option A) (some []) (λx _ ih=>oB (bj1 x s) λc=>oB ih λr=>some (c::r)) l
def aA7(one:Bool)(a:AV)(s:St):Option A:=match one,a with
 |true,a=>ah2 [a] s
 |false,.t cs=>ah2 cs s
 |_,_=>none
def cO5(c:CI)(s:St):RO:=match c with
 |.v x=>.one x s
 |.s el l cs=>mM (.c el cs) (λb=>.s b 0 l none) s
def zI(l:A):St->List AV->(List AV->St->RO)->RO:=
 List.rec (motive:=λ_=>St->List AV->(List AV->St->RO)->RO) (λs acc K=>K acc s) (λc _ ih s acc K=>RO.rec (motive:=λ_=>RO) .no (λa s=>ih s (dW acc [a]) K) (λ_=>.no) (cO5 c s)) l
def by3(one:Bool)(l:A)(s:St):RO:=zI l s [] λr s=>match one,r with
 |true,[a]=>.one a s
 |false,r=>.one (.t r) s
 |_,_=>.no
def ZL(s:St):St:=St.rec (motive:=λ_=>St) (λh nx _=>⟨h,nx,nx⟩) s
def zO(l:List ResultVar):Bool:=match l with|[_]=>true|_=>false
def WE(rs:List ResultVar)(x:Ex)(e:Env)(s:St):RO:=Ex.rec (motive:=λ_=>RO) (oR (jG e s rs) λa=>.one a s) (λ_=>.no) (oR (jG e s rs) λa=>.one a s) x
def JD(rs:List ResultVar)(x:Ex)(e:Env)(s:St):Option A:=Ex.rec (motive:=λ_=>Option A) (oB (jG e s rs) λa=>aA7 (zO rs) a s) (λ_=>none) (oB (jG e s rs) λa=>aA7 (zO rs) a s) x
def OE(up:Runner)(F:Func)(args:List AV)(s:St):RO:=bR (Nat.ble (bI args) F.ntmps) (oR F.body λc=>RC.rec (motive:=λ_=>RO) .no (WE F.results.toList) (λl=>tN (iO (λw=>WE F.results.toList w.1 w.2.1 w.2.2) l)) (up c (GZ args) s))
def ZV(a:A)(l:List (Option A)):Option A:=List.rec (motive:=λ_=>Option A) (some a) (λy _ ih=>oB y λb=>bq (VN a b) ih none) l
def bv6(rs:List ResultVar)(r:RC):Option A:=RC.rec (motive:=λ_=>Option A) none (JD rs) (λl=>match iO (λw=>JD rs w.1 w.2.1 w.2.2) l with|[]=>none|x::r=>oB x λa=>ZV a r) r
def ak9(c:CI):Bool:=match c with|.s _ _ _=>true|.v _=>false
def bF9(l:A):Bool:=List.rec (motive:=λ_=>Bool) true (λc r ih=>bq (ak9 c) (allB (λc=>bq (ak9 c) false true) r) ih) l
def QB(up:Runner)(F:Func)(args:List AV)(s:St):RO:=bR (Nat.ble (bI args) F.ntmps) (oR F.body λc=>oR (bv6 F.results.toList (up c (GZ args) (ZL s))) λr=>bR (bF9 r) (by3 (zO F.results.toList) r s))
def yG(up:Runner)(f:FuncId)(args:List AV)(s:St):RO:=
 Option.rec (motive:=λ_=>RO) (oR (DC f) λF=>bq (XO f) (QB up F args s) (OE up F args s)) (λx=>oR (x args) λa=>.one a s) (aD6 f)
def aA2(up:Runner)(f:FuncId)(args:List AV)(s:St):RO:=Option.rec (motive:=λ_=>RO) (yG up f args s) (λx=>oR (x args) λa=>.one a s) (aD8 f)
def bP6(ps:List Nat):List AV->Env->Option Env:=List.rec (motive:=λ_=>List AV->Env->Option Env) (λl e=>match l with|[]=>some e|_=>none)
 (λp _ ih l e=>List.rec (motive:=λ_=>Option Env) none (λa r _=>ih r (wG p a e)) l) ps
def roundEnd(b:Nat)(x:Ex)(_:Env)(s:St):RO:=match s.1.get (pa b)with
 |some (.l 1 e ps aA body _)=>(match x with
  |.n=>setH s b (some (.l 0 e ps aA body none)) λs=>.one (.q true) s
  |.r=>setH s b (some (.l 2 e ps aA body (some .ret))) λs=>.one (.q false) s
  |.x id=>setH s b (some (.l 2 e ps aA body (some (.exit id)))) λs=>.one (.q false) s)
 |_=>.no
def ZO(up:Runner)(b:Nat)(body:Code)(x:Ex)(e':Env)(s:St):RO:=match x,s.1.get (pa b)with
 |.n,some (.l 0 e ps aA bd _)=>setH s b (some (.l 1 e ps aA bd none)) λs=>RC.rec (motive:=λ_=>RO) .no (roundEnd b) (λl=>tN (iO (λw=>roundEnd b w.1 w.2.1 w.2.2) l)) (up body e' s)
 |_,_=>.no
def ZN(up:Runner)(b:Nat)(args:List AV)(s:St):RO:=match s.1.get (pa b)with
 |some (.l 0 e ps aA body _)=>oR (bP6 ps args e) λe0=>RC.rec (motive:=λ_=>RO) .no (ZO up b body) (λ_=>.no) (up aA e0 s)
 |_=>.no
def ag6(up:Runner)(fv:AV)(args:List AV)(s:St):RO:=a98 fv (λf fs cs=>aA2 up f (dW fs (dW args cs)) s) (λb=>ZN up b args s)
def bi3(up:Runner)(c:Callee)(tys:List Nat)(args:List AV)(e:Env)(s:St):RO:=
 Callee.rec (motive:=λ_=>RO) (λf=>oR (look f e) λfv=>ag6 up fv args s) (λ_ _=>.no) (λb=>jX b tys args s) c
def EM(up:Runner)(c:Call):aZ:=λe s=>oR (qN c.args.toList e) λargs=>bi3 up c.callee c.argTypes.toList args e s
abbrev OpK:=Runner->aZ
def qO:OpK:=λ_ _ _=>.no
structure OO where
 run:OpK
def qC(op:Op):OO:=
 Op.rec (motive:=λ_=>OO)
   (λx=>⟨λup=>zQ x⟩) (λx=>⟨λup=>zQ x⟩) (λc a b=>⟨λup=>RS c a b⟩) (λt=>⟨λup=>aP3 t⟩) (λt x=>⟨λup=>QS t x⟩) (λt p=>⟨λup=>QT t p⟩) (λt n p=>⟨λup=>EL t n p⟩)
   (λt m k v=>⟨λup=>wS t m k v⟩) (λt x=>⟨λup=>RG t x⟩) (λt x y=>⟨λup=>RY t x y⟩) (λ_=>⟨qO⟩) (λ_=>⟨qO⟩) (λx=>⟨λup=>RQ x⟩)
   (λo t x y u=>⟨λup=>QO o t x y u⟩) (λo t x=>⟨λup=>RZ o t x⟩) (λa b x=>⟨λup=>QU a b x⟩) (λ_ _=>⟨qO⟩) (λ_ _=>⟨qO⟩) (λf a b=>⟨λup=>RI f a b⟩) (λt r=>⟨λup=>aP4 t r⟩)
   (λ_ _=>⟨qO⟩) (λ_ _ _=>⟨qO⟩) (λt x l h m=>⟨λup=>RX t x l h m⟩) (λt x k=>⟨λup=>QZ t x k⟩) (λt x k=>⟨λup=>QY t x k⟩) (λt x i=>⟨λup=>RF t x i⟩) (λt x i=>⟨λup=>RD t x i⟩)
   (λt m k ok=>⟨λup=>RH t m k ok⟩) (λt m k v=>⟨λup=>wS t m k v⟩) (λt m k=>⟨λup=>RJ t m k⟩) (λt m x v=>⟨λup=>QW t m x v⟩) (λt x=>⟨λup=>RU t x⟩) (λx b=>⟨λup=>RN x b⟩) (λx=>⟨λup=>QV x⟩)
   (λ_ _ _ _=>⟨qO⟩) (λx k=>⟨λup=>QX x k⟩) (λc=>⟨λup=>EM up c⟩) (λ_=>⟨qO⟩) (λ_=>⟨qO⟩) (λ_=>⟨qO⟩) (λ_ _=>⟨qO⟩) (λ_ _ _=>⟨qO⟩) (λ_ _=>⟨qO⟩) op
def gQ(op:Op):OpK:=(qC op).run
structure OD where
 set:AV->Env->Env
def yI(d:Option Nat):OD:=Option.rec (motive:=λ_=>OD) ⟨λ_ e=>e⟩ (λd=>⟨(CZ d).s⟩) d
def kH(d:Option Nat)(a:AV)(e:Env):Env:=(yI d).set a e
def rF(all:List Oper)(e:Env)(g:Nat×Bool):Option Bool:=oB (yQ all g.1) λoj=>oB oj.dst λd=>oB (dL d e) λa=>match a with
 |.q b=>some (bq b g.2 (bq g.2 false true))
 |.t []=>some false
 |_=>none
abbrev EvS:=Runner->Env->St->RC
structure OL where
 run:EvS
def ag8(a b:RC):RC:=match a,b with
 |.one x e s,.one x' e' s'=>.many [(x,e,s),(x',e',s')]
 |.one x e s,.many l=>.many ((x,e,s)::l)
 |.many l,.one x e s=>.many (l++[(x,e,s)])
 |.many l,.many l'=>.many (l++l')
 |_,_=>.no
def pW(l:List RC):RC:=List.rec (motive:=λ_=>RC) (.many []) (λy _ ih=>ag8 y ih) l
def stO(v:AV)(s:St)(d:OD)(ih:OL)(up:Runner)(e:Env):RC:=ih.run up (d.set v e) s
def stM(l:List (AV×St))(d:OD)(ih:OL)(up:Runner)(e:Env):RC:=pW (iO (λw=>stO w.1 w.2 d ih up e) l)
def stN(_:OD)(_:OL)(_:Runner)(_:Env):RC:=.no
def AA(op:OO)(d:OD)(ih:OL):EvS:=λup e s=>RO.rec (motive:=λ_=>OD->OL->Runner->Env->RC) stN stO stM (op.run up e s) d ih up e
def bp9(all:List Oper)(g:Nat×Bool)(op:OO)(d:OD)(ih:OL):EvS:=λup e s=>
 Option.rec (motive:=λ_=>RC) .no (λq=>bq q (AA op d ih up e s) (ih.run up (d.set un e) s)) (rF all e g)
def qB(all l:List Oper):OL:=List.rec (motive:=λ_=>OL) ⟨λ_ e s=>.one .n e s⟩
 (λo _ ih=>Option.rec (motive:=λ_=>OL) ⟨AA (qC o.op) (yI o.dst) ih⟩ (λg=>⟨bp9 all g (qC o.op) (yI o.dst) ih⟩) o.guard) l
def gG:Op->Nat
 |.move _=>0
 |.assign _=>0
 |.pick _ _ _=>0
 |.build _ _=>0
 |.nilCheck _=>0
 |.binOp _ _ _ _ _=>0
 |.unOp _ _ _=>0
 |.makeFunc _ _ _=>0
 |.fieldAddr _ _ _=>0
 |.field _ _ _=>0
 |.indexAddr _ _ _=>0
 |.index _ _ _=>0
 |.extract _ _=>0
 |.load _ _=>1
 |.slice _ _ _ _ _=>1
 |.convert _ _ _=>1
 |.lookup _ _ _ _=>1
 |.alloc _=>3
 |.box _ _=>3
 |.buildSlice _ _ _=>3
 |.makeMap _ _=>3
 |.call c=>(match c.callee with|.builtin .len=>1|_=>2)
 |_=>2
def WM(a b:AV):Bool:=match a,b with
 |.p b o,.p c i=>bq (Nat.beq b c) (Nat.beq o i) false
 |.s b o l c,.s b' o' l' c'=>bq (Nat.beq b b') (bq (Nat.beq o o') (bq (Nat.beq l l') (match c,c' with|none,none=>true|some x,some y=>Nat.beq x y|_,_=>false) false) false) false
 |.m b,.m c=>Nat.beq b c
 |.y b,.y c=>Nat.beq b c
 |a,b=>NZ a b
def JG(a:List AV):List AV->Bool:=List.rec (motive:=λ_=>List AV->Bool) (λb=>List.rec (motive:=λ_=>Bool) true (λ_ _ _=>false) b)
 (λx _ ih b=>List.rec (motive:=λ_=>Bool) false (λy r _=>bq (WM x y) (ih r) false) b) a
def ay8(a b:AV):Bool:=match a,b with
 |.g a,.g b=>JG a b
 |.t a,.t b=>JG a b
 |.f f fs cs,.f g gs ds=>bq (Nat.beq f g) (bq (JG fs gs) (JG cs ds) false) false
 |a,b=>WM a b
structure DR where
 i:Nat
 mask:Nat
 op:OO
 e:Env
 v:AV
structure DA where
 i:Nat
 b:Nat
 o:AO
structure DH where
 i:Nat
 mask:Nat
 s:St
def iK(mask seen:Nat)(l:List DA)(s:St):St:=List.rec (motive:=λ_=>St->St) (λs=>s) (λd _ ih s=>bq (Nat.testBit mask d.i) (bq (Nat.testBit seen d.i) (ih s) (ih ⟨s.h.set (pa d.b) (some d.o),s.nx,s.ro⟩)) (ih s)) l s
def LU(op:OO)(up:Runner)(e:Env)(s:St)(v:AV):Bool:=RO.rec (motive:=λ_=>Bool) false (λv' _=>ay8 v v') (λ_=>false) (op.run up e s)
def wJ(h0:DH)(l:List DH):DH:=List.rec (motive:=λ_=>DH) h0 (λh _ _=>h) l
def SL(r:DR)(up:Runner)(al:List DA)(h0:DH)(hs:List DH):Bool:=List.rec (motive:=λ_=>Bool) true
 (λh tl ih=>bq (Nat.testBit r.mask h.i) ih (bq (LU r.op up r.e (iK r.mask (wJ h0 tl).mask al (wJ h0 tl).s) r.v) ih false)) hs
structure DS where
 rs:List DR
 al:List DA
 hs:List DH
abbrev xK:=List Nat->DS->Runner->Env->RC
def lastH(h0:DH)(d:DS):DH:=wJ h0 d.hs
def dr0(h0:DH)(i mask:Nat)(o:Oper)(ih:xK)(ms:List Nat)(d:DS)(up:Runner)(e:Env):RC:=
 RO.rec (motive:=λ_=>RC) .no (λv _=>ih ms d up (kH o.dst v e)) (λ_=>.no) (gQ o.op up e (lastH h0 d).s)
def dr1(h0:DH)(i mask:Nat)(o:Oper)(ih:xK)(ms:List Nat)(d:DS)(up:Runner)(e:Env):RC:=
 RO.rec (motive:=λ_=>RC) .no (λv _=>bq (SL ⟨i,mask,qC o.op,e,v⟩ up d.al h0 d.hs) (ih ms ⟨⟨i,mask,qC o.op,e,v⟩::d.rs,d.al,d.hs⟩ up (kH o.dst v e)) .no) (λ_=>.no)
   (gQ o.op up e (iK mask (lastH h0 d).mask d.al (lastH h0 d).s))
def dr2(h0:DH)(i mask:Nat)(o:Oper)(ih:xK)(ms:List Nat)(d:DS)(up:Runner)(e:Env):RC:=
 bq (bq (allB (λh=>Nat.testBit mask h.i) d.hs) (bq (Nat.beq (Nat.lor mask (lastH h0 d).mask) mask) (bq (Nat.beq h0.s.ro 0) true (allB (λa=>Nat.testBit mask a.i) d.al)) false) false) (RO.rec (motive:=λ_=>RC) .no (λv s=>bq (allB (λr=>bq (Nat.testBit mask r.i) true (LU r.op up r.e (iK r.mask mask d.al s) r.v)) d.rs)
  (ih ms ⟨d.rs,d.al,⟨i,mask,s⟩::d.hs⟩ up (kH o.dst v e)) .no) (λ_=>.no) (gQ o.op up e (iK mask (lastH h0 d).mask d.al (lastH h0 d).s))) .no
def dr3(b0:Nat)(h0:DH)(i mask:Nat)(o:Oper)(ih:xK)(ms:List Nat)(d:DS)(up:Runner)(e:Env):RC:=
 bq (bq (Nat.beq h0.s.ro 0) true (allB (λh=>Nat.testBit mask h.i) d.hs)) (RO.rec (motive:=λ_=>RC) .no (λv s=>Option.rec (motive:=λ_=>RC) .no (λob=>ih ms ⟨d.rs,⟨i,Nat.add b0 i,ob⟩::d.al,d.hs⟩ up (kH o.dst v e)) (s.h.get (pa (Nat.add b0 i)))) (λ_=>.no)
  (gQ o.op up e ⟨full AO 18,Nat.add b0 i,0⟩)) .no
def uG(b0:Nat)(h0:DH)(i mask:Nat)(o:Oper)(ih:xK)(ms:List Nat)(d:DS)(up:Runner)(e:Env):RC:=match gG o.op with
 |0=>dr0 h0 i mask o ih ms d up e
 |1=>dr1 h0 i mask o ih ms d up e
 |2=>dr2 h0 i mask o ih ms d up e
 |_=>dr3 b0 h0 i mask o ih ms d up e
def uF(all:List Oper)(b0:Nat)(h0:DH)(o:Oper)(ih:Nat->xK)(i:Nat):xK:=λms d up e=>match o.guard with
 |none=>uG b0 h0 i (ms.headD 0) o (ih (Nat.succ i)) ms.tail d up e
 |some g=>(match rF all e g with
  |some true=>uG b0 h0 i (ms.headD 0) o (ih (Nat.succ i)) ms.tail d up e
  |some false=>ih (Nat.succ i) ms.tail d up (kH o.dst un e)
  |none=>.no)
def ah8(h0:DH)(d:DS)(e:Env):RC:=let h:=lastH h0 d; .one .n e (List.rec (motive:=λ_=>St->St) (λs=>s) (λa _ ih s=>bq (Nat.testBit h.mask a.i) (ih s) (ih ⟨s.h.set (pa a.b) (some a.o),s.nx,s.ro⟩)) d.al h.s)
def fU(all:List Oper)(b0:Nat)(h0:DH)(l:List Oper):Nat->xK:=List.rec (motive:=λ_=>Nat->xK) (λ_ _ d _ e=>ah8 h0 d e) (λo _ ih=>uF all b0 h0 o ih) l
def MO(ops:Array Oper)(mask:Nat)(ok:Oper)(l:List Oper):Nat->Bool:=List.rec (motive:=λ_=>Nat->Bool) (λ_=>true) (λo _ ih i=>bq (Nat.testBit mask i) (ih (Nat.succ i)) (bq (o.apart ops ok) (ih (Nat.succ i)) false)) l
def av6(ops:Array Oper)(ms:List Nat):List Oper->List Oper->Bool:=List.rec (motive:=λ_=>List Oper->List Oper->Bool) (λ_ l=>match l with|[]=>true|_::_=>false)
 (λm _ ih done l=>match l with|[]=>true|o::r=>bq (MO ops m o done 0) (ih (dW done [o]) r) false) ms
def CU(ops:Array Oper):Bool:=bq (av6 ops (Region.before ops).toList [] ops.toList) (yL 0 ops.toList) false
def ct4(l:List Oper)(ms:List Nat):EvS:=λup e s=>St.rec (motive:=λ_=>RC) (λh nx ro=>fN (Nat.add nx (Nat.succ (bI l))) λnx'=>fU l nx ⟨0,0,⟨h,nx',ro⟩⟩ l 0 ms ⟨[],[],[]⟩ up e) s
def aB1(ops:Array Oper):OL:=⟨ct4 ops.toList (Region.before ops).toList⟩
def bC(r:RC)(k:Ex->Env->St->RC):RC:=RC.rec (motive:=λ_=>RC) .no k (λl=>pW (iO (λw=>k w.1 w.2.1 w.2.2) l)) r
def sqK(ib:OL)(up:Runner)(x:Ex)(e:Env)(s:St):RC:=Ex.rec (motive:=λ_=>OL->Runner->Env->St->RC) (λib up e s=>ib.run up e s) (λi _ _ e s=>.one (.x i) e s) (λ_ _ e s=>.one .r e s) x ib up e s
def cn4(ia ib:OL):EvS:=λup e s=>bC (ia.run up e s) (sqK ib up)
def ac7(a:AV)(k k':OL)(up:Runner)(e:Env)(s:St):RC:=match a with
 |.q b=>(bq b k k').run up e s
 |_=>.no
def cn2(c:OX)(ia ib:OL):EvS:=λup e s=>Option.rec (motive:=λ_=>RC) .no (λa=>ac7 a ia ib up e s) (c.get e)
def blK(id:Nat)(x:Ex)(e:Env)(s:St):RC:=Ex.rec (motive:=λ_=>RC) (.one .n e s) (λj=>bq (Nat.beq j id) (.one .n e s) (.one (.x j) e s)) (.one .r e s) x
def cn1(id:Nat)(ia:OL):EvS:=λup e s=>bC (ia.run up e s) (blK id)
def KO(k:Nat)(ia:OL):EvS:=Nat.rec (motive:=λ_=>EvS) (λ_ _ _=>.no)
 (λ_ ih up e s=>bC (ia.run up e s) λx e s=>Ex.rec (motive:=λ_=>RC) (ih up e s) (λi=>.one (.x i) e s) (.one .r e s) x) k
def aA0(ia:OL):EvS:=λup e s=>KO 4096 ia up e s
def VR(s:St)(b:Nat):St:=⟨s.h.set (pa b) none,s.nx,s.ro⟩
def JE(b:Nat)(e:Env)(s:St):RC:=match s.1.get (pa b)with
 |some (.l 0 _ _ _ _ _)=>.one .n e (VR s b)
 |some (.l 2 _ _ _ _ (some j))=>(match j with
  |.ret=>.one .r e (VR s b)
  |.exit id=>.one (.x id) e (VR s b)
  |_=>.no)
 |_=>.no
def ao8(up:Runner)(fv:AV)(e:Env)(y:AV)(s:St):RC:=match y,fv with
 |.y b,.f f fs cs=>RO.rec (motive:=λ_=>RC) .no (λ_ s=>JE b e s) (λl=>pW (iO (λw=>JE b e w.2) l)) (yG up f (dW fs (dW [.y b] cs)) s)
 |_,_=>.no
def ag5(g:Operand)(ps:Array Tmp)(aA body:Code):EvS:=λup e s=>Option.rec (motive:=λ_=>RC) .no (λfv=>
 RO.rec (motive:=λ_=>RC) .no (ao8 up fv e) (λ_=>.no) (mM (.l 0 e ps.toList aA body none) .y s)) (look g e)
def comp(c:Code):OL:=
 Code.rec (motive:=λ_=>OL) ⟨λ_ e s=>.one .n e s⟩ (λ_ ops draw=>bq draw (aB1 ops) (qB ops.toList ops.toList)) (λ_ _ ia ib=>⟨cn4 ia ib⟩) (λc _ _ ia ib=>⟨cn2 (bj5 c) ia ib⟩) (λid _ ia=>⟨cn1 id ia⟩) (λ_ ia=>⟨aA0 ia⟩)
  (λg ps a b _ _=>⟨ag5 g ps a b⟩) (λid=>⟨λ_ e s=>.one (.x id) e s⟩) (λ_ _=>⟨λ_ _ _=>.no⟩) (λ_=>⟨λ_ _ _=>.no⟩) (λ_=>⟨λ_ _ _=>.no⟩) ⟨λ_ e s=>.one .r e s⟩ (λ_=>⟨λ_ _ _=>.no⟩) c
def EN(n:Nat)(l:List Oper):Bool:=allB (λo=>inRange n o.dst) l
def codeOk(n:Nat)(c:Code):Bool:=
 Code.rec (motive:=λ_=>Bool) true (λ_ ops d=>bq (EN n ops.toList) (bq d (CU ops) true) false) (λ_ _ a b=>bq a b false) (λ_ _ _ a b=>bq a b false) (λ_ _ a=>a) (λ_ a=>a)
  (λ_ ps x y a b=>bq (allB (λp=>Nat.blt p n) ps.toList) (bq (cO x) (bq (cO y) (bq a b false) false) false) false) (λ_=>true) (λ_ _=>true) (λ_=>true) (λ_=>true) true (λ_=>true) c
def aE8(F:Func):Bool:=match F.body with|some c=>codeOk F.ntmps c|none=>true
def Bt.all{α:Type}(f:α->Bool)(t:Bt α):Bool:=Bt.rec (motive:=λ_=>Bool) true (λ_ v _ _ a b=>bq (f v) (bq a b false) false) t
def evN(n:Nat):Runner:=Nat.rec (motive:=λ_=>Runner) (λ_ _ _=>.no) (λ_ ih c e s=>(comp c).run ih e s) n
def st0:St:=⟨full AO 18,0,0⟩
def isTrue(a:AV):Bool:=match a with|.q b=>b|_=>false
def evT(n:Nat)(f:FuncId):Bool:=RO.rec (motive:=λ_=>Bool) false (λv _=>isTrue v) (λ_=>false) (yG (evN n) f [] st0)
end
end Go.Ev
end
namespace Go
abbrev xQ:=@List.getElem?_drop
abbrev rH:=@Bool.true_and
abbrev IC:=@beq_self_eq_true
abbrev rP:=@Nat.min_eq_left
end Go
namespace Go.Ev
section
open Go Go.F6
theorem P6{α β:Type}{a:Option α}{k:α->Option β}{r:β}(h:oB a k=some r):∃x,a=some x/\k x=some r:=by
 cases a with
 |none=>cases h
 |some x=>exact⟨x,rfl,h⟩
theorem lI{β:Type}{c:Bool}{k:Option β}{r:β}(h:bg c k=some r):c=true/\k=some r:=by
 cases c with
 |false=>cases h
 |true=>exact⟨rfl,h⟩
@[simp] theorem af9 {α:Type} (a b:α):bq true a b=a:=rfl
@[simp] theorem II {α:Type} (a b:α):bq false a b=b:=rfl
@[simp] theorem iL {R:Type} (n:Nat) (k:Nat->R):fN n k=k n:=by cases n<;>rfl
@[simp] theorem uI {R α:Type} (l:List α) (k:List α->R):fL l k=k l:=by
  induction l generalizing k with
  |nil=>rfl
  |cons x r ih=>exact ih _
@[simp] theorem cy7 {R:Type} (l:List Nat) (k:List Nat->R):fNs l k=k l:=by
  induction l generalizing k with
  |nil=>rfl
  |cons x r ih=>exact(iL x λx=>fNs r λr=>k (x::r)).trans (ih _)
def aJ7(k:IntKind):Int->AV
 |.ofNat n=>.n k n
 |.negSucc n=>.neg k n
@[simp] theorem yP {R:Type} (k:IntKind) (i:Int) (K:AV->R):fI k i K=K (aJ7 k i):=by
  cases i with
  |ofNat n=>exact iL n λn=>K (.n k n)
  |negSucc n=>exact iL n λn=>K (.neg k n)
@[simp] theorem cy8 {R:Type} (b:Bool) (K:AV->R):fQ b K=K (.q b):=by cases b<;>rfl
theorem aQ6:∀(m k j:Nat),KZ m k=KZ m j->k=j\/∀{α:Type}(t:Tr α),t.get (KZ m k)=none
 |0,k,j,_=>.inr λt=>by cases t<;>rfl
 |m+1,k,j,h=>by
  have hz:∀k,KZ (m+1) k=bq (Nat.beq k 0) .e (bq (Nat.beq (Nat.mod k 2) 1) (.a (KZ m (Nat.div k 2))) (.b (KZ m (Nat.sub (Nat.div k 2) 1)))):=λ_=>rfl;have hm:∀k,Nat.mod k 2=k % 2:=λ_=>rfl;have hd:∀k,Nat.div k 2=k/2:=λ_=>rfl;have hs:∀k,Nat.sub (k/2) 1=k/2-1:=λ_=>rfl;rw[hz k,hz j]at h;rw[hz k];simp only[hm,hd,hs]at h⊢;by_cases k0:k=0
  .subst k0;by_cases j0:j=0
   .grind
   .exfalso;have:Nat.beq j 0=false:=by cases hb:Nat.beq j 0 with|false=>rfl|true=>exact absurd (F8 hb) j0
    rw[this]at h;simp at h;cases hb:Nat.beq (j % 2) 1<;>rw[hb]at h<;>cases h
  .have hk:Nat.beq k 0=false:=by cases hb:Nat.beq k 0 with|false=>rfl|true=>exact absurd (F8 hb) k0
   rw[hk]at h⊢;simp only[II]at h⊢;by_cases j0:j=0
   .exfalso;subst j0;simp at h;cases hb:Nat.beq (k % 2) 1<;>rw[hb]at h<;>cases h
   .have hj:Nat.beq j 0=false:=by cases hb:Nat.beq j 0 with|false=>rfl|true=>exact absurd (F8 hb) j0
    rw[hj]at h;simp only[II]at h;cases hb:Nat.beq (k % 2) 1 with
    |true=>
     have hb':=F8 hb;rw[hb]at h;cases hc:Nat.beq (j % 2) 1 with
     |false=>rw[hc]at h;cases h
     |true=>
      have hc':=F8 hc;rw[hc]at h;simp only[af9]at h⊢;injection h with h
      rcases aQ6 m _ _ h with e|e
      .grind
      .exact .inr λt=>by cases t with|lf=>rfl|nd v a b=>exact e a
    |false=>
     have hb':k % 2≠1:=λe=>by rw[e]at hb;cases hb
     rw[hb]at h;cases hc:Nat.beq (j % 2) 1 with
     |true=>rw[hc]at h;cases h
     |false=>
      have hc':j % 2≠1:=λe=>by rw[e]at hc;cases hc
      rw[hc]at h;simp only[II]at h⊢;injection h with h
      rcases aQ6 m _ _ h with e|e
      .grind
      .exact .inr λt=>by cases t with|lf=>rfl|nd v a b=>exact e b
theorem Tr.kT{α:Type}(t:Tr α)(p:Pa)(x:Option α)(q:Pa)(y:α)(h:(t.set p x).get q=some y):(p=q/\x=some y)\/(p≠q/\t.get q=some y):=by
 induction t generalizing p q with
 |lf=>cases h
 |nd v a b iha ihb=>
  cases p with
  |e=>
   cases q with
   |e=>exact .inl ⟨rfl,h⟩
   |a q=>exact .inr ⟨(λe=>by cases e),h⟩
   |b q=>exact .inr ⟨(λe=>by cases e),h⟩
   |z=>cases h
  |a p=>
   cases q with
   |e=>exact .inr ⟨(λe=>by cases e),h⟩
   |a q=>rcases iha p q h with⟨e,h⟩|⟨e,h⟩
         .grind
         .exact .inr ⟨λh=>e (by injection h),h⟩
   |b q=>exact .inr ⟨(λe=>by cases e),h⟩
   |z=>cases h
  |b p=>
   cases q with
   |e=>exact .inr ⟨(λe=>by cases e),h⟩
   |b q=>rcases ihb p q h with⟨e,h⟩|⟨e,h⟩
         .grind
         .exact .inr ⟨λh=>e (by injection h),h⟩
   |a q=>exact .inr ⟨(λe=>by cases e),h⟩
   |z=>cases h
  |z=>
   refine .inr ⟨λe=>?_,h⟩;subst e;cases h
theorem kT{α:Type}{t:Tr α}{k:Nat}{x:Option α}{j:Nat}{y:α}(h:(t.set (pa k) x).get (pa j)=some y):(j=k/\x=some y)\/(j≠k/\t.get (pa j)=some y):=by
 rcases Tr.kT t _ x _ y h with⟨e,h1⟩|⟨e,h1⟩
 .rcases aQ6 18 _ _ e with e'|e'
  .grind
  .exfalso;have:pa j=pa k:=e.symm;rw[this]at h;have:=e' (t.set (pa k) x);rw[show(t.set (pa k) x).get (pa k)=none from this]at h;cases h
 .grind
theorem aj0{α:Type}:∀(n:Nat)(p:Pa),(full α n).get p=none
 |0,_=>rfl
 |n+1,p=>by
  cases p with
  |e=>rfl
  |a p=>exact aj0 n p
  |b p=>exact aj0 n p
  |z=>rfl
theorem VT{α:Type}(n:Nat)(l:List α):oL n l=l.drop n:=by
 induction n generalizing l with
 |zero=>rfl
 |succ n ih=>cases l with|nil=>rfl|cons x r=>exact ih r
theorem as2{α:Type}{n:Nat}{l r:List α}(h:rD n l=some r):r=l.take n/\r.length=n:=by
 induction n generalizing l r with
 |zero=>cases h;exact⟨rfl,rfl⟩
 |succ n ih=>
  cases l with
  |nil=>cases h
  |cons x l=>
   obtain⟨s,h1,h2⟩:=P6 h;injection h2 with h2
   subst h2;obtain⟨h3,h4⟩:=ih h1
   grind
theorem yR{α:Type}(l:List α)(n:Nat):yQ l n=l[n]?:=by
 unfold yQ;rw[VT];induction n generalizing l with
 |zero=>cases l<;>rfl
 |succ n ih=>cases l with|nil=>rfl|cons x r=>simpa using ih r
def Tn:Nat->Type
 |0=>Unit
 |n+1=>Nd (Tn n)
def dY:(n:Nat)->Nat->Tn n->Option AV
 |0,_,_=>none
 |n+1,k,e=>if k=0 then Nd.v e else if k % 2=1 then dY n (k/2) (Nd.a e)else dY n (k/2-1) (Nd.b e)
noncomputable def jQ:(n:Nat)->Nat->AV->Tn n->Tn n
 |0,_,_,e=>e
 |n+1,k,x,e=>if k=0 then sV x e else if k % 2=1 then sA (jQ n (k/2) x) e else sB (jQ n (k/2-1) x) e
theorem aR7:∀(n k j:Nat)(x:AV)(e:Tn n)(y:AV),dY n j (jQ n k x e)=some y->(j=k/\y=x)\/(j≠k/\dY n j e=some y)
 |0,_,_,_,_,_,h=>by cases h
 |n+1,k,j,x,e,y,h=>by
  have hs:∀(j:Nat)(e:Tn (n+1)),dY (n+1) j e=if j=0 then Nd.v (β:=Tn n) e else if j % 2=1 then dY n (j/2) (Nd.a (β:=Tn n) e)else dY n (j/2-1) (Nd.b (β:=Tn n) e):=λ_ _=>rfl
  have hp:jQ (n+1) k x e=(if k=0 then sV (β:=Tn n) x e else if k % 2=1 then sA (β:=Tn n) (jQ n (k/2) x) e else sB (β:=Tn n) (jQ n (k/2-1) x) e:Nd (Tn n)):=rfl;rw[hs]at h⊢;rw[hp]at h;have eV:Nd.v (sV (β:=Tn n) x e)=some x/\Nd.a (sV (β:=Tn n) x e)=Nd.a (β:=Tn n) e/\Nd.b (sV (β:=Tn n) x e)=Nd.b (β:=Tn n) e:=by obtain⟨v,a,b⟩:=e;exact⟨rfl,rfl,rfl⟩
  have eA:∀f,Nd.v (sA (β:=Tn n) f e)=Nd.v (β:=Tn n) e/\Nd.a (sA (β:=Tn n) f e)=f (Nd.a (β:=Tn n) e)/\Nd.b (sA (β:=Tn n) f e)=Nd.b (β:=Tn n) e:=λf=>by obtain⟨v,a,b⟩:=e;exact⟨rfl,rfl,rfl⟩
  have eB:∀f,Nd.v (sB (β:=Tn n) f e)=Nd.v (β:=Tn n) e/\Nd.a (sB (β:=Tn n) f e)=Nd.a (β:=Tn n) e/\Nd.b (sB (β:=Tn n) f e)=f (Nd.b (β:=Tn n) e):=λf=>by obtain⟨v,a,b⟩:=e;exact⟨rfl,rfl,rfl⟩
  by_cases hk:k=0
  .grind
  .rw[F9 hk]at h;by_cases hk1:k % 2=1
   .rw[I4 hk1]at h;by_cases hj:j=0
    .grind
    .rw[F9 hj]at h⊢;by_cases hj1:j % 2=1
     .rw[I4 hj1]at h⊢;rcases aR7 n (k/2) (j/2) x _ y ((congrArg (dY n (j/2)) (eA _).2.1).symm.trans h)with⟨h1,h2⟩|⟨h1,h2⟩
      .grind
      .grind
     .grind
   .rw[F9 hk1]at h;by_cases hj:j=0
    .grind
    .rw[F9 hj]at h⊢;by_cases hj1:j % 2=1
     .grind
     .rw[F9 hj1]at h⊢;rcases aR7 n (k/2-1) (j/2-1) x _ y ((congrArg (dY n (j/2-1)) (eB _).2.2).symm.trans h)with⟨h1,h2⟩|⟨h1,h2⟩
      .grind
      .grind
theorem bo4:bo3=(List.range 160).map λk=>⟨λe=>dY 8 k e,λx e=>jQ 8 k x e⟩:=by rfl
theorem PL{t:Nat}(h:t<160):CZ t=⟨λe=>dY 8 t e,λx e=>jQ 8 t x e⟩:=by
 unfold CZ;rw[yR,bo4,O6,bd0 h];rfl
theorem WQ{t:Nat}(h:160<=t):CZ t=⟨λ_=>none,λ_ e=>e⟩:=by
 unfold CZ;rw[yR,rM (by rw[bo4];simpa using h)]
theorem bm2{t j:Nat}{x:AV}{e:Env}{y:AV}(h:dL j (wG t x e)=some y):(j=t/\y=x)\/(j≠t/\dL j e=some y):=by
 unfold dL wG at*
 rcases eG j 160 with hj|hj
 .rcases eG t 160 with ht|ht
  .rw[PL hj,PL ht]at h;rw[PL hj];exact aR7 8 t j x e y h
  .rw[WQ ht]at h
   grind
 .rw[WQ hj]at h;cases h
theorem dB2(t:Nat):dL t zeroE=none:=by
 unfold dL;rcases eG t 160 with ht|ht
 .rw[PL ht];show dY 8 t zeroE=none;have hu:∀k,dY 0 k ()=none:=λ_=>rfl;have st:∀(n:Nat)(x:Tn n),(∀k,dY n k x=none)->∀k,dY (n+1) k (n0 x:Nd (Tn n))=none:=λn x hx k=>by
   show(if k=0 then none else if k % 2=1 then dY n (k/2) x else dY n (k/2-1) x)=none
   grind
  exact st 7 _ (st 6 _ (st 5 _ (st 4 _ (st 3 _ (st 2 _ (st 1 _ (st 0 _ hu))))))) t
 .rw[WQ ht]
theorem oI{α:Type}(a b:List α):dW a b=a++b:=by
 induction a with
 |nil=>rfl
 |cons x r ih=>exact congrArg (x::·) ih
theorem jC{α:Type}(l:List α):bI l=l.length:=by
 induction l with
 |nil=>rfl
 |cons x r ih=>exact congrArg Nat.succ ih
theorem wQ{α β:Type}(f:α->β)(l:List α):iO f l=l.map f:=by
 induction l with
 |nil=>rfl
 |cons x r ih=>exact congrArg (f x::·) ih
theorem c02{α:Type}{xs l r:List α}(h:bG5 xs l=some r):xs.length<=l.length/\r=xs++l.drop xs.length:=by
 induction xs generalizing l r with
 |nil=>cases h;exact⟨Y3 _,rfl⟩
 |cons x xs ih=>
  cases l with
  |nil=>cases h
  |cons y l=>
   obtain⟨s,h1,h2⟩:=P6 h;injection h2 with h2
   subst h2;obtain⟨h3,h4⟩:=ih h1
   grind
theorem ao5{α:Type}{n:Nat}{xs l r:List α}(h:uY n xs l=some r):n+xs.length<=l.length/\r=l.take n++xs++l.drop (n+xs.length):=by
 induction n generalizing l r with
 |zero=>
  obtain⟨h1,h2⟩:=c02 h
  grind
 |succ n ih=>
  cases l with
  |nil=>cases h
  |cons y l=>
   obtain⟨s,h1,h2⟩:=P6 h;injection h2 with h2
   subst h2;obtain⟨h3,h4⟩:=ih h1
   grind
theorem bJ4{α:Type}{n:Nat}{xs l r:List α}(h:uY n xs l=some r)(j:Nat):r[j]?=if j<n then l[j]? else if j<n+xs.length then xs[j-n]? else l[j]?:=by
 obtain⟨h1,rfl⟩:=ao5 h
 grind
theorem c43{α:Type}{n:Nat}{xs l r:List α}(h:uY n xs l=some r):r.length=l.length:=by
 obtain⟨h1,rfl⟩:=ao5 h;simp;omega
theorem bm7(a b:List Nat):yN a b=decide (a=b):=by
 induction a generalizing b with
 |nil=>cases b<;>rfl
 |cons x r ih=>
  cases b with
  |nil=>rfl
  |cons y s=>
   show bq (Nat.beq x y) (yN r s) false=_;rw[ih];by_cases h:x=y
   .subst h;simp
   .have:Nat.beq x y=false:=by cases hb:Nat.beq x y with|false=>rfl|true=>exact absurd (F8 hb) h
    rw[this];simp[h]
theorem cQ5{l:List Operand}{e:Env}{r:List AV}(h:qN l e=some r):r.length=l.length/\∀(i:Nat)(x:Operand),l[i]?=some x->∃a,r[i]?=some a/\look x e=some a:=by
 induction l generalizing r with
 |nil=>cases h;exact⟨rfl,λi x h=>by simp at h⟩
 |cons o l ih=>
  obtain⟨a,h1,h⟩:=P6 h;obtain⟨s,h2,h⟩:=P6 h;injection h with h
  subst h;obtain⟨h3,h4⟩:=ih h2;refine⟨by simp[h3],λi x hx=>?_⟩;cases i with
  |zero=>grind
  |succ i=>grind
@[simp] theorem aw1 (k:IntKind) (n:Nat) (f:IntKind->Nat->RO):BG (.n k n) f=f k n:=rfl
@[simp] theorem ba0 (b o:Nat) (f:Nat->Nat->RO):mQ (.p b o) f=f b o:=rfl
@[simp] theorem dx6 (b o l:Nat) (c:Option Nat) (f:Nat->Nat->Nat->Option Nat->RO):UK (.s b o l c) f=f b o l c:=rfl
@[simp] theorem dx3 (cs:List AV) (f:List AV->RO):BF (.g cs) f=f cs:=rfl
theorem I8{α:Type}{a:Option α}{k:α->RO}(h:oR a k≠.no):∃x,a=some x/\oR a k=k x:=by
 cases a with
 |none=>exact absurd rfl h
 |some x=>exact⟨x,rfl,rfl⟩
theorem X6{c:Bool}{k:RO}(h:bR c k≠.no):c=true:=by
 cases c with
 |false=>exact absurd rfl h
 |true=>rfl
@[simp] theorem X7 (k:RO):bR true k=k:=rfl
theorem a99{a:AV}{k:IntKind->Nat->RO}(h:BG a k≠.no):∃j n,a=.n j n:=by cases a<;>first|exact⟨_,_,rfl⟩|exact absurd rfl h
theorem dx4{a:AV}{k k':RO}(h:ac6 a k k'≠.no):∃b,a=.q b:=by cases a<;>first|exact⟨_,rfl⟩|exact absurd rfl h
theorem UJ{a:AV}{k:Nat->Nat->RO}(h:mQ a k≠.no):∃b o,a=.p b o:=by cases a<;>first|exact⟨_,_,rfl⟩|exact absurd rfl h
theorem dx5{a:AV}{k:Nat->Nat->Nat->Option Nat->RO}(h:UK a k≠.no):∃b o l c,a=.s b o l c:=by cases a<;>first|exact⟨_,_,_,_,rfl⟩|exact absurd rfl h
theorem b91{a:AV}{k:List AV->RO}(h:BF a k≠.no):∃cs,a=.g cs:=by cases a<;>first|exact⟨_,rfl⟩|exact absurd rfl h
theorem dx2{a:AV}{k:FuncId->List AV->List AV->RO}{ky:Nat->RO}(h:a98 a k ky≠.no):(∃f fs cs,a=.f f fs cs)\/∃b,a=.y b:=by
 cases a<;>first|exact .inl ⟨_,_,_,rfl⟩|exact .inr ⟨_,rfl⟩|exact absurd rfl h
theorem dx1{o:AO}{k:Nat->List AV->RO}(h:a97 o k≠.no):∃el cs,o=.c el cs:=by cases o<;>first|exact⟨_,_,rfl⟩|exact absurd rfl h
theorem vC{s:St}{b:Nat}{k:Nat->List AV->RO}(h:gI s b k≠.no):∃el cs,s.h.get (pa b)=some (.c el cs)/\gI s b k=k el cs:=by
 obtain⟨o,h1,h2⟩:=I8 h;have h3:gI s b k=a97 o k:=h2;rw[h3]at h;obtain⟨el,cs,rfl⟩:=dx1 h;exact⟨el,cs,h1,h3⟩
theorem qZ{s:St}{b:Nat}{x:Option AO}{K:St->RO}(h:setH s b x K≠.no):s.ro<=b/\setH s b x K=K ⟨s.h.set (pa b) x,s.nx,s.ro⟩:=by
 have h1:Nat.ble s.ro b=true:=X6 h;refine⟨H6 h1,?_⟩;show bR (Nat.ble s.ro b) _=_;rw[h1];rfl
theorem zK(o:AO)(mk:Nat->AV)(s:St):mM o mk s=.one (mk s.nx) ⟨s.h.set (pa s.nx) (some o),s.nx+1,s.ro⟩:=
 iL s.nx λnx=>RO.one (mk nx) ⟨s.h.set (pa nx) (some o),Nat.succ nx,s.ro⟩
@[simp] theorem ZH (b o:Nat) (s:St):ZG b o s=.one (.p b o) s:=iL o λo=>RO.one (.p b o) s
@[simp] theorem ZF (k:IntKind) (n:Nat) (s:St):ZE k n s=.one (.n k n) s:=iL n λn=>RO.one (.n k n) s
@[simp] theorem ap3 (b o l:Nat) (c:Option Nat) (s:St):ZI b o l c s=.one (.s b o l c) s:=by
  unfold ZI;rw[iL,iL];cases c with
  |none=>rfl
  |some c=>exact iL c λc=>RO.one (.s b o l (some c)) s
end
section
open Go Go.F6 Go.RowKit
structure Loc where
 blk:Nat
 sh:Nat
 el:Nat
 tot:Nat
abbrev Ren:=Nat->Option Loc
def vU(ρ ρ':Ren):Prop:=∀b L,ρ b=some L->ρ' b=some L
structure Ext(ρ ρ':Ren):Prop where
 tOz:vU ρ ρ'
 low:∀b c L,b<c->ρ c=some L->ρ' b=ρ b
instance {ρ ρ':Ren}:CoeOut (Ext ρ ρ') (vU ρ ρ'):=⟨λh=>h.tOz⟩
instance {ρ ρ':Ren}:CoeFun (Ext ρ ρ') λ_=>∀b L,ρ b=some L->ρ' b=some L:=⟨λh=>h.tOz⟩
theorem Ext.refl(ρ:Ren):Ext ρ ρ:=⟨λ_ _ h=>h,λ_ _ _ _ _=>rfl⟩
theorem Ext.trans{ρ ρ' UQ:Ren}(h:Ext ρ ρ')(k:Ext ρ' UQ):Ext ρ UQ:=⟨λb L e=>k.tOz b L (h.tOz b L e),λb c L hb hc=>(k.low b c L hb (h.tOz c L hc)).trans (h.low b c L hb hc)⟩
def yC:AV->Bool
 |.g _=>false
 |.t _=>false
 |_=>true
inductive RV(ρ:Ren):AV->Value->Prop
 |n (k:IntKind) (n:Nat):RV ρ (.n k n) (.int k (.ofNat n))
 |neg (k:IntKind) (n:Nat):RV ρ (.neg k n) (.int k (.negSucc n))
 |q (b:Bool):RV ρ (.q b) (.bool b)
 |str (s:ByteArray):RV ρ (.str (s.data.toList.map UInt8.toNat)) (.string s)
 |ns:RV ρ .ns (.slice none 0 0)
 |np:RV ρ .np (.pointer none)
 |nm:RV ρ .nm (.map none)
 |nf:RV ρ .nf .nilFunc
 |ni:RV ρ .ni .nilIface
 |p (b o:Nat) (L:Loc) (h:ρ b=some L):RV ρ (.p b o) (.pointer (some ⟨L.blk,o+L.sh,none⟩))
 |s (b o l cap off:Nat) (c:Option Nat) (L:Loc) (h:ρ b=some L) (hl:l<=cap) (hc:∀k,c=some k->cap=k) (ho:off=o+L.sh\/cap=0)
    (hb:c=none->∃i,H8 L.el=some i/\off+cap*i.size<=L.tot):RV ρ (.s b o l c) (.slice (some ⟨L.blk,off,none⟩) l cap)
 |m (b:Nat) (L:Loc) (h:ρ b=some L):RV ρ (.m b) (.map (some L.blk))
 |f (f:FuncId) (fs cs:List AV) (vs us:List Value) (h1:fs.length=vs.length) (h2:cs.length=us.length) (h3:∀(i:Nat)(c:AV)(x:Value),fs[i]?=some c->vs[i]?=some x->RV ρ c x)
    (h4:∀(i:Nat)(c:AV)(x:Value),cs[i]?=some c->us[i]?=some x->RV ρ c x):RV ρ (.f f fs cs) (.func (.func f) vs.toArray us.toArray)
 |y (b:Nat) (L:Loc) (h:ρ b=some L):RV ρ (.y b) (.func (.yield L.blk) #[] #[])
 |g (cs:List AV) (vs:List Value) (h1:cs.length=vs.length) (h2:∀(i:Nat)(c:AV)(x:Value),cs[i]?=some c->vs[i]?=some x->RV ρ c x) (h3:∀c∈cs,yC c=true):RV ρ (.g cs) (.agg vs.toArray)
 |t (cs:List AV) (vs:List Value) (h1:cs.length=vs.length) (h2:∀(i:Nat)(c:AV)(x:Value),cs[i]?=some c->vs[i]?=some x->RV ρ c x):RV ρ (.t cs) (.tuple vs.toArray)
theorem RV.ext{ρ ρ':Ren}(he:vU ρ ρ'){a:AV}{x:Value}(h:RV ρ a x):RV ρ' a x:=by
 induction h with
 |n=>exact .n _ _
 |neg=>exact .neg _ _
 |q=>exact .q _
 |str=>exact .str _
 |ns=>exact .ns
 |np=>exact .np
 |nm=>exact .nm
 |nf=>exact .nf
 |ni=>exact .ni
 |p b o L h=>exact .p b o L (he b L h)
 |s b o l cap off c L h hl hc ho hb=>exact .s b o l cap off c L (he b L h) hl hc ho hb
 |m b L h=>exact .m b L (he b L h)
 |f f fs cs vs us h1 h2 _ _ i3 i4=>exact .f f fs cs vs us h1 h2 i3 i4
 |y b L h=>exact .y b L (he b L h)
 |g cs vs h1 _ h3 i2=>exact .g cs vs h1 i2 h3
 |t cs vs h1 _ i2=>exact .t cs vs h1 i2
theorem RV.atom{ρ:Ren}{a:AV}{x:Value}(h:RV ρ a x)(ha:yC a=true):x.oneCell'=true:=by
 cases h<;>first|rfl|(simp[yC]at ha)
def J8(ρ:Ren)(cs:List AV)(vs:List Value):Prop:=cs.length=vs.length/\∀(i:Nat)(c:AV)(x:Value),cs[i]?=some c->vs[i]?=some x->RV ρ c x
theorem J8.nil(ρ:Ren):J8 ρ [] []:=⟨rfl,λi c x h=>by simp at h⟩
theorem J8.cons{ρ:Ren}{c:AV}{x:Value}{cs:List AV}{vs:List Value}(h:RV ρ c x)(hs:J8 ρ cs vs):J8 ρ (c::cs) (x::vs):=by
 refine⟨by simp[hs.1],λi c' x' h1 h2=>?_⟩;cases i with
 |zero=>grind
 |succ i=>simp at h1 h2;exact hs.2 i c' x' h1 h2
theorem J8.ext{ρ ρ':Ren}(he:vU ρ ρ'){cs:List AV}{vs:List Value}(h:J8 ρ cs vs):J8 ρ' cs vs:=⟨h.1,λi c x h1 h2=>(h.2 i c x h1 h2).ext he⟩
theorem J8.append{ρ:Ren}{cs ds:List AV}{vs us:List Value}(h:J8 ρ cs vs)(k:J8 ρ ds us):J8 ρ (cs++ds) (vs++us):=by
 refine⟨by simp[h.1,k.1],λi c x h1 h2=>?_⟩;rcases eG i cs.length with hlt|hge
 .rw[bV hlt]at h1;rw[bV (by rw[<-h.1];exact hlt)]at h2;exact h.2 i c x h1 h2
 .rw[bJ hge]at h1;rw[bJ (by rw[<-h.1];exact hge),<-h.1]at h2;exact k.2 _ c x h1 h2
theorem J8.get{ρ:Ren}{cs:List AV}{vs:List Value}(h:J8 ρ cs vs){i:Nat}{c:AV}(hc:cs[i]?=some c):∃x,vs[i]?=some x/\RV ρ c x:=by
 have hlt:=(O4.1 hc).1;rw[h.1]at hlt;exact⟨_,I9 hlt,h.2 i c _ hc (I9 hlt)⟩
def aB(ρ:Ren)(e:Env)(tmps:Array Value):Prop:=∀t a,dL t e=some a->∃x,tmps[t]?=some x/\RV ρ a x
theorem aB.ext{ρ ρ':Ren}(he:vU ρ ρ'){e:Env}{tm:Array Value}(h:aB ρ e tm):aB ρ' e tm:=λt a ht=>by
 obtain⟨x,h1,h2⟩:=h t a ht;exact⟨x,h1,h2.ext he⟩
def kE(q:Nat)(j:Option Code):jU:=match q,j with
 |0,_=>.on
 |1,_=>.busy
 |_,some j=>.off j
 |_,none=>.busy
def U6(ρ:Ren)(w:World)(b:Nat):AO->Prop
 |.c el cs=>∃L arr,ρ b=some L/\L.el=el/\w.heap[L.blk]?=some (.cells arr el (0,0))/\arr.size=L.tot/\∀(i:Nat)(c:AV),cs[i]?=some c->yC c=true/\∃x,arr[i+L.sh]?=some x/\RV ρ c x
 |.m es=>∃L arr,ρ b=some L/\w.heap[L.blk]?=some (.map arr arr.size)/\es.length=arr.size/\
   ∀(i:Nat)(k v:AV)(m:MapEntry),es[i]?=some (k,v)->arr[i]?=some m->RV ρ k m.key/\RV ρ v m.val/\m.born=i
 |.l q e ps aA body j=>∃L R,ρ b=some L/\w.heap[L.blk]?=some (.loop ((kE q j).put R))/\R.params.toList=ps/\R.assign=aA/\R.body=body/\aB ρ e R.tmps/\
   (allB (λp=>Nat.blt p R.tmps.size) ps&&codeOk R.tmps.size aA&&codeOk R.tmps.size body&&cO aA&&cO body)=true
 |.si l pos=>∃L s,ρ b=some L/\w.heap[L.blk]?=some (.stringIter s pos)/\s.data.toList.map UInt8.toNat=l/\L.sh=0
 |.mi m seen n=>∃L M,ρ b=some L/\ρ m=some M/\w.heap[L.blk]?=some (.mapIter (some M.blk) n seen.toArray n)/\L.sh=0
theorem U6.ext{ρ ρ':Ren}(he:vU ρ ρ'){w:World}{b:Nat}{o:AO}(h:U6 ρ w b o):U6 ρ' w b o:=by
 cases o with
 |c el cs=>
  obtain⟨L,arr,h1,h2,h3,h4,h5⟩:=h;exact⟨L,arr,he _ _ h1,h2,h3,h4,λi c hc=>by obtain⟨g1,x,g2,g3⟩:=h5 i c hc;exact⟨g1,x,g2,g3.ext he⟩⟩
 |m es=>
  obtain⟨L,arr,h1,h2,h3,h4⟩:=h;exact⟨L,arr,he _ _ h1,h2,h3,λi k v m g1 g2=>by obtain⟨q1,q2,q3⟩:=h4 i k v m g1 g2;exact⟨q1.ext he,q2.ext he,q3⟩⟩
 |l q e ps aA body j=>
  obtain⟨L,R,h1,h2,h3,h4,h5,h6,h7⟩:=h;exact⟨L,R,he _ _ h1,h2,h3,h4,h5,h6.ext he,h7⟩
 |si l pos=>
  obtain⟨L,s,h1,h2⟩:=h;exact⟨L,s,he _ _ h1,h2⟩
 |mi m seen n=>
  obtain⟨L,M,h1,h2,h3⟩:=h;exact⟨L,M,he _ _ h1,he _ _ h2,h3⟩
theorem U6.loc{ρ:Ren}{w:World}{b:Nat}{o:AO}(h:U6 ρ w b o):∃L,ρ b=some L/\L.blk<w.heap.size:=by
 cases o with
 |c el cs=>obtain⟨L,arr,h1,h2,h3,_⟩:=h;exact⟨L,h1,(V4.1 h3).1⟩
 |m es=>obtain⟨L,arr,h1,h2,_⟩:=h;exact⟨L,h1,(V4.1 h2).1⟩
 |l q e ps aA body j=>obtain⟨L,R,h1,h2,_⟩:=h;exact⟨L,h1,(V4.1 h2).1⟩
 |si l pos=>obtain⟨L,s,h1,h2,_⟩:=h;exact⟨L,h1,(V4.1 h2).1⟩
 |mi m seen n=>obtain⟨L,M,h1,h2,h3,_⟩:=h;exact⟨L,h1,(V4.1 h3).1⟩
theorem U6.world{ρ:Ren}{w w':World}{b:Nat}{o:AO}(h:U6 ρ w b o)(hw:∀L,ρ b=some L->w'.heap[L.blk]?=w.heap[L.blk]?):U6 ρ w' b o:=by
 cases o with
 |c el cs=>obtain⟨L,arr,h1,h2,h3,h4⟩:=h;exact⟨L,arr,h1,h2,(hw L h1).trans h3,h4⟩
 |m es=>obtain⟨L,arr,h1,h2,h3⟩:=h;exact⟨L,arr,h1,(hw L h1).trans h2,h3⟩
 |l q e ps aA body j=>obtain⟨L,R,h1,h2,h3⟩:=h;exact⟨L,R,h1,(hw L h1).trans h2,h3⟩
 |si l pos=>obtain⟨L,s,h1,h2,h3⟩:=h;exact⟨L,s,h1,(hw L h1).trans h2,h3⟩
 |mi m seen n=>obtain⟨L,M,h1,h2,h3,h4⟩:=h;exact⟨L,M,h1,h2,(hw L h1).trans h3,h4⟩
def GE(w:World):Prop:=∃m,w.cell? ⟨mxB,0,none⟩=some (.int .i64 m)
structure Rl(S:Nat->Prop)(w0:World)(ρ:Ren)(s:St)(w:World):Prop where
 kept:Kept S w0 w
 slt:∀k,S k->k<w0.heap.size
 gs:∀w',Kept S w0 w'->GE w'
 fresh:∀b,s.nx<=b->ρ b=none
 mP:s.ro<=s.nx
 obj:∀b o,s.h.get (pa b)=some o->U6 ρ w b o
 own:∀b o L,s.h.get (pa b)=some o->ρ b=some L->s.ro<=b->¬S L.blk
 jW:∀b cs L,s.h.get (pa b)=some (.c kQ cs)->ρ b=some L->L.sh=0
 inj:∀b b' o o' L L',s.h.get (pa b)=some o->s.h.get (pa b')=some o'->ρ b=some L->ρ b'=some L'->L.blk=L'.blk->b=b'
section
variable{S:Nat->Prop}{w0:World}{ρ:Ren}{s:St}{w:World}
theorem Rl.lt(h:Rl S w0 ρ s w){b:Nat}{o:AO}(hb:s.h.get (pa b)=some o):b<s.nx:=by
 obtain⟨L,hL,_⟩:=(h.obj b o hb).loc;rcases eG b s.nx with h1|h1
 .exact h1
 .rw[h.fresh b h1]at hL;cases hL
theorem Rl.world(h:Rl S w0 ρ s w){w':World}(hk:Kept S w w')(hw:∀b o L,s.h.get (pa b)=some o->ρ b=some L->w'.heap[L.blk]?=w.heap[L.blk]?):Rl S w0 ρ s w':=
 { h with
   kept:=h.kept.trans hk
   obj:=λb o hb=>(h.obj b o hb).world λL hL=>hw b o L hb hL }
theorem Rl.VG(h:Rl S w0 ρ s w){b el:Nat}{cs:List AV}{L:Loc}(hb:s.h.get (pa b)=some (.c el cs))(hL:ρ b=some L)(he:el=kQ):L.sh=0:=by subst he;exact h.jW b cs L hb hL
def aJ(ρ:Ren)(b:Nat)(L:Loc):Ren:=λc=>if c=b then some L else ρ c
theorem YT{b:Nat}(hf:ρ b=none)(L:Loc):vU ρ (aJ ρ b L):=λc M h=>by
 unfold aJ
 grind
theorem ER{b:Nat}(hf:∀c,b<=c->ρ c=none)(L:Loc):Ext ρ (aJ ρ b L):=⟨YT (hf b (J6 _)) L,λc d M hc hd=>F9 λe=>by
 subst e;rw[hf d (Nat.le_of_lt hc)]at hd
 cases hd⟩
theorem jF(b:Nat)(L:Loc):aJ ρ b L b=some L:=I4 rfl
theorem Rl.new(h:Rl S w0 ρ s w){w':World}{o:AO}{L:Loc}(hk:Kept S w w')(hw:∀b o L,s.h.get (pa b)=some o->ρ b=some L->w'.heap[L.blk]?=w.heap[L.blk]?)
 (hnS:¬S L.blk) (hne:∀b o M,s.h.get (pa b)=some o->ρ b=some M->M.blk≠L.blk) (ho:U6 (aJ ρ s.nx L) w' s.nx o) (hbl:∀cs,o=.c kQ cs->L.sh=0):
 Rl S w0 (aJ ρ s.nx L) ⟨s.h.set (pa s.nx) (some o),s.nx+1,s.ro⟩ w':=by
 have hx:Ext ρ (aJ ρ s.nx L):=ER h.fresh L;have hold:∀b M,b≠s.nx->aJ ρ s.nx L b=some M->ρ b=some M:=λb M hb hM=>by unfold aJ at hM;rwa [F9 hb]at hM
 have hnew:∀M,aJ ρ s.nx L s.nx=some M->M=L:=λM hM=>by rw[jF]at hM;exact(iE hM).symm
 refine⟨h.kept.trans hk,h.slt,h.gs,λb hb=>?_,X4 h.mP (Nat.le_succ _),λb o' hb=>?_,λb o' M hb hM hr=>?_,λb cs M hb hM=>?_,λb b' o1 o2 M M' hb hb' hM hM' he=>?_⟩
 .show aJ ρ s.nx L b=none;have hb':s.nx+1<=b:=hb;unfold aJ;rw[F9 (by omega)];exact h.fresh b (by omega)
 .rcases kT hb with⟨rfl,e⟩|⟨hne',hb'⟩
  .grind
  .exact((h.obj b o' hb').world λM hM=>hw b o' M hb' hM).ext hx
 .rcases kT hb with⟨rfl,e⟩|⟨hne',hb'⟩
  .grind
  .exact h.own b o' M hb' (hold b M hne' hM) hr
 .rcases kT hb with⟨rfl,e⟩|⟨hne',hb'⟩
  .grind
  .exact h.jW b cs M hb' (hold b M hne' hM)
 .rcases kT hb with⟨rfl,e⟩|⟨h1,hb1⟩<;>rcases kT hb' with⟨rfl,e'⟩|⟨h2,hb2⟩
  .rfl
  .grind
  .grind
  .exact h.inj b b' o1 o2 M M' hb1 hb2 (hold b M h1 hM) (hold b' M' h2 hM') he
theorem Rl.drop(h:Rl S w0 ρ s w)(b:Nat):Rl S w0 ρ ⟨s.h.set (pa b) none,s.nx,s.ro⟩ w:=by
 have hg:∀c o,(s.h.set (pa b) none).get (pa c)=some o->s.h.get (pa c)=some o/\c≠b:=λc o hc=>by
  rcases kT hc with⟨_,e⟩|⟨h1,h2⟩
  .cases e
  .grind
 exact⟨h.kept,h.slt,h.gs,h.fresh,h.mP,λc o hc=>h.obj c o (hg c o hc).1,λc o L hc=>h.own c o L (hg c o hc).1,λc cs L hc=>h.jW c cs L (hg c _ hc).1,λc c' o o' L L' hc hc'=>h.inj c c' o o' L L' (hg c o hc).1 (hg c' o' hc').1⟩
theorem Rl.write(h:Rl S w0 ρ s w){w':World}{b:Nat}{o o':AO}{L:Loc}(hb:s.h.get (pa b)=some o)(hL:ρ b=some L)(hr:s.ro<=b)(hk:Kept (λk=>k≠L.blk) w w')(ho:U6 ρ w' b o')(hbl:∀cs,o'=.c kQ cs->L.sh=0):Rl S w0 ρ ⟨s.h.set (pa b) (some o'),s.nx,s.ro⟩ w':=by
 have hS:=h.own b o L hb hL hr;have sG:Kept S w w':=⟨hk.os,hk.tape,hk.output,hk.size,λk hk'=>hk.block k (λe=>hS (e▸hk')),hk.bG⟩;refine⟨h.kept.trans sG,h.slt,h.gs,h.fresh,h.mP,λc x hc=>?_,λc x M hc hM hrc=>?_,λc cs M hc hM=>?_,λc c' x x' M M' hc hc' hM hM' he=>?_⟩
 .rcases kT hc with⟨rfl,e⟩|⟨hne,hc'⟩
  .grind
  .refine(h.obj c x hc').world λM hM=>hk.block _ λe=>?_;exact hne (h.inj c b x o M L hc' hb hM hL e)
 .rcases kT hc with⟨rfl,e⟩|⟨hne,hc'⟩
  .grind
  .exact h.own c x M hc' hM hrc
 .rcases kT hc with⟨rfl,e⟩|⟨hne,hc'⟩
  .grind
  .exact h.jW c cs M hc' hM
 .have e1:∀c x,(s.h.set (pa b) (some o')).get (pa c)=some x->∃y,s.h.get (pa c)=some y:=λc x hc=>by
   rcases kT hc with⟨rfl,_⟩|⟨_,h2⟩
   .grind
   .grind
  obtain⟨y,hy⟩:=e1 c x hc;obtain⟨y',hy'⟩:=e1 c' x' hc';exact h.inj c c' y y' M M' hy hy' hM hM' he
end
def Has(r:RO)(v:AV)(s:St):Prop:=r=.one v s\/∃l,r=.many l/\(v,s)∈l
def aU(P:Program)(o:Oper)(f:aZ):Prop:=
 ∀(S:Nat->Prop)(w0:World)(ρ:Ren)(e:Env)(s:St)(a:Act)(w:World)(next:Act->World->Prop)(Q:Exit->Act->World->Prop),
  f e s≠.no->aB ρ e a.tmps->Rl S w0 ρ s w->(∀v s' ρ' x w',Has (f e s) v s'->Ext ρ ρ'->Rl S w0 ρ' s' w'->s'.ro=s.ro->s.nx<=s'.nx->RV ρ' v x->next (a.put o.dst x) w')->Oper.bT P o a w next Q
section
variable{P:Program}{S:Nat->Prop}{w0:World}{ρ:Ren}{e:Env}{s:St}{a:Act}{w:World}
theorem wM(k:IntKind)(i:Int):RV ρ (aJ7 k i) (.int k i):=by cases i;exact .n _ _;exact .neg _ _
theorem bj7{v:Value}{x:AV}(h:OT v=some x):RV ρ x v:=by
 unfold OT at h;split at h
 .simp at h;subst h;exact wM _ _
 .simp at h;subst h;exact .q _
 .simp at h;subst h;exact .str _
 .simp at h;subst h;exact .ns
 .simp at h;subst h;exact .np
 .simp at h;subst h;exact .nm
 .simp at h;subst h;exact .nf
 .simp at h;subst h;exact .ni
 .simp at h;subst h;exact .t [] [] rfl (λi c x h=>by simp at h)
 .cases h
theorem aI{x:Operand}{v:AV}(h:look x e=some v)(he:aB ρ e a.tmps):RV ρ v (a.eval x):=by
 cases x with
 |tmp t=>
  obtain⟨y,h1,h2⟩:=he t v h;have:a.eval (.tmp t)=y:=by simp[Act.eval,aT,h1]
  grind
 |const c=>exact bj7 h
 |global g=>cases h
 |func f=>
  have h:some (AV.f f [] [])=some v:=h;injection h with h
  subst h;exact .f f [] [] [] [] rfl rfl (λi c x h=>by simp at h) (λi c x h=>by simp at h)
theorem al5{l:List Operand}{r:List AV}(h:qN l e=some r)(he:aB ρ e a.tmps):J8 ρ r (l.map a.eval):=by
 obtain⟨h1,h2⟩:=cQ5 h;refine⟨by simp[h1],λi c x hc hx=>?_⟩;rw[O6]at hx;cases hl:l[i]? with
 |none=>grind
 |some o=>
  rw[hl]at hx;simp at hx;subst hx;obtain⟨b,g1,g2⟩:=h2 i o hl;rw[hc]at g1;injection g1 with g1
  subst g1;exact aI g2 he
theorem dA{o:Oper}{next:Act->World->Prop}{Q:Exit->Act->World->Prop}{r:RO}{v:AV}{x:Value}(hr:r=.one v s)(hR:Rl S w0 ρ s w)(hx:RV ρ v x)(hrun:(execOp a.eval o).run P w=.ok (.value x) w)
 (hn:∀v s' ρ' x w',Has r v s'->Ext ρ ρ'->Rl S w0 ρ' s' w'->s'.ro=s.ro->s.nx<=s'.nx->RV ρ' v x->next (a.put o.dst x) w'):Oper.bT P o a w next Q:=
 aO hrun (hn v s ρ x w (.inl hr) (Ext.refl _) hR rfl (J6 _) hx)
theorem bP0(o:Oper)(x:Operand)(ho:o.op=.move x\/o.op=.assign x):aU P o (zQ x):=by
 intro S w0 ρ e s a w next Q h he hR hn
 obtain⟨v,h1,h2⟩:=I8 h;exact dA h2 hR (aI h1 he) (by rcases ho with ho|ho<;>simp[execOp,ho]) hn
theorem de9(o:Oper)(c x y:Operand)(ho:o.op=.pick c x y):aU P o (RS c x y):=by
 intro S w0 ρ e s a w next Q h he hR hn
 obtain⟨v,h1,h2⟩:=I8 h;replace h2:RS c x y e s=_:=h2;rw[h2]at h hn;obtain⟨b,rfl⟩:=dx4 h;have hc:=aI h1 he;have hcv:a.eval c=.bool b:=by generalize a.eval c=y at hc;cases hc;rfl
 cases b with
 |true=>
  obtain⟨u,g1,g2⟩:=I8 (show oR (look x e) (λa=>RO.one a s)≠.no from h);exact dA g2 hR (aI g1 he) (by simp[execOp,ho,hcv,asBool]) hn
 |false=>
  obtain⟨u,g1,g2⟩:=I8 (show oR (look y e) (λa=>RO.one a s)≠.no from h);exact dA g2 hR (aI g1 he) (by simp[execOp,ho,hcv,asBool]) hn
theorem de8(o:Oper)(x:Operand)(ho:o.op=.nilCheck x):aU P o (RQ x):=by
 intro S w0 ρ e s a w next Q h he hR hn
 obtain⟨v,h1,h2⟩:=I8 h;replace h2:RQ x e s=_:=h2;rw[h2]at h hn;have hk:=X6 h;rw[hk]at hn;have hx:=aI h1 he;refine dA rfl hR hx ?_ hn;generalize hax:a.eval x=y at hx;cases hx<;>first|(simp[bF6]at hk;done)|simp[execOp,ho,hax]
theorem de4(o:Oper)(g:Fn)(fs cs:Array Operand)(ho:o.op=.makeFunc g fs cs):aU P o (RI g fs cs):=by
 intro S w0 ρ e s a w next Q h he hR hn
 cases g with
 |func f=>
  obtain⟨v,h1,h2⟩:=I8 (show oR (qN fs.toList e) _≠.no from h);replace h2:RI (.func f) fs cs e s=oR (qN cs.toList e) _:=h2;rw[h2]at h hn;obtain⟨u,g1,g2⟩:=I8 h;rw[g2]at hn;have r1:=al5 h1 he;have r2:=al5 g1 he;refine dA rfl hR (.f f v u _ _ r1.1 r2.1 r1.2 r2.2) ?_ hn;have:∀l:Array Operand,l.map a.eval=(l.toList.map a.eval).toArray:=λl=>by grind
  simp[execOp,ho,Instr.makeFunc,this]
 |_=>exact absurd rfl h
def Cells(ρ:Ren)(cs:List AV)(f:Nat->Option Value):Prop:=∀(i:Nat)(c:AV),cs[i]?=some c->yC c=true/\∃x,f i=some x/\RV ρ c x
theorem aQ9{t:Nat}{cs:List AV}{o:Nat}{v:AV}(h:partT t cs o=some v):∃i,H8 t=some i/\((i.isAgg=false/\cs[o]?=some v)\/(i.isAgg=true/\∃l,v=.g l/\l.length=i.size/\∀(j:Nat)(c:AV),l[j]?=some c->cs[o+j]?=some c)):=by
 obtain⟨g,h1,h2⟩:=P6 h;obtain⟨i,h3,h4⟩:=P6 h1;injection h4 with h4
 subst h4;refine⟨i,h3,?_⟩;cases hg:i.isAgg with
 |false=>
  rw[hg]at h2;simp only[II]at h2;exact .inl ⟨rfl,by rw[<-yR];exact h2⟩
 |true=>
  rw[hg]at h2;simp only[af9]at h2;obtain⟨n,h5,h6⟩:=P6 h2;obtain⟨i',h7,h8⟩:=P6 h5;rw[h3]at h7;injection h7 with h7
  subst h7;injection h8 with h8
  subst h8;obtain⟨l,h9,h10⟩:=P6 h6;injection h10 with h10
  obtain⟨h11,h12⟩:=as2 h9;refine .inr ⟨rfl,l,h10.symm,h12,λj c hj=>?_⟩;have hlt:j<i.size:=by grind
  rw[h11,VT,jK,I4 hlt,xQ]at hj;exact hj
theorem c27{t:Nat}{cs:List AV}{o:Nat}{v:AV}{f:Nat->Option Value}(h:partT t cs o=some v)(hc:Cells ρ cs f):∃i,H8 t=some i/\((i.isAgg=false/\yC v=true/\∃x,f o=some x/\RV ρ v x)\/
 (i.isAgg=true/\∃l,v=.g l/\l.length=i.size/\Cells ρ l λj=>f (o+j))):=by
 obtain⟨i,h1,h2⟩:=aQ9 h;refine⟨i,h1,h2.imp (λ⟨g1,g2⟩=>⟨g1,hc o v g2⟩) λ⟨g1,l,g2,g3,g4⟩=>⟨g1,l,g2,g3,λj c hj=>hc _ c (g4 j c hj)⟩⟩
theorem Cells.agg{l:List AV}{f:Nat->Option Value}(hc:Cells ρ l f):∃vs:List Value,vs.length=l.length/\(∀(j:Nat)(x:Value),vs[j]?=some x->f j=some x)/\RV ρ (.g l) (.agg vs.toArray):=by
 refine⟨(List.range l.length).map λj=>(f j).getD undef,by simp,λj x hj=>?_,.g _ _ (by simp) (λj c x h1 h2=>?_) λc hm=>?_⟩
 .have hlt:j<l.length:=by have:=(O4.1 hj).1;simpa using this
  obtain⟨_,y,hy,_⟩:=hc j _ (I9 hlt)
  grind
 .have hlt:=(O4.1 h1).1;obtain⟨_,y,hy,hr⟩:=hc j c h1
  grind
 .obtain⟨j,hj⟩:=List.getElem?_of_mem hm;exact(hc j c hj).1
theorem bO0(hT:∀t i,H8 t=some i->N8 P t i){t b sh o el:Nat}{arr:Array Value}{cs:List AV}{v:AV}(hh:w.heap[b]?=some (.cells arr el (0,0)))(hc:Cells ρ cs λi=>arr[i+sh]?)(hp:partT t cs o=some v):
 ∃x,(Instr.loadAt t (.pointer (some ⟨b,o+sh,none⟩))).run P w=.ok x w/\RV ρ v x:=by
 have hcell:∀k,w.cell? ⟨b,k,none⟩=arr[k]?:=λk=>jY w b k arr el (0,0) hh;obtain⟨i,hti,h⟩:=c27 hp hc;have hr:=(hT _ _ hti).DZ w;rcases h with⟨hg,_,x,hx,gV⟩|⟨hg,l,rfl,hl,hcl⟩
 .rw[hg]at hr;refine⟨x,?_,gV⟩;have:w.cell? ⟨b,o+sh,none⟩=some x:=(hcell _).trans hx;simp[Instr.loadAt,Instr.sureAddr,loadVar,hr,Go.load,Sem.run,this]
 .rw[hg]at hr;obtain⟨vs,h1,h2,h3⟩:=hcl.agg
  have hcells:=run_loadCells_list (P:=P) w ⟨b,o+sh,none⟩ vs (λj v wL=>by
   have:=h2 j v wL;rw[gY,hcell,<-this];congr 1
   omega)
  rw[h1,hl]at hcells;refine⟨_,?_,h3⟩;simp[Instr.loadAt,Instr.sureAddr,loadVar,hr,(hT _ _ hti).sizeOf w,hcells]
theorem Rl.cells(hR:Rl S w0 ρ s w){b el:Nat}{cs:List AV}(h:s.h.get (pa b)=some (.c el cs)):∃L arr,ρ b=some L/\L.el=el/\w.heap[L.blk]?=some (.cells arr el (0,0))/\arr.size=L.tot/\Cells ρ cs λi=>arr[i+L.sh]?:=hR.obj _ _ h
theorem sO{b o:Nat}{x:Value}(h:RV ρ (.p b o) x):∃L,ρ b=some L/\x=.pointer (some ⟨L.blk,o+L.sh,none⟩):=by cases h with|p _ _ L h=>exact⟨L,h,rfl⟩
theorem dQ{k:IntKind}{n:Nat}{x:Value}(h:RV ρ (.n k n) x):x=.int k (.ofNat n):=by cases h;rfl
theorem de2(hT:∀t i,H8 t=some i->N8 P t i)(o:Oper)(t:Nat)(x:Operand)(ho:o.op=.load t x):aU P o (RG t x):=by
 intro S w0 ρ e s a w next Q h he hR hn
 obtain⟨v,h1,h2⟩:=I8 h;replace h2:RG t x e s=_:=h2;rw[h2]at h hn;obtain⟨b,off,rfl⟩:=UJ h;obtain⟨el,cs,h3,h4⟩:=vC (show gI s b _≠.no from h);rw[show mQ (.p b off) _=gI s b _ from rfl,h4]at h hn;obtain⟨r,h5,h6⟩:=I8 h;rw[h6]at hn;obtain⟨L,arr,g1,g2,g3,g4,g5⟩:=hR.cells h3;obtain⟨L',g6,g7⟩:=sO (aI h1 he);rw[g1]at g6;injection g6 with g6
 subst g6;obtain⟨y,g8,g9⟩:=bO0 hT g3 g5 h5;refine dA rfl hR g9 ?_ hn;simp only[execOp,ho,g7,I7,g8];rfl
theorem dd9(hT:∀t i,H8 t=some i->N8 P t i)(o:Oper)(t:Nat)(x:Operand)(k:Nat)(ho:o.op=.fieldAddr t x k):aU P o (QZ t x k):=by
 intro S w0 ρ e s a w next Q h he hR hn
 obtain⟨v,h1,h2⟩:=I8 h;replace h2:QZ t x k e s=_:=h2;rw[h2]at h hn;obtain⟨u,h3,h4⟩:=I8 h;rw[h4]at h hn;have h5:=X6 h;rw[h5]at h hn;obtain⟨b,off,rfl⟩:=UJ (show mQ v _≠.no from h);obtain⟨fo,h6,h7⟩:=P6 h3;obtain⟨z,h8,h9⟩:=P6 h7;injection h9 with h9
 subst h9;obtain⟨i,h10,h11⟩:=P6 h6;obtain⟨j,h12,h13⟩:=P6 h8;injection h13 with h13
 subst h13;have h5:1<=j.size:=H6 h5;obtain⟨L,g1,g2⟩:=sO (aI h1 he);split at h11
 .rename_i fs hd;split at h11
  .rename_i f hf;injection h11 with h11
   subst h11;have hu:=(hT _ _ h10).u;rw[hd]at hu;refine dA (ZH _ _ _) hR (.p _ _ L g1) ?_ hn;have hne:¬j.size=0:=by omega
   have hadd:off+L.sh+f.offset=Nat.add off f.offset+L.sh:=by grind
   simp[execOp,ho,g2,Instr.fieldAt,L6 hu,hf,Instr.sureAddr,fieldPlace,(hT _ _ h12).sizeOf w,hne,gY,hadd]
  .cases h11
 .cases h11
end
section
variable{P:Program}{S:Nat->Prop}{w0:World}{ρ:Ren}{e:Env}{s:St}{a:Act}{w:World}
theorem EW{cs:List AV}{x:Value}(h:RV ρ (.g cs) x):∃vs:List Value,x=.agg vs.toArray/\cs.length=vs.length/\Cells ρ cs λi=>vs[i]?:=by
 cases h with
 |g _ vs h1 h2 h3=>
  refine⟨vs,rfl,h1,λi c hc=>⟨h3 c (iC hc),?_⟩⟩;have hlt:=(O4.1 hc).1;exact⟨_,I9 (by omega),h2 i c _ hc (I9 (by omega))⟩
theorem bO1(hT:∀t i,H8 t=some i->N8 P t i){t o:Nat}{cs:List AV}{vs:List Value}{v:AV}(hl:cs.length=vs.length)(hc:Cells ρ cs λi=>vs[i]?)(hp:partT t cs o=some v):
 ∃x,(Go.part t vs.toArray o).run P w=.ok x w/\RV ρ v x:=by
 obtain⟨i,hti,h⟩:=aQ9 hp;have hr:=(hT _ _ hti).DZ w;rcases h with⟨hg,hx⟩|⟨hg,l,rfl,hl2,hcl⟩
 .rw[hg]at hr;obtain⟨_,x,hv,gV⟩:=hc _ _ hx;exact⟨x,by simp[Go.part,hr,hv],gV⟩
 .rw[hg]at hr;have hfit:i.size=0\/o+i.size<=cs.length:=by
   rcases Nat.eq_zero_or_pos i.size with h0|h0
   .grind
   .right;have:=(O4.1 (hcl (i.size-1) _ (I9 (by omega)))).1;omega
  refine⟨.agg ((vs.drop o).take i.size).toArray,by simp[Go.part,hr,(hT _ _ hti).sizeOf w],.g l _ ?_ (λj c x hj hx=>?_) λc hm=>?_⟩
  .grind
  .have hlt:j<i.size:=by rw[<-hl2];exact(O4.1 hj).1
   rw[jK,I4 hlt,xQ]at hx;obtain⟨_,y,hy,gV⟩:=hc _ _ (hcl j c hj)
   grind
  .obtain⟨j,hj⟩:=List.getElem?_of_mem hm;exact(hc _ c (hcl j c hj)).1
theorem dd8(hT:∀t i,H8 t=some i->N8 P t i)(o:Oper)(t:Nat)(x:Operand)(k:Nat)(ho:o.op=.field t x k):aU P o (QY t x k):=by
 intro S w0 ρ e s a w next Q h he hR hn
 obtain⟨v,h1,h2⟩:=I8 h;replace h2:QY t x k e s=_:=h2;rw[h2]at h hn;obtain⟨u,h3,h4⟩:=I8 h;rw[h4]at h hn;clear h4;obtain⟨cs,rfl⟩:=b91 h;obtain⟨r,h5,h6⟩:=I8 (show oR (partT u.2 cs u.1) _≠.no from h);replace hn:=λv s' ρ' x w' (hv:Has (.one r s) v s')=>hn v s' ρ' x w' (by rw[show BF (.g cs) _=oR (partT u.2 cs u.1) _ from rfl,h6];exact hv);obtain⟨i,h10,h11⟩:=P6 h3;obtain⟨vs,g1,g2,g3⟩:=EW (aI h1 he);split at h11
 .rename_i fs hd;split at h11
  .rename_i f hf;injection h11 with h11
   subst h11;have hu:=(hT _ _ h10).u;rw[hd]at hu;obtain⟨y,g4,g5⟩:=bO1 (w:=w) hT g2 g3 h5;refine dA rfl hR g5 ?_ hn;simp[execOp,ho,g1,Instr.field,L6 hu,hf,asAgg,g4]
  .cases h11
 .cases h11
theorem bO6{cs:List AV}{x:Value}(h:RV ρ (.t cs) x):∃vs:List Value,x=.tuple vs.toArray/\J8 ρ cs vs:=by
 cases h with|t _ vs h1 h2=>exact⟨vs,rfl,h1,h2⟩
theorem dd7(o:Oper)(x:Operand)(k:Nat)(ho:o.op=.extract x k):aU P o (QX x k):=by
 intro S w0 ρ e s a w next Q h he hR hn
 obtain⟨v,h1,h2⟩:=I8 h;replace h2:QX x k e s=_:=h2;rw[h2]at h hn;split at h
 .rename_i cs;simp only at hn;obtain⟨r,h5,h6⟩:=I8 h;rw[h6]at hn;rw[yR]at h5;obtain⟨vs,g1,g2⟩:=bO6 (aI h1 he);obtain⟨y,g3,g4⟩:=g2.get h5;refine dA rfl hR g4 ?_ hn;simp[execOp,ho,g1,Instr.extract,g3]
 .grind
theorem df4(o:Oper)(op:UnOp)(t:Nat)(x:Operand)(ho:o.op=.unOp op t x):aU P o (RZ op t x):=by
 intro S w0 ρ e s a w next Q h he hR hn
 obtain⟨v,h1,h2⟩:=I8 h;replace h2:RZ op t x e s=_:=h2;rw[h2]at h hn;obtain⟨r,h3,h4⟩:=I8 h;rw[h4]at hn;have hx:=aI h1 he;clear h2 h4 h;unfold unA at h3;split at h3
 .rename_i b;have hv:a.eval x=.bool b:=by generalize a.eval x=y at hx;cases hx;rfl
  have:r=.q (!b):=by cases b<;>simp[bq]at h3<;>exact h3.symm
  subst this;exact dA rfl hR (.q _) (by simp[execOp,ho,hv,Op.unary]) hn
 .rename_i k n;injection h3 with h3
  rw[yP]at h3;subst h3;exact dA rfl hR (wM _ _) (by simp[execOp,ho,dQ hx,Op.unary,Op.intArith]) hn
 .rename_i k n;injection h3 with h3
  rw[yP]at h3;subst h3;have hv:a.eval x=.int k (.negSucc n):=by generalize a.eval x=y at hx;cases hx;rfl
  exact dA rfl hR (wM _ _) (by simp[execOp,ho,hv,Op.unary,Op.intArith]) hn
 .cases h3
theorem wrap_small(k:IntKind){n:Nat}(h:n<lim k):k.wrap (.ofNat n)=.ofNat n:=by
 have e:(Int.ofNat n:Int)=(n:Int):=rfl;cases k<;>simp only[lim]at h<;>simp[IntKind.wrap,IntKind.signed,IntKind.bits]<;>omega
theorem dd4(hT:∀t i,H8 t=some i->N8 P t i)(hB:∀n,2<=n->liesAt P P.depth kQ (n/P.cellsOf kQ) 0 af4 1=true)(o:Oper)(sr d:Nat)(x:Operand)(ho:o.op=.convert sr d x):aU P o (QU sr d x):=by
 intro S w0 ρ e s a w next Q h he hR hn
 obtain⟨v,h1,h2⟩:=I8 h;replace h2:QU sr d x e s=_:=h2;rw[h2]at h hn;clear h2;have hx:=aI h1 he;by_cases hp:∃b o,v=.p b o
 .obtain⟨b,off,rfl⟩:=hp;rw[show ah6 sr d (.p b off) s=ah5 sr d b off s from rfl]at h hn;obtain⟨L,g1,g2⟩:=sO hx;obtain⟨i,h3,h4⟩:=I8 h;replace h4:ah5 sr d b off s=_:=h4;rw[h4]at h hn;clear h4;obtain⟨j,h5,h6⟩:=I8 h;rw[h6]at h hn;clear h6;have hs:=(hT _ _ h3).u;have hd:=(hT _ _ h5).u;split at h
  .rename_i t e1 e2;rw[e1,e2]at hn;simp only at hn;rw[e1]at hs;rw[e2]at hd;obtain⟨z,h7,h8⟩:=I8 h;rw[h8]at h hn;clear h8;have h9:=X6 h;rw[h9,X7]at h hn;obtain⟨el,cs,h10,h11⟩:=vC h;rw[h11]at h hn;clear h11;have h12:=X6 h;rw[h12,X7]at hn;obtain⟨k,h13,aF⟩:=P6 h7;injection aF with aF
   subst aF;obtain⟨L',arr,q1,q2,q3,q4,q5⟩:=hR.cells h10;rw[g1]at q1;injection q1 with q1
   subst q1;obtain⟨J,hj,hjs,_,_⟩:=(hT _ _ h13).eX;have hlt:off<cs.length:=by rw[<-jC];exact dJ h12
   obtain⟨_,y,hy,_⟩:=q5 off _ (I9 hlt);have hlt2:=(V4.1 hy).1;have h9:=H6 h9;have hrun:=Lib.run_to_unsafe (P:=P) w (src:=sr) (dst:=d) (t:=t) (e:=el) (j:=J) (cells:=arr.size) ⟨L.blk,off+L.sh,none⟩ hs hd hj (by omega) (by simp[World.shape?,q3]) hlt2;refine dA rfl hR hx ?_ hn;simp only[execOp,ho,g2,I7,hrun];rfl
  .rename_i t e1 e2;rw[e1,e2]at hn;simp only at hn;rw[e1]at hs;rw[e2]at hd;obtain⟨z,h7,h8⟩:=I8 h;rw[h8]at h hn;clear h8;have h9:=X6 h;rw[h9,X7]at h hn;obtain⟨el,cs,h10,h11⟩:=vC h;rw[h11]at h hn;clear h11;have h12:=X6 h;rw[h12,X7]at h hn;have h13:=X6 h;rw[h13,X7]at h hn;have aF:=X6 h;rw[aF,X7]at h hn;have h15:=X6 h;rw[h15,X7]at hn;have h12:=F8 h12;have h13:=F8 h13;have aF:=F8 aF;have h15:=H6 h15;rw[jC]at h15;obtain⟨L',arr,q1,q2,q3,q4,q5⟩:=hR.cells h10;rw[g1]at q1;injection q1 with q1
   subst q1;obtain⟨k,h16,h17⟩:=P6 h7;obtain⟨J,hj,hjs,_,_⟩:=(hT _ _ h16).eX;have hsh:=hR.VG h10 g1 h12;obtain⟨_,y,hy,_⟩:=q5 1 _ (I9 (by omega));have hlt2:=(V4.1 hy).1;subst aF
   have hrun:=Lib.run_from_unsafe (P:=P) w (src:=sr) (dst:=d) (u:=t) (e:=el) (j:=J) (cells:=arr.size) ⟨L.blk,0+L.sh,none⟩ hs hd hj (by simp[World.shape?,q3]) (by
    show liesAt P P.depth el (arr.size/P.cellsOf el) (0+L.sh) t 1=true;rw[hsh,h12,h13]
    exact hB _ (by omega))
   refine dA rfl hR hx ?_ hn;simp only[execOp,ho,g2,I7,hrun];rfl
  .grind
 have e1:ah6 sr d v s=oR (H8 sr) λ_=>oR (aB3 d v) λr=>.one r s:=by
  cases v<;>first|rfl|exact absurd ⟨_,_,rfl⟩ hp
 rw[e1]at h hn;obtain⟨i,h3,h4⟩:=I8 h;rw[h4]at h hn;obtain⟨r,h5,h6⟩:=I8 h;rw[h6]at hn;have hs:=(hT _ _ h3).u;clear h4 h6 h e1 hp;unfold aB3 at h5;split at h5
 .rename_i k _ _ _ _ _ j n hd;have hu:=(hT _ _ hd).u;simp only at hu;have hr:RV ρ r (.int k (k.wrap (.ofNat n))):=by
   cases hb:Nat.blt n (lim k)with
   |true=>
    rw[hb]at h5;injection h5 with h5
    subst h5;rw[wrap_small k (dJ hb)];exact .n _ _
   |false=>
    rw[hb]at h5;injection h5 with h5
    rw[yP]at h5;subst h5;exact wM _ _
  refine dA rfl hR hr ?_ hn;simp only[execOp,ho,convert,dQ hx,I7,L6 hu,L6 hs,N9];simp[Conv.intToInt]
 .rename_i k _ _ _ _ _ j n hd;have hu:=(hT _ _ hd).u;simp only at hu;injection h5 with h5
  rw[yP]at h5;subst h5;have hv:a.eval x=.int j (.negSucc n):=by generalize a.eval x=y at hx;cases hx;rfl
  refine dA rfl hR (wM _ _) ?_ hn;simp only[execOp,ho,convert,hv,I7,L6 hu,L6 hs,N9];simp[Conv.intToInt]
 .rename_i _ _ _ _ _ l hd;have hu:=(hT _ _ hd).u;simp only at hu;injection h5 with h5
  subst h5;generalize hax:a.eval x=y at hx;have hx':=hx;cases hx with
  |str b=>
   refine dA rfl hR hx' ?_ hn;simp only[execOp,ho,convert,hax,I7,L6 hu,L6 hs,N9];simp
 .cases h5
theorem aA5{v:AV}{x:Value}(h:RV ρ v x)(ht:∀cs,v≠.t cs):x.cells.size=(cellsOf v).length/\Cells ρ (cellsOf v) λi=>x.cells[i]?:=by
 have one:∀(v:AV)(x:Value),cellsOf v=[v]->x.cells=#[x]->yC v=true->RV ρ v x->x.cells.size=(cellsOf v).length/\Cells ρ (cellsOf v) λi=>x.cells[i]?:=by
  intro v x h1 h2 h3 h4;refine⟨by simp[h1,h2],λj d hj=>?_⟩;rw[h1]at hj
  match j,hj with
  |0,hj=>grind
  |j+1,hj=>simp at hj
 cases h with
 |g cs vs h1 h2 h3=>
  obtain⟨us,g1,g2,g3⟩:=EW (RV.g cs vs h1 h2 h3);injection g1 with g1
  have g1:vs=us:=by grind
  subst g1;refine⟨by simp[Value.cells,cellsOf,h1],λj d hj=>?_⟩;have:=g3 j d hj;simpa[Value.cells]using this
 |t cs vs=>grind
 |n k m=>exact one _ _ rfl rfl rfl (.n k m)
 |neg k m=>exact one _ _ rfl rfl rfl (.neg k m)
 |q b=>exact one _ _ rfl rfl rfl (.q b)
 |str b=>exact one _ _ rfl rfl rfl (.str b)
 |ns=>exact one _ _ rfl rfl rfl .ns
 |np=>exact one _ _ rfl rfl rfl .np
 |nm=>exact one _ _ rfl rfl rfl .nm
 |nf=>exact one _ _ rfl rfl rfl .nf
 |ni=>exact one _ _ rfl rfl rfl .ni
 |p b o L h=>exact one _ _ rfl rfl rfl (.p b o L h)
 |s b o l cap off c L h hl hc ho hb=>exact one _ _ rfl rfl rfl (.s b o l cap off c L h hl hc ho hb)
 |m b L h=>exact one _ _ rfl rfl rfl (.m b L h)
 |f f fs cs vs us h1 h2 h3 h4=>exact one _ _ rfl rfl rfl (.f f fs cs vs us h1 h2 h3 h4)
 |y b L h=>exact one _ _ rfl rfl rfl (.y b L h)
theorem Cells.ext{ρ':Ren}(hx:vU ρ ρ'){cs:List AV}{f:Nat->Option Value}(h:Cells ρ cs f):Cells ρ' cs f:=λi c hc=>by
 obtain⟨h1,x,h2,h3⟩:=h i c hc;exact⟨h1,x,h2,h3.ext hx⟩
theorem kept_alloc(hR:Rl S w0 ρ s w)(o:Obj):Kept S w (w.alloc o):=(Kept.refl S w).alloc (λk hk=>Z5 (hR.slt k hk) hR.kept.size) o
theorem Rl.notS(hR:Rl S w0 ρ s w){k:Nat}(h:w.heap.size<=k):¬S k:=λhk=>by have:=hR.slt k hk;have:=hR.kept.size;omega
theorem Rl.newRow(hR:Rl S w0 ρ s w){w':World}(el:Nat)(cs:List AV)(arr:Array Value)(hw:w'=w.alloc (.cells arr el)\/w'=w.drew.alloc (.cells arr el))(hc:Cells ρ cs λi=>arr[i]?):
 Ext ρ (aJ ρ s.nx ⟨w.heap.size,0,el,arr.size⟩)/\Rl S w0 (aJ ρ s.nx ⟨w.heap.size,0,el,arr.size⟩) ⟨s.h.set (pa s.nx) (some (.c el cs)),s.nx+1,s.ro⟩ w':=by
 have hx:Ext ρ (aJ ρ s.nx ⟨w.heap.size,0,el,arr.size⟩):=ER hR.fresh _;have hold:∀k,k<w.heap.size->w'.heap[k]?=w.heap[k]?:=λk hk=>by rcases hw with rfl|rfl;exact uP w _ hk;exact uP w.drew _ hk
 have hnew:w'.heap[w.heap.size]?=some (.cells arr el (0,0)):=by rcases hw with rfl|rfl;exact aW w _;exact aW w.drew _
 have hloc:∀b o L,s.h.get (pa b)=some o->ρ b=some L->L.blk<w.heap.size:=λb o L hb hL=>by
  obtain⟨M,h1,h2⟩:=(hR.obj b o hb).loc
  grind
 refine⟨hx,hR.new (L:=⟨w.heap.size,0,el,arr.size⟩) ?_ (λb o L hb hL=>hold _ (hloc b o L hb hL)) (hR.notS (J6 _)) (λb o M hb hM=>Nat.ne_of_lt (hloc b o M hb hM)) ?_ (λ_ _=>rfl)⟩
 .rcases hw with rfl|rfl
  .exact kept_alloc hR _
  .have:=(Kept.refl S w).drew;exact this.alloc (λk hk=>Z5 (hR.slt k hk) hR.kept.size) _
 .exact⟨_,arr,jF _ _,rfl,hnew,rfl,λi c hi=>(hc.ext hx) i c hi⟩
theorem dB0{i:TI}{z:List AV}(h:ad2 i=some z):J8 ρ z i.zero/\∀c∈z,yC c=true\/c=un:=by
 have:∀(l:List Value)(z:List AV),List.rec (motive:=λ_=>Option (List AV)) (some []) (λx _ ih=>oB (OT x) λa=>oB ih λr=>some (a::r)) l=some z->J8 ρ z l/\∀c∈z,yC c=true\/c=un:=by
  intro l;induction l with
  |nil=>intro z h;cases h;exact⟨J8.nil ρ,λc h=>by simp at h⟩
  |cons x l ih=>
   intro z h;obtain⟨a,h1,h⟩:=P6 h;obtain⟨r,h2,h⟩:=P6 h;injection h with h
   subst h;obtain⟨g1,g2⟩:=ih r h2;refine⟨J8.cons (bj7 h1) g1,λc hc=>?_⟩;rcases jT.1 hc with rfl|hc
   .unfold OT at h1;split at h1
    .rename_i k i;simp at h1;subst h1;cases i<;>exact .inl rfl
    all_goals first|(simp at h1;subst h1;exact .inl rfl)|(simp at h1;subst h1;exact .inr rfl)|cases h1
   .grind
 exact this _ _ h
theorem ax1{t:Nat}{i:TI}(hi:N8 P t i){z:List AV}(h:ad2 i=some z):z.length=i.size/\Cells ρ z λj=>(O7 i).cells[j]?:=by
 obtain⟨h1,h2⟩:=dB0 (ρ:=ρ) h;refine⟨by rw[h1.1,hi.len],λj c hj=>?_⟩;obtain⟨x,h3,h4⟩:=h1.get hj;rw[kK hi];refine⟨?_,x,by simpa using h3,h4⟩;rcases h2 c (iC hj)with h5|h5
 .exact h5
 .exfalso;have ho:=hi.one;rw[nZ]at ho;have:=ho x (iC h3);rw[h5]at h4;cases h4;simp[Value.oneCell']at this
def BU(P:Program)(o:Oper)(f:aZ):Prop:=
 ∀(ρ:Ren)(e:Env)(s0:St)(a:Act),f e s0≠.no->aB ρ e a.tmps->∃(ob:AO) (mk:Nat->AV),(∀s,f e s=mM ob mk s)/\
  ∀w:World,∃(O:Obj) (x:Value) (L:Loc),(execOp a.eval o).run P w=.ok (.value x) (w.alloc O)/\L.blk=w.heap.size/\L.sh=0/\∀b,ρ b=none->U6 (aJ ρ b L) (w.alloc O) b ob/\RV (aJ ρ b L) (mk b) x
theorem am1{o:Oper}{f:aZ}(h:BU P o f):aU P o f:=by
 intro S w0 ρ e s a w next Q hne he hR hn
 obtain⟨ob,mk,h1,h2⟩:=h ρ e s a hne he;obtain⟨O,x,L,q1,q2,q3,q4⟩:=h2 w;rw[h1 s,zK]at hn;have hf:=hR.fresh _ (J6 _);obtain⟨q5,q6⟩:=q4 s.nx hf;have hloc:∀b o M,s.h.get (pa b)=some o->ρ b=some M->M.blk<w.heap.size:=λb o M hb hL=>by
  obtain⟨M',h1,h2⟩:=(hR.obj b o hb).loc
  grind
 exact aO q1 (hn _ _ _ _ _ (.inl rfl) (ER hR.fresh L) (hR.new (kept_alloc hR _) (λb o M hb hM=>uP w _ (hloc b o M hb hM)) (hR.notS (Nat.le_of_eq q2.symm)) (λb o M hb hM=>by rw[q2];exact Nat.ne_of_lt (hloc b o M hb hM)) q5 (λ_ _=>q3)) rfl (Nat.le_succ _) q6)
theorem aT4{o:Oper}{a:Act}{el:Nat}{cs:List AV}{arr:Array Value}{mk:Nat->AV}{x:Value}(hc:Cells ρ cs λi=>arr[i]?)(hrun:(execOp a.eval o).run P w=.ok (.value x) (w.alloc (.cells arr el)))
 (hx:∀b,ρ b=none->RV (aJ ρ b ⟨w.heap.size,0,el,arr.size⟩) (mk b) x):
 ∃(O:Obj) (x:Value) (L:Loc),(execOp a.eval o).run P w=.ok (.value x) (w.alloc O)/\L.blk=w.heap.size/\L.sh=0/\∀b,ρ b=none->U6 (aJ ρ b L) (w.alloc O) b (.c el cs)/\RV (aJ ρ b L) (mk b) x:=
 ⟨_,x,⟨w.heap.size,0,el,arr.size⟩,hrun,rfl,rfl,λb hb=>⟨⟨_,arr,jF _ _,rfl,aW w _,rfl,λi c hi=>(hc.ext (YT hb _)) i c hi⟩,hx b hb⟩⟩
theorem bA8(hT:∀t i,H8 t=some i->N8 P t i)(o:Oper)(t:Nat)(ho:o.op=.alloc t):BU P o (aP3 t):=by
 intro ρ e s0 a h he;obtain⟨z,h1,h2⟩:=I8 h;obtain⟨i,h3,h4⟩:=P6 h1;obtain⟨hz1,hz2⟩:=ax1 (ρ:=ρ) (hT _ _ h3) h4;obtain⟨j,hj,hjs,_,hjz⟩:=(hT _ _ h3).eX;refine⟨.c t z,λb=>.p b 0,λs=>by show oR (ND H8 t) _=_;rw[h1];rfl,λw=>aT4 (x:=.pointer (some ⟨w.heap.size,0,none⟩)) hz2 ?_ λb hb=>.p _ _ _ (jF _ _)⟩;simp[execOp,ho,Instr.alloc,zeroValue,typeInfo,hj,hjz,newVar,newRow]
theorem bA9(o:Oper)(t:Nat)(x:Operand)(ho:o.op=.box t x):BU P o (QS t x):=by
 intro ρ e s0 a h he;obtain⟨v,h1,h2⟩:=I8 h;have hx:=aI h1 he;have hc:Cells ρ (cellsOf v) λi=>(a.eval x).cells[i]?:=by
  by_cases ht:∃cs,v=.t cs
  .obtain⟨cs,rfl⟩:=ht;exact λi c hc=>by simp[cellsOf]at hc
  .exact(aA5 hx λcs hcs=>ht ⟨cs,hcs⟩).2
 refine⟨.c t (cellsOf v),λb=>.p b 0,λs=>by show oR (look x e) _=_;rw[h1];rfl,λw=>aT4 (x:=.pointer (some ⟨w.heap.size,0,none⟩)) hc ?_ λb hb=>.p _ _ _ (jF _ _)⟩;simp[execOp,ho,Instr.box,newVar,newRow]
theorem dc6(hT:∀t i,H8 t=some i->N8 P t i)(o:Oper)(t:Nat)(ho:o.op=.alloc t):aU P o (aP3 t):=am1 (bA8 hT o t ho)
theorem dc8(o:Oper)(t:Nat)(x:Operand)(ho:o.op=.box t x):aU P o (QS t x):=am1 (bA9 o t x ho)
theorem Rl.store(hR:Rl S w0 ρ s w){b el off:Nat}{cs ds cs':List AV}{L:Loc}{arr:Array Value}{vs:List Value}(hb:s.h.get (pa b)=some (.c el cs))(hL:ρ b=some L)(hel:L.el=el)
 (hh:w.heap[L.blk]?=some (.cells arr el (0,0))) (htot:arr.size=L.tot) (hc:Cells ρ cs λi=>arr[i+L.sh]?) (hr:s.ro<=b) (hp:uY off ds cs=some cs') (hl:vs.length=ds.length) (hv:Cells ρ ds λi=>vs[i]?):
 (off+L.sh+vs.length<=arr.size\/vs=[])/\Rl S w0 ρ ⟨s.h.set (pa b) (some (.c el cs')),s.nx,s.ro⟩ (w.setRow L.blk (arr.toList.take (off+L.sh)++vs++arr.toList.drop (off+L.sh+vs.length)).toArray):=by
 obtain⟨hfit,_⟩:=ao5 hp;have br1:off+L.sh+vs.length<=arr.size\/vs=[]:=by
  rcases Nat.eq_zero_or_pos ds.length with h0|h0
  .grind
  .left;obtain⟨_,x,hx,_⟩:=hc (off+ds.length-1) _ (I9 (by omega))
   grind
 refine⟨br1,?_⟩;have hsz:(arr.toList.take (off+L.sh)++vs++arr.toList.drop (off+L.sh+vs.length)).length=arr.size:=by grind
 have hget:∀j,(arr.toList.take (off+L.sh)++vs++arr.toList.drop (off+L.sh+vs.length))[j]?=if off+L.sh<=j/\j<off+L.sh+vs.length then vs[j-(off+L.sh)]? else arr[j]?:=by
  intro j;rcases br1 with h|h
  .have hl1:(arr.toList.take (off+L.sh)).length=off+L.sh:=by simp;omega
   rw[kM];by_cases hj:j<off+L.sh
   .grind
   .rw[bJ (by omega),hl1];by_cases hj2:j<off+L.sh+vs.length
    .grind
    .rw[bJ (by omega),F9 (by omega),xQ,jS]
     grind
  .subst h;rw[F9 (by simp)];simp
 refine hR.write (hbl:=λds e=>by injection e with e;exact hR.VG hb hL e) hb hL hr ⟨rfl,rfl,rfl,by simp[World.setRow],λk hk=>sS w L.blk k _ hk,λk hk=>aq4 w L.blk k _ hk⟩ ⟨L,_,hL,hel,rC w L.blk arr _ el (0,0) hh,by simpa[htot]using hsz,λi c hi=>?_⟩;rw[bJ4 hp]at hi;rw[List.getElem?_toArray,hget];by_cases h1:i<off
 .rw[I4 h1]at hi;rw[F9 (by omega)];exact hc i c hi
 .rw[F9 h1]at hi;by_cases h2:i<off+ds.length
  .rw[I4 h2]at hi;rw[I4 (by omega),(by omega:i+L.sh-(off+L.sh)=i-off)];exact hv _ c hi
  .rw[F9 h2]at hi;rw[F9 (by omega)];exact hc i c hi
theorem cells_one{l:List AV}{vs:List Value}(hl:vs.length=l.length)(h:Cells ρ l λi=>vs[i]?):∀v∈vs,v.oneCell'=true:=λv hv=>by
 obtain⟨j,hj⟩:=List.getElem?_of_mem hv;have hlt:=(O4.1 hj).1;obtain⟨h1,x,h2,h3⟩:=h j _ (I9 (by omega));simp only at h2;rw[hj]at h2;injection h2 with h2
 subst h2;exact h3.atom h1
theorem df3(hT:∀t i,H8 t=some i->N8 P t i)(o:Oper)(t:Nat)(x y:Operand)(ho:o.op=.store t x y):aU P o (RY t x y):=by
 intro S w0 ρ e s a w next Q h he hR hn
 obtain⟨v,h1,h2⟩:=I8 h;replace h2:RY t x y e s=_:=h2;rw[h2]at h hn;obtain⟨u,h3,h4⟩:=I8 h;rw[h4]at h hn;obtain⟨n,h5,h6⟩:=I8 h;rw[h6]at h hn;obtain⟨b,off,rfl⟩:=UJ h;have h7:=X6 (show bR (Nat.beq (bI (cellsOf u)) n) _≠.no from h);rw[show mQ (.p b off) _=bR (Nat.beq (bI (cellsOf u)) n) _ from rfl,h7,X7]at h hn;have h8:=X6 h;rw[h8,X7]at h hn;obtain⟨el,cs,h9,h10⟩:=vC h;rw[h10]at h hn;obtain⟨cs',h11,h12⟩:=I8 h;rw[h12]at h hn;obtain⟨h13,aF⟩:=qZ h;rw[aF]at hn;have h7:=F8 h7;have h8:=H6 h8;rw[jC]at h7;obtain⟨i,h15,h16⟩:=P6 h5;injection h16 with h16
 obtain⟨L,arr,g1,g2,g3,g4,g5⟩:=hR.cells h9;obtain⟨L',g6,g7⟩:=sO (aI h1 he);rw[g1]at g6;injection g6 with g6
 subst g6;have hy:=aI h3 he;obtain⟨hc1,hc2⟩:=aA5 hy λcs hcs=>by subst hcs;simp[cellsOf]at h7;omega
 obtain⟨hfit,hR'⟩:=hR.store (vs:=(a.eval y).cells.toList) h9 g1 g2 g3 g4 g5 h13 h11 (by simpa using hc1) (λi c hi=>by have:=hc2 i c hi;simpa using this);have hne:(a.eval y).cells.toList≠[]:=λh0=>by grind
 have hfit:=hfit.resolve_right hne;have hone:∀v∈(a.eval y).cells.toList,v.oneCell'=true:=cells_one (by simpa using hc1) (λi c hi=>by have:=hc2 i c hi;simpa using this);have hrun:=run_storeCells_at (P:=P) L.blk (off+L.sh) el (a.eval y).cells.toList 0 arr w g3 (by simpa using hfit) hone;have hfin:=hn un _ ρ undef _ (.inl rfl) (Ext.refl _) hR' rfl (J6 _) (.t [] [] rfl λi c x h=>by simp at h);refine MZ ?_ hfin;simp only[execOp,ho,g7,Instr.storeAt,Instr.sureAddr,storeVar,I7,Q5,N9,(hT _ _ h15).sizeOf w];rw[F9 (by rw[hc1,h7,h16];simp)];simp only[Q5,N9,hrun,oD]
end
section
variable{P:Program}{S:Nat->Prop}{w0:World}{ρ:Ren}{e:Env}{s:St}{a:Act}{w:World}
theorem sJ{k j:IntKind}(h:Nat.beq (dP k) (dP j)=true):k=j:=by cases k<;>cases j<;>first|rfl|cases h
theorem V8{α:Type}(c:Bool)(a b:α):bq c a b=if c then a else b:=by cases c<;>rfl
theorem wV{b:Bool}{r:AV}(h:rQ b=some r):r=.q b:=by cases b<;>cases h<;>rfl
theorem YH{b:Bool}{r:AV}(h:bq b (some (AV.q false)) (some (.q true))=some r):r=.q (!b):=by cases b<;>cases h<;>rfl
theorem rV(a b:Nat):Nat.beq a b=decide (a=b):=by
 by_cases h:a=b
 .subst h;simp
 .simp[h];cases hb:Nat.beq a b with|false=>rfl|true=>exact absurd (F8 hb) h
theorem IG(a b:Nat):Nat.blt a b=decide (a<b):=by
 by_cases h:a<b
 .simp only[h,nG];exact Nat.ble_eq_true_of_le h
 .simp only[h,decide_false];cases hb:Nat.blt a b with|false=>rfl|true=>exact absurd (dJ hb) h
theorem af5(a b:Nat):Nat.ble a b=decide (a<=b):=by
 by_cases h:a<=b
 .simp only[h,nG];exact Nat.ble_eq_true_of_le h
 .simp only[h,decide_false];cases hb:Nat.ble a b with|false=>rfl|true=>exact absurd (H6 hb) h
theorem cZ4{v:Value}{r:AV}(h:ofV v=some r):RV ρ r v:=by
 unfold ofV at h;split at h
 .injection h with h;rw[yP]at h;subst h;exact wM _ _
 .injection h with h;rw[cy8]at h;subst h;exact .q _
 .cases h
theorem TM{op:BinOp}{k j:IntKind}{x y:Int}{r:AV}(h:lC op k x y=some r)(hk:XL op=true\/k=j)(ib:Bool):iI op ib (.int k x) (.int j y) (RV ρ r):=by
 have rest:∀op:BinOp,op≠.shr->op≠.shl->op≠.quo->op≠.rem->oB (qL op k x y) ofV=some r->k=j->iI op ib (.int k x) (.int j y) (RV ρ r):=by
  intro op h1 h2 h3 h4 h hk;subst hk;obtain⟨v,g1,g2⟩:=P6 h;have hv:=cZ4 (ρ:=ρ) g2;cases op<;>first|contradiction|(simp only[iI];rw[g1];simpa using hv)
 cases op
 case shr=>
  simp only[lC]at h;rw[V8]at h;split at h
  .rename_i hy;injection h with h;rw[yP]at h;subst h
   exact⟨gB hy,wM _ _⟩
  .cases h
 case shl=>
  simp only[lC]at h;rw[V8]at h;split at h
  .rename_i hy;injection h with h;rw[yP]at h;subst h
   exact⟨gB hy,wM _ _⟩
  .cases h
 case quo=>
  simp only[lC]at h;rw[V8]at h;split at h
  .cases h
  .rename_i hy;injection h with h;rw[yP]at h;subst h
   exact⟨hk.resolve_left (by simp[XL]),by simpa using hy,wM _ _⟩
 case rem=>
  simp only[lC]at h;rw[V8]at h;split at h
  .cases h
  .rename_i hy;injection h with h;rw[yP]at h;subst h
   exact⟨hk.resolve_left (by simp[XL]),by simpa using hy,wM _ _⟩
 all_goals exact rest _ (by simp) (by simp) (by simp) (by simp) h (hk.resolve_left (by simp[XL]))
theorem cl4{op:BinOp}{k:IntKind}{x y:Nat}{r:AV}(h:az3 op k x y=some r)(ib:Bool):iI op ib (.int k (.ofNat x)) (.int k (.ofNat y)) (RV ρ r):=by
 have slow:∀op,lC op k (.ofNat x) (.ofNat y)=some r->iI op ib (.int k (.ofNat x)) (.int k (.ofNat y)) (RV ρ r):=λop h=>TM h (.inr rfl) ib;have q:∀(op:BinOp)(b:Bool),qL op k (.ofNat x) (.ofNat y)=some (.bool b)->op≠.shr->op≠.shl->op≠.quo->op≠.rem->r=.q b->iI op ib (.int k (.ofNat x)) (.int k (.ofNat y)) (RV ρ r):=by
  intro op b h1 h2 h3 h4 h5 hr;subst hr;cases op<;>first|contradiction|(simp only[iI];rw[h1];simpa using RV.q b)
 cases op
 case add=>
  replace h:bq (Nat.blt (Nat.add x y) (lim k)) (fN (Nat.add x y) λn=>some (.n k n)) (lC .add k (.ofNat x) (.ofNat y))=some r:=h;rw[V8]at h;split at h
  .rename_i hlt;rw[iL]at h;injection h with h
   subst h;simp only[iI,qL,nG,H7];have:=wrap_small k (dJ hlt);have e:Int.ofNat x+Int.ofNat y=Int.ofNat (Nat.add x y):=rfl;rw[e,this];exact .n _ _
  .grind
 case sub=>
  replace h:bq (Nat.ble y x) (bq (Nat.blt x (lim k)) (fN (Nat.sub x y) λn=>some (.n k n)) (lC .sub k (.ofNat x) (.ofNat y))) (lC .sub k (.ofNat x) (.ofNat y))=some r:=h;rw[V8]at h;split at h
  .rename_i hle;rw[V8]at h;split at h
   .rename_i hlt;rw[iL]at h;injection h with h
    subst h;simp only[iI,qL,nG,H7];have hle:=H6 hle;have hlt:=dJ hlt;have:=wrap_small k (show Nat.sub x y<lim k from Nat.lt_of_le_of_lt (Nat.sub_le _ _) hlt);have e:Int.ofNat x-Int.ofNat y=Int.ofNat (Nat.sub x y):=(Int.ofNat_sub hle).symm;rw[e,this];exact .n _ _
   .grind
  .grind
 case eql=>exact q .eql (Nat.beq x y) (by simp only[qL,rV];congr 2;by_cases e:x=y<;>simp[e];omega) (by simp) (by simp) (by simp) (by simp) (wV h)
 case neq=>exact q .neq (!Nat.beq x y) (by simp only[qL,rV];congr 2;by_cases e:x=y<;>simp[e,bne];omega) (by simp) (by simp) (by simp) (by simp) (YH h)
 case lss=>exact q .lss (Nat.blt x y) (by simp[qL,IG]) (by simp) (by simp) (by simp) (by simp) (wV h)
 case leq=>exact q .leq (Nat.ble x y) (by simp[qL,af5]) (by simp) (by simp) (by simp) (by simp) (wV h)
 case gtr=>exact q .gtr (Nat.blt y x) (by simp[qL,IG]) (by simp) (by simp) (by simp) (by simp) (wV h)
 case geq=>exact q .geq (Nat.ble y x) (by simp[qL,af5]) (by simp) (by simp) (by simp) (by simp) (wV h)
 all_goals exact slow _ h
theorem toNat_inj{l m:List UInt8}(h:l.map UInt8.toNat=m.map UInt8.toNat):l=m:=by
 induction l generalizing m with
 |nil=>cases m with|nil=>rfl|cons y r=>simp at h
 |cons x l ih=>
  cases m with
  |nil=>simp at h
  |cons y r=>
   simp at h;rw[ih h.2,UInt8.toNat_inj.1 h.1]
theorem ai6(l m:List UInt8):yN (l.map UInt8.toNat) (m.map UInt8.toNat)=(l==m):=by
 rw[bm7];by_cases h:l=m
 .grind
 .have:(l==m)=false:=by simpa using h
  rw[this];simp only[decide_eq_false_iff_not];exact λh'=>h (toNat_inj h')
theorem al7(l m:List UInt8):QF (l.map UInt8.toNat) (m.map UInt8.toNat)=Op.bytesLess l m:=by
 induction l generalizing m with
 |nil=>cases m<;>rfl
 |cons x l ih=>
  cases m with
  |nil=>rfl
  |cons y m=>
   show bq (Nat.beq x.toNat y.toNat) (QF (l.map UInt8.toNat) (m.map UInt8.toNat)) (Nat.blt x.toNat y.toNat)=_;rw[ih,V8,rV,IG];simp only[Op.bytesLess,UInt8.lt_iff_toNat_lt];by_cases h:x=y
   .grind
   .have h':¬x.toNat=y.toNat:=λe=>h (UInt8.toNat_inj.1 e)
    grind
theorem by7(l m:List UInt8):Op.bytesLess m l= !(Op.bytesLess l m || l==m):=by
 induction l generalizing m with
 |nil=>cases m<;>rfl
 |cons x l ih=>
  cases m with
  |nil=>rfl
  |cons y m=>
   simp only[Op.bytesLess,UInt8.lt_iff_toNat_lt,ih,List.cons_beq_cons];by_cases h:x=y
   .grind
   .have h1:¬x.toNat=y.toNat:=λe=>h (UInt8.toNat_inj.1 e);have hb:(x==y)=false:=by grind
    have hb':(y==x)=false:=by grind
    grind
theorem cl5{op:BinOp}{x y:ByteArray}{r:AV}(h:bg7 op (x.data.toList.map UInt8.toNat) (y.data.toList.map UInt8.toNat)=some r)(ib:Bool):iI op ib (.string x) (.string y) (RV ρ r):=by
 have q:∀(op:BinOp)(b:Bool),AL op x y=some (.bool b)->op≠.add->r=.q b->iI op ib (.string x) (.string y) (RV ρ r):=by
  intro op b h1 h2 hr;subst hr;cases op<;>first|contradiction|(simp only[iI];rw[h1];exact RV.q b)
 cases op
 case add=>
  replace h:bq (Nat.ble (Nat.add (bI (x.data.toList.map UInt8.toNat)) (bI (y.data.toList.map UInt8.toNat))) 1000000) (some (fL (dW (x.data.toList.map UInt8.toNat) (y.data.toList.map UInt8.toNat)) .str)) none=some r:=h;rw[V8]at h;split at h
  .rename_i hle;have hle:=H6 hle;rw[jC,jC]at hle;simp only[U7,iT]at hle;replace hle:x.size+y.size<=1000000:=hle;rw[uI,oI]at h;injection h with h
   subst h;refine⟨by omega,_,rfl,?_⟩;have:=RV.str (ρ:=ρ) (x++y);simpa using this
  .cases h
 case eql=>exact q .eql _ (by simp only[AL];rw[<-ai6]) (by simp) (wV h)
 case neq=>exact q .neq _ (by simp only[AL];rw[<-ai6]) (by simp) (YH h)
 case lss=>exact q .lss _ (by simp only[AL];rw[<-al7]) (by simp) (wV h)
 case leq=>exact q .leq _ (by simp only[AL];rw[al7,by7 x.data.toList y.data.toList,Bool.not_not]) (by simp) (YH h)
 case gtr=>exact q .gtr _ (by simp only[AL];rw[al7,by7 x.data.toList y.data.toList]) (by simp) (wV h)
 case geq=>exact q .geq _ (by simp only[AL];rw[<-al7]) (by simp) (YH h)
 all_goals cases h
theorem bm9{t:Nat}{x y:Value}{q:Bool}{w:World}(he:∀d:Nat,(Op.equalIn (d+1) t x y).run P w=.ok q w)(h1:binOp .eql t x y=(do pure (.bool (<-Op.equal t x y))))(h2:binOp .neq t x y=(do pure (.bool (!(<-Op.equal t x y)))))
 (h3:∀ox oy op,(eqGuard op t ox oy x y).run P w=.ok () w):
 (binOp .eql t x y).run P w=.ok (.bool q) w/\(binOp .neq t x y).run P w=.ok (.bool (!q)) w/\(∀ox oy op,(eqGuard op t ox oy x y).run P w=.ok () w):=by
 have he2:(Op.equal t x y).run P w=.ok q w:=he 9999;refine⟨?_,?_,h3⟩
 .rw[h1];simp[he2]
 .rw[h2];simp[he2]
theorem bm8(hT:∀t i,H8 t=some i->N8 P t i){t:Nat}{u v:AV}{x y:Value}{q:Bool}(h:eqT t u v=some q)(hx:RV ρ u x)(hy:RV ρ v y)(w:World):
 (binOp .eql t x y).run P w=.ok (.bool q) w/\(binOp .neq t x y).run P w=.ok (.bool (!q)) w/\(∀ox oy op,(eqGuard op t ox oy x y).run P w=.ok () w):=by
 obtain⟨i,h1,h0⟩:=P6 h;clear h;have hu:=(hT _ _ h1).u;split at h0
 case h_13 el b i' c j hd=>
  rw[hd]at hu;obtain⟨z,h2,h⟩:=P6 h0;obtain⟨h3,h⟩:=lI h;obtain⟨h4,h⟩:=lI h;obtain⟨h5,h⟩:=lI h;injection h with h
  subst h;have h4:=F8 h4;have h5:=F8 h5;subst h4;subst h5;obtain⟨L,g1,g2⟩:=sO hx;obtain⟨L',g3,g4⟩:=sO hy;rw[g1]at g3;injection g3 with g3
  subst g3;subst g2;subst g4;obtain⟨k,h6,h7⟩:=P6 h2;injection h7 with h7
  have h3:=H6 h3;refine bm9 (λd=>?_) (by simp only[binOp]) (by simp only[binOp]) (λox oy op=>by simp[eqGuard]);have hne:¬k.size=0:=by omega
  simp[Op.equalIn,L6 hu,(hT _ _ h6).sizeOf w,hne,run_sameAddr_same]
 all_goals first
  |(injection h0 with h0;subst h0;rename_i hd;rw[hd]at hu;cases hx;cases hy;exact bm9 (λd=>by simp[Op.equalIn,L6 hu]) (by simp only[binOp]) (by simp only[binOp]) (λox oy op=>by simp[eqGuard]))
  |cases h0
theorem cL5(hT:∀t i,H8 t=some i->N8 P t i){t:Nat}(h:aJ9 t=true):P.underlying t=some .bool:=by
 unfold aJ9 at h;split at h
 .rename_i hd;exact(hT _ _ hd).u
 .cases h
theorem dc7(hT:∀t i,H8 t=some i->N8 P t i)(o:Oper)(op:BinOp)(t:Nat)(x y:Operand)(u:Nat)(ho:o.op=.binOp op t x y u):aU P o (QO op t x y u):=by
 intro S w0 ρ e s a w next Q h he hR hn
 obtain⟨v,h1,h2⟩:=I8 h;replace h2:QO op t x y u e s=_:=h2;rw[h2]at h hn;clear h2;obtain⟨v',h3,h4⟩:=I8 h;rw[h4]at h hn;clear h4;obtain⟨r,h5,h6⟩:=I8 h;rw[h6]at hn;clear h6 h;have hx:=aI h1 he;have hy:=aI h3 he;have fin:∀ib,(ib=true->P.underlying t=some .bool)->iI op ib (a.eval x) (a.eval y) (RV ρ r)->Oper.bT P o a w next Q:=by
  intro ib hib hw;obtain⟨z,hz,hrun⟩:=bN7 (P:=P) (t:=t) (ox:=x) (oy:=y) hib hw w;refine dA rfl hR hz ?_ hn;simp only[execOp,ho,I7]at hrun⊢;rw[hrun];rfl
 have int:∀{k:IntKind}{i:Int}{z:AV},RV ρ (aJ7 k i) (a.eval x)->True:=λ_=>trivial;have slow:bF t op v v'=some r->Oper.bT P o a w next Q:=by
  intro h;unfold bF at h;split at h
  .rename_i k n j m;rw[V8]at h;have ex:=dQ hx;have ey:=dQ hy;split at h
   .rename_i hs;exact fin false (λh=>by cases h) (by rw[ex,ey];exact TM h (.inl hs) _)
   .rw[V8]at h;split at h
    .rename_i hk;exact fin false (λh=>by cases h) (by rw[ex,ey];exact TM h (.inr (sJ hk)) _)
    .cases h
  .rename_i k n j m;rw[V8]at h;split at h
   .rename_i hk;have ex:=dQ hx;have ey:a.eval y=.int j (.negSucc m):=by generalize a.eval y=z at hy;cases hy;rfl
    exact fin false (λh=>by cases h) (by rw[ex,ey];exact TM h (.inr (sJ hk)) _)
   .cases h
  .rename_i k n j m;rw[V8]at h;split at h
   .rename_i hk;have ey:=dQ hy;have ex:a.eval x=.int k (.negSucc n):=by generalize a.eval x=z at hx;cases hx;rfl
    exact fin false (λh=>by cases h) (by rw[ex,ey];exact TM h (.inr (sJ hk)) _)
   .cases h
  .rename_i k n j m;rw[V8]at h;split at h
   .rename_i hk;have ey:a.eval y=.int j (.negSucc m):=by generalize a.eval y=z at hy;cases hy;rfl
    have ex:a.eval x=.int k (.negSucc n):=by generalize a.eval x=z at hx;cases hx;rfl
    exact fin false (λh=>by cases h) (by rw[ex,ey];exact TM h (.inr (sJ hk)) _)
   .cases h
  .generalize hax:a.eval x=z at hx;generalize hay:a.eval y=z' at hy;cases hx;cases hy;exact fin false (λh=>by cases h) (by rw[hax,hay];exact cl5 h _)
  .rename_i p q;obtain⟨hb,h⟩:=lI h;have ex:a.eval x=.bool p:=by generalize a.eval x=z at hx;cases hx;rfl
   have ey:a.eval y=.bool q:=by generalize a.eval y=z at hy;cases hy;rfl
   refine fin true (λ_=>cL5 hT hb) ?_;rw[ex,ey];cases op<;>simp only[bg6]at h<;>first
    |cases h
    |(have hr:=wV h
      subst hr;simp only[iI,H7]
      cases p<;>cases q<;>exact RV.q _)
  .split at h
   .obtain⟨q,g1,g2⟩:=P6 h;obtain⟨e1,_,e3⟩:=bm8 hT g1 hx hy w;have:=wV g2;subst this;refine dA rfl hR (.q q) ?_ hn;simp[execOp,ho,I7,e1,e3]
   .obtain⟨q,g1,g2⟩:=P6 h;obtain⟨_,e2,e3⟩:=bm8 hT g1 hx hy w;have:=YH g2;subst this;refine dA rfl hR (.q _) ?_ hn;simp[execOp,ho,I7,e2,e3]
   .cases h
 by_cases hnn:∃k n j m,v=.n k n/\v'=.n j m
 .obtain⟨k,n,j,m,rfl,rfl⟩:=hnn;replace h5:bq (Nat.beq (dP k) (dP j)) (az3 op k n m) (bF t op (.n k n) (.n j m))=some r:=h5;rw[V8]at h5;split at h5
  .rename_i hk;have:=sJ hk;subst this;exact fin false (λh=>by cases h) (by rw[dQ hx,dQ hy];exact cl4 h5 _)
  .grind
 .have:bg5 t op v v'=bF t op v v':=by
   cases v<;>first|rfl|(cases v'<;>first|rfl|exact absurd ⟨_,_,_,_,rfl,rfl⟩ hnn)
  grind
end
section
variable{P:Program}{S:Nat->Prop}{w0:World}{ρ:Ren}{e:Env}{s:St}{a:Act}{w:World}
theorem yB{α:Type}{f:α->Bool}{l:List α}(h:allB f l=true):∀x∈l,f x=true:=by
 induction l with
 |nil=>grind
 |cons y l ih=>
  replace h:bq (f y) (allB f l) false=true:=h;rw[V8]at h
  grind
theorem aR0(pl:Nat->Option (Nat×Nat))(at':Nat->Option (Nat×Nat))(hpl:∀i w,at' i=some w->pl i=some w)(he:aB ρ e a.tmps):
 ∀(ps:List (Nat×Operand))(z z':List AV)(cells:Array Value),zU at' ps e z=some z'->cells.size=z.length->Cells ρ z (λi=>cells[i]?)->
  ∃cells',Instr.fill pl cells (ps.map λp=>(p.1,a.eval p.2))=some cells'/\cells'.size=z'.length/\Cells ρ z' λi=>cells'[i]?
 |[],z,z',cells,h,hs,hc=>by cases h;exact⟨cells,rfl,hs,hc⟩
 |p::ps,z,z',cells,h,hs,hc=>by
  obtain⟨wd,h1,h⟩:=P6 h;obtain⟨v,h2,h⟩:=P6 h;obtain⟨h3,h⟩:=lI h;obtain⟨h4,h⟩:=lI h;obtain⟨y,h5,h⟩:=P6 h;have h3:=F8 h3;have h4:=H6 h4;rw[jC]at h3;have hx:=aI h2 he;obtain⟨g1,g2⟩:=aA5 hx λcs hcs=>by subst hcs;simp[cellsOf]at h3;omega
  obtain⟨hfit,_⟩:=ao5 h5;have hfold:=foldl_set wd.1 (a.eval p.2).cells.toList 0 cells (by simp;omega);have heq:(a.eval p.2).cells.zipIdx.foldl (λcs (p:Value×Nat)=>cs.setIfInBounds (wd.1+p.2) p.1) cells=((a.eval p.2).cells.toList.zipIdx 0).foldl (λcs (p:Value×Nat)=>cs.setIfInBounds (wd.1+p.2) p.1) cells:=by
   rw[<-xG,Array.toList_zipIdx]
  obtain⟨cells',h6,h7,h8⟩:=aR0 pl at' hpl he ps y z' ((a.eval p.2).cells.zipIdx.foldl (λcs (p:Value×Nat)=>cs.setIfInBounds (wd.1+p.2) p.1) cells) h (by rw[heq,hfold.1,hs,c43 h5]) (by
   intro i c hi;rw[bJ4 h5]at hi;rw[heq];show _/\∃x,(((a.eval p.2).cells.toList.zipIdx 0).foldl (λcs (p:Value×Nat)=>cs.setIfInBounds (wd.1+p.2) p.1) cells)[i]?=some x/\_;rw[hfold.2 i];by_cases hi1:i<wd.1
   .rw[I4 hi1]at hi;rw[F9 (by omega)];exact hc i c hi
   .rw[F9 hi1]at hi;by_cases hi2:i<wd.1+(cellsOf v).length
    .rw[I4 hi2]at hi;rw[I4 (by simp;omega)];have:=g2 _ c hi
     grind
    .rw[F9 hi2]at hi;rw[F9 (by simp;omega)]
     exact hc i c hi)
  refine⟨cells',?_,h7,h8⟩;simp only[kP,Instr.fill,hpl _ _ h1]
  grind
theorem dc9(hT:∀t i,H8 t=some i->N8 P t i)(o:Oper)(t:Nat)(ps:Array (Nat×Operand))(ho:o.op=.build t ps):aU P o (QT t ps):=by
 intro S w0 ρ e s a w next Q h he hR hn
 obtain⟨at',h1,h2⟩:=I8 h;replace h2:QT t ps e s=_:=h2;rw[h2]at h hn;clear h2;obtain⟨z,h3,h4⟩:=I8 h;rw[h4]at h hn;clear h4;obtain⟨z',h5,h6⟩:=I8 h;rw[h6]at hn;clear h6 h;obtain⟨i,h7,h8⟩:=P6 h1;obtain⟨i',h9,h10⟩:=P6 h3;rw[h7]at h9;injection h9 with h9
 subst h9;have hi:=hT _ _ h7;obtain⟨hz1,hz2⟩:=ax1 (ρ:=ρ) hi h10;obtain⟨j,hj,hjs,hjb,hjz⟩:=hi.eX;have hu:=hi.u;have hzs:(O7 i).cells.size=z.length:=by rw[kK hi,hz1];simp[hi.len]
 have fin:∀(pl:Nat->Option (Nat×Nat)),(∀i w,at' i=some w->pl i=some w)->(∀cells,Instr.fill pl (O7 i).cells (ps.toList.map λp=>(p.1,a.eval p.2))=some cells->P.built t (ps.map λ(i,x)=>(i,a.eval x)).toList=some cells)->Oper.bT P o a w next Q:=by
  intro pl hpl hb;obtain⟨cells,g1,g2,g3⟩:=aR0 pl at' hpl he ps.toList z z' _ h5 hzs hz2;have hrun:=run_build w t _ cells (hb cells g1);obtain⟨vs,q1,q2,q3⟩:=g3.agg;have:cells=vs.toArray:=by
   apply Array.ext';apply mY
   grind
  subst this;refine dA rfl hR q3 ?_ hn;simp only[execOp,ho,I7,hrun];rfl
 split at h8
 .rename_i fs hd;rw[hd]at hu;obtain⟨hall,h8⟩:=lI h8;injection h8 with h8
  subst h8;have hall:=yB hall
  let places:=fs.toList.map λf=>(f.offset,match H8 f.type with|some ti=>ti.size|.none=>0)
  have hmap:fs.toList.mapM (λf=>(P.info? f.type).map λi=>(f.offset,i.size))=some places:=by
   have:∀l:List Field,(∀f∈l,(H8 f.type).isSome=true)->l.mapM (λf=>(P.info? f.type).map λi=>(f.offset,i.size))=some (l.map λf=>(f.offset,match H8 f.type with|some ti=>ti.size|.none=>0)):=by
    intro l;induction l with
    |nil=>grind
    |cons f l ih=>
     intro hl;have hf:=hl f (by simp);cases htf:H8 f.type with
     |none=>grind
     |some ti=>
      obtain⟨jf,hjf,cG4,_,_⟩:=(hT _ _ htf).eX
      grind
   grind
  refine fin (λk=>places[k]?) (λk wd hk=>?_) λcells hc=>?_
  .obtain⟨ft,g1,g2⟩:=P6 hk;obtain⟨n,g3,g4⟩:=P6 g2;injection g4 with g4
   subst g4;obtain⟨i2,g5,g6⟩:=P6 g1;rw[h7]at g5;injection g5 with g5
   subst g5;rw[hd]at g6;simp only at g6;split at g6
   .rename_i f hf;injection g6 with g6
    subst g6;obtain⟨i3,g7,g8⟩:=P6 g3
    grind
   .cases g6
  .unfold Program.built;simp only[hj,hu,hjz,hmap];rw[Array.toList_map]
   grind
 .rename_i n el hd;rw[hd]at hu;obtain⟨m,g1,g2⟩:=P6 h8;injection g2 with g2
  subst g2;obtain⟨k,g3,g4⟩:=P6 g1;injection g4 with g4
  subst g4;obtain⟨K,hK,hKs,_,_⟩:=(hT _ _ g3).eX;refine fin (λi=>some (i*k.size,k.size)) (λi wd hi=>hi) λcells hc=>?_;unfold Program.built;simp only[hj,hu,hjz,hK,hKs];rw[Array.toList_map]
  grind
 .cases h8
theorem dB4{i:TI}{n:Nat}{z:List AV}(h:UO i n=some z):∃y,ad2 i=some y/\z.length=n*y.length/\∀k,k<n*y.length->z[k]?=y[k % y.length]?:=by
 obtain⟨y,h1,h2⟩:=P6 h;injection h2 with h2
 refine⟨y,h1,?_⟩;subst h2;clear h;induction n with
 |zero=>exact⟨by show([]:List AV).length=_;simp,λk hk=>by simp at hk⟩
 |succ n ih=>
  have e:(Nat.rec (motive:=λ_=>List AV) [] (λ_ ih=>dW y ih) (n+1))=y++(Nat.rec (motive:=λ_=>List AV) [] (λ_ ih=>dW y ih) n):=oI _ _;rw[e];obtain⟨i1,i2⟩:=ih;refine⟨by rw[bQ,i1,Nat.succ_mul];omega,λk hk=>?_⟩;rcases eG k y.length with hlt|hge
  .rw[bV hlt,Nat.mod_eq_of_lt hlt]
  .rw[bJ hge];rw[Nat.succ_mul]at hk;rw[i2 (k-y.length) (by omega),Nat.mod_eq_sub_mod hge]
theorem bb8{t n:Nat}{i:TI}(hi:N8 P t i){z:List AV}(h:UO i n=some z):z.length=n*i.size/\Cells ρ z λk=>(((Array.range (n*i.size)).map ((O7 i).cells[· % (O7 i).cells.size]!)):Array Value)[k]?:=by
 obtain⟨y,h1,h2,h3⟩:=dB4 h;obtain⟨hy1,hy2⟩:=ax1 (ρ:=ρ) hi h1;have hzs:(O7 i).cells.size=i.size:=by rw[kK hi];simp[hi.len]
 rw[hy1]at h2 h3;refine⟨h2,λk c hk=>?_⟩;have hlt:k<n*i.size:=by grind
 rw[h3 k hlt]at hk;obtain⟨g1,x,g2,g3⟩:=hy2 _ c hk
 grind
theorem bB0(hT:∀t i,H8 t=some i->N8 P t i)(o:Oper)(t n:Nat)(ps:Array (Nat×Operand))(ho:o.op=.buildSlice t n ps):BU P o (EL t n ps):=by
 intro ρ e s a h he;obtain⟨el,h1,h2⟩:=I8 h;have e1:∀s,EL t n ps e s=oR (H8 el) λi=>bR (Nat.ble n 4096) (bR (Nat.ble i.size 256) (bR (Nat.ble 1 i.size) (oR (UO i n) λz=>oR (zU (elemAt i.size) ps.toList e z) λz=>mM (.c el z) (λb=>.s b 0 n (some n)) s))):=λs=>by
  show oR (TK H8 t) _=_;rw[h1];rfl
 rw[e1 s]at h;clear h2;obtain⟨i,h3,h4⟩:=I8 h;rw[h4]at h;clear h4;have h5:=X6 h;rw[h5,X7]at h;have h6:=X6 h;rw[h6,X7]at h;have h7:=X6 h;rw[h7,X7]at h;obtain⟨z,h8,h9⟩:=I8 h;rw[h9]at h;clear h9;obtain⟨z',h10,h11⟩:=I8 h;have e2:∀s,EL t n ps e s=mM (.c el z') (λb=>.s b 0 n (some n)) s:=λs=>by
  rw[e1 s,h3];show bR (Nat.ble n 4096) _=_;rw[h5,X7,h6,X7,h7,X7,h8];show oR (zU (elemAt i.size) ps.toList e z) _=_;rw[h10];rfl
 clear h11 h;have h5:=H6 h5;have h6:=H6 h6;have h7:=H6 h7;have hi:=hT _ _ h3;obtain⟨j,hj,hjs,hjb,hjz⟩:=hi.eX;obtain⟨ti,h12,h13⟩:=P6 h1;split at h13
 rotate_left
 .cases h13
 rename_i dK hd;injection h13 with h13
 subst h13;have hu:=(hT _ _ h12).u;rw[hd]at hu;obtain⟨hz1,hz2⟩:=bb8 (ρ:=ρ) hi h8
 let zero:Array Value:=if n*i.size=0 then #[]else(O7 i).cells
 obtain⟨cells,wK,hcs,hrep⟩:=aR0 (λk=>some (k*i.size,i.size)) (elemAt i.size) (λ_ _ h=>h) he ps.toList z z' ((Array.range (n*i.size)).map (zero[· % zero.size]!)) h10 (by simp[hz1]) (by
  by_cases h0:n*i.size=0
  .grind
  .have hze:zero=(O7 i).cells:=by simp[zero,h0]
   rw[hze];exact hz2)
 have hlim:¬(n*i.size>2^24):=by
  have:n*i.size<=4096*256:=Nat.mul_le_mul h5 h6;omega
 have hrun:∀w:World,(execOp a.eval o).run P w=.ok (.value (.slice (some ⟨w.heap.size,0,none⟩) n n)) (w.alloc (.cells cells dK)):=by
  intro w;have qK:Instr.fill (λi'=>some (i'*i.size,i.size)) ((Array.range (n*i.size)).map (zero[· % zero.size]!)) (ps.map λ(i,x)=>(i,a.eval x)).toList=some cells:=by
   rw[Array.toList_map];exact wK
  simp only[execOp,ho,Instr.buildSlice,I7,L6 hu,N9,hi.sizeOf w,F9 hlim,Q5];by_cases h0:n*i.size=0
  .have hze:zero=#[]:=by simp[zero,h0]
   rw[hze]at qK;rw[I4 h0];simp only[I7,Q5,N9,qK];rfl
  .have hze:zero=(O7 i).cells:=by simp[zero,h0]
   rw[hze]at qK;have hzv:(zeroValue dK).run P w=.ok (O7 i) w:=by simp[zeroValue,typeInfo,hj,hjz]
   simp only[F9 h0,I7,hzv,N9,Q5,qK];rfl
 exact⟨_,_,e2,λw=>aT4 hrep (hrun w) λb hb=>.s _ _ _ _ _ _ _ (jF _ _) (J6 _) (λk hk=>(iE hk)) (.inl rfl) (λh=>by cases h)⟩
theorem dd0(hT:∀t i,H8 t=some i->N8 P t i)(o:Oper)(t n:Nat)(ps:Array (Nat×Operand))(ho:o.op=.buildSlice t n ps):aU P o (EL t n ps):=am1 (bB0 hT o t n ps ho)
theorem aN0{v:AV}{n:Nat}(h:QK v=some n):∃k,v=.n k n:=by
 unfold QK at h
 grind
theorem de1(hT:∀t i,H8 t=some i->N8 P t i)(o:Oper)(t:Nat)(x y:Operand)(ho:o.op=.indexAddr t x y):aU P o (RF t x y):=by
 intro S w0 ρ e s a w next Q h he hR hn
 obtain⟨v,h1,h2⟩:=I8 h;replace h2:RF t x y e s=_:=h2;rw[h2]at h hn;clear h2;obtain⟨u,h3,h4⟩:=I8 h;rw[h4]at h hn;clear h4;obtain⟨wd,h5,h6⟩:=I8 h;rw[h6]at h hn;clear h6;obtain⟨z,h7,h8⟩:=I8 h;rw[h8]at h hn;clear h8;obtain⟨k,n,rfl⟩:=a99 h;have hy:=dQ (aI h3 he);have hx:=aI h1 he;obtain⟨i,g1,g2⟩:=P6 h5;obtain⟨j,g3,g4⟩:=P6 h7;injection g4 with g4
 subst g4;have hu:=(hT _ _ g1).u;have run:∀(b off len:Nat)(L:Loc),n<len->ρ b=some L->((P.underlying t=some (.slice wd.2)/\∃cap,a.eval x=.slice (some ⟨L.blk,off+L.sh,none⟩) len cap)\/(P.underlying t=some (.array len wd.2)/\a.eval x=.pointer (some ⟨L.blk,off+L.sh,none⟩)))->
  (∀v s' ρ' x w',Has (.one (.p b (Nat.add off (Nat.mul n j.size))) s) v s'->Ext ρ ρ'->Rl S w0 ρ' s' w'->s'.ro=s.ro->s.nx<=s'.nx->RV ρ' v x->next (a.put o.dst x) w')->Oper.bT P o a w next Q:=by
  intro b off len L hlt hL hcase hn;refine dA rfl hR (.p _ _ L hL) ?_ hn;have hm:(0:Int)<=Int.ofNat n/\Int.ofNat n<(len:Int):=⟨Int.natCast_nonneg n,by show(n:Int)<len;omega⟩;have hadd:off+L.sh+n*j.size=Nat.add off (Nat.mul n j.size)+L.sh:=by grind
  rcases hcase with⟨hq,cap,hv⟩|⟨hq,hv⟩
  .simp only[execOp,ho,hv,hy,Instr.indexAt,asIntOf,I7,Q5,N9,L6 hq,(hT _ _ g3).sizeOf w,I4 hm,gY];simp[hadd]
  .simp only[execOp,ho,hv,hy,Instr.indexAt,Instr.sureAddr,asIntOf,I7,Q5,N9,L6 hq,(hT _ _ g3).sizeOf w,I4 hm,gY];simp[hadd]
 split at g2
 .rename_i el hd;rw[hd]at hu;injection g2 with g2
  subst g2;simp only[aw1,af9]at h hn;obtain⟨b,off,l,c,rfl⟩:=dx5 h;simp only[dx6]at h hn;have hlt:=X6 h;simp only[hlt,X7,ZH]at hn;have hlt:=dJ hlt;generalize hax:a.eval x=z at hx;cases hx with
  |s _ _ _ cap off' _ L hL hl hc ho' hb=>
   have hoff:off'=off+L.sh:=by grind
   subst hoff;exact run b off l L hlt hL (.inl ⟨hu,cap,hax⟩) hn
 .rename_i m el hd;rw[hd]at hu;injection g2 with g2
  subst g2;simp only[aw1,II]at h hn;obtain⟨l,h9,h10⟩:=I8 h;rw[h10]at h hn;clear h10;obtain⟨b,off,rfl⟩:=UJ h;simp only[ba0]at h hn;have hlt:=X6 h;simp only[hlt,X7,ZH]at hn;have hlt:=dJ hlt;obtain⟨i2,q1,q2⟩:=P6 h9;rw[g1]at q1;injection q1 with q1
  subst q1;rw[hd]at q2;injection q2 with q2
  subst q2;obtain⟨L,hL,hv⟩:=sO hx
  grind
 .cases g2
theorem cL7(hT:∀t i,H8 t=some i->N8 P t i){t:Nat}(h:aK3 H8 t=true):P.underlying t=some .string:=by
 unfold aK3 at h;split at h
 .rename_i hd;exact(hT _ _ hd).u
 .cases h
theorem de0(hT:∀t i,H8 t=some i->N8 P t i)(o:Oper)(t:Nat)(x y:Operand)(ho:o.op=.index t x y):aU P o (RD t x y):=by
 intro S w0 ρ e s a w next Q h he hR hn
 obtain⟨v,h1,h2⟩:=I8 h;replace h2:RD t x y e s=_:=h2;rw[h2]at h hn;clear h2;obtain⟨u,h3,h4⟩:=I8 h;rw[h4]at h hn;clear h4;obtain⟨k,n,rfl⟩:=a99 h;simp only[aw1]at h hn;have hy:=dQ (aI h3 he);have hx:=aI h1 he;rw[V8]at h hn;split at h
 .rename_i hs;rw[I4 hs]at hn;have hu:=cL7 hT hs;split at h
  .rename_i l;simp only at hn;obtain⟨c,h5,h6⟩:=I8 h;rw[h6]at hn;rw[yR]at h5;generalize hax:a.eval x=z at hx;cases hx with
   |str b=>
    rw[O6]at h5;cases hb:b.data.toList[n]? with
    |none=>grind
    |some ch=>
     rw[hb]at h5;simp at h5;subst h5;refine dA rfl hR (.n .u8 _) ?_ hn;have hlt:n<b.data.toList.length:=(O4.1 hb).1;have h0:(0:Int)<=Int.ofNat n:=Int.natCast_nonneg n;have hbb:b[(Int.ofNat n).toNat]?=some ch:=by
      have h2:n<b.size:=by simpa using hlt
      show b[n]?=some ch;rw[getElem?_pos b n h2];rw[I9 hlt]at hb;injection hb with hb
      rw[<-hb];rfl
     simp only[execOp,ho,hax,hy,Instr.index,asIntOf,I7,Q5,N9,L6 hu,I4 h0,hbb];rfl
  .grind
 .rename_i hs;rw[F9 hs]at hn;obtain⟨l,h5,h6⟩:=I8 h;rw[h6]at h hn;clear h6;obtain⟨wd,h7,h8⟩:=I8 h;rw[h8]at h hn;clear h8;obtain⟨z,h9,h10⟩:=I8 h;rw[h10]at h hn;clear h10;obtain⟨cs,rfl⟩:=b91 h;simp only[dx3]at h hn;have hlt:=X6 h;simp only[hlt,X7]at h hn;obtain⟨r,h11,h12⟩:=I8 h;rw[h12]at hn;have hlt:=dJ hlt;obtain⟨i,g1,g2⟩:=P6 h5;obtain⟨i2,g3,g4⟩:=P6 h7;rw[g1]at g3;injection g3 with g3
  subst g3;obtain⟨j,g5,g6⟩:=P6 h9;injection g6 with g6
  subst g6;have hu:=(hT _ _ g1).u;split at g2
  .rename_i m el hd;rw[hd]at hu g4;injection g2 with g2
   subst g2;injection g4 with g4
   subst g4;obtain⟨vs,q1,q2,q3⟩:=EW hx;obtain⟨y',q4,q5⟩:=bO1 (w:=w) hT q2 q3 h11;refine dA rfl hR q5 ?_ hn;have h0:(0:Int)<=Int.ofNat n/\Int.ofNat n<(m:Int):=⟨Int.natCast_nonneg n,by show(n:Int)<m;omega⟩;simp only[execOp,ho,q1,hy,Instr.index,asIntOf,I7,Q5,N9,L6 hu,I4 h0,(hT _ _ g5).sizeOf w];replace q4:(Go.part el vs.toArray ((Int.ofNat n).toNat*j.size)).run P w=_:=q4;rw[q4];rfl
  .cases g2
def UY(ρ:Ren)(x:Option AV)(y:Option Value):Prop:=(x=none/\y=none)\/∃v z,x=some v/\y=some z/\RV ρ v z
theorem bh2{k:IntKind}{n y:Nat}{code:BoundsCode}(h:n<=y):(Instr.sliceBound (.int k (.ofNat n)) y code).run P w=.ok n w:=by
 have h0:(0:Int)<=Int.ofNat n/\Int.ofNat n<=(y:Int):=⟨Int.natCast_nonneg n,by show(n:Int)<=y;omega⟩;simp only[Instr.sliceBound,asIntOf,I7,Q5,N9,I4 h0];rfl
theorem bh3{k:IntKind}{n y:Nat}{code:BoundsCode}(h:n<=y):(Instr.sliceBound (.int k (n:Int)) y code).run P w=.ok n w:=bh2 h
theorem bG2{d n:Nat}{x:Option AV}{y:Option Value}(h:orA d x=some n)(hx:UY ρ x y):(y=none/\n=d/\x=none)\/∃k,y=some (.int k (.ofNat n))/\x≠none:=by
 rcases hx with⟨rfl,rfl⟩|⟨v,z,rfl,rfl,hr⟩
 .cases h;exact .inl ⟨rfl,rfl,rfl⟩
 .obtain⟨k,rfl⟩:=aN0 h;exact .inr ⟨k,by rw[dQ hr],by simp⟩
theorem af7{len cap':Nat}{c:Option Nat}{lo hi mx:Option AV}{b:Nat×Nat×Option Nat}(h:VH len c lo hi mx=some b)(hc:∀k,c=some k->cap'=k)(hl:len<=cap')
 {lo' hi' mx':Option Value} (h1:UY ρ lo lo') (h2:UY ρ hi hi') (h3:UY ρ mx mx') (XB:mx=none\/hi≠none) (q:Bool):
 ∃m,(Instr.sliceBounds q len cap' lo' hi' mx').run P w=.ok (b.1,b.2.1,m) w/\b.1<=b.2.1/\b.2.1<=m/\m<=cap'/\(∀k,b.2.2=some k->m=k)/\(b.2.2=none->c=none/\m=cap'/\b.2.1<=len):=by
 obtain⟨mm,g1,h⟩:=P6 h;obtain⟨hh,g2,h⟩:=P6 h;obtain⟨g3,h⟩:=lI h;obtain⟨l,g4,h⟩:=P6 h;obtain⟨g5,h⟩:=lI h;injection h with h
 subst h;have g5:=H6 g5;simp only;have hm:∃m,(match mx' with|some v=>Instr.sliceBound v cap' (if q then .slice3Acap else .slice3Alen)|none=>(pure cap':Sem Nat)).run P w=.ok m w/\hh<=m/\m<=cap'/\(∀k,mm=some k->m=k)/\(mm=none->c=none/\m=cap'/\hh<=len):=by
  rcases h3 with⟨rfl,rfl⟩|⟨v,z,rfl,rfl,hr⟩
  .injection g1 with g1
   subst g1;refine⟨cap',rfl,?_,J6 _,hc,λh=>⟨h,rfl,?_⟩⟩
   .cases c with
    |none=>exact X4 (H6 g3) hl
    |some k=>rw[hc k rfl];exact H6 g3
   .subst h;exact H6 g3
  .obtain⟨n,q1,q2⟩:=P6 g1;obtain⟨q3,q4⟩:=lI q2;injection q4 with q4
   subst q4;obtain⟨k,rfl⟩:=aN0 q1;have hle:n<=cap':=by
    cases c with
    |none=>exact X4 (H6 q3) hl
    |some k=>rw[hc k rfl];exact H6 q3
   refine⟨n,?_,H6 g3,hle,λk hk=>iE hk,λh=>by cases h⟩;simp only[dQ hr];exact bh2 hle
 obtain⟨m,q1,q2,q3,q4,q5⟩:=hm;refine⟨m,?_,g5,q2,q3,q4,q5⟩;have e1:=bG2 g2 h2;have e2:=bG2 g4 h1;simp only[Instr.sliceBounds,I7];have q1':=q1;rcases h3 with⟨rfl,rfl⟩|⟨v,z,rfl,rfl,hr⟩
 .simp only[Q5,Result.ok.injEq,and_true]at q1;subst q1;simp only[Q5,N9];rcases e1 with⟨rfl,rfl,_⟩|⟨k,rfl,_⟩<;>rcases e2 with⟨rfl,rfl,_⟩|⟨k2,rfl,_⟩<;>simp[bh3,q2,g5]
 .simp only at q1;rcases e1 with⟨rfl,rfl,e1⟩|⟨k,rfl,_⟩
  .grind
  .rcases e2 with⟨rfl,rfl,_⟩|⟨k2,rfl,_⟩<;>simp[q1,bh3,q2,g5]
theorem aP7{o:Option Operand}{x:Option AV}(h:zS o e=some x)(he:aB ρ e a.tmps):UY ρ x (o.map a.eval):=by
 cases o with
 |none=>cases h;exact .inl ⟨rfl,rfl⟩
 |some o=>
  obtain⟨v,h1,h2⟩:=P6 h;injection h2 with h2
  subst h2;exact .inr ⟨v,_,rfl,rfl,aI h1 he⟩
theorem wY{b o l:Nat}{c:Option Nat}{x:Value}(h:RV ρ (.s b o l c) x):∃cap off L,ρ b=some L/\x=.slice (some ⟨L.blk,off,none⟩) l cap/\l<=cap/\(∀k,c=some k->cap=k)/\(off=o+L.sh\/cap=0)/\
 (c=none->∃i,H8 L.el=some i/\off+cap*i.size<=L.tot):=by
 cases h with|s _ _ _ cap off _ L h hl hc ho hb=>exact⟨cap,off,L,h,rfl,hl,hc,ho,hb⟩
theorem dm8(b:ByteArray)(l h:Nat)(hle:l<=h)(hh:h<=b.size):(b.extract l h).data.toList=(b.data.toList.drop l).take (h-l):=by
 rw[ByteArray.data_extract,Array.toList_extract]
theorem db2{el b:Nat}{c:Option Nat}{k:RO}(h:rowIs el b c s k≠.no):(c=none->∃cs,s.h.get (pa b)=some (.c el cs))/\rowIs el b c s k=k:=by
 cases c with
 |some n=>exact⟨(λh=>by cases h),rfl⟩
 |none=>
  obtain⟨dK,cs,q1,q2⟩:=vC (show gI s b _≠.no from h);have q2':rowIs el b none s k=bR (Nat.beq el dK) k:=q2;rw[q2']at h⊢;have q3:=X6 h;rw[q3];have:=F8 q3;subst this;exact⟨λ_=>⟨cs,q1⟩,rfl⟩
theorem df1(hT:∀t i,H8 t=some i->N8 P t i)(o:Oper)(t:Nat)(x:Operand)(lo hi mx:Option Operand)(ho:o.op=.slice t x lo hi mx):aU P o (RX t x lo hi mx):=by
 intro S w0 ρ e s a w next Q h he hR hn
 have hmx:=X6 h;have e0:RX t x lo hi mx e s=oR (look x e) λa=>oR (zS lo e) λlo=>oR (zS hi e) λhi=>oR (zS mx e) λmx=>ar6 t a lo hi mx s:=by
  show bR (bF5 hi mx) _=_;rw[hmx];rfl
 rw[e0]at h hn;clear e0;obtain⟨v,h1,h2⟩:=I8 h;rw[h2]at h hn;clear h2;obtain⟨lo',h3,h4⟩:=I8 h;rw[h4]at h hn;clear h4;obtain⟨hi',h5,h6⟩:=I8 h;rw[h6]at h hn;clear h6;obtain⟨mx',h7,h8⟩:=I8 h;rw[h8]at h hn;clear h8;have r1:=aP7 h3 he;have r2:=aP7 h5 he;have r3:=aP7 h7 he;have hx:=aI h1 he;have XB:mx'=none\/hi'≠none:=by
  cases mx with
  |none=>cases h7;exact .inl rfl
  |some m=>
   cases hi with
   |none=>cases hmx
   |some q=>
    obtain⟨u,_,h9⟩:=P6 h5
    grind
 have row:∀(b of n cap off:Nat)(c:Option Nat)(L:Loc)(el:Nat)(i:TI)(bd:Nat×Nat×Option Nat)(m:Nat),ρ b=some L->H8 el=some i->n<=cap->(off=of+L.sh\/cap=0)->(∀k,c=some k->cap=k)->
  (c=none->L.el=el/\off+cap*i.size<=L.tot)->
  bd.1<=bd.2.1->bd.2.1<=m->m<=cap->(∀k,bd.2.2=some k->m=k)->(bd.2.2=none->c=none/\m=cap/\bd.2.1<=n)->
  RV ρ (.s b (bq (atEnd bd.1 bd.2.2) of (Nat.add of (Nat.mul bd.1 i.size))) (Nat.sub bd.2.1 bd.1) (bd.2.2.map λm=>Nat.sub m bd.1))
   (.slice (some (if m=bd.1 then(⟨L.blk,off,none⟩:Addr)else(⟨L.blk,off,none⟩:Addr).add (bd.1*i.size))) (bd.2.1-bd.1) (m-bd.1)):=by
  intro b of n cap off c L el i bd m hL hi hn hoff hck hb g1 g2 g3 g4 g5;have ha:(if m=bd.1 then(⟨L.blk,off,none⟩:Addr)else(⟨L.blk,off,none⟩:Addr).add (bd.1*i.size))=⟨L.blk,if m=bd.1 then off else off+bd.1*i.size,none⟩:=by
   split
   .rfl
   .rw[gY]
  rw[ha];refine .s _ _ _ _ _ _ L hL (Nat.sub_le_sub_right g2 _) (λk hk=>?_) ?_ λhnn=>?_
  .cases hbd:bd.2.2 with
   |none=>grind
   |some k'=>grind
  .by_cases hm:m=bd.1
   .right;omega
   .left;rw[F9 hm];have hcap:cap≠0:=by omega
    have hoff:=hoff.resolve_right hcap;cases hbd:bd.2.2 with
    |none=>simp only[atEnd,II];show _=of+bd.1*i.size+L.sh;omega
    |some k'=>
     have hk:=g4 k' hbd;have hb2:Nat.beq k' bd.1=false:=by rw[rV];simp;omega
     simp only[atEnd,hb2,II];show _=of+bd.1*i.size+L.sh;omega
  .have hbd:bd.2.2=none:=by cases hbd:bd.2.2 with|none=>rfl|some k=>rw[hbd]at hnn;cases hnn
   obtain⟨hc,hm,_⟩:=g5 hbd;obtain⟨he1,he2⟩:=hb hc;refine⟨i,by rw[he1];exact hi,?_⟩;by_cases hm2:m=bd.1
   .grind
   .rw[F9 hm2];have e:(m-bd.1)*i.size=m*i.size-bd.1*i.size:=Nat.sub_mul _ _ _;have h3:bd.1*i.size<=m*i.size:=iJ _ (by omega)
    grind
 unfold ar6 at h hn;split at h
 ·
  rename_i _ _ _ _ _ _ _ l hd;simp only[hd]at hn;obtain⟨bd,g1,g2⟩:=I8 h;rw[g2]at h hn;clear g2;obtain⟨r,g3,g4⟩:=I8 h;rw[g4]at hn;clear g4;have hu:=(hT _ _ hd).u;simp only at hu;generalize hax:a.eval x=z at hx;cases hx with
  |str bs=>
   have hsz:bI (bs.data.toList.map UInt8.toNat)=bs.size:=by rw[jC];simp
   rw[hsz]at g1;obtain⟨m,q1,q2,q3,q4,q5,q6⟩:=af7 (P:=P) (w:=w) g1 (λk hk=>iE hk) (J6 _) r1 r2 r3 XB false;obtain⟨t1,t2⟩:=as2 g3;rw[VT]at t1;have br9:mx.map a.eval=none:=by
    rcases r3 with⟨_,h⟩|⟨v,z,h,_⟩
    .exact h
    .cases h
   rw[br9]at q1;have hv:RV ρ (.str r) (.string (bs.extract bd.1 bd.2.1)):=by
    have:=RV.str (ρ:=ρ) (bs.extract bd.1 bd.2.1);rw[dm8 _ _ _ q2 (X4 q3 q4)]at this;rw[t1];have e:(bs.data.toList.map UInt8.toNat).drop bd.1=(bs.data.toList.drop bd.1).map UInt8.toNat:=by rw[List.map_drop]
    rw[e,<-List.map_take];exact this
   refine dA rfl hR hv ?_ hn;simp only[execOp,ho,hax,br9,Instr.sliceAt,Instr.slice,I7,L6 hu,N9,q1];simp[q1]
 ·
  rename_i el _ _ _ _ _ b of n c hd;simp only[hd]at hn;obtain⟨z,g1,g2⟩:=I8 h;rw[g2]at h hn;clear g2;obtain⟨bd,g3,g4⟩:=I8 h;rw[g4]at h hn;clear g4;have hu:=(hT _ _ hd).u;simp only at hu;obtain⟨i,g5,g6⟩:=P6 g1;injection g6 with g6
  subst g6;obtain⟨cap,off,L,hL,hax,hl,hck,hoff,hb⟩:=wY hx;obtain⟨hrow,hone⟩:=db2 h;rw[hone,ap3]at hn;obtain⟨m,q1,q2,q3,q4,q5,q6⟩:=af7 (P:=P) (w:=w) g3 hck hl r1 r2 r3 XB true;refine dA rfl hR (row b of n cap off c L el i bd m hL g5 hl hoff hck (λhc=>?_) q2 q3 q4 q5 q6) ?_ hn
  .obtain⟨cs,hcs⟩:=hrow hc;obtain⟨L',arr,p1,p2,_⟩:=hR.cells hcs
   grind
  .simp only[execOp,ho,hax,Instr.sliceAt,Instr.slice,I7,L6 hu,N9,q1,(hT _ _ g5).sizeOf w];by_cases hm:m=bd.1
   .simp[hm,q1,(hT _ _ g5).sizeOf w]
   .simp[hm,q1,(hT _ _ g5).sizeOf w]
 ·
  rename_i el _ _ _ _ _ hd;simp only[hd]at hn;obtain⟨z,g1,g2⟩:=I8 h;rw[g2]at h hn;clear g2;obtain⟨bd,g3,g4⟩:=I8 h;rw[g4]at hn;clear g4;have hu:=(hT _ _ hd).u;simp only at hu;obtain⟨i,g5,g6⟩:=P6 g1;generalize hax:a.eval x=z' at hx;cases hx;obtain⟨m,q1,q2,q3,q4,q5,q6⟩:=af7 (P:=P) (w:=w) g3 (λk hk=>iE hk) (J6 _) r1 r2 r3 XB true;have e1:m=0:=by omega
  have e2:bd.1=0:=by omega
  have e3:bd.2.1=0:=by omega
  refine dA rfl hR .ns ?_ hn;simp only[execOp,ho,hax,Instr.sliceAt,Instr.slice,I7,L6 hu,N9,q1,(hT _ _ g5).sizeOf w];simp[q1,(hT _ _ g5).sizeOf w,e1,e2,e3]
 ·
  rename_i n el _ _ _ _ _ b of hd;simp only[hd]at hn;obtain⟨z,g1,g2⟩:=I8 h;rw[g2]at h hn;clear g2;obtain⟨bd,g3,g4⟩:=I8 h;rw[g4,ap3]at hn;clear g4;have hu:=(hT _ _ hd).u;simp only at hu;obtain⟨i,g5,g6⟩:=P6 g1;injection g6 with g6
  subst g6;obtain⟨L,hL,hax⟩:=sO hx;obtain⟨m,q1,q2,q3,q4,q5,q6⟩:=af7 (P:=P) (w:=w) g3 (λk hk=>iE hk) (J6 _) r1 r2 r3 XB false;refine dA rfl hR (row b of n n (of+L.sh) (some n) L el i bd m hL g5 (J6 _) (.inl rfl) (λk hk=>iE hk) (λhc=>by cases hc) q2 q3 q4 q5 q6) ?_ hn;simp only[execOp,ho,hax,Instr.sliceAt,Instr.sureAddr,I7,Q5,L6 hu,N9,q1,(hT _ _ g5).sizeOf w]
  first|done|simp[q1,(hT _ _ g5).sizeOf w]
 .grind
end
section
variable{P:Program}{S:Nat->Prop}{w0:World}{ρ:Ren}{e:Env}{s:St}{a:Act}{w:World}
theorem VK(hT:∀t i,H8 t=some i->N8 P t i){t:Nat}{c:AV}(h:yH t c=true):(∃i,H8 t=some i/\i.isAgg=false)/\
 ((∃k',P.underlying t=some (.int k')/\∃k n,c=.n k n)\/(P.underlying t=some .string/\∃l,c=.str l)\/(P.underlying t=some .bool/\∃b,c=.q b)):=by
 unfold yH at h;split at h
 .rename_i hd;have:=hT _ _ hd;exact⟨⟨_,hd,by have:=this.agg;simpa[VO]using this⟩,.inl ⟨_,this.u,_,_,rfl⟩⟩
 .rename_i hd;have:=hT _ _ hd;exact⟨⟨_,hd,by have:=this.agg;simpa[VO]using this⟩,.inr (.inl ⟨this.u,_,rfl⟩)⟩
 .rename_i hd;have:=hT _ _ hd;exact⟨⟨_,hd,by have:=this.agg;simpa[VO]using this⟩,.inr (.inr ⟨this.u,_,rfl⟩)⟩
 .cases h
theorem str_inj{b1 b2:ByteArray}(h:(b1.data.toList==b2.data.toList)=true):b1=b2:=by
 have:=kS h;have e:b1.data=b2.data:=Array.ext' this;obtain⟨d1⟩:=b1;obtain⟨d2⟩:=b2
 grind
theorem cx6(x:AV)(l:List AV)(y:AV)(m:List AV):WH (x::l) (y::m)=oB (VJ x y) λq=>bq q (WH l m) (some false):=rfl
theorem co1{x y:AV}{u v:Value}{q:Bool}(h:VJ x y=some q)(hx:RV ρ x u)(hy:RV ρ y v):
 (∃k a b,u=.int k (.ofNat a)/\v=.int k (.ofNat b)/\q=decide (a=b))\/(∃b1 b2:ByteArray,u=.string b1/\v=.string b2/\q=(b1.data.toList==b2.data.toList))\/∃p r,u=.bool p/\v=.bool r/\q=(p==r):=by
 unfold VJ at h;split at h
 .rename_i k a j b;rw[V8]at h;split at h
  .rename_i hkj;injection h with h
   have:=sJ hkj;subst this;exact .inl ⟨k,a,b,dQ hx,dQ hy,by rw[<-h,rV]⟩
  .cases h
 .injection h with h
  cases hx with
  |str b1=>
   cases hy with
   |str b2=>exact .inr (.inl ⟨b1,b2,rfl,rfl,by rw[<-h,ai6]⟩)
 .rename_i p r;injection h with h
  have e1:u=.bool p:=by cases hx;rfl
  have e2:v=.bool r:=by cases hy;rfl
  exact .inr (.inr ⟨p,r,e1,e2,by rw[<-h];cases p<;>cases r<;>rfl⟩)
 .cases h
theorem bk6(a b:Nat):(Int.ofNat a==Int.ofNat b)=decide (a=b):=by grind
theorem co0(hT:∀t i,H8 t=some i->N8 P t i){x y:AV}{u v:Value}{q:Bool}{t:Nat}(hf:yH t x=true)(h:VJ x y=some q)(hx:RV ρ x u)(hy:RV ρ y v)(n:Nat):
 (Op.equalIn (n+1) t u v).run P w=.ok q w/\(q=true->v=u):=by
 obtain⟨_,hk⟩:=VK hT hf;rcases co1 h hx hy with⟨k,a,b,rfl,rfl,rfl⟩|⟨b1,b2,rfl,rfl,rfl⟩|⟨p,r,rfl,rfl,rfl⟩
 .rcases hk with⟨k',hd,_⟩|⟨_,l,rfl⟩|⟨_,b,rfl⟩
  .refine⟨?_,λhq=>?_⟩
   .rw[run_equalIn_int w n t k k' _ _ hd,bk6]
   .grind
  .cases hx
  .cases hx
 .rcases hk with⟨k',hd,k,n,rfl⟩|⟨hd,_⟩|⟨_,b,rfl⟩
  .cases hx
  .refine⟨?_,λhq=>by rw[str_inj hq]⟩;rw[run_equalIn_string w n t _ _ hd,ByteArray.toList_eq,ByteArray.toList_eq]
  .cases hx
 .rcases hk with⟨k',hd,k,n,rfl⟩|⟨_,l,rfl⟩|⟨hd,_⟩
  .cases hx
  .cases hx
  .refine⟨by rw[run_equalIn_bool' w n t _ _ hd],λhq=>by rw[kS hq]⟩
theorem aT6{t:Nat}{i:TI}(hi:N8 P t i)(hg:i.isAgg=false){xs:Array Value}{o:Nat}{v:Value}(hx:xs[o]?=some v):(Go.part t xs o).run P w=.ok v w:=by
 have hr:=hi.DZ w;rw[hg]at hr;simp[Go.part,hr,hx]
theorem bn5(hT:∀t i,H8 t=some i->N8 P t i)(xs ys:List Value)(n:Nat):∀(fs:List Field)(i:Nat)(cs ds:List AV)(us vs:List Value)(q:Bool),JF fs i cs=true->WH cs ds=some q->J8 ρ cs us->J8 ρ ds vs->xs.drop i=us->ys.drop i=vs->
 (Op.eqFields (n+1) xs.toArray ys.toArray fs).run P w=.ok q w/\(q=true->vs=us)
 |[],i,cs,ds,us,vs,q,hf,hq,hx,hy,_,_=>by
  cases cs with
  |nil=>
   cases ds with
   |nil=>
    injection hq with hq
    subst hq;have e1:us=[]:=lX hx.1.symm;have e2:vs=[]:=lX hy.1.symm;exact⟨by simp[Op.eqFields],λ_=>by rw[e1,e2]⟩
   |cons d ds=>cases hq
  |cons c cs=>cases hf
 |f::fs,i,cs,ds,us,vs,q,hf,hq,hx,hy,hxs,hys=>by
  cases cs with
  |nil=>cases hf
  |cons c cs=>
   cases ds with
   |nil=>cases hq
   |cons d ds=>
    replace hf:bq (Nat.beq f.offset i) (bq (decide (f.name= "_")) false (bq (yH f.type c) (JF fs (i+1) cs) false)) false=true:=hf;simp only[V8]at hf;split at hf<;>rename_i h1
    rotate_left
    .cases hf
    split at hf<;>rename_i h2
    .cases hf
    split at hf<;>rename_i h3
    rotate_left
    .cases hf
    have h1:=F8 h1;have h2:f.name≠ "_" :=λe=>h2 (by simp[e]);rw[cx6]at hq;obtain⟨p,g1,g2⟩:=P6 hq;cases us with
    |nil=>have:=hx.1;simp at this
    |cons u us=>
     cases vs with
     |nil=>have:=hy.1;simp at this
     |cons v vs=>
      obtain⟨r1,r2⟩:=co0 (w:=w) hT h3 g1 (hx.2 0 c u rfl rfl) (hy.2 0 d v rfl rfl) n;obtain⟨⟨ti,hti,hag⟩,_⟩:=VK hT h3;have hxi:xs.toArray[f.offset]?=some u:=by
       have:=congrArg (λl=>l[0]?) hxs
       grind
      have hyi:ys.toArray[f.offset]?=some v:=by
       have:=congrArg (λl=>l[0]?) hys
       grind
      have p1:=aT6 (w:=w) (hT _ _ hti) hag hxi;have p2:=aT6 (w:=w) (hT _ _ hti) hag hyi;have tl:∀{c:AV}{cs:List AV}{u:Value}{us:List Value},J8 ρ (c::cs) (u::us)->J8 ρ cs us:=λh=>⟨by have:=h.1;simpa using this,λi c x h1 h2=>h.2 (i+1) c x (by simpa using h1) (by simpa using h2)⟩;have dr:∀{l:List Value}{u:Value}{us:List Value},l.drop i=u::us->l.drop (i+1)=us:=λ{l u us} h=>by
       rw[<-List.drop_drop,h];rfl
      cases p with
      |false=>
       injection g2 with g2
       subst g2;exact⟨by simp[Op.eqFields,h2,p1,p2,r1],λh=>by cases h⟩
      |true=>
       simp only[af9]at g2;obtain⟨q1,q2⟩:=bn5 hT xs ys n fs (i+1) cs ds us vs q hf g2 (tl hx) (tl hy) (dr hxs) (dr hys);refine⟨by simp[Op.eqFields,h2,p1,p2,r1,q1],λh=>by rw[r2 rfl,q2 h]⟩
theorem co7(hT:∀t i,H8 t=some i->N8 P t i){t:Nat}{c:AV}{x:Value}(hf:yH t c=true)(hx:RV ρ c x)(em:Bool)(n:Nat):(Instr.checkKey em (n+1) t x).run P w=.ok () w:=by
 obtain⟨_,hk⟩:=VK hT hf;rcases hk with⟨k',hd,k,m,rfl⟩|⟨hd,l,rfl⟩|⟨hd,b,rfl⟩
 .have:=dQ hx;subst this;simp[Instr.checkKey,L6 hd]
 .cases hx with|str b=>simp[Instr.checkKey,L6 hd]
 .have:x=.bool b:=by cases hx;rfl
  subst this;simp[Instr.checkKey,L6 hd]
theorem co8(hT:∀t i,H8 t=some i->N8 P t i){kt:Nat}{i:TI}(hi:H8 kt=some i){k:AV}{x:Value}(hf:wH kt i.desc k=true)(hx:RV ρ k x)(em:Bool)(n:Nat):(Instr.checkKey em (n+1+1) kt x).run P w=.ok () w:=by
 have hu:=(hT _ _ hi).u;unfold wH at hf;split at hf
 .rename_i hd;rw[hd]at hu;have:=dQ hx;subst this;simp[Instr.checkKey,L6 hu]
 .rename_i hd;rw[hd]at hu;cases hx with
  |str b=>
   simp[Instr.checkKey,L6 hu]
 .rename_i fs cs hd;rw[hd]at hu;rw[V8]at hf;split at hf
  rotate_left
  .cases hf
  rename_i hff;obtain⟨vs,rfl,hl,hc⟩:=EW hx
  have gV:J8 ρ cs vs:=⟨hl,λj c x h1 h2=>by
   obtain⟨_,y,hy,hr⟩:=hc j c h1;simp only at hy
   rw[h2]at hy;injection hy with hy;rw[hy];exact hr⟩
  have key:∀(l:List Field)(i:Nat)(cs:List AV)(us:List Value),JF l i cs=true->J8 ρ cs us->vs.drop i=us->
   (forIn l PUnit.unit λf _=>(if f.name≠ "_" then(do let a <-part f.type vs.toArray f.offset;Instr.checkKey em (n+1) f.type a;pure (.yield PUnit.unit))else pure (.yield PUnit.unit):Sem (ForInStep PUnit))).run P w=.ok () w:=by
   intro l;induction l with
   |nil=>intro i cs us _ _ _;simp
   |cons f l ih=>
    intro i cs us hf hx hxs;cases cs with
    |nil=>cases hf
    |cons c cs=>
     replace hf:bq (Nat.beq f.offset i) (bq (decide (f.name= "_")) false (bq (yH f.type c) (JF l (i+1) cs) false)) false=true:=hf;simp only[V8]at hf;split at hf<;>rename_i h1
     rotate_left
     .cases hf
     split at hf<;>rename_i h2
     .cases hf
     split at hf<;>rename_i h3
     rotate_left
     .cases hf
     have h1:=F8 h1;have h2:f.name≠ "_" :=λe=>h2 (by simp[e]);cases us with
     |nil=>have:=hx.1;simp at this
     |cons u us=>
      obtain⟨⟨ti,hti,hag⟩,_⟩:=VK hT h3;have hxi:vs.toArray[f.offset]?=some u:=by
       have:=congrArg (λl=>l[0]?) hxs
       grind
      have p1:=aT6 (w:=w) (hT _ _ hti) hag hxi;have p2:=co7 (w:=w) hT h3 (hx.2 0 c u rfl rfl) em n;have:=ih (i+1) cs us hf ⟨by have:=hx.1;simpa using this,λi c x h1 h2=>hx.2 (i+1) c x (by simpa using h1) (by simpa using h2)⟩ (by rw[<-List.drop_drop,hxs];rfl);simp only[List.forIn_cons,I7,I4 h2,p1,N9,p2,Q5];exact this
  have:=key fs.toList 0 cs vs hff gV rfl;unfold Instr.checkKey;simp only[I7,L6 hu,N9];rw[<-Array.forIn_toList];rw[this];rfl
 .cases hf
theorem aA6(hT:∀t i,H8 t=some i->N8 P t i){kt:Nat}{i:TI}(hi:H8 kt=some i){k:AV}{x:Value}(hf:wH kt i.desc k=true)(hx:RV ρ k x)(em:Bool):(Instr.checkKey em 10000 kt x).run P w=.ok () w:=
 co8 hT hi hf hx em 9998
noncomputable def WJ (k:AV) (l:List (AV×AV)):Nat->Option (Option (Nat×AV)):=
 List.rec (motive:=λ_=>Nat->Option (Option (Nat×AV))) (λ_=>some none) (λx _ ih i=>oB (XQ k x.1) λq=>bq q (some (some (i,x.2))) (ih (Nat.succ i))) l
theorem bn9(k:AV)(x:AV×AV)(l:List (AV×AV))(n:Nat):WJ k (x::l) n=oB (XQ k x.1) λq=>bq q (some (some (n,x.2))) (WJ k l (n+1)):=rfl
def Found(x:Value)(es:List (AV×AV))(l:List MapEntry)(n:Nat)(r:Option (Nat×AV))(r':Option (Nat×Value)):Prop:=
 match r with
 |none=>r'=none
 |some (j,v)=>∃kk m,n<=j/\es[j-n]?=some (kk,v)/\l[j-n]?=some m/\r'=some (j,m.val)/\m.key=x
def vW(ρ:Ren)(es:List (AV×AV))(l:List MapEntry):Prop:=es.length=l.length/\∀(i:Nat)(k v:AV)(m:MapEntry),es[i]?=some (k,v)->l[i]?=some m->RV ρ k m.key/\RV ρ v m.val
theorem vW.tail{k v:AV}{es:List (AV×AV)}{m:MapEntry}{l:List MapEntry}(h:vW ρ ((k,v)::es) (m::l)):RV ρ k m.key/\RV ρ v m.val/\vW ρ es l:=
 ⟨(h.2 0 k v m rfl rfl).1,(h.2 0 k v m rfl rfl).2,by have:=h.1;simpa using this,λi k v m h1 h2=>h.2 (i+1) k v m (by simpa using h1) (by simpa using h2)⟩
theorem Found.succ{x:Value}{es:List (AV×AV)}{l:List MapEntry}{n:Nat}{r:Option (Nat×AV)}{r':Option (Nat×Value)}(p:AV×AV)(m:MapEntry)(h:Found x es l (n+1) r r'):Found x (p::es) (m::l) n r r':=by
 cases r with
 |none=>exact h
 |some w=>
  obtain⟨kk,m',h1,h2,h3,h4,h5⟩:=h;have e:w.1-n=(w.1-(n+1))+1:=by omega
  exact⟨kk,m',by omega,by rw[e];simpa using h2,by rw[e];simpa using h3,h4,h5⟩
theorem aE1{d:TypeDesc}{k:AV}{x:Value}(hx:RV ρ k x)
 (hd:∀(a:AV)(y:Value)(q:Bool),RV ρ a y->XQ k a=some q->Instr.sameNow d x y=some q/\(q=true->y=x)):
 ∀(es:List (AV×AV))(l:List MapEntry)(n:Nat)(r:Option (Nat×AV)),vW ρ es l->WJ k es n=some r->∃r',Instr.findNow d x l n=some r'/\Found x es l n r r'
 |[],l,n,r,hm,h=>by
  have:l=[]:=lX hm.1.symm;subst this;injection h with h
  subst h;exact⟨none,rfl,rfl⟩
 |(kk,v)::es,[],n,r,hm,h=>by have:=hm.1;simp at this
 |(kk,v)::es,m::l,n,r,hm,h=>by
  obtain⟨h1,h2,h3⟩:=hm.tail;rw[bn9]at h;obtain⟨q,g1,g2⟩:=P6 h;obtain⟨g3,g4⟩:=hd kk m.key q h1 g1;cases q with
  |true=>
   injection g2 with g2
   subst g2;exact⟨some (n,m.val),by simp[Instr.findNow,g3],kk,m,J6 _,by simp,by simp,rfl,g4 rfl⟩
  |false=>
   obtain⟨r',q1,q2⟩:=aE1 hx hd es l (n+1) r h3 g2;exact⟨r',by simp[Instr.findNow,g3,q1],q2.succ _ _⟩
theorem bo0{kt:Nat}{k:AV}{x:Value}(hx:RV ρ k x)
 (hd:∀(a:AV)(y:Value)(q:Bool),RV ρ a y->XQ k a=some q->(Op.equal kt x y).run P w=.ok q w/\(q=true->y=x)):
 ∀(es:List (AV×AV))(l:List MapEntry)(n:Nat)(r:Option (Nat×AV)),vW ρ es l->WJ k es n=some r->∃r',(Instr.findAsking kt x l n).run P w=.ok r' w/\Found x es l n r r'
 |[],l,n,r,hm,h=>by
  have:l=[]:=lX hm.1.symm;subst this;injection h with h
  subst h;exact⟨none,rfl,rfl⟩
 |(kk,v)::es,[],n,r,hm,h=>by have:=hm.1;simp at this
 |(kk,v)::es,m::l,n,r,hm,h=>by
  obtain⟨h1,h2,h3⟩:=hm.tail;rw[bn9]at h;obtain⟨q,g1,g2⟩:=P6 h;obtain⟨g3,g4⟩:=hd kk m.key q h1 g1;cases q with
  |true=>
   injection g2 with g2
   subst g2;exact⟨some (n,m.val),by simp[Instr.findAsking,g3],kk,m,J6 _,by simp,by simp,rfl,g4 rfl⟩
  |false=>
   obtain⟨r',q1,q2⟩:=bo0 hx hd es l (n+1) r h3 g2;exact⟨r',by simp[Instr.findAsking,g3,q1],q2.succ _ _⟩
theorem aE2(hT:∀t i,H8 t=some i->N8 P t i)(hS:∀t,TD t=true->P.stoodInHeld t=false){kt:Nat}{i:TI}(hi:H8 kt=some i){k:AV}{x:Value}(hf:wH kt i.desc k=true)(hx:RV ρ k x)
 {es:List (AV×AV)} {l:List MapEntry} {r:Option (Nat×AV)} (hm:vW ρ es l) (h:WI k es=some r):∃r',(Instr.findKey kt x l).run P w=.ok r' w/\Found x es l 0 r r':=by
 have hu:=(hT _ _ hi).u;replace h:WJ k es 0=some r:=h;unfold wH at hf;split at hf
 .rename_i k' kk n hd;rw[hd]at hu;have:=dQ hx;subst this
  obtain⟨r',h1,h2⟩:=aE1 (d:=.int k') hx (λa y q hy hq=>by
   cases a with
   |n j b=>
    replace hq:bq (Nat.beq (dP kk) (dP j)) (some (Nat.beq n b)) none=some q:=hq;rw[V8]at hq;split at hq
    .rename_i hkj;injection hq with hq
     have:=sJ hkj;subst this;have:=dQ hy;subst this;rw[rV]at hq;refine⟨?_,λh=>by rw[<-hq]at h;rw[gB h]⟩;rw[<-hq,<-bk6];simp only[Instr.sameNow,if_true]
    .cases hq
   |_=>cases hq) es l 0 r hm h
  exact⟨r',by simp only[Instr.findKey,I7,L6 hu,N9,h1];rfl,h2⟩
 .rename_i ll hd;rw[hd]at hu;cases hx with
  |str b1=>
   obtain⟨r',h1,h2⟩:=aE1 (d:=.string) (.str b1) (λa y q hy hq=>by
    cases a with
    |str l2=>
     replace hq:some (yN (b1.data.toList.map UInt8.toNat) l2)=some q:=hq;injection hq with hq
     cases hy with
     |str b2=>
      rw[ai6]at hq;refine⟨?_,λh=>by rw[<-hq]at h;rw[str_inj h]⟩;rw[<-hq];simp only[Instr.sameNow,Z9];exact VF _ _
    |_=>cases hq) es l 0 r hm h
   exact⟨r',by simp only[Instr.findKey,I7,L6 hu,N9,h1];rfl,h2⟩
 .rename_i fs cs hd;rw[hd]at hu;rw[V8]at hf;split at hf
  rotate_left
  .cases hf
  rename_i hff;obtain⟨vs,rfl,hl,hc⟩:=EW hx
  have toR:∀{cs:List AV}{vs:List Value},cs.length=vs.length->Cells ρ cs (λi=>vs[i]?)->J8 ρ cs vs:=λhl hc=>⟨hl,λj c x h1 h2=>by
   obtain⟨_,y,hy,hr⟩:=hc j c h1;simp only at hy
   rw[h2]at hy;injection hy with hy;rw[hy];exact hr⟩
  have hfo:P.fieldsOf kt=fs:=by simp[Program.fieldsOf,hu]
  obtain⟨r',h1,h2⟩:=bo0 (w:=w) (kt:=kt) hx (λa y q hy hq=>by
   cases a with
   |g ds=>
    replace hq:WH cs ds=some q:=hq;obtain⟨us,rfl,hl2,hc2⟩:=EW hy;obtain⟨g1,g2⟩:=bn5 (P:=P) (w:=w) hT vs us 9998 fs.toList 0 cs ds vs us q hff hq (toR hl hc) (toR hl2 hc2) rfl rfl;refine⟨?_,λh=>by rw[g2 h]⟩;show(Op.equalIn (9999+1) kt _ _).run P w=_;rw[run_equalIn_struct w 9999 kt _ _ (by rw[hfo];exact hu) (hS _ hf),hfo];exact g1
   |_=>cases hq) es l 0 r hm h
  cases l with
  |nil=>
   refine⟨none,by simp[Instr.findKey,L6 hu,Instr.findNow],?_⟩;have:es=[]:=lX hm.1;subst this;injection h with h
   subst h;rfl
  |cons m l=>
   refine⟨r',?_,h2⟩;have:Instr.findNow (.struct fs) (.agg vs.toArray) (m::l) 0=none:=by simp[Instr.findNow,Instr.sameNow]
   simp only[Instr.findKey,I7,L6 hu,N9,this];exact h1
 .cases hf
end
section
variable{P:Program}{S:Nat->Prop}{w0:World}{ρ:Ren}{e:Env}{s:St}{a:Act}{w:World}
theorem aL0{t:Nat}{k:AV}(h:XR t k=true):∃i kt et j,H8 t=some i/\i.desc=.map kt et/\H8 kt=some j/\wH kt j.desc k=true:=by
 unfold XR at h
 grind
theorem Rl.EH(hR:Rl S w0 ρ s w){b:Nat}{es:List (AV×AV)}(h:s.h.get (pa b)=some (.m es)):∃L arr,ρ b=some L/\w.heap[L.blk]?=some (.map arr arr.size)/\vW ρ es arr.toList/\∀(i:Nat)(m:MapEntry),arr[i]?=some m->m.born=i:=by
 obtain⟨L,arr,h1,h2,h3,h4⟩:=hR.obj _ _ h;refine⟨L,arr,h1,h2,⟨by simpa using h3,λi k v m g1 g2=>?_⟩,λi m g=>?_⟩
 .grind
 .have hlt:=(V4.1 g).1;exact(h4 i _ _ m (I9 (by omega)) g).2.2
theorem SS{b:Nat}{x:Value}(h:RV ρ (.m b) x):∃L,ρ b=some L/\x=.map (some L.blk):=by cases h with|m _ L h=>exact⟨L,h,rfl⟩
theorem cd1(hT:∀t i,H8 t=some i->N8 P t i){t:Nat}{z:List AV}{v:AV}(hz:ND H8 t=some z)(hp:partT t z 0=some v)(w:World):∃x,(zeroValue t).run P w=.ok x w/\RV ρ v x:=by
 obtain⟨i,h1,h2⟩:=P6 hz;have hi:=hT _ _ h1;obtain⟨hz1,hz2⟩:=ax1 (ρ:=ρ) hi h2;obtain⟨j,hj,_,_,hjz⟩:=hi.eX;refine⟨O7 i,by simp[zeroValue,typeInfo,hj,hjz],?_⟩;obtain⟨i',h3,h4⟩:=aQ9 hp;rw[h1]at h3;injection h3 with h3
 subst h3;rcases h4 with⟨hg,hv⟩|⟨hg,l,rfl,hl,hc⟩
 .obtain⟨_,x,hx,hr⟩:=hz2 0 v hv;have:(O7 i).cells=#[O7 i]:=by
   have hs:=hi.single hg;have hl:=hi.len;rw[hs]at hl;have ho:=hi.one;unfold O7;rw[hg]
   match hz:i.zero,hl with
   |[z],_=>
    rw[hz]at ho;simp at ho;simp only[G6,List.headD];cases z<;>first|rfl|simp[Value.oneCell']at ho
  grind
 .have e:O7 i=.agg (O7 i).cells:=by unfold O7;rw[hg];rfl
  rw[e];have hl':l=z:=by
   apply mY
   grind
  subst hl';obtain⟨vs,q1,q2,q3⟩:=hz2.agg;have:(O7 i).cells=vs.toArray:=by
   apply Array.ext';apply mY;intro k;have hsz:(O7 i).cells.size=l.length:=by rw[kK hi,hz1];simp[hi.len]
   grind
  grind
theorem cQ7{t kt vt:Nat}{x kx y:Value}{arr:Array MapEntry}{r':Option (Nat×Value)}{q ok:Bool}(hu:P.underlying t=some (.map kt vt))(hx:(x=.map none/\arr=#[])\/∃b,x=.map (some b)/\w.heap[b]?=some (.map arr arr.size))
 (hck:∀em,(Instr.checkKey em 10000 kt kx).run P w=.ok () w) (hf:(Instr.findKey kt kx arr.toList).run P w=.ok r' w) (hy:(∃i,r'=some (i,y)/\q=true)\/(r'=none/\(zeroValue vt).run P w=.ok y w/\q=false)):
 (Instr.lookup t x kx ok).run P w=.ok (if ok then .tuple #[y,.bool q]else y) w:=by
 rcases hx with⟨rfl,rfl⟩|⟨b,rfl,hb⟩
 .rcases hy with⟨i,rfl,rfl⟩|⟨rfl,hz,rfl⟩
  .simp only[Instr.lookup,I7,L6 hu,N9,Q5,hck,hf]
  .simp only[Instr.lookup,I7,L6 hu,N9,Q5,hck,hf,hz]
 .rcases hy with⟨i,rfl,rfl⟩|⟨rfl,hz,rfl⟩
  .simp only[Instr.lookup,I7,L6 hu,N9,Q5,oC hb,hck,hf]
  .simp only[Instr.lookup,I7,L6 hu,N9,Q5,oC hb,hck,hf,hz]
theorem de3(hT:∀t i,H8 t=some i->N8 P t i)(hS:∀t,TD t=true->P.stoodInHeld t=false)(o:Oper)(t:Nat)(m k:Operand)(ok:Bool)(ho:o.op=.lookup t m k ok):aU P o (RH t m k ok):=by
 intro S w0 ρ e s a w next Q h he hR hn
 obtain⟨mv,h1,h2⟩:=I8 h;replace h2:RH t m k ok e s=_:=h2;rw[h2]at h hn;clear h2;obtain⟨kv,h3,h4⟩:=I8 h;rw[h4]at h hn;clear h4;have h5:=X6 h;rw[h5,X7]at h hn;obtain⟨vt,h6,h7⟩:=I8 h;rw[h7]at h hn;clear h7;obtain⟨es,h8,h9⟩:=I8 h;rw[h9]at h hn;clear h9;obtain⟨r,h10,h11⟩:=I8 h;rw[h11]at h hn;clear h11;obtain⟨i,kt,et,j,g1,g2,g3,g4⟩:=aL0 h5;have hu:=(hT _ _ g1).u;rw[g2]at hu;have hvt:vt=et:=by
  obtain⟨i',q1,q2⟩:=P6 h6
  grind
 subst hvt;have hm:=aI h1 he;have hk:=aI h3 he;have hes:∃arr:Array MapEntry,vW ρ es arr.toList/\((a.eval m=.map none/\arr=#[])\/∃b,a.eval m=.map (some b)/\w.heap[b]?=some (.map arr arr.size)):=by
  unfold mapOf at h8;split at h8
  .rename_i b;split at h8
   .rename_i es' hb;injection h8 with h8
    subst h8;obtain⟨L,arr,q1,q2,q3,_⟩:=hR.EH hb;obtain⟨L',q4,q5⟩:=SS hm
    grind
   .cases h8
  .injection h8 with h8
   subst h8;have:a.eval m=.map none:=by generalize a.eval m=z at hm;cases hm;rfl
   exact⟨#[],⟨rfl,λi k v m h=>by simp at h⟩,.inl ⟨this,rfl⟩⟩
  .cases h8
 obtain⟨arr,hmr,hrun⟩:=hes;obtain⟨r',q1,q2⟩:=aE2 (w:=w) hT hS g3 g4 hk hmr h10;have hck:=λem=>aA6 (w:=w) hT g3 g4 hk em;have fin:∀(v:AV)(x:Value)(q:Bool),RV ρ v x->((∃i,r'=some (i,x)/\q=true)\/(r'=none/\(zeroValue vt).run P w=.ok x w/\q=false))->
  (∀v' s' ρ' x w',Has (.one (bq ok (.t [v,.q q]) v) s) v' s'->Ext ρ ρ'->Rl S w0 ρ' s' w'->s'.ro=s.ro->s.nx<=s'.nx->RV ρ' v' x->next (a.put o.dst x) w')->Oper.bT P o a w next Q:=by
  intro v x q hv hx hn;have hp:J8 ρ [v,.q q] [x,.bool q]:=J8.cons hv (J8.cons (.q q) (J8.nil _));have hres:RV ρ (bq ok (.t [v,.q q]) v) (if ok then .tuple #[x,.bool q]else x):=by
   cases ok with
   |true=>exact .t _ _ hp.1 hp.2
   |false=>exact hv
  refine dA rfl hR hres ?_ hn;have hl:=cQ7 (ok:=ok) hu hrun hck q1 hx;simp only[execOp,ho,I7,hl];rfl
 cases r with
 |some w1=>
  obtain⟨kk,me,p1,p2,p3,p4,p5⟩:=q2;simp only at hn;subst p4;have:=(hmr.2 _ kk w1.2 me p2 p3).2;exact fin w1.2 me.val true this (.inl ⟨_,rfl,rfl⟩) hn
 |none=>
  simp only at h hn;have q2:r'=none:=q2;subst q2;obtain⟨z,p1,p2⟩:=I8 h;rw[p2]at h hn;obtain⟨v,p3,p4⟩:=I8 h;rw[p4]at hn;obtain⟨x,p5,p6⟩:=cd1 (ρ:=ρ) hT p1 p3 w;exact fin v x false p6 (.inr ⟨rfl,p5,rfl⟩) hn
abbrev BD(w:World)(b:Nat)(o:Obj):World:={ w with heap:=w.heap.setIfInBounds b o }
theorem Rl.putObj(hR:Rl S w0 ρ s w){b:Nat}{o o':AO}{L:Loc}{O O':Obj}(hb:s.h.get (pa b)=some o)(hL:ρ b=some L)(hO:w.heap[L.blk]?=some O)(hd:O≠jZ)(hr:s.ro<=b)(ho:U6 ρ (BD w L.blk O') b o')(hbl:∀cs,o'≠.c kQ cs):
 Rl S w0 ρ ⟨s.h.set (pa b) (some o'),s.nx,s.ro⟩ (BD w L.blk O'):=by
 refine hR.write hb hL hr ⟨rfl,rfl,rfl,by simp[BD],λk hk=>?_,λk hk=>?_⟩ ho (λcs e=>absurd e (hbl cs))
 .grind
 .grind
theorem FT{b:Nat}{O O':Obj}(h:w.heap[b]?=some O):(BD w b O').heap[b]?=some O':=by grind
theorem co2{t:Nat}{c:AV}{x:Value}(hT:∀t i,H8 t=some i->N8 P t i)(hf:yH t c=true)(hx:RV ρ c x)(n:Nat):Instr.sameBits n x x=true:=by
 obtain⟨_,hk⟩:=VK hT hf;rcases hk with⟨k',hd,k,m,rfl⟩|⟨hd,l,rfl⟩|⟨hd,b,rfl⟩
 .have:=dQ hx;subst this;cases n<;>simp[Instr.sameBits]
 .cases hx with|str b=>
   have:(b==b)=true:=by
    obtain⟨⟨l⟩⟩:=b;rw[VF];simp
   cases n<;>simp[Instr.sameBits,this]
 .have:x=.bool b:=by cases hx;rfl
  subst this;cases n<;>simp[Instr.sameBits]
theorem cM9(hT:∀t i,H8 t=some i->N8 P t i){kt:Nat}{d:TypeDesc}{k:AV}{x:Value}(hf:wH kt d k=true)(hx:RV ρ k x)(n:Nat):Instr.sameBits (n+1) x x=true:=by
 unfold wH at hf;split at hf
 .have:=dQ hx;subst this;simp[Instr.sameBits]
 .cases hx with|str b=>
   have:(b==b)=true:=by
    obtain⟨⟨l⟩⟩:=b;rw[VF];simp
   simp[Instr.sameBits,this]
 .rename_i fs cs;rw[V8]at hf;split at hf
  rotate_left
  .cases hf
  rename_i hff;obtain⟨vs,rfl,hl,hc⟩:=EW hx;have:∀(fs:List Field)(i:Nat)(cs:List AV)(us:List Value),JF fs i cs=true->cs.length=us.length->Cells ρ cs (λi=>us[i]?)->((us.zip us).all λ(x,y)=>Instr.sameBits n x y)=true:=by
   intro fs;induction fs with
   |nil=>
    intro i cs us hf hl _;cases cs with
    |nil=>have:us=[]:=lX (by simpa using hl.symm);subst this;rfl
    |cons c cs=>cases hf
   |cons f fs ih=>
    intro i cs us hf hl hc;cases cs with
    |nil=>cases hf
    |cons c cs=>
     cases us with
     |nil=>simp at hl
     |cons u us=>
      replace hf:bq (Nat.beq f.offset i) (bq (decide (f.name= "_")) false (bq (yH f.type c) (JF fs (i+1) cs) false)) false=true:=hf;simp only[V8]at hf;split at hf
      rotate_left
      .cases hf
      split at hf
      .cases hf
      split at hf<;>rename_i h3
      rotate_left
      .cases hf
      obtain⟨_,y,hy,hr⟩:=hc 0 c rfl;simp at hy;subst hy;simp only[List.zip_cons_cons,List.all_cons,co2 hT h3 hr,rH];exact ih (i+1) cs us hf (by simpa using hl) λj c hj=>by have:=hc (j+1) c (by simpa using hj);simpa using this
  simp only[Instr.sameBits,IC,rH,List.toList_toArray]
  grind
 .cases hf
theorem bw5(hT:∀t i,H8 t=some i->N8 P t i){kt:Nat}{d:TypeDesc}{k:AV}{x:Value}(hf:wH kt d k=true)(hx:RV ρ k x):(Instr.keyThatStays x x).run P w=.ok x w:=by
 simp[Instr.keyThatStays,cM9 hT hf hx 9999]
theorem df7(l:List (AV×AV))(n:Nat)(x:AV×AV):iR l n x=l.set n x:=by
 induction l generalizing n with
 |nil=>rfl
 |cons y r ih=>cases n with|zero=>rfl|succ n=>exact congrArg (y::·) (ih n)
theorem U6.aU3{b:Nat}{L:Loc}{arr:Array MapEntry}{es:List (AV×AV)}{j:Nat}{k v:AV}{x y:Value}{w':World}(hL:ρ b=some L)(hm:vW ρ es arr.toList)(hbn:∀(i:Nat)(m:MapEntry),arr[i]?=some m->m.born=i)(hk:RV ρ k x)(hv:RV ρ v y)
 (hw:w'.heap[L.blk]?=some (.map (arr.modify j λe=>{ e with key:=x,val:=y }) arr.size)):U6 ρ w' b (.m (iR es j (k,v))):=by
 rw[df7];have hl:es.length=arr.size:=by simpa using hm.1
 refine⟨L,arr.modify j λe=>{ e with key:=x,val:=y },hL,by rw[hw,Array.size_modify],by simp[hl],λi k' v' m h1 h2=>?_⟩;rw[xH]at h2;by_cases hij:j=i
 .subst hij;rw[I4 rfl]at h2;cases hm':arr[j]? with
  |none=>grind
  |some m0=>grind
 .rw[F9 hij]at h2;rw[List.getElem?_set_ne hij]at h1;obtain⟨q1,q2⟩:=hm.2 i k' v' m h1 (by simpa using h2)
  grind
theorem U6.bJ3{b:Nat}{L:Loc}{arr:Array MapEntry}{es:List (AV×AV)}{k v:AV}{x y:Value}{w':World}(hL:ρ b=some L)(hm:vW ρ es arr.toList)(hbn:∀(i:Nat)(m:MapEntry),arr[i]?=some m->m.born=i)(hk:RV ρ k x)(hv:RV ρ v y)
 (hw:w'.heap[L.blk]?=some (.map (arr.push { key:=x,val:=y,born:=arr.size }) (arr.size+1))):U6 ρ w' b (.m (dW es [(k,v)])):=by
 rw[oI];have hl:es.length=arr.size:=by simpa using hm.1
 refine⟨L,arr.push { key:=x,val:=y,born:=arr.size },hL,by rw[hw,Array.size_push],by simp[hl],λi k' v' m h1 h2=>?_⟩;rw[Array.getElem?_push]at h2;by_cases hij:i=arr.size
 .grind
 .rw[F9 hij]at h2;have hlt:=(V4.1 h2).1;rw[bV (by omega)]at h1;obtain⟨q1,q2⟩:=hm.2 i k' v' m h1 (by simpa using h2)
  grind
theorem aQ1{m:AV}{k:Nat->List (AV×AV)->RO}(h:KU s m k≠.no):∃b es,m=.m b/\s.h.get (pa b)=some (.m es)/\KU s m k=k b es:=by
 unfold KU at h;split at h
 .rename_i b;split at h
  .rename_i es hb;refine⟨b,es,rfl,hb,?_⟩;simp only[KU,hb]
  .grind
 .grind
theorem a02:RV ρ un undef:=.t [] [] rfl λi c x h=>by simp at h
theorem YE(a:Array MapEntry)(c:Nat):Obj.map a c≠jZ:=λh=>nomatch h
def b82(arr:Array MapEntry)(kx y:Value):Option (Nat×Value)->Obj
 |some (j,_)=>.map (arr.modify j λe=>{ e with key:=kx,val:=y }) arr.size
 |none=>.map (arr.push { key:=kx,val:=y,born:=arr.size }) (arr.size+1)
theorem cR4{t kt vt b:Nat}{kx y:Value}{arr:Array MapEntry}{r':Option (Nat×Value)}(hu:P.underlying t=some (.map kt vt))(hb:w.heap[b]?=some (.map arr arr.size))
 (hck:∀em,(Instr.checkKey em 10000 kt kx).run P w=.ok () w) (hf:(Instr.findKey kt kx arr.toList).run P w=.ok r' w) (hkeep:∀j v,r'=some (j,v)->∃m,arr[j]?=some m/\m.key=kx) (hks:(Instr.keyThatStays kx kx).run P w=.ok kx w):
 (Instr.mapUpdate t (.map (some b)) kx y).run P w=.ok () (BD w b (b82 arr kx y r')):=by
 cases r' with
 |none=>simp only[Instr.mapUpdate,I7,L6 hu,N9,oC hb,hck,hf,GU _ hb];rfl
 |some jv=>
  obtain⟨j,v⟩:=jv;obtain⟨m,h1,h2⟩:=hkeep j v rfl;have e:((arr[j]?).map (·.key)).getD kx=kx:=by grind
  simp only[Instr.mapUpdate,I7,L6 hu,N9,oC hb,hck,hf,e,hks,GU _ hb];rfl
theorem bO9(hT:∀t i,H8 t=some i->N8 P t i)(hS:∀t,TD t=true->P.stoodInHeld t=false)(o:Oper)(t:Nat)(m k v:Operand)(ho:o.op=.mapUpdate t m k v\/o.op=.insert t m k v):aU P o (wS t m k v):=by
 intro S w0 ρ e s a w next Q h he hR hn
 obtain⟨mv,h1,h2⟩:=I8 h;replace h2:wS t m k v e s=_:=h2;rw[h2]at h hn;clear h2;obtain⟨kv,h3,h4⟩:=I8 h;rw[h4]at h hn;clear h4;obtain⟨vv,h5,h6⟩:=I8 h;rw[h6]at h hn;clear h6;have h7:=X6 h;rw[h7,X7]at h hn;obtain⟨b,es,rfl,hb,h8⟩:=aQ1 h;rw[h8]at h hn;clear h8;obtain⟨r,h9,h10⟩:=I8 h;rw[h10,uI]at h hn;clear h10;obtain⟨hro,h11⟩:=qZ h;rw[h11]at hn;obtain⟨i,kt,et,j,g1,g2,g3,g4⟩:=aL0 h7;have hu:=(hT _ _ g1).u;rw[g2]at hu;have hk:=aI h3 he;have hv:=aI h5 he;obtain⟨L,arr,q1,q2,q3,q4⟩:=hR.EH hb;obtain⟨L',q5,q6⟩:=SS (aI h1 he);rw[q1]at q5;injection q5 with q5
 subst q5;obtain⟨r',p1,p2⟩:=aE2 (w:=w) hT hS g3 g4 hk q3 h9;have hck:=λem=>aA6 (w:=w) hT g3 g4 hk em
 have hrun:=cR4 (y:=a.eval v) hu q2 hck p1 (λj0 v0 e0=>by
  cases r with
  |none=>have p2:r'=none:=p2;rw[p2]at e0;cases e0
  |some w1=>
   obtain⟨kk,me,_,_,g5,g6,g7⟩:=p2;rw[g6]at e0;injection e0 with e0
   injection e0 with e0 _
   subst e0
   exact⟨me,by simpa using g5,g7⟩) (bw5 hT g4 hk)
 have hex:(execOp a.eval o).run P w=.ok .skip (BD w L.blk (b82 arr (a.eval k) (a.eval v) r')):=by
  rcases ho with ho|ho<;>simp only[execOp,ho,q6,I7,hrun,N9]<;>rfl
 refine MZ hex (hn un _ ρ undef _ (.inl rfl) (Ext.refl _) ?_ rfl (J6 _) a02);cases r with
 |none=>
  have p2:r'=none:=p2;subst p2;exact hR.putObj hb q1 q2 (YE _ _) hro (U6.bJ3 q1 q3 q4 hk hv (FT q2)) (λcs e=>by cases e)
 |some w1=>
  obtain⟨kk,me,g0,_,g5,g6,g7⟩:=p2;subst g6;exact hR.putObj hb q1 q2 (YE _ _) hro (U6.aU3 q1 q3 q4 hk hv (FT q2)) (λcs e=>by cases e)
theorem bz8{t kt vt b:Nat}{kx z:Value}{arr:Array MapEntry}{r':Option (Nat×Value)}(hu:P.underlying t=some (.map kt vt))(hb:w.heap[b]?=some (.map arr arr.size))(hz:r'=none->(zeroValue vt).run P w=.ok z w)
 (hck:∀em,(Instr.checkKey em 10000 kt kx).run P w=.ok () w) (hf:(Instr.findKey kt kx arr.toList).run P w=.ok r' w) (hkeep:∀j v,r'=some (j,v)->∃m,arr[j]?=some m/\m.key=kx/\m.val=v/\m.born=j) (hks:(Instr.keyThatStays kx kx).run P w=.ok kx w):
 (Instr.mapEntry t (.map (some b)) kx).run P w=.ok (match r' with|some (j,v)=>.tuple #[v,.int .i64 j]|none=>.tuple #[z,.int .i64 arr.size]) (BD w b (match r' with|some (j,v)=>.map (arr.modify j λe=>{ e with key:=kx,val:=v }) arr.size|none=>.map (arr.push { key:=kx,val:=z,born:=arr.size }) (arr.size+1))):=by
 cases r' with
 |none=>simp only[Instr.mapEntry,I7,L6 hu,N9,oC hb,hck,hf,hz rfl,GU _ hb];rfl
 |some jv=>
  obtain⟨j,v⟩:=jv;obtain⟨m,h1,h2,h3,h4⟩:=hkeep j v rfl;have e:((arr[j]?).map (·.key)).getD kx=kx:=by grind
  have e2:goInt ((Option.map (λx=>(x.born:Int)) arr[j]?).getD 0)=.int .i64 (j:Int):=by rw[h1];simp[goInt,h4]
  have e3:(arr.modify j λe=>{ e with key:=kx })=arr.modify j λe=>{ e with key:=kx,val:=v }:=by grind
  simp only[Instr.mapEntry,I7,L6 hu,N9,oC hb,hck,hf,e,e3,hks,GU _ hb,Q5]
  first|rw[e2]|simp only[e2]|skip
theorem bO5{x:AV}{y:Value}(h:RV ρ x y)(n:Nat):RV ρ (.t [x,.n .i64 n]) (.tuple #[y,.int .i64 n]):=by
 have hp:J8 ρ [x,.n .i64 n] [y,.int .i64 (.ofNat n)]:=J8.cons h (J8.cons (.n _ _) (J8.nil _));exact .t _ _ hp.1 hp.2
theorem de6(hT:∀t i,H8 t=some i->N8 P t i)(hS:∀t,TD t=true->P.stoodInHeld t=false)(o:Oper)(t:Nat)(m k:Operand)(ho:o.op=.mapEntry t m k):aU P o (RJ t m k):=by
 intro S w0 ρ e s a w next Q h he hR hn
 obtain⟨mv,h1,h2⟩:=I8 h;replace h2:RJ t m k e s=_:=h2;rw[h2]at h hn;clear h2;obtain⟨kv,h3,h4⟩:=I8 h;rw[h4]at h hn;clear h4;have h7:=X6 h;rw[h7,X7]at h hn;obtain⟨vt,h5,h6⟩:=I8 h;rw[h6]at h hn;clear h6;obtain⟨b,es,rfl,hb,h8⟩:=aQ1 h;rw[h8]at h hn;clear h8;obtain⟨r,h9,h10⟩:=I8 h;rw[h10]at h hn;clear h10;obtain⟨i,kt,et,j,g1,g2,g3,g4⟩:=aL0 h7;have hu:=(hT _ _ g1).u;rw[g2]at hu;have hvt:vt=et:=by
  obtain⟨i',q1,q2⟩:=P6 h5
  grind
 subst hvt;have hk:=aI h3 he;obtain⟨L,arr,q1,q2,q3,q4⟩:=hR.EH hb;obtain⟨L',q5,q6⟩:=SS (aI h1 he);rw[q1]at q5;injection q5 with q5
 subst q5;obtain⟨r',p1,p2⟩:=aE2 (w:=w) hT hS g3 g4 hk q3 h9;have hck:=λem=>aA6 (w:=w) hT g3 g4 hk em;have hks:=bw5 (P:=P) (w:=w) hT g4 hk;cases r with
 |none=>
  simp only at h hn;have p2:r'=none:=p2;subst p2;obtain⟨z,f1,f2⟩:=I8 h;rw[f2]at h hn;clear f2;obtain⟨v,f3,f4⟩:=I8 h;rw[f4,uI]at h hn;clear f4;obtain⟨hro,f5⟩:=qZ h;rw[f5,iL,jC]at hn;obtain⟨x,f6,f7⟩:=cd1 (ρ:=ρ) hT f1 f3 w;have hrun:=bz8 hu q2 (λ_=>f6) hck p1 (λj v e=>by cases e) hks;have hl:es.length=arr.size:=by simpa using q3.1
  rw[hl]at hn;refine aO ?_ (hn _ _ ρ _ _ (.inl rfl) (Ext.refl _) (hR.putObj hb q1 q2 (YE _ _) hro (U6.bJ3 q1 q3 q4 hk f7 (FT q2)) (λcs e=>by cases e)) rfl (J6 _) (bO5 f7 _));simp only[execOp,ho,q6,I7,hrun,N9];rfl
 |some w1=>
  simp only[uI]at h hn;obtain⟨hro,f5⟩:=qZ h;rw[f5,iL]at hn;obtain⟨kk,me,_,g0,g5,g6,g7⟩:=p2;subst g6;simp only[Nat.sub_zero]at g0 g5;have hv:=(q3.2 _ kk w1.2 me g0 g5).2;have g5':arr[w1.1]?=some me:=by grind
  have hrun:=bz8 (z:=undef) hu q2 (λh=>by cases h) hck p1 (λj v e=>by
   injection e with e
   injection e with e1 e2
   subst e1;subst e2
   exact⟨me,g5',g7,rfl,q4 _ _ g5'⟩) hks
  refine aO ?_ (hn _ _ ρ _ _ (.inl rfl) (Ext.refl _) (hR.putObj hb q1 q2 (YE _ _) hro (U6.aU3 q1 q3 q4 hk hv (FT q2)) (λcs e=>by cases e)) rfl (J6 _) (bO5 hv _));simp only[execOp,ho,q6,I7,hrun,N9];rfl
theorem find_born{arr:Array MapEntry}(hb:∀(i:Nat)(m:MapEntry),arr[i]?=some m->m.born=i){j:Nat}(hj:j<arr.size):arr.findIdx? (λe=>(e.born:Int)==(j:Int))=some j:=by
 rw[Array.findIdx?_eq_some_iff_getElem];refine⟨hj,?_,λi hi=>?_⟩
 .have:=hb j _ (mW hj);simp[this]
 .have:=hb i _ (mW (by omega));simp[this];omega
theorem dd6(o:Oper)(t:Nat)(m st v:Operand)(ho:o.op=.entryStore t m st v):aU P o (QW t m st v):=by
 intro S w0 ρ e s a w next Q h he hR hn
 obtain⟨mv,h1,h2⟩:=I8 h;replace h2:QW t m st v e s=_:=h2;rw[h2]at h hn;clear h2;obtain⟨sv,h3,h4⟩:=I8 h;rw[h4]at h hn;clear h4;obtain⟨vv,h5,h6⟩:=I8 h;rw[h6]at h hn;clear h6;obtain⟨b,es,rfl,hb,h8⟩:=aQ1 h;rw[h8]at h hn;clear h8;obtain⟨kk,j,rfl⟩:=a99 h;simp only[aw1]at h hn;obtain⟨x,h9,h10⟩:=I8 h;rw[h10,uI]at h hn;clear h10;obtain⟨hro,f5⟩:=qZ h;rw[f5]at hn;rw[yR]at h9;have hv:=aI h5 he;obtain⟨L,arr,q1,q2,q3,q4⟩:=hR.EH hb;obtain⟨L',q5,q6⟩:=SS (aI h1 he);rw[q1]at q5;injection q5 with q5
 subst q5;have hst:=dQ (aI h3 he);have hl:es.length=arr.size:=by simpa using q3.1
 have hj:j<arr.size:=by grind
 obtain⟨mm,hmm⟩:∃mm,arr[j]?=some mm:=⟨_,mW hj⟩;obtain⟨hk,_⟩:=q3.2 j x.1 x.2 mm h9 (by simpa using hmm);have e3:(arr.modify j λe=>{ e with val:=a.eval v })=arr.modify j λe=>{ e with key:=mm.key,val:=a.eval v }:=by grind
 refine MZ (w':=BD w L.blk (.map (arr.modify j λe=>{ e with key:=mm.key,val:=a.eval v }) arr.size)) ?_
  (hn un _ ρ undef _ (.inl rfl) (Ext.refl _) (hR.putObj hb q1 q2 (YE _ _) hro (U6.aU3 q1 q3 q4 hk hv (FT q2)) (λcs e=>by cases e)) rfl (J6 _) a02)
 have hfb:=find_born q4 hj;simp only[execOp,ho,q6,hst,Instr.entryStore,I7,N9,oC q2,asInt,asIntOf];have cF6:arr.findIdx? (λe=>(e.born:Int)==Int.ofNat j)=some j:=hfb;simp only[Q5,N9,cF6,GU _ q2,e3]
theorem bB3(o:Oper)(t:Nat)(r:Option Operand)(ho:o.op=.makeMap t r):BU P o (aP4 t r):=by
 intro ρ e s0 a h he;cases r with
 |some r=>exact absurd rfl h
 |none=>exact⟨.m [],.m,λs=>rfl,λw=>⟨.map #[] 0,.map (some w.heap.size),⟨w.heap.size,0,0,0⟩,by simp[execOp,ho,Instr.makeMap],rfl,rfl,λb hb=>⟨⟨_,#[],jF _ _,aW w _,rfl,λi k v m h=>by simp at h⟩,.m _ _ (jF _ _)⟩⟩⟩
theorem de5(o:Oper)(t:Nat)(r:Option Operand)(ho:o.op=.makeMap t r):aU P o (aP4 t r):=am1 (bB3 o t r ho)
end
section
variable{P:Program}{S:Nat->Prop}{w0:World}{ρ:Ren}{e:Env}{s:St}{a:Act}{w:World}
theorem Rl.newObj(hR:Rl S w0 ρ s w)(O:Obj)(o:AO)(ho:U6 (aJ ρ s.nx ⟨w.heap.size,0,0,0⟩) (w.alloc O) s.nx o)(hbl:∀cs,o≠.c kQ cs):
 Ext ρ (aJ ρ s.nx ⟨w.heap.size,0,0,0⟩)/\Rl S w0 (aJ ρ s.nx ⟨w.heap.size,0,0,0⟩) ⟨s.h.set (pa s.nx) (some o),s.nx+1,s.ro⟩ (w.alloc O):=by
 have hloc:∀b o L,s.h.get (pa b)=some o->ρ b=some L->L.blk<w.heap.size:=λb o L hb hL=>by
  obtain⟨M,h1,h2⟩:=(hR.obj b o hb).loc
  grind
 exact⟨ER hR.fresh _,hR.new (L:=⟨w.heap.size,0,0,0⟩) (kept_alloc hR _) (λb o L hb hL=>uP w _ (hloc b o L hb hL)) (hR.notS (J6 _)) (λb o M hb hM=>Nat.ne_of_lt (hloc b o M hb hM)) ho
  (λcs e=>absurd e (hbl cs))⟩
theorem df0(hT:∀t i,H8 t=some i->N8 P t i)(o:Oper)(t:Nat)(x:Operand)(ho:o.op=.range t x):aU P o (RU t x):=by
 intro S w0 ρ e s a w next Q h he hR hn
 obtain⟨v,h1,h2⟩:=I8 h;replace h2:RU t x e s=_:=h2;rw[h2]at h hn;clear h2;obtain⟨i,h3,h4⟩:=I8 h;rw[h4]at h hn;clear h4;have hx:=aI h1 he;have hu:=(hT _ _ h3).u;split at h
 .rename_i l hd;rw[hd]at hu;rw[hd]at hn;simp only[zK]at hn;cases hax:a.eval x with
  |string b=>
   rw[hax]at hx;have hl:b.data.toList.map UInt8.toNat=l:=by cases hx;rfl
   obtain⟨hx',hR'⟩:=hR.newObj (.stringIter b 0) (.si l 0) ⟨_,b,jF _ _,aW w _,hl,rfl⟩ (λcs e=>by cases e);refine aO (x:=.pointer (some ⟨w.heap.size,0,none⟩)) (w':=w.alloc (.stringIter b 0)) ?_ (hn _ _ _ _ _ (.inl rfl) hx' hR' rfl (Nat.le_succ _) (.p _ _ _ (jF _ _)));simp[execOp,ho,hax,Instr.range,L6 hu]
  |_=>rw[hax]at hx;cases hx
 .rename_i kt vt b hd;rw[hd]at hu;rw[hd]at hn;simp only at hn;split at h
  .rename_i es hb;rw[hb]at hn;simp only[iL,zK,jC]at hn;obtain⟨L,arr,q1,q2,q3,q4⟩:=hR.EH hb;obtain⟨L',q5,q6⟩:=SS hx;rw[q1]at q5;injection q5 with q5
   subst q5;have hl:es.length=arr.size:=by simpa using q3.1
   rw[hl]at hn;have hext:Ext ρ (aJ ρ s.nx ⟨w.heap.size,0,0,0⟩):=ER hR.fresh _;obtain⟨hx',hR'⟩:=hR.newObj (.mapIter (some L.blk) arr.size #[] arr.size) (.mi b [] arr.size) ⟨_,L,jF _ _,hext _ _ q1,aW w _,rfl⟩ (λcs e=>by cases e);refine aO (x:=.pointer (some ⟨w.heap.size,0,none⟩)) (w':=w.alloc (.mapIter (some L.blk) arr.size #[] arr.size)) ?_ (hn _ _ _ _ _ (.inl rfl) hx' hR' rfl (Nat.le_succ _) (.p _ _ _ (jF _ _)));simp[execOp,ho,q6,Instr.range,L6 hu,oC q2]
  .grind
 .grind
theorem YF(x:Nat)(l:List Nat):QH x l=true↔x∈l:=by
 induction l with
 |nil=>simp[QH]
 |cons y l ih=>
  show bq (Nat.beq x y) true (QH x l)=true↔_;rw[V8];by_cases h:x=y
  .subst h;simp
  .have:Nat.beq x y=false:=by rw[rV];simp[h]
   grind
theorem by5(seen:List Nat):∀(es:List (AV×AV))(n:Nat)(x:Nat×AV×AV),x∈(List.rec (motive:=λ_=>Nat->List (Nat×AV×AV)) (λ_=>[]) (λx _ ih i=>bq (QH i seen) (ih (Nat.succ i)) ((i,x.1,x.2)::ih (Nat.succ i))) es n:List (Nat×AV×AV))↔n<=x.1/\es[x.1-n]?=some x.2/\x.1∉seen
 |[],n,x=>by simp
 |p::es,n,x=>by
  have ih:=by5 seen es (n+1) x;show x∈bq (QH n seen) _ ((n,p.1,p.2)::_)↔_;have step:(n+1<=x.1/\es[x.1-(n+1)]?=some x.2/\x.1∉seen)↔(n<=x.1/\(p::es)[x.1-n]?=some x.2/\x.1∉seen)/\x.1≠n:=by
   constructor
   .grind
   .grind
  rw[V8];by_cases hn:n∈seen
  .rw[I4 ((YF _ _).2 hn),ih,step];constructor
   .grind
   .grind
  .rw[F9 (λh=>hn ((YF _ _).1 h)),jT,ih,step];constructor
   .grind
   .grind
theorem ch9{α:Type}{l:List α}{f:α->RO}{v:α->AV}{st:α->St}(hf:∀x∈l,f x=.one (v x) (st x)){x:α}(hx:x∈l):Has (tN (iO f l)) (v x) (st x):=by
 rw[wQ]
 match l,hf,hx with
 |[y],hf,hx=>
  have:x=y:=by grind
  subst this;exact .inl (hf x hx)
 |y::z::r,hf,hx=>
  right;have key:∀l:List α,(∀x∈l,f x=.one (v x) (st x))->(List.rec (motive:=λ_=>RO) (.many []) (λy _ ih=>qA y ih) (l.map f):RO)=.many (l.map λx=>(v x,st x)):=by
   intro l;induction l with
   |nil=>intro _;rfl
   |cons y l ih=>
    intro hf;show qA (f y) (List.rec (motive:=λ_=>RO) (.many []) (λy _ ih=>qA y ih) (l.map f))=_;rw[ih λx hx=>hf x (NR _ hx),hf y (by simp)];rfl
  refine⟨(y::z::r).map λx=>(v x,st x),key (y::z::r) hf,?_⟩
  grind
theorem Rl.drew(hR:Rl S w0 ρ s w):Rl S w0 ρ s w.drew:=hR.world (Kept.refl S w).drew λ_ _ _ _ _=>rfl
theorem cL9(a:Option Nat)(b:Nat)(c:Array Nat)(d:Nat):Obj.mapIter a b c d≠jZ:=λh=>nomatch h
theorem dg3(b:ByteArray)(n:Nat):Obj.stringIter b n≠jZ:=λh=>nomatch h
theorem de7(o:Oper)(x:Operand)(q:Bool)(ho:o.op=.next x q):aU P o (RN x q):=by
 intro S w0 ρ e s a w next Q h he hR hn
 obtain⟨v,h1,h2⟩:=I8 h;replace h2:RN x q e s=_:=h2;rw[h2]at h hn;clear h2;obtain⟨b,off,rfl⟩:=UJ h;simp only[ba0]at h hn;have h3:=X6 h;rw[h3,X7]at h hn;have h3:=F8 h3;subst h3;obtain⟨ob,h4,h5⟩:=I8 h;rw[h5]at h hn;clear h5;obtain⟨L,q1,q2⟩:=sO (aI h1 he);have hob:=hR.obj _ _ h4;split at h
 ·
  rename_i l pos;simp only at hn;obtain⟨L',bs,p1,p2,p3,p4⟩:=hob;rw[q1]at p1;injection p1 with p1
  subst p1;replace q2:a.eval x=.pointer (some ⟨L.blk,0,none⟩):=by rw[q2,p4]
  rw[VT]at h hn;split at h
  .rename_i hd;rw[hd]at hn;simp only at hn;have hend:¬pos<bs.size:=by
    have:=List.drop_eq_nil_iff.1 hd;rw[<-p3]at this;simp at this;omega
   have hr:=Lib.run_next_end_at (P:=P) w L.blk bs pos o.type p2 hend;have hone:J8 ρ [.q false] [.bool false]:=J8.cons (.q false) (J8.nil _);refine dA rfl hR (.t _ _ hone.1 hone.2) ?_ hn;simp only[execOp,ho,q2,I7,hr,N9];rfl
  .rename_i c tl hd;rw[hd]at hn;simp only at hn;have h6:=X6 h;rw[h6,X7,iL]at h hn;obtain⟨hro,h7⟩:=qZ h;rw[h7]at hn;have h6:=dJ h6;have hlt:pos<bs.size:=by
    have:pos<l.length:=by
     rcases eG pos l.length with h|h
     .exact h
     .rw[List.drop_eq_nil_iff.2 h]at hd;cases hd
    rw[<-p3]at this;simpa using this
   have hc:(bs[pos]'hlt).toNat=c:=by
    have:l[pos]?=some c:=by
     have:=congrArg (λl=>l[0]?) hd
     grind
    rw[<-p3,O6]at this;have hb:bs.data.toList[pos]?=some (bs[pos]'hlt):=by
     rw[I9 (by simpa using hlt)];rfl
    grind
   have hr:=Lib.run_next_ascii_at (P:=P) w L.blk bs pos o.type p2 hlt (by omega);rw[hc]at hr;have htr:J8 ρ [.q true,.n .i64 pos,.n .i32 c] [.bool true,.int .i64 (.ofNat pos),.int .i32 (.ofNat c)]:=J8.cons (.q true) (J8.cons (.n _ _) (J8.cons (.n _ _) (J8.nil _)));refine aO (x:=.tuple #[.bool true,.int .i64 pos,.int .i32 c]) (w':=w.iterAt L.blk bs (pos+1)) ?_ (hn _ _ ρ _ _ (.inl rfl) (Ext.refl _) (hR.putObj h4 q1 p2 (dg3 _ _) hro ⟨L,bs,q1,FT p2,p3,p4⟩ (λcs e=>by cases e)) rfl (J6 _) (.t _ _ htr.1 htr.2));simp only[execOp,ho,q2,I7,hr,N9];rfl
 ·
  rename_i m seen n;simp only at hn;obtain⟨L',M,p1,p2,p3,p4⟩:=hob;rw[q1]at p1;injection p1 with p1
  subst p1;replace q2:a.eval x=.pointer (some ⟨L.blk,0,none⟩):=by rw[q2,p4]
  split at h
  .rename_i es hb;rw[hb]at hn;simp only at hn;have h6:=X6 h;rw[h6,X7]at h hn;have h6:=F8 h6;rw[jC]at h6;obtain⟨M',arr,r1,r2,r3,r4⟩:=hR.EH hb;rw[p2]at r1;injection r1 with r1
   subst r1;have hl:es.length=arr.size:=by simpa using r3.1
   rw[<-h6,hl]at p3;have hold:∀x∈arr.toList,x.born<arr.size:=λx hx=>by
    obtain⟨i,hi⟩:=List.getElem?_of_mem hx
    grind
   have hnext:=run_next_at (P:=P) w o.type L.blk M.blk arr.size arr.size seen.toArray arr arr.size p3 r2 hold (J6 _);have hleft:∀x:MapEntry,x∈(Go.leftOf arr seen.toArray).toList↔x∈arr.toList/\x.born∉seen:=λx=>by
    simp[Go.leftOf]
   have hmem:=λx=>by5 seen es 0 x;cases hd:Ev.leftOf seen es with
   |nil=>
    rw[hd]at hn;simp only[bB5]at hn;rcases hnext with⟨_,hr⟩|⟨me,hme,_⟩
    .have hone:J8 ρ [.q false] [.bool false]:=J8.cons (.q false) (J8.nil _);refine dA rfl hR (.t _ _ hone.1 hone.2) ?_ hn;simp only[execOp,ho,q2,I7,hr,N9];rfl
    .exfalso;obtain⟨g1,g2⟩:=(hleft me).1 hme;obtain⟨i,hi⟩:=List.getElem?_of_mem g1;have hi':arr[i]?=some me:=by grind
     have hlt:i<es.length:=by grind
     have:(i,es[i])∈Ev.leftOf seen es:=(hmem (i,es[i])).2 ⟨Y3 _,by simp[hlt],by show i∉seen;rw[<-r4 i me hi'];exact g2⟩
     grind
   |cons x0 xs=>
    rw[hd]at h hn;have bt2:s.ro<=b:=by
     rcases eG b s.ro with hlt|hge
     .exfalso;have hno:∀x,EI b m seen n s x=.no:=λx=>by
       unfold EI;rw[uI];show bR (Nat.ble s.ro b) _=_;have:Nat.ble s.ro b=false:=by rw[af5];simp;omega
       rw[this];rfl
      apply h;show tN (iO (EI b m seen n s) (x0::xs))=.no;cases xs with
      |nil=>exact hno x0
      |cons y ys=>
       show qA (EI b m seen n s x0) _=.no;rw[hno x0];rfl
     .exact hge
    have hone:∀x,EI b m seen n s x=.one (.t [.q true,x.2.1,x.2.2]) ⟨s.h.set (pa b) (some (.mi m (seen++[x.1]) n)),s.nx,s.ro⟩:=λx=>by
     unfold EI;rw[uI,oI];show bR (Nat.ble s.ro b) _=_;have:Nat.ble s.ro b=true:=by rw[af5];simp[bt2]
     rw[this];rfl
    rcases hnext with⟨h0,_⟩|⟨me,hme,w1,hw1,hr⟩
    .exfalso;have hx0:x0∈Ev.leftOf seen es:=by grind
     obtain⟨_,g2,g3⟩:=(hmem x0).1 hx0;rw[Nat.sub_zero]at g2;have hlt:=(O4.1 g2).1;have hm:arr[x0.1]?=some (arr[x0.1]'(by omega)):=mW (by omega)
     grind
    .obtain⟨g1,g2⟩:=(hleft me).1 hme;obtain⟨i,hi⟩:=List.getElem?_of_mem g1;have hi':arr[i]?=some me:=by grind
     have hlt:i<es.length:=by grind
     have hin:(i,es[i])∈x0::xs:=by
      rw[<-hd];exact(hmem (i,es[i])).2 ⟨Y3 _,by simp[hlt],by show i∉seen;rw[<-r4 i me hi'];exact g2⟩
     have hhas:=ch9 (f:=EI b m seen n s) (λx _=>hone x) hin;obtain⟨t1,t2⟩:=r3.2 i es[i].1 es[i].2 me (I9 hlt) hi;have htr:J8 ρ [.q true,es[i].1,es[i].2] [.bool true,me.key,me.val]:=J8.cons (.q true) (J8.cons t1 (J8.cons t2 (J8.nil _)));have hR1:Rl S w0 ρ s w1:=by rcases hw1 with rfl|rfl;exact hR;exact hR.drew
     have p3':w1.heap[L.blk]?=some (.mapIter (some M.blk) arr.size seen.toArray arr.size):=by rcases hw1 with rfl|rfl<;>exact p3
     refine aO (x:=.tuple #[.bool true,me.key,me.val]) (w':=BD w1 L.blk (.mapIter (some M.blk) arr.size (seen.toArray.push me.born) arr.size)) ?_
      (hn _ _ ρ _ _ hhas (Ext.refl _) (hR1.putObj h4 q1 p3' (cL9 _ _ _ _) bt2 ⟨L,M,q1,p2,by rw[FT p3',<-h6,hl,r4 i me hi'];simp,p4⟩ (λcs e=>by cases e)) rfl (J6 _) (.t _ _ htr.1 htr.2))
     simp only[execOp,ho,q2,I7,hr,N9];rfl
  .grind
 .grind
theorem dd5(o:Oper)(x:Operand)(ho:o.op=.entry x):aU P o (QV x):=by
 intro S w0 ρ e s a w next Q h he hR hn
 obtain⟨v,h1,h2⟩:=I8 h;replace h2:QV x e s=_:=h2;rw[h2]at h hn;clear h2;obtain⟨b,off,rfl⟩:=UJ h;simp only[ba0]at h hn;have h3:=X6 h;rw[h3,X7]at h hn;have h3:=F8 h3;subst h3;obtain⟨L,q1,q2⟩:=sO (aI h1 he);split at h
 .rename_i m seen n h4;rw[h4]at hn;simp only at hn;obtain⟨L',M,p1,p2,p3,p4⟩:=hR.obj _ _ h4;rw[q1]at p1;injection p1 with p1
  subst p1;replace q2:a.eval x=.pointer (some ⟨L.blk,0,none⟩):=by rw[q2,p4]
  split at h
  .rename_i es j hb hj;rw[hb,hj]at hn;simp only at hn;have h6:=X6 h;rw[h6,X7]at h hn;have h6:=F8 h6;rw[jC]at h6;obtain⟨xx,h7,h8⟩:=I8 h;rw[h8]at hn;rw[yR]at h7;obtain⟨M',arr,r1,r2,r3,r4⟩:=hR.EH hb;rw[p2]at r1;injection r1 with r1
   subst r1;have hl:es.length=arr.size:=by simpa using r3.1
   have hjl:j<arr.size:=by grind
   have hm:arr[j]?=some arr[j]:=mW hjl;obtain⟨t1,t2⟩:=r3.2 j xx.1 xx.2 arr[j] h7 (by simp);have htr:J8 ρ [xx.1,xx.2] [arr[j].key,arr[j].val]:=J8.cons t1 (J8.cons t2 (J8.nil _));obtain⟨ys,hys⟩:∃ys,seen=ys++[j]:=by
    rw[List.getLast?_eq_some_iff]at hj;exact hj
   have hnd:(arr.toList.map (·.born)).Nodup:=by
    have:arr.toList.map (·.born)=List.range arr.size:=by
     apply mY
     grind
    grind
   have hr:=run_entry_at (P:=P) w L.blk M.blk arr.size ys.toArray arr arr.size arr[j] (by rw[p3,hys,<-h6,hl,r4 j _ hm];simp) r2 (by simp) hnd;refine dA rfl hR (.t _ _ htr.1 htr.2) ?_ hn;simp only[execOp,ho,q2,I7,hr,N9];rfl
  .grind
 .grind
end
section
variable{P:Program}{S:Nat->Prop}{w0:World}{ρ:Ren}{e:Env}{s:St}{a:Act}{w:World}
structure ad4(P:Program)(t tx el:Nat)(i:TI)(x:Value)(n:Nat)(news:List Value)(w:World):Prop where
 len:news.length=n*i.size
 one:∀u∈news,u.oneCell'=true
 room:∀(ty b off sLen sCap e':Nat)(arr:Array Value),w.heap[b]?=some (.cells arr e' (0,0))->sLen+n<=sCap->off+sLen*i.size+news.length<=arr.size->
  (Builtin.append_ #[t,tx] ty #[.slice (some ⟨b,off,none⟩) sLen sCap,x]).run P w=.ok (.slice (some ⟨b,off,none⟩) (sLen+n) sCap) (w.setRow b (arr.toList.take (off+sLen*i.size)++news++arr.toList.drop (off+sLen*i.size+news.length)).toArray)
 same:n=0->∀(ty:Nat)(base:Option Addr)(sLen sCap:Nat),sLen<=sCap->(Builtin.append_ #[t,tx] ty #[.slice base sLen sCap,x]).run P w=.ok (.slice base sLen sCap) w
 grow:∀(ty:Nat)(base:Option Addr)(sLen sCap:Nat)(olds:List Value),(Builtin.firstCells i.size sLen (.slice base sLen sCap)).run P w.drew=.ok olds.toArray w.drew->sCap<sLen+n->sLen+n<=5000000->
  ∃m,sLen+n<=m/\m<=maxLen/\(Builtin.append_ #[t,tx] ty #[.slice base sLen sCap,x]).run P w=.ok (.slice (some ⟨w.heap.size,0,none⟩) (sLen+n) m) (w.drew.alloc (.cells ((olds++news).toArray++Builtin.zeroCells (O7 i).cells (m-(sLen+n))) el))
theorem ay4(hT:∀t i,H8 t=some i->N8 P t i){t tx el:Nat}{i:TI}(ht:P.underlying t=some (.slice el))(hi:H8 el=some i)(hby:i.bytes<=4096){x:Value}{n:Nat}{news:List Value}(hs:Src P i.size tx x n news w):ad4 P t tx el i x n news w:=by
 obtain⟨j,hj,hjs,hjb,hjz⟩:=(hT _ _ hi).eX;refine⟨hs.newsLen,hs.one,λty b off sLen sCap e' arr hh hroom hfit=>?_,λh0 ty base sLen sCap hle=>?_,λty base sLen sCap olds ho hg hle=>?_⟩
 .have hst:=run_storeCells_at P b (off+sLen*i.size) e' news 0 arr w hh (by simpa using hfit) hs.one;simp only[oD]at hst;rcases hs.kind with⟨e'',hk⟩|hk<;>simp[Builtin.append_,L6 ht,L6 hk,sizeOf,typeInfo,hj,hjs,hs.len,hroom,hs.cells,gY,hst]
 .subst h0;have hnil:news=[]:=lX (by rw[hs.newsLen];simp);subst hnil;rcases hs.kind with⟨e'',hk⟩|hk<;>cases base<;>simp[Builtin.append_,L6 ht,L6 hk,sizeOf,typeInfo,hj,hjs,hs.len,hle,hs.cells,storeCells]
 .have hfit:Builtin.nextslicecap (sLen+n) sCap*j.bytes<=281474976710656:=by
   refine growslice_fits hg ?_
   calc (sLen+n)*j.bytes<=5000000*4096:=Nat.mul_le_mul hle (by omega)
    _<=140737488355328:=by decide
  refine⟨_,grownCap_ge w (sLen+n) sCap el,grownCap_le_maxLen w (sLen+n) sCap el (by unfold maxLen;omega),?_⟩;exact run_append_grow_src (P:=P) w t tx ty el j (O7 i) ht hj hjz base sLen sCap olds (by rw[hjs];exact ho) x n news (by rw[hjs];exact hs) hg (by omega) hfit
theorem wrap64{n:Nat}(h:n<=4096):IntKind.i64.wrap (n:Int)=n:=wrap_small .i64 (n:=n) (by show n<0x8000000000000000;omega)
theorem be9(hT:∀t i,H8 t=some i->N8 P t i){t tx el:Nat}{i:TI}(ht:P.underlying t=some (.slice el))(hi:H8 el=some i)(hby:i.bytes<=4096)(hsz:1<=i.size){k kn:IntKind}(htn:P.underlying tx=some (.int kn)){n:Nat}(hn:n<=4096):
 ad4 P t tx el i (.int k (.ofNat n)) n (Builtin.zeroCells (O7 i).cells n).toList w:=by
 obtain⟨j,hj,hjs,hjb,hjz⟩:=(hT _ _ hi).eX;have hzs:(O7 i).cells.size=i.size:=by rw[kK (hT _ _ hi)];simp[(hT _ _ hi).len]
 have hone:∀u∈(Builtin.zeroCells (O7 i).cells n).toList,u.oneCell'=true:=λu hu=>by
  simp only[Builtin.zeroCells,Array.toList_map,iV]at hu;obtain⟨q,hq,rfl⟩:=hu;have hq2:q % (O7 i).cells.size<(O7 i).cells.size:=Nat.mod_lt _ (by omega);rw[getElem!_pos (O7 i).cells _ hq2];have ho:=(hT _ _ hi).one;rw[nZ]at ho;have hmem:∀u∈(O7 i).cells.toList,u.oneCell'=true:=by
   rw[kK (hT _ _ hi)]
   grind
  grind
 have hw:=wrap64 hn;have h48i:¬(281474976710656<(n:Int)*(j.bytes:Int)):=by
  rw[<-Int.natCast_mul];have:n*j.bytes<=4096*4096:=Nat.mul_le_mul hn (by omega);omega
 have hneg:¬((n:Int)<0):=by omega
 have hnl:(Builtin.zeroCells (O7 i).cells n).toList.length=n*i.size:=by simp[size_zeroCells,hzs]
 refine⟨hnl,hone,λty b off sLen sCap e' arr hh hroom hfit=>?_,λh0 ty base sLen sCap hle=>?_,λty base sLen sCap olds ho hg hle=>?_⟩
 .have hst:=run_storeCells_at P b (off+sLen*i.size) e' (Builtin.zeroCells (O7 i).cells n).toList 0 arr w hh (by simpa using hfit) hone;simp only[oD]at hst;simp only[iT]at hst⊢;by_cases hns:n*i.size=0
  .have hze:Builtin.zeroCells (O7 i).cells n=#[]:=by apply Array.eq_empty_of_size_eq_zero;simpa using hnl.trans hns
   rw[hze]at hst⊢;simp[Builtin.append_,L6 ht,L6 htn,sizeOf,typeInfo,zeroValue,hj,hjs,hjz,asInt,asIntOf,hw,hneg,h48i,hns,hroom,gY,hst]
  .simp[Builtin.append_,L6 ht,L6 htn,sizeOf,typeInfo,zeroValue,hj,hjs,hjz,asInt,asIntOf,hw,hneg,h48i,hns,hroom,gY,hst]
 .subst h0;cases base<;>simp[Builtin.append_,L6 ht,L6 htn,sizeOf,typeInfo,hj,hjs,asInt,asIntOf,hle,storeCells,IntKind.wrap,IntKind.bits,IntKind.signed]
 .have hfit:Builtin.nextslicecap (sLen+n) sCap*j.bytes<=281474976710656:=by
   refine growslice_fits hg ?_
   calc (sLen+n)*j.bytes<=5000000*4096:=Nat.mul_le_mul hle (by omega)
    _<=140737488355328:=by decide
  have hnr:¬(sLen+n<=sCap):=by omega
  have h63':¬(9223372036854775807<((sLen:Int)+(n:Int))):=by omega
  have h48':¬(281474976710656<Builtin.nextslicecap (sLen+n) sCap*j.bytes):=by omega
  refine⟨_,grownCap_ge w (sLen+n) sCap el,grownCap_le_maxLen w (sLen+n) sCap el (by unfold maxLen;omega),?_⟩;rw[<-hjs]at ho hnl;by_cases hns:n*j.size=0
  .have hze:Builtin.zeroCells (O7 i).cells n=#[]:=by apply Array.eq_empty_of_size_eq_zero;simpa using hnl.trans hns
   rw[hze];simp[Builtin.append_,L6 ht,L6 htn,sizeOf,typeInfo,zeroValue,hj,hjz,asInt,asIntOf,hw,hneg,h48i,hns,hnr,h63',h48',Question.forced,ho,newRow,grownCap]
  .simp[Builtin.append_,L6 ht,L6 htn,sizeOf,typeInfo,zeroValue,hj,hjz,asInt,asIntOf,hw,hneg,h48i,hns,hnr,h63',h48',Question.forced,ho,newRow,grownCap];congr 2
   grind
def GI(P:Program)(S:Nat->Prop)(w0:World)(ρ:Ren)(s:St)(w:World)(r:RO)(m:Sem Value):Prop:=
 ∃v s' ρ' z w',r=.one v s'/\m.run P w=.ok z w'/\Ext ρ ρ'/\Rl S w0 ρ' s' w'/\s'.ro=s.ro/\s.nx<=s'.nx/\RV ρ' v z
theorem Cells.vals{l:List AV}{f:Nat->Option Value}(hc:Cells ρ l f):∃vs:List Value,vs.length=l.length/\(∀(j:Nat)(x:Value),vs[j]?=some x->f j=some x)/\Cells ρ l λj=>vs[j]?:=by
 obtain⟨vs,h1,h2,h3⟩:=hc.agg;obtain⟨us,e,h4,h5⟩:=EW h3
 grind
theorem Cells.take{l:List AV}{f:Nat->Option Value}{o n:Nat}{r:List AV}(hc:Cells ρ l f)(h:rD n (oL o l)=some r):r.length=n/\Cells ρ r λj=>f (o+j):=by
 obtain⟨h1,h2⟩:=as2 h;rw[VT]at h1;refine⟨h2,λj c hj=>?_⟩;have hlt:j<n:=by grind
 rw[h1,jK,I4 hlt,xQ]at hj;exact hc _ c hj
theorem Cells.append{l m:List AV}{vs us:List Value}(h:Cells ρ l λj=>vs[j]?)(hl:vs.length=l.length)(k:Cells ρ m λj=>us[j]?):Cells ρ (l++m) λj=>(vs++us)[j]?:=by
 intro j c hj;rcases eG j l.length with hlt|hge
 .rw[bV hlt]at hj;have:=h j c hj
  grind
 .rw[bJ hge]at hj;have:=k _ c hj
  grind
theorem aW5(hR:Rl S w0 ρ s w){b o l sz el cap off:Nat}{L:Loc}{cs r:List AV}(hb:s.h.get (pa b)=some (.c el cs))(hL:ρ b=some L)(hoff:off=o+L.sh\/cap=0)(hl:l<=cap)(hr:rD (Nat.mul l sz) (oL o cs)=some r):
 ∃vs:List Value,vs.length=l*sz/\r.length=l*sz/\(Cells ρ r λj=>vs[j]?)/\∀(j:Nat)(x:Value),vs[j]?=some x->w.cell? ((⟨L.blk,off,none⟩:Addr).add j)=some x:=by
 obtain⟨L',arr,g1,g2,g3,g4,g5⟩:=hR.cells hb;rw[hL]at g1;injection g1 with g1
 subst g1;obtain⟨h1,h2⟩:=g5.take hr;obtain⟨vs,h3,h4,h5⟩:=h2.vals;have hlen:vs.length=l*sz:=h3.trans h1;refine⟨vs,hlen,h1,h5,λj x hj=>?_⟩;have hlt:=(O4.1 hj).1;have hc:cap≠0:=λh0=>by grind
 rw[hoff.resolve_right hc,gY,jY w L.blk _ arr el (0,0) g3,<-h4 j x hj]
 grind
theorem co6(hT:∀t i,H8 t=some i->N8 P t i)(hR:Rl S w0 ρ s w){sz tx:Nat}{y:AV}{x:Value}{k:Nat->List AV->RO}(hk:kindOk (some tx) y=true)(hx:RV ρ y x)(h:cellsS sz y s k≠.no):
 ∃n ys news,cellsS sz y s k=k n ys/\Src P sz tx x n news w/\ys.length=news.length/\Cells ρ ys λj=>news[j]?:=by
 unfold kindOk at hk;simp only at hk;split at hk
 .rename_i e' _ _ _ _ _ b o l c hd;have hu:=(hT _ _ hd).u;simp only at hu;obtain⟨cap,off,L,hL,rfl,hl,hck,hoff,hb⟩:=wY hx;obtain⟨el,cs,h1,h2⟩:=vC (show gI s b _≠.no from h);have h3:cellsS sz (.s b o l c) s k=oR (rD (Nat.mul l sz) (oL o cs)) λr=>k l r:=h2;rw[h3]at h;obtain⟨r,h4,h5⟩:=I8 h;obtain⟨vs,q1,q2,q3,q4⟩:=aW5 hR h1 hL hoff hl h4;exact⟨l,r,vs,h3.trans h5,Src.ofSlice w hu _ l cap vs q1 q4 (cells_one (by rw[q1,q2]) q3),by rw[q1,q2],q3⟩
 .rename_i e' _ _ _ _ _ hd;have hu:=(hT _ _ hd).u;simp only at hu;cases hx;exact⟨0,[],[],rfl,Src.ofNil w hu 0,rfl,λj c hj=>by simp at hj⟩
 .rename_i _ _ _ _ _ l hd;have hu:=(hT _ _ hd).u;simp only at hu;have h3:cellsS sz (.str l) s k=bR (Nat.beq sz 1) (fL (yE l) λr=>k (bI l) r):=rfl;rw[h3]at h;have h4:=X6 h;have h5:=F8 h4;subst h5;cases hx with
  |str b=>
   refine⟨b.size,yE (b.data.toList.map UInt8.toNat),byteCells b,?_,Src.ofString w hu b,?_,?_⟩
   .rw[h3,uI,jC];simp
   .rw[byteCells_length,yE,wQ];simp
   .rw[yE,wQ];intro j c hj;simp only[O6]at hj;simp only[byteCells,O6];cases hb:b.data.toList[j]? with
    |none=>grind
    |some u=>rw[hb]at hj;simp at hj;subst hj;exact⟨rfl,_,rfl,.n _ _⟩
 .cases hk
theorem aF0(hT:∀t i,H8 t=some i->N8 P t i)(hR:Rl S w0 ρ s w){t tx el:Nat}{i:TI}(hi:H8 el=some i){y:Value}{n:Nat}{ys old:List AV}{news olds:List Value}(hA:ad4 P t tx el i y n news w)
 (mG:Cells ρ ys λj=>news[j]?) {ty l cap:Nat} {base:Option Addr} (hold:(Builtin.firstCells i.size l (.slice base l cap)).run P w.drew=.ok olds.toArray w.drew) (hol:olds.length=l*i.size) (hoc:Cells ρ old λj=>olds[j]?) (cH6:olds.length=old.length) (hg:cap<l+n) (hle:l+n<=5000000):
 ∃z w' ρ',(Builtin.append_ #[t,tx] ty #[.slice base l cap,y]).run P w=.ok z w'/\Ext ρ ρ'/\Rl S w0 ρ' ⟨s.h.set (pa s.nx) (some (.c el (old++ys))),s.nx+1,s.ro⟩ w'/\RV ρ' (.s s.nx 0 (l+n) none) z:=by
 obtain⟨m,hm,_,hrun⟩:=hA.grow ty base l cap olds hold hg hle;have hzs:(O7 i).cells.size=i.size:=by rw[kK (hT _ _ hi)];simp[(hT _ _ hi).len]
 obtain⟨arr,harr⟩:∃arr,arr=(olds++news).toArray++Builtin.zeroCells (O7 i).cells (m-(l+n)):=⟨_,rfl⟩;rw[<-harr]at hrun;have hsz:arr.size=m*i.size:=by
  have e:m*i.size=(l+n)*i.size+(m-(l+n))*i.size:=by rw[<-pV];congr 1;omega
  rw[harr,e,pV];simp[size_zeroCells,hzs,hol,hA.len]
 have hcells:Cells ρ (old++ys) λj=>arr[j]?:=by
  intro j c hj;obtain⟨h1,x,h2,h3⟩:=hoc.append cH6 mG j c hj
  grind
 obtain⟨hx,hR'⟩:=hR.newRow (w':=w.drew.alloc (.cells arr el)) el (old++ys) arr (.inr rfl) hcells;refine⟨_,_,_,hrun,hx,hR',.s _ _ _ m 0 none _ (jF _ _) hm (λk hk=>by cases hk) (.inl rfl) λ_=>⟨i,hi,?_⟩⟩
 grind
theorem db9{cap off l:Nat}{b o:Nat}{c:Option Nat}{L:Loc}(hL:ρ b=some L)(hl:l<=cap)(hck:∀k,c=some k->cap=k)(hoff:off=o+L.sh\/cap=0)(hb:c=none->∃i,H8 L.el=some i/\off+cap*i.size<=L.tot):
 RV ρ (.s b o l c) (.slice (some ⟨L.blk,off,none⟩) l cap):=.s b o l cap off c L hL hl hck hoff hb
theorem bf1(hT:∀t i,H8 t=some i->N8 P t i)(hR:Rl S w0 ρ s w){t tx el:Nat}{i:TI}(hi:H8 el=some i)(hsz:1<=i.size){x y:Value}{xa:AV}{n:Nat}{ys:List AV}{news:List Value}(hA:ad4 P t tx el i y n news w)
 (mG:Cells ρ ys λj=>news[j]?) (hyl:ys.length=news.length) (hn:n<=100000) (hx:RV ρ xa x) (h:VB el i.size xa n ys s≠.no) (ty:Nat):
 GI P S w0 ρ s w (VB el i.size xa n ys s) (Builtin.append_ #[t,tx] ty #[x,y]):=by
 unfold VB at h⊢;split at h
 ·
  cases hx;rw[V8]at h⊢;by_cases hn0:n=0
  .rw[I4 (by rw[hn0];rfl)];exact⟨_,s,ρ,_,w,rfl,hA.same hn0 ty none 0 0 (J6 _),Ext.refl _,hR,rfl,J6 _,.ns⟩
  .rw[F9 (by rw[rV];simpa using hn0),iL,zK];obtain⟨z,w',ρ',h1,h2,h3,h4⟩:=aF0 (ρ:=ρ) hT hR hi hA mG (ty:=ty) (l:=0) (cap:=0) (base:=none) (old:=[]) (olds:=[]) (run_firstCells_none w.drew i.size 0 0 0) (by simp) (λj c hj=>by simp at hj) rfl (by omega) (by omega);simp only[V7,rO]at h3 h4;exact⟨_,_,ρ',z,w',rfl,h1,h2,h3,rfl,Nat.le_succ _,h4⟩
 .rename_i b o l c;obtain⟨cap,off,L,hL,rfl,hl,hck,hoff,hb⟩:=wY hx;rw[V8]at h⊢;by_cases hn0:n=0
  .rw[I4 (by rw[hn0];rfl)];refine⟨_,s,ρ,_,w,rfl,hA.same hn0 ty _ l cap hl,Ext.refl _,hR,rfl,J6 _,hx⟩
  rw[F9 (by rw[rV];simpa using hn0)]at h⊢;have h1:=X6 h;rw[h1,X7]at h⊢;have h1:=H6 h1;replace h1:l+n<=4194304:=h1;obtain⟨dK,cs,h2,h3⟩:=vC h;rw[h3]at h⊢;clear h3;obtain⟨old,h4,h5⟩:=I8 h;rw[h5]at h⊢;clear h5;obtain⟨olds,q1,q2,q3,q4⟩:=aW5 hR h2 hL hoff hl h4;have hold:(Builtin.firstCells i.size l (.slice (some ⟨L.blk,off,none⟩) l cap)).run P w.drew=.ok olds.toArray w.drew:=run_firstCells_some w.drew i.size l _ l cap olds q1 q4;obtain⟨L',arr,g1,g2,g3,g4,g5⟩:=hR.cells h2;rw[hL]at g1;injection g1 with g1
  subst g1;have hnl:1<=news.length:=by rw[hA.len];exact Nat.mul_pos (by omega) hsz
  split at h
  .rename_i c0;have hc0:=hck c0 rfl;subst hc0;rw[V8]at h⊢;by_cases hg:cap<l+n
   .rw[I4 (by rw[show Nat.blt cap (Nat.add l n)=decide (cap<l+n)from IG _ _];simpa using hg),uI,iL,zK,oI];obtain⟨z,w',ρ',k1,k2,k3,k4⟩:=aF0 hT hR hi hA mG (ty:=ty) hold q1 q3 (by rw[q1,q2]) hg (by omega);exact⟨_,_,ρ',z,w',rfl,k1,k2,k3,rfl,Nat.le_succ _,k4⟩
   .rw[F9 (by rw[show Nat.blt cap (Nat.add l n)=decide (cap<l+n)from IG _ _];simpa using hg)]at h⊢;have h6:=X6 h;rw[h6,X7]at h⊢;have h6:=F8 h6;subst h6;obtain⟨cs',h7,h8⟩:=I8 h;rw[h8]at h⊢;clear h8;rw[iL]at h⊢;obtain⟨h9,h10⟩:=qZ h;rw[h10];have hoff:=hoff.resolve_right (by omega);obtain⟨hfit,hR'⟩:=hR.store (vs:=news) h2 hL g2 g3 g4 g5 h9 h7 (by omega) mG;have hfit:=hfit.resolve_right (λh0=>by rw[h0]at hnl;simp at hnl);have e:Nat.add o (Nat.mul l i.size)+L.sh=off+l*i.size:=by grind
    rw[e]at hfit hR';exact⟨_,_,ρ,_,_,rfl,hA.room ty L.blk off l cap el arr g3 (by omega) hfit,Ext.refl _,hR',rfl,J6 _,db9 hL (by show l+n<=cap;omega) hck (.inl hoff) (λh=>by cases h)⟩
  .have h6:=X6 h;rw[h6,X7]at h⊢;have h6:=F8 h6;subst h6;have h7:=X6 h;rw[h7,X7]at h⊢;have hbl:el≠kQ:=λe=>by rw[e]at h7;simp[Nat.beq_refl]at h7
   rw[uI,iL]at h⊢;obtain⟨h9,h10⟩:=qZ h;rw[h10,zK,oI];have hd:=hR.drop b;by_cases hg:cap<l+n
   .obtain⟨z,w',ρ',k1,k2,k3,k4⟩:=aF0 hT hd hi hA mG (ty:=ty) hold q1 q3 (by rw[q1,q2]) hg (by omega);exact⟨_,_,ρ',z,w',rfl,k1,k2,k3,rfl,Nat.le_succ _,k4⟩
   ·
    have hoff:=hoff.resolve_right (by omega);obtain⟨i',p1,p2⟩:=hb rfl;rw[g2,hi]at p1;injection p1 with p1
    subst p1;have hroom:(l+n)*i.size<=cap*i.size:=iJ _ (by omega);rw[pV]at hroom;have hfit:off+l*i.size+news.length<=arr.size:=by rw[hA.len,g4];omega
    have hrun:=hA.room ty L.blk off l cap el arr g3 (by omega) hfit;obtain⟨arr',harr⟩:∃arr',arr'=(arr.toList.take (off+l*i.size)++news++arr.toList.drop (off+l*i.size+news.length)).toArray:=⟨_,rfl⟩;rw[<-harr]at hrun;have cE5:arr'.size=arr.size:=by grind
    have hget:∀j,arr'[j]?=if j<off+l*i.size then arr[j]? else if j<off+l*i.size+news.length then news[j-(off+l*i.size)]? else arr[j]?:=by
     intro j;have hl1:(arr.toList.take (off+l*i.size)).length=off+l*i.size:=by simp;omega
     rw[harr,List.getElem?_toArray,kM];by_cases hj:j<off+l*i.size
     .grind
     .rw[F9 hj,bJ (by omega),hl1]
      grind
    have dL7:∀(j:Nat)(x:Value),olds[j]?=some x->arr[j+off]?=some x:=λj x hj=>by
     have:=q4 j x hj;rw[gY,jY w L.blk _ arr el (0,0) g3]at this
     grind
    have hnS:=hR.own b _ L h2 hL h9;have hoth:∀c o M,(s.h.set (pa b) none).get (pa c)=some o->ρ c=some M->M.blk≠L.blk:=λc o M hc hM e=>by
     rcases kT hc with⟨_,e'⟩|⟨hne,hc'⟩
     .cases e'
     .exact hne (hR.inj c b o _ M L hc' h2 hM hL e)
    have hx':Ext ρ (aJ ρ s.nx ⟨L.blk,off,el,arr.size⟩):=ER hR.fresh _;have hR':=hd.new (w':=w.setRow L.blk arr') (o:=.c el (old++ys)) (L:=⟨L.blk,off,el,arr.size⟩)
     ⟨rfl,rfl,rfl,by simp[World.setRow],λk hk=>sS w L.blk k _ (λe=>hnS (e▸hk)),λk hk=>aq4 w L.blk k _ hk⟩
     (λc o M hc hM=>sS w L.blk _ _ (hoth c o M hc hM)) hnS hoth
     ⟨_,arr',jF _ _,rfl,rC w L.blk arr _ el (0,0) g3,cE5,λj c hj=>by
       obtain⟨k1,u,k2,k3⟩:=q3.append (by rw[q1,q2]) mG j c hj;refine⟨k1,u,?_,k3.ext hx'⟩;show arr'[j+off]?=some u;rw[hget];by_cases hj1:j<l*i.size
       .grind
       .have hlt:=(O4.1 k2).1;simp only at k2;rw[bJ (by omega)]at k2;rw[bQ]at hlt;rw[F9 (by omega),I4 (by omega),<-k2];congr 1
        omega⟩
     (λcs e=>absurd (by injection e) hbl)
    refine⟨_,_,_,_,_,rfl,hrun,hx',hR',rfl,Nat.le_succ _,.s _ _ _ cap off none ⟨L.blk,off,el,arr.size⟩ (jF _ _) (show l+n<=cap by omega) (λk hk=>by cases hk) (.inl (by simp)) λ_=>⟨i,hi,?_⟩⟩
    grind
 .grind
theorem aW4(hT:∀t i,H8 t=some i->N8 P t i){t el:Nat}(h:TK H8 t=some el):P.underlying t=some (.slice el):=by
 obtain⟨i,h1,h2⟩:=P6 h;have hu:=(hT _ _ h1).u
 grind
theorem ci7(hT:∀t i,H8 t=some i->N8 P t i)(hR:Rl S w0 ρ s w){t tx:Nat}{x y:Value}{xa ya:AV}(hx:RV ρ xa x)(hy:RV ρ ya y)(h:ae4 t (some tx) xa ya s≠.no)(ty:Nat):
 GI P S w0 ρ s w (ae4 t (some tx) xa ya s) (Builtin.append_ #[t,tx] ty #[x,y]):=by
 unfold ae4 at h⊢;obtain⟨el,h1,h2⟩:=I8 h;rw[h2]at h⊢;clear h2;obtain⟨i,h3,h4⟩:=I8 h;rw[h4]at h⊢;clear h4;have h5:=X6 h;rw[h5,X7]at h⊢;have h6:=X6 h;rw[h6,X7]at h⊢;have h5:=H6 h5;have h6:=H6 h6;have ht:=aW4 hT h1;rw[V8]at h⊢;by_cases hint:aK1 (some tx)=true
 .rw[I4 hint]at h⊢;have hkn:∃kn,P.underlying tx=some (.int kn):=by
   unfold aK1 at hint;simp only at hint;split at hint
   .rename_i k _ _ _ _ _ hd;exact⟨k,(hT _ _ hd).u⟩
   .cases hint
  obtain⟨kn,hkn⟩:=hkn;split at h
  .rename_i k n;have h7:=X6 h;rw[h7,X7]at h⊢;have h7:=H6 h7;obtain⟨ys,h8,h9⟩:=I8 h;rw[h9]at h⊢;have ey:=dQ hy;subst ey;have hA:=be9 (w:=w) hT ht h3 h5 h6 (k:=k) hkn h7;obtain⟨z1,z2⟩:=bb8 (ρ:=ρ) (hT _ _ h3) h8;have hzs:(O7 i).cells.size=i.size:=by rw[kK (hT _ _ h3)];simp[(hT _ _ h3).len]
   have hze:(Builtin.zeroCells (O7 i).cells n).toList.length=ys.length:=by rw[hA.len,z1]
   refine bf1 hT hR h3 h6 hA (λj c hj=>?_) hze.symm (by omega) hx h ty;obtain⟨a1,u,a2,a3⟩:=z2 j c hj;refine⟨a1,u,?_,a3⟩;simp only at a2⊢;rw[<-a2,jS,Builtin.zeroCells,hzs]
  .grind
 .rw[F9 hint]at h⊢;have h7:=X6 h;rw[h7,X7]at h⊢;obtain⟨n,ys,news,h8,h9,h10,h11⟩:=co6 hT hR h7 hy h;rw[h8]at h⊢;have h12:=X6 h;rw[h12,X7]at h⊢;exact bf1 hT hR h3 h6 (ay4 hT ht h3 h5 h9) h11 h10 (H6 h12) hx h ty
end
section
variable{P:Program}{S:Nat->Prop}{w0:World}{ρ:Ren}{e:Env}{s:St}{a:Act}{w:World}
theorem bi9(hR:Rl S w0 ρ s w){sz:Nat}{y:AV}{x:Value}{k:Nat->List AV->RO}(hx:RV ρ y x)(h:cellsS sz y s k≠.no):
 ∃(n:Nat) (ys:List AV) (vs:List Value),cellsS sz y s k=k n ys/\(Builtin.lenOf x).run P w=.ok n w/\ys.length=n*sz/\vs.length=n*sz/\(Cells ρ ys λj=>vs[j]?)/\∀m,m<=n->(Builtin.firstCells sz m x).run P w=.ok (vs.take (m*sz)).toArray w:=by
 cases y with
 |ns=>
  cases hx;exact⟨0,[],[],rfl,rfl,by simp,by simp,λj c hj=>by simp at hj,λm hm=>by simp[Builtin.firstCells]⟩
 |s b o l c=>
  obtain⟨cap,off,L,hL,rfl,hl,hck,hoff,hb⟩:=wY hx;obtain⟨el,cs,h1,h2⟩:=vC (show gI s b _≠.no from h);have h3:cellsS sz (.s b o l c) s k=oR (rD (Nat.mul l sz) (oL o cs)) λr=>k l r:=h2;rw[h3]at h;obtain⟨r,h4,h5⟩:=I8 h;obtain⟨vs,q1,q2,q3,q4⟩:=aW5 hR h1 hL hoff hl h4;refine⟨l,r,vs,h3.trans h5,rfl,q2,q1,q3,λm hm=>run_firstCells_some w sz m _ l cap _ ?_ λj v hj=>?_⟩
  .have:m*sz<=l*sz:=iJ _ hm;simp;omega
  .grind
 |str l=>
  have h3:cellsS sz (.str l) s k=bR (Nat.beq sz 1) (fL (yE l) λr=>k (bI l) r):=rfl;rw[h3]at h;have h4:=X6 h;have h5:=F8 h4;subst h5;cases hx with
  |str b=>
   refine⟨b.size,yE (b.data.toList.map UInt8.toNat),byteCells b,?_,rfl,?_,?_,?_,λm hm=>?_⟩
   .rw[h3,uI,jC];simp
   .rw[yE,wQ];simp
   .rw[byteCells_length];simp
   .rw[yE,wQ];intro j c hj;simp only[O6]at hj;simp only[byteCells,O6];cases hb:b.data.toList[j]? with
    |none=>grind
    |some u=>rw[hb]at hj;simp at hj;subst hj;exact⟨rfl,_,rfl,.n _ _⟩
   .simp only[Builtin.firstCells,Q5];congr 1;apply Array.ext';simp[byteCells]
 |_=>exact absurd rfl h
theorem unV:RV ρ un (.tuple #[]):=.t [] [] rfl λi c x h=>by simp at h
theorem bG6(hR:Rl S w0 ρ s w){b o el off:Nat}{L:Loc}{cs ds cs':List AV}{vs:List Value}(hb:s.h.get (pa b)=some (.c el cs))(hL:ρ b=some L)(hoff:off=o+L.sh)(hr:s.ro<=b)(hp:uY o ds cs=some cs')(hl:vs.length=ds.length)(hv:Cells ρ ds λi=>vs[i]?):
 ∃w',(storeCells ⟨L.blk,off,none⟩ vs 0).run P w=.ok () w'/\Rl S w0 ρ ⟨s.h.set (pa b) (some (.c el cs')),s.nx,s.ro⟩ w':=by
 obtain⟨L',arr,g1,g2,g3,g4,g5⟩:=hR.cells hb;rw[hL]at g1;injection g1 with g1
 subst g1;obtain⟨hfit,hR'⟩:=hR.store (vs:=vs) hb hL g2 g3 g4 g5 hr hp hl hv;rw[<-hoff]at hfit hR';by_cases hn:vs=[]
 .subst hn;refine⟨w,by simp[storeCells],?_⟩;have:(arr.toList.take off++[]++arr.toList.drop (off+([]:List Value).length)).toArray=arr:=by simp
  rw[this,setRow_self w L.blk arr el (0,0) g3]at hR';exact hR'
 .refine⟨_,run_storeCells_at (P:=P) L.blk off el vs 0 arr w g3 (by simpa using hfit.resolve_right hn) (cells_one hl hv),by simpa using hR'⟩
theorem cq3(hT:∀t i,H8 t=some i->N8 P t i)(hR:Rl S w0 ρ s w){t tx:Nat}{x y:Value}{xa ya:AV}(hx:RV ρ xa x)(hy:RV ρ ya y)(h:ah7 t xa ya s≠.no)(ty:Nat):
 GI P S w0 ρ s w (ah7 t xa ya s) (Builtin.copy_ #[t,tx] ty #[x,y]):=by
 unfold ah7 at h⊢;obtain⟨el,h1,h2⟩:=I8 h;rw[h2]at h⊢;clear h2;obtain⟨z,h3,h4⟩:=I8 h;rw[h4]at h⊢;clear h4;have h5:=X6 h;rw[h5,X7]at h⊢;have h5:=H6 h5;have ht:=aW4 hT h1;obtain⟨i,h6,h7⟩:=P6 h3;injection h7 with h7
 subst h7;have hsz:=(hT _ _ h6).sizeOf w;split at h
 .rename_i b o l c;obtain⟨cap,off,L,hL,rfl,hl,hck,hoff,hb⟩:=wY hx
  try simp only
  obtain⟨n,ys,vs,h8,h9,h10,h11,h12,h13⟩:=bi9 (P:=P) hR hy h;rw[h8]at h⊢;clear h8;have hfc:=h13 (Nat.min n l) (Nat.min_le_left _ _);rw[V8]at h⊢;by_cases h0:Nat.min n l=0
  .rw[I4 (by rw[h0];rfl)];rw[h0]at hfc;refine⟨_,s,ρ,.int .i64 0,w,rfl,?_,Ext.refl _,hR,rfl,J6 _,.n _ _⟩;simp[Builtin.copy_,L6 ht,h9,hsz,h0,hfc,storeCells,goInt]
  .rw[F9 (by rw[rV];simpa using h0)]at h⊢;obtain⟨dK,cs,q1,q2⟩:=vC h;rw[q2]at h⊢;clear q2;obtain⟨r,q3,q4⟩:=I8 h;rw[q4]at h⊢;clear q4;obtain⟨cs',q5,q6⟩:=I8 h;rw[q6]at h⊢;clear q6;obtain⟨q7,q8⟩:=qZ h;rw[q8,ZF];have hcap:cap≠0:=λe=>by grind
   obtain⟨r1,r2⟩:=as2 q3;have hml:Nat.min n l*i.size<=n*i.size:=iJ _ (Nat.min_le_left _ _)
   obtain⟨w',hst,hR'⟩:=bG6 (P:=P) (vs:=vs.take (Nat.min n l*i.size)) hR q1 hL (hoff.resolve_right hcap) q7 q5 (by rw[r2,U9,h11];exact rP hml) (λj c hj=>by
    have hlt:j<Nat.min n l*i.size:=by grind
    rw[r1,jK,I4 (show j<Nat.mul (Nat.min n l) i.size from hlt)]at hj;obtain⟨a1,u,a2,a3⟩:=h12 j c hj;refine⟨a1,u,?_,a3⟩;simp only at a2⊢;rw[jK,I4 hlt]
    exact a2)
   refine⟨_,_,ρ,.int .i64 (.ofNat (Nat.min n l)),w',rfl,?_,Ext.refl _,hR',rfl,J6 _,.n _ _⟩;simp[Builtin.copy_,L6 ht,h9,hsz,hfc,hst,goInt]
 .cases hx
  try simp only
  obtain⟨n,ys,vs,h8,h9,h10,h11,h12,h13⟩:=bi9 (P:=P) hR hy h;rw[h8];have hfc:=h13 0 (Y3 _);refine⟨_,s,ρ,.int .i64 0,w,rfl,?_,Ext.refl _,hR,rfl,J6 _,.n _ _⟩;simp[Builtin.copy_,L6 ht,h9,hsz,hfc,goInt]
 .grind
theorem cp1(hT:∀t i,H8 t=some i->N8 P t i)(hR:Rl S w0 ρ s w){t:Nat}{x:Value}{xa:AV}(hx:RV ρ xa x)(h:ah1 t xa s≠.no)(ty:Nat):
 GI P S w0 ρ s w (ah1 t xa s) (Builtin.clear_ #[t] ty #[x]):=by
 unfold ah1 at h⊢;obtain⟨el,h1,h2⟩:=I8 h;rw[h2]at h⊢;clear h2;obtain⟨i,h3,h4⟩:=I8 h;rw[h4]at h⊢;clear h4;have ht:=aW4 hT h1;split at h
 .rename_i b o l c;obtain⟨cap,off,L,hL,rfl,hl,hck,hoff,hb⟩:=wY hx
  try simp only
  obtain⟨dK,cs,q1,q2⟩:=vC h;rw[q2]at h⊢;clear q2;rw[V8]at h⊢;by_cases h0:l=0
  .rw[I4 (by rw[h0];rfl)];subst h0;exact⟨_,s,ρ,.tuple #[],w,rfl,by simp[Builtin.clear_,L6 ht],Ext.refl _,hR,rfl,J6 _,unV⟩
  .rw[F9 (by rw[rV];simpa using h0)]at h⊢;obtain⟨z,q3,q4⟩:=I8 h;rw[q4]at h⊢;clear q4;obtain⟨cs',q5,q6⟩:=I8 h;rw[q6]at h⊢;clear q6;obtain⟨q7,q8⟩:=qZ h;rw[q8];obtain⟨z1,z2⟩:=bb8 (ρ:=ρ) (hT _ _ h3) q3;have hzs:(O7 i).cells.size=i.size:=by rw[kK (hT _ _ h3)];simp[(hT _ _ h3).len]
   obtain⟨j,hj,hjs,hjb,hjz⟩:=(hT _ _ h3).eX
   obtain⟨w',hst,hR'⟩:=bG6 (P:=P) (vs:=(Builtin.zeroCells (O7 i).cells l).toList) hR q1 hL (hoff.resolve_right (by omega)) q7 q5 (by simp[size_zeroCells,hzs,z1]) (λk c hk=>by
    obtain⟨a1,u,a2,a3⟩:=z2 k c hk;refine⟨a1,u,?_,a3⟩;simp only at a2⊢
    rw[<-a2,jS,Builtin.zeroCells,hzs])
   obtain⟨l',rfl⟩:∃l',l=l'+1:=⟨l-1,by omega⟩;refine⟨_,_,ρ,.tuple #[],w',rfl,?_,Ext.refl _,hR',rfl,J6 _,unV⟩;simp[Builtin.clear_,L6 ht,zeroValue,typeInfo,hj,hjz,hst]
 .cases hx;exact⟨_,s,ρ,.tuple #[],w,rfl,by simp[Builtin.clear_,L6 ht],Ext.refl _,hR,rfl,J6 _,unV⟩
 .grind
theorem cP8(hT:∀t i,H8 t=some i->N8 P t i)(hR:Rl S w0 ρ s w){t:Nat}{x:Value}{xa:AV}(hx:RV ρ xa x)(hk:KL t xa=true)(h:QE xa s≠.no)(ty:Nat):
 GI P S w0 ρ s w (QE xa s) (Builtin.len_ #[t] ty #[x]):=by
 unfold KL at hk;split at hk
 .rename_i _ _ _ _ _ l hd;have hu:=(hT _ _ hd).u;simp only at hu;cases hx with
  |str b=>
   refine⟨_,s,ρ,.int .i64 (.ofNat b.size),w,ZF _ _ _,by simp[Builtin.len_,L6 hu,goInt],Ext.refl _,hR,rfl,J6 _,?_⟩;have:bI (b.data.toList.map UInt8.toNat)=b.size:=by rw[jC];simp
   rw[this];exact .n _ _
 .rename_i _ _ _ _ _ _ hd;have hu:=(hT _ _ hd).u;simp only at hu;cases hx;exact⟨_,s,ρ,.int .i64 0,w,rfl,by simp[Builtin.len_,L6 hu,goInt],Ext.refl _,hR,rfl,J6 _,.n _ _⟩
 .rename_i _ _ _ _ _ _ b o l c hd;have hu:=(hT _ _ hd).u;simp only at hu;obtain⟨cap,off,L,hL,rfl,hl,hck,hoff,hb⟩:=wY hx;exact⟨_,s,ρ,.int .i64 (.ofNat l),w,rfl,by simp[Builtin.len_,L6 hu,goInt],Ext.refl _,hR,rfl,J6 _,.n _ _⟩
 .rename_i _ _ _ _ _ _ _ hd;have hu:=(hT _ _ hd).u;simp only at hu;cases hx;exact⟨_,s,ρ,.int .i64 0,w,rfl,by simp[Builtin.len_,L6 hu,goInt],Ext.refl _,hR,rfl,J6 _,.n _ _⟩
 .rename_i _ _ _ _ _ _ _ b hd;have hu:=(hT _ _ hd).u;simp only at hu;obtain⟨L,h1,rfl⟩:=SS hx;unfold QE at h⊢;simp only at h⊢;split at h
  .rename_i es hb;obtain⟨L',arr,q1,q2,q3,q4⟩:=hR.EH hb;rw[h1]at q1;injection q1 with q1
   subst q1;refine⟨_,s,ρ,.int .i64 (.ofNat arr.size),w,ZF _ _ _,by simp[Builtin.len_,L6 hu,goInt,oC q2],Ext.refl _,hR,rfl,J6 _,?_⟩;have:bI es=arr.size:=by rw[jC];simpa using q3.1
   rw[this];exact .n _ _
  .grind
 .cases hk
theorem cP9{e:Nat}(hc:P.cellsOf e=1)(count off n:Nat)(hn:off+n<=count):liesAt P P.depth e count off e n=true:=by
 have hd:P.depth=(2*(P.types.size+Made.depth)+1)+1:=rfl;rw[hd];simp only[liesAt,Bool.or_eq_true];left;rw[hd];simp[rowAt,hc,hn,sameLayout,Nat.mod_one]
theorem db8(w:World)(pt it ty e:Nat)(hp:P.underlying pt=some (.pointer e))(hc:P.cellsOf e=1)(g off cells:Nat)(hsh:w.shape? g=some (e,cells))(l:List UInt8)(h0:l≠[])(hn:off+l.length<=cells)(h63:l.length<=9223372036854775807)
 (hcell:∀j x,l[j]?=some x->w.cell? ((⟨g,off,none⟩:Addr).add j)=some (.int .u8 x.toNat)) (k:IntKind):
 (Builtin.unsafeString_ #[pt,it] ty #[.pointer (some ⟨g,off,none⟩),.int k l.length]).run P w=.ok (.string ⟨l.toArray⟩) (w.freeze ⟨g,off,none⟩ l.length):=by
 have hl:l.length≠0:=by grind
 have hlb:=Lib.run_loadBytes (P:=P) w l ⟨g,off,none⟩ .empty hcell;have hlies:=cP9 (P:=P) hc (cells/P.cellsOf e) off l.length (by rw[hc];simpa using hn);have h63':¬(9223372036854775807:Int)<(l.length:Int):=by omega
 have hdef:Builtin.unsafeString_ #[pt,it] ty #[.pointer (some ⟨g,off,none⟩),.int k l.length]=
  (do
    let n <-asInt (.int k l.length)
    if n<0 then runtimePanic (.error "unsafe.String: len out of range")
    if n>IntKind.i64.max then unsupported (.unsafePointer "String: a length above the largest int")
    if n=0 then pure (.string .empty)
    else if <-variablesAt ⟨g,off,none⟩ (<-elemOf pt) n.toNat then do
     let s <-loadBytes ⟨g,off,none⟩ .empty n.toNat
     freeze ⟨g,off,none⟩ n.toNat
     pure (.string s)
    else unsupported (.unsafePointer "String: not so many bytes at ptr")):=rfl
 rw[hdef];have hmax:IntKind.i64.max=9223372036854775807:=rfl;have hneg:¬(l.length:Int)<0:=by omega
 simp[asInt,asIntOf,hmax,h63',hneg,hl,variablesAt,hsh,elemOf,L6 hp,hlies,hlb]
theorem cM8{A:Nat->Prop}{g off n:Nat}(hS:¬A g){c:Array Value}{e:Nat}{fz:Nat×Nat}(hc:w.heap[g]?=some (.cells c e fz)):Kept A w (w.freeze ⟨g,off,none⟩ n)/\∀k,k≠g->(w.freeze ⟨g,off,none⟩ n).heap[k]?=w.heap[k]?:=by
 have hk:∀k,k≠g->(w.freeze ⟨g,off,none⟩ n).heap[k]?=w.heap[k]?:=λk hk=>by
  unfold World.freeze
  grind
 have hsz:(w.freeze ⟨g,off,none⟩ n).heap.size=w.heap.size:=by
  unfold World.freeze
  grind
 have ho:(w.freeze ⟨g,off,none⟩ n).os=w.os/\(w.freeze ⟨g,off,none⟩ n).tape=w.tape/\(w.freeze ⟨g,off,none⟩ n).output=w.output:=by
  unfold World.freeze
  grind
 exact⟨⟨ho.1,ho.2.1,ho.2.2,by omega,λk hks=>hk k λe=>hS (e▸hks),λk hkd=>by
  by_cases hkg:k=g
  .rw[hkg,hc]at hkd;exact nomatch hkd
  .rw[hk k hkg];exact hkd⟩,hk⟩
theorem bh7:∀{l:List AV}{r:List Nat},az6 l=some r->∃bs:List UInt8,r=bs.map UInt8.toNat/\l=bs.map λb=>AV.n .u8 b.toNat
 |[],r,h=>by cases h;exact⟨[],rfl,rfl⟩
 |x::l,r,h=>by
  obtain⟨b,h1,h2⟩:=P6 h;obtain⟨r',h3,h4⟩:=P6 h2;injection h4 with h4
  subst h4;obtain⟨bs,rfl,rfl⟩:=bh7 h3;unfold byteOf at h1;split at h1
  .rename_i k n;obtain⟨h5,h6⟩:=lI h1;obtain⟨h7,h8⟩:=lI h6;injection h8 with h8
   subst h8;have hk:k=.u8:=sJ (j:=.u8) h5;subst hk;have hlt:=dJ h7;refine⟨UInt8.ofNat n::bs,?_,?_⟩<;>simp[Nat.mod_eq_of_lt hlt]
  .cases h1
theorem cm6(hT:∀t i,H8 t=some i->N8 P t i){t el:Nat}(h:ag2 t el=true):P.underlying t=some (.pointer el)/\P.cellsOf el=1:=by
 unfold ag2 at h;split at h
 .rename_i e _ _ _ _ _ hd;have hu:=(hT _ _ hd).u;simp only at hu;rw[V8]at h;split at h
  .rename_i he;have he:=F8 he;subst he;split at h
   .rename_i i hi;obtain⟨j,hj,hjs,_,_⟩:=(hT _ _ hi).eX;refine⟨hu,?_⟩;simp[Program.cellsOf,hj,hjs,F8 h]
   .cases h
  .cases h
 .cases h
theorem dm9(hT:∀t i,H8 t=some i->N8 P t i)(hR:Rl S w0 ρ s w){t it b o:Nat}{n:AV}{x y:Value}(hx:RV ρ (.p b o) x)(hy:RV ρ n y)(h:jX .unsafeString [t,it] [.p b o,n] s≠.no)(ty:Nat):
 GI P S w0 ρ s w (jX .unsafeString [t,it] [.p b o,n] s) (Builtin.unsafeString_ #[t,it] ty #[x,y]):=by
 have e0:jX .unsafeString [t,it] [.p b o,n] s=oR (QK n) λn=>bR (Nat.ble 1 n) (bR (Nat.ble n 1000000) (gI s b λel cs=>bR (ag2 t el) (oR (rD n (oL o cs)) λr=>oR (az6 r) λl=>setH s b none λs=>.one (.str l) s))):=rfl;rw[e0]at h⊢;obtain⟨m,h1,h2⟩:=I8 h;rw[h2]at h⊢;clear h2;have h3:=X6 h;rw[h3,X7]at h⊢;have h4:=X6 h;rw[h4,X7]at h⊢;have h3:=H6 h3;have h4:=H6 h4;obtain⟨el,cs,h5,h6⟩:=vC h;rw[h6]at h⊢;clear h6;have h7:=X6 h;rw[h7,X7]at h⊢;obtain⟨r,h8,h9⟩:=I8 h;rw[h9]at h⊢;clear h9;obtain⟨l,h10,h11⟩:=I8 h;rw[h11]at h⊢;clear h11;obtain⟨h12,h13⟩:=qZ h;rw[h13];obtain⟨k,rfl⟩:=aN0 h1;have ey:=dQ hy;subst ey;obtain⟨L,g1,rfl⟩:=sO hx;obtain⟨L',arr,q1,q2,q3,q4,q5⟩:=hR.cells h5;rw[g1]at q1;injection q1 with q1
 subst q1;obtain⟨hu,hc⟩:=cm6 hT h7;obtain⟨r1,r2⟩:=q5.take h8;obtain⟨bs,rfl,rfl⟩:=bh7 h10;rw[U7]at r1;subst r1;have hcell:∀(j:Nat)(u:UInt8),bs[j]?=some u->w.cell? ((⟨L.blk,o+L.sh,none⟩:Addr).add j)=some (.int .u8 u.toNat):=λj u hj=>by
  obtain⟨_,v,a2,a3⟩:=r2 j (.n .u8 u.toNat) (by rw[O6,hj];rfl);rw[dQ a3]at a2;rw[gY,jY w L.blk _ arr el (0,0) q3]
  grind
 have hlast:o+L.sh+bs.length<=arr.size:=by
  have hlt:bs.length-1<bs.length:=by omega
  have:=hcell (bs.length-1) _ (I9 hlt);rw[gY,jY w L.blk _ arr el (0,0) q3]at this
  grind
 have hrun:=db8 w t it ty el hu hc L.blk (o+L.sh) arr.size (by simp[World.shape?,q3]) bs (λe=>by rw[e]at h3;simp at h3) hlast (by omega) hcell k;have hnS:=hR.own b _ L h5 g1 h12;obtain⟨hk,hoth⟩:=cM8 (A:=S) (w:=w) (off:=o+L.sh) (n:=bs.length) hnS q3;refine⟨_,_,ρ,.string ⟨bs.toArray⟩,_,rfl,hrun,Ext.refl _,(hR.drop b).world hk (λc o' M hc hM=>hoth _ λe=>?_),rfl,J6 _,.str ⟨bs.toArray⟩⟩;rcases kT hc with⟨_,e'⟩|⟨hne,hc'⟩
 .cases e'
 .exact hne (hR.inj c b o' _ M L hc' h5 hM g1 e)
theorem ZQ{x:AV}{vs:List Value}(h:J8 ρ [x] vs):∃y,vs=[y]/\RV ρ x y:=by
 match vs,h with
 |[y],h=>exact⟨y,rfl,h.2 0 x y rfl rfl⟩
 |[],h=>simp[J8]at h
 |_::_::_,h=>have:=h.1;simp at this
theorem SX{x x':AV}{vs:List Value}(h:J8 ρ [x,x'] vs):∃y y',vs=[y,y']/\RV ρ x y/\RV ρ x' y':=by
 match vs,h with
 |[y,y'],h=>exact⟨y,y',rfl,h.2 0 x y rfl rfl,h.2 1 x' y' rfl rfl⟩
 |[],h=>have:=h.1;simp at this
 |[_],h=>have:=h.1;simp at this
 |_::_::_::_,h=>have:=h.1;simp at this
theorem bw9(hT:∀t i,H8 t=some i->N8 P t i){t:Nat}{xa:AV}(h:KL t xa=true)(hx:xa=.ns\/∃b o l c,xa=.s b o l c):∃el,P.underlying t=some (.slice el):=by
 unfold KL at h;split at h
 .grind
 .rename_i hd;exact⟨_,(hT _ _ hd).u⟩
 .rename_i hd;exact⟨_,(hT _ _ hd).u⟩
 .grind
 .grind
 .cases h
theorem cm5(hT:∀t i,H8 t=some i->N8 P t i)(hR:Rl S w0 ρ s w){b:Builtin}{tys:List Nat}{args:List AV}{vs:List Value}(ha:J8 ρ args vs)(h:jX b tys args s≠.no)(ty:Nat)(cs:Array Bool):
 ∃v s' ρ' z w',jX b tys args s=.one v s'/\(builtin b tys.toArray ty cs vs.toArray).run P w=.ok (.value z) w'/\Ext ρ ρ'/\Rl S w0 ρ' s' w'/\s'.ro=s.ro/\s.nx<=s'.nx/\RV ρ' v z:=by
 have fin:∀{m:Sem Value}{r:RO},jX b tys args s=r->builtin b tys.toArray ty cs vs.toArray=(do pure (.value (<-m)))->GI P S w0 ρ s w r m->
  ∃v s' ρ' z w',jX b tys args s=.one v s'/\(builtin b tys.toArray ty cs vs.toArray).run P w=.ok (.value z) w'/\Ext ρ ρ'/\Rl S w0 ρ' s' w'/\s'.ro=s.ro/\s.nx<=s'.nx/\RV ρ' v z:=by
  rintro m r h1 h2 ⟨v,s',ρ',z,w',rfl,h4,h5⟩;exact⟨v,s',ρ',z,w',h1,by rw[h2];simp[h4],h5⟩
 unfold jX at h;split at h
 ·
  rename_i x;obtain⟨y,rfl,hy⟩:=ZQ ha;split at h
  .rename_i t;have hk:=X6 h;rw[hk,X7]at h;exact fin (by simp only[jX,hk,X7]) rfl (cP8 hT hR hy hk h ty)
  .grind
 ·
  rename_i x;obtain⟨y,rfl,hy⟩:=ZQ ha;split at h
  .rename_i t;have hk:=X6 h;rw[hk,X7]at h;unfold ag7 at h;split at h
   .cases hy;refine fin (r:=.one (.n .i64 0) s) (by simp only[jX,hk,X7,ag7]) rfl ⟨_,s,ρ,.int .i64 0,w,rfl,?_,Ext.refl _,hR,rfl,J6 _,.n _ _⟩;obtain⟨el,hu⟩:=bw9 hT hk (.inl rfl);simp[Builtin.cap_,L6 hu,goInt]
   .rename_i bb o l c;obtain⟨cap,off,L,hL,rfl,hl,hck,hoff,hb⟩:=wY hy;have hc:=hck c rfl;subst hc;refine fin (r:=.one (.n .i64 cap) s) (by simp only[jX,hk,X7,ag7]) rfl ⟨_,s,ρ,.int .i64 (.ofNat cap),w,rfl,?_,Ext.refl _,hR,rfl,J6 _,.n _ _⟩;obtain⟨el,hu⟩:=bw9 hT hk (.inr ⟨_,_,_,_,rfl⟩);simp[Builtin.cap_,L6 hu,goInt]
   .grind
  .grind
 ·
  rename_i k m k' m';obtain⟨y,y',rfl,hy,hy'⟩:=SX ha;have hk:=X6 h;have hkk:=sJ hk;subst hkk;have e1:=dQ hy;have e2:=dQ hy';subst e1;subst e2;refine fin (r:=.one (.n k (if m'<m then m' else m)) s) ?_ rfl ⟨_,s,ρ,.int k (.ofNat (if m'<m then m' else m)),w,rfl,?_,Ext.refl _,hR,rfl,J6 _,.n _ _⟩
  .simp only[jX,hk,X7,V8,IG]
   grind
  .by_cases hlt:m'<m
   .have:(m':Int)<(m:Int):=by omega
    simp[Builtin.min_,Builtin.min2,hlt,this]
   .have:¬(m':Int)<(m:Int):=by omega
    simp[Builtin.min_,Builtin.min2,hlt,this]
 ·
  rename_i k m k' m';obtain⟨y,y',rfl,hy,hy'⟩:=SX ha;have hk:=X6 h;have hkk:=sJ hk;subst hkk;have e1:=dQ hy;have e2:=dQ hy';subst e1;subst e2;refine fin (r:=.one (.n k (if m<m' then m' else m)) s) ?_ rfl ⟨_,s,ρ,.int k (.ofNat (if m<m' then m' else m)),w,rfl,?_,Ext.refl _,hR,rfl,J6 _,.n _ _⟩
  .simp only[jX,hk,X7,V8,IG]
   grind
  .by_cases hlt:m<m'
   .have:(m:Int)<(m':Int):=by omega
    simp[Builtin.max_,Builtin.max2,hlt,this]
   .have:¬(m:Int)<(m':Int):=by omega
    simp[Builtin.max_,Builtin.max2,hlt,this]
 ·
  rename_i x x';obtain⟨y,y',rfl,hy,hy'⟩:=SX ha;split at h
  .exact fin rfl rfl (ci7 hT hR hy hy' h ty)
  .grind
 ·
  rename_i x x';obtain⟨y,y',rfl,hy,hy'⟩:=SX ha;split at h
  .exact fin rfl rfl (cq3 hT hR hy hy' h ty)
  .grind
 ·
  rename_i x;obtain⟨y,rfl,hy⟩:=ZQ ha;split at h
  .exact fin rfl rfl (cp1 hT hR hy h ty)
  .grind
 ·
  rename_i bb o l;obtain⟨y,rfl,hy⟩:=ZQ ha;have h1:=X6 h;have h2:=H6 h1;obtain⟨cap,off,L,hL,rfl,hl,hck,hoff,hb⟩:=wY hy;have hoff:=hoff.resolve_right (by omega);subst hoff;exact fin (r:=.one (.p bb o) s) (by simp only[jX,h1,X7]) rfl ⟨_,s,ρ,_,w,rfl,Lib.run_unsafeSliceData_row w tys.toArray ty ⟨L.blk,o+L.sh,none⟩ l cap (by omega),Ext.refl _,hR,rfl,J6 _,.p _ _ L hL⟩
 .obtain⟨y,rfl,hy⟩:=ZQ ha;cases hy;exact fin (r:=.one .np s) rfl rfl ⟨_,s,ρ,.pointer none,w,rfl,rfl,Ext.refl _,hR,rfl,J6 _,.np⟩
 ·
  obtain⟨y,y',rfl,hy,hy'⟩:=SX ha;split at h
  .rename_i n t t';have h1:=X6 h;have h2:=F8 h1;subst h2;cases hy;have e2:=dQ hy';subst e2;exact fin (r:=.one (.str []) s) (by simp only[jX,h1,X7]) rfl ⟨_,s,ρ,.string .empty,w,rfl,Lib.run_unsafeString_none w t t' ty none,Ext.refl _,hR,rfl,J6 _,.str .empty⟩
  .grind
 .rename_i bb o n;obtain⟨y,y',rfl,hy,hy'⟩:=SX ha;split at h
  .exact fin rfl rfl (dm9 hT hR hy hy' h ty)
  .grind
 .grind
theorem dd2(hT:∀t i,H8 t=some i->N8 P t i)(up:Runner)(o:Oper)(b:Builtin)(args:Array Operand)(tys:Array Nat)(ho:o.op=.call ⟨.builtin b,args,tys⟩):aU P o (EM up ⟨.builtin b,args,tys⟩):=by
 intro S w0 ρ e s a w next Q h he hR hn
 obtain⟨vs,h1,h2⟩:=I8 h;replace h2:EM up ⟨.builtin b,args,tys⟩ e s=jX b tys.toList vs s:=h2;rw[h2]at h hn;have hv:=al5 h1 he;obtain⟨v,s',ρ',z,w',q1,q2,q3,q4,q5,q6,q7⟩:=cm5 hT hR hv h o.type (args.map λ|.const _=>true|_=>false);obtain⟨dst,op,type,pos,after,guard⟩:=o;simp only at ho;subst ho;refine aO (x:=z) (w':=w') ?_ (hn v s' ρ' z w' (.inl q1) q3 q4 q5 q6 q7);rw[CY];have e1:args.map a.eval=(args.toList.map a.eval).toArray:=by grind
 rw[e1];rw[Array.toArray_toList]at q2;exact q2
end
def gZ(r:RC)(x:Ex)(e:Env)(s:St):Prop:=r=.one x e s\/∃l,r=.many l/\(x,e,s)∈l
def yO:Ex->Exit
 |.n=>.normal
 |.x id=>.exit id
 |.r=>.ret
structure jL(S:Nat->Prop)(B m:Nat)(ρ:Ren)(s:St)(w:World)(e':Env)(s':St)(ρ':Ren)(a':Act)(w':World):Prop where
 ext:Ext ρ ρ'
 rl:Rl S w ρ' s' w'
 ro:s'.ro=s.ro
 nx:s.nx<=s'.nx
 env:aB ρ' e' a'.tmps
 sz:a'.tmps.size=m
 bG:kL B w' a'.defers
 bw:B<=w'.heap.size
abbrev Pre(S:Nat->Prop)(B m:Nat)(ρ:Ren)(e:Env)(s:St)(a:Act)(w:World):Prop:=jL S B m ρ s w e s ρ a w
def ad8(P:Program)(run:Env->St->RC)(c:Code)(m:Nat):Prop:=
 ∀(τ:Option Nat),(τ=none\/cO c=true)->∀(S:Nat->Prop)(B:Nat)(ρ:Ren)(e:Env)(s:St)(a:Act)(w:World)(Q:Exit->Act->World->Prop),
  Pre S B m ρ e s a w->run e s≠.no->(∀x e' s' ρ' a' w',gZ (run e s) x e' s'->jL S B m ρ s w e' s' ρ' a' w'->Q (yO x) a' w')->c.wpIn (dG τ) 0 P Q a w
def tK(P:Program)(up:Runner):Prop:=∀c m,codeOk m c=true->ad8 P (up c) c m
section
variable{P:Program}{S:Nat->Prop}{w0:World}{ρ:Ren}{e:Env}{s:St}{a:Act}{w:World}{B m:Nat}
theorem Rl.YV(hR:Rl S w0 ρ s w):Rl S w ρ s w:={ hR with kept:=Kept.refl _ _,slt:=λk hk=>Z5 (hR.slt k hk) hR.kept.size,gs:=λw' h=>hR.gs w' (hR.kept.trans h) }
theorem Rl.onto{w1:World}(hR:Rl S w1 ρ s w)(hk:Kept S w0 w1)(hs:∀k,S k->k<w0.heap.size)(hg:∀w',Kept S w0 w'->GE w'):Rl S w0 ρ s w:={ hR with kept:=hk.trans hR.kept,slt:=hs,gs:=hg }
theorem jL.trans{e1 e2:Env}{s1 s2:St}{ρ1 ρ2:Ren}{a1 a2:Act}{w1 w2:World}(h:jL S B m ρ s w e1 s1 ρ1 a1 w1)(k:jL S B m ρ1 s1 w1 e2 s2 ρ2 a2 w2):jL S B m ρ s w e2 s2 ρ2 a2 w2:=
 ⟨h.ext.trans k.ext,k.rl.onto h.rl.kept h.rl.slt h.rl.gs,k.ro.trans h.ro,X4 h.nx k.nx,k.env,k.sz,k.bG,k.bw⟩
theorem jL.pre{e1:Env}{s1:St}{ρ1:Ren}{a1:Act}{w1:World}(h:jL S B m ρ s w e1 s1 ρ1 a1 w1):Pre S B m ρ1 e1 s1 a1 w1:=
 ⟨Ext.refl _,h.rl.YV,rfl,J6 _,h.env,h.sz,h.bG,h.bw⟩
theorem cn7(b:RC):ag8 .no b=.no:=by cases b<;>rfl
theorem cn9(a:RC):ag8 a .no=.no:=by cases a<;>rfl
theorem ae2:∀{l:List RC},pW l≠.no->(∃r,pW l=.many r)/\∀y∈l,y≠.no/\∀x e s,gZ y x e s->gZ (pW l) x e s
 |[],_=>⟨⟨[],rfl⟩,λy hy=>by simp at hy⟩
 |y::l,h=>by
  have h0:pW (y::l)=ag8 y (pW l):=rfl;rw[h0]at h⊢;have hl:pW l≠.no:=λe=>h (by rw[e,cn9]);have hy:y≠.no:=λe=>h (by rw[e,cn7]);obtain⟨⟨r,hr⟩,ih⟩:=ae2 hl;rw[hr]at ih⊢
  have e1:∀x e s,gZ (RC.many r) x e s↔(x,e,s)∈r:=λx e s=>⟨λh=>by
   rcases h with h|⟨l',h,hm⟩
   .cases h
   .injection h with h;subst h;exact hm,λh=>.inr ⟨r,rfl,h⟩⟩
  cases y with
  |no=>grind
  |one x0 e0 s0=>
   refine⟨⟨_,rfl⟩,λz hz=>?_⟩;rcases jT.1 hz with rfl|hz
   .refine⟨hy,λx e s h=>.inr ⟨_,rfl,?_⟩⟩;rcases h with h|⟨l',h,_⟩
    .grind
    .cases h
   .refine⟨(ih z hz).1,λx e s h=>.inr ⟨_,rfl,?_⟩⟩
    grind
  |many q=>
   refine⟨⟨_,rfl⟩,λz hz=>?_⟩;rcases jT.1 hz with rfl|hz
   .refine⟨hy,λx e s h=>.inr ⟨_,rfl,?_⟩⟩;rcases h with h|⟨l',h,hm⟩
    .cases h
    .grind
   .refine⟨(ih z hz).1,λx e s h=>.inr ⟨_,rfl,?_⟩⟩
    grind
theorem ay9{r:RC}{k:Ex->Env->St->RC}(h:bC r k≠.no):r≠.no/\∀x e s,gZ r x e s->k x e s≠.no/\∀x' e' s',gZ (k x e s) x' e' s'->gZ (bC r k) x' e' s':=by
 cases r with
 |no=>exact absurd rfl h
 |one x0 e0 s0=>
  refine⟨λh=>(by cases h),λx e s hx=>?_⟩;rcases hx with hx|⟨l,hx,_⟩
  .injection hx with h1 h2 h3;subst h1;subst h2;subst h3;exact⟨h,λ_ _ _ h=>h⟩
  .cases hx
 |many l=>
  refine⟨λh=>(by cases h),λx e s hx=>?_⟩;have h0:bC (.many l) k=pW (iO (λw=>k w.1 w.2.1 w.2.2) l):=rfl;rw[h0]at h⊢;rcases hx with hx|⟨l',hx,hm⟩
  .cases hx
  .injection hx with hx;subst hx
   refine(ae2 h).2 _ ?_;rw[wQ]
   grind
theorem dm6{op:OO}{d:OD}{ih:OL}{up:Runner}(h:AA op d ih up e s≠.no):op.run up e s≠.no/\∀v s',Has (op.run up e s) v s'->ih.run up (d.set v e) s'≠.no/\∀x e' s2,gZ (ih.run up (d.set v e) s') x e' s2->gZ (AA op d ih up e s) x e' s2:=by
 have h0:AA op d ih up e s=RO.rec (motive:=λ_=>OD->OL->Runner->Env->RC) stN stO stM (op.run up e s) d ih up e:=rfl;rw[h0]at h⊢;generalize op.run up e s=r at h⊢;cases r with
 |no=>exact absurd rfl h
 |one v0 s0=>
  refine⟨λh=>(by cases h),λv s' hv=>?_⟩;rcases hv with hv|⟨l,hv,_⟩
  .injection hv with h1 h2;subst h1;subst h2;exact⟨h,λ_ _ _ h=>h⟩
  .cases hv
 |many l=>
  refine⟨λh=>(by cases h),λv s' hv=>?_⟩;rcases hv with hv|⟨l',hv,hm⟩
  .cases hv
  .injection hv with hv;subst hv
   replace h:pW (iO (λw=>stO w.1 w.2 d ih up e) l)≠.no:=h;have:=(ae2 h).2 (stO v s' d ih up e) (by rw[wQ];exact iV.2 ⟨_,hm,rfl⟩);exact this
theorem ci0:∀{l:List RO},tN l≠.no->∀y∈l,y≠.no/\∀v s,Has y v s->Has (tN l) v s:=by
 have one:∀r v s,Has (RO.many r) v s↔(v,s)∈r:=λr v s=>⟨λh=>by
  rcases h with h|⟨l',h,hm⟩
  .cases h
  .injection h with h;subst h;exact hm,λh=>.inr ⟨r,rfl,h⟩⟩
 have key:∀l:List RO,(List.rec (motive:=λ_=>RO) (.many []) (λy _ ih=>qA y ih) l:RO)≠.no->(∃r,(List.rec (motive:=λ_=>RO) (.many []) (λy _ ih=>qA y ih) l:RO)=.many r)/\
  ∀y∈l,y≠.no/\∀v s,Has y v s->Has (List.rec (motive:=λ_=>RO) (.many []) (λy _ ih=>qA y ih) l) v s:=by
  intro l;induction l with
  |nil=>exact λ_=>⟨⟨[],rfl⟩,λy hy=>by simp at hy⟩
  |cons y l ih=>
   intro h;have h0:(List.rec (motive:=λ_=>RO) (.many []) (λy _ ih=>qA y ih) (y::l):RO)=qA y (List.rec (motive:=λ_=>RO) (.many []) (λy _ ih=>qA y ih) l):=rfl;rw[h0]at h⊢;have hl:(List.rec (motive:=λ_=>RO) (.many []) (λy _ ih=>qA y ih) l:RO)≠.no:=λe=>h (by rw[e];cases y<;>rfl)
   have hy:y≠.no:=λe=>h (by rw[e];generalize (List.rec (motive:=λ_=>RO) (.many []) (λy _ ih=>qA y ih) l:RO)=z;cases z<;>rfl)
   obtain⟨⟨r,hr⟩,ih⟩:=ih hl;rw[hr]at ih⊢;cases y with
   |no=>grind
   |one v0 s0=>
    refine⟨⟨_,rfl⟩,λz hz=>?_⟩;rcases jT.1 hz with rfl|hz
    .refine⟨hy,λv s h=>.inr ⟨_,rfl,?_⟩⟩;rcases h with h|⟨l',h,_⟩
     .grind
     .cases h
    .exact⟨(ih z hz).1,λv s h=>.inr ⟨_,rfl,NR _ ((one r v s).1 ((ih z hz).2 v s h))⟩⟩
   |many q=>
    refine⟨⟨_,rfl⟩,λz hz=>?_⟩;rcases jT.1 hz with rfl|hz
    .refine⟨hy,λv s h=>.inr ⟨_,rfl,BO _ ((one q v s).1 h)⟩⟩
    .exact⟨(ih z hz).1,λv s h=>.inr ⟨_,rfl,BP _ ((one r v s).1 ((ih z hz).2 v s h))⟩⟩
 intro l h y hy
 match l,h,hy with
 |[z],h,hy=>
  have:y=z:=by grind
  subst this;exact⟨h,λ_ _ h=>h⟩
 |z::z'::r,h,hy=>exact(key _ h).2 y hy
theorem bK6{r:RC}{k:Ex->Env->St->RO}(h:RC.rec (motive:=λ_=>RO) .no k (λl=>tN (iO (λw=>k w.1 w.2.1 w.2.2) l)) r≠.no):
 r≠.no/\∀x e s,gZ r x e s->k x e s≠.no/\∀v s',Has (k x e s) v s'->Has (RC.rec (motive:=λ_=>RO) .no k (λl=>tN (iO (λw=>k w.1 w.2.1 w.2.2) l)) r) v s':=by
 cases r with
 |no=>grind
 |one x0 e0 s0=>
  refine⟨λh=>(by cases h),λx e s hx=>?_⟩;rcases hx with hx|⟨l,hx,_⟩
  .grind
  .cases hx
 |many l=>
  refine⟨λh=>(by cases h),λx e s hx=>?_⟩;rcases hx with hx|⟨l',hx,hm⟩
  .cases hx
  .injection hx with hx;subst hx
   have:=ci0 (l:=iO (λw=>k w.1 w.2.1 w.2.2) l) h (k x e s) (by rw[wQ];exact iV.2 ⟨_,hm,rfl⟩);exact this
theorem dg0(d:Nat)(v:AV)(e:Env):kH (some d) v e=wG d v e:=rfl
theorem aB.put{d:Option Nat}{v:AV}{x:Value}(he:aB ρ e a.tmps)(hd:inRange a.tmps.size d=true)(hx:RV ρ v x):aB ρ (kH d v e) (a.put d x).tmps:=by
 cases d with
 |none=>exact he
 |some d=>
  intro t y ht;have hlt:d<a.tmps.size:=dJ hd;have e1:(a.put (some d) x).tmps=a.tmps.setIfInBounds d x:=rfl;rw[e1];rcases bm2 ht with⟨rfl,rfl⟩|⟨hne,h1⟩
  .grind
  .obtain⟨z,h2,h3⟩:=he t y h1
   grind
theorem put_defers(a:Act)(d:Option Nat)(x:Value):(a.put d x).defers=a.defers:=by cases d<;>rfl
theorem SE(a:Act)(d:Option Nat)(x:Value):(a.put d x).tmps.size=a.tmps.size:=by
 cases d with
 |none=>rfl
 |some d=>show(a.tmps.setIfInBounds d x).size=_;simp
theorem jL.put{d:Option Nat}{v:AV}{x:Value}{s':St}{ρ':Ren}{w':World}(h:Pre S B m ρ e s a w)(hd:inRange m d=true)(hx':Ext ρ ρ')(hR:Rl S w ρ' s' w')(hro:s'.ro=s.ro)(hnx:s.nx<=s'.nx)(hx:RV ρ' v x):
 jL S B m ρ s w (kH d v e) s' ρ' (a.put d x) w':=
 ⟨hx',hR,hro,hnx,aB.put (h.env.ext hx') (by rw[h.sz];exact hd) hx,(SE _ _ _).trans h.sz,by rw[put_defers];exact h.bG.kept hR.kept,X4 h.bw hR.kept.size⟩
theorem unR:RV ρ un undef:=a02
theorem a95{all:List Oper}{o:Oper}{g:Nat×Bool}{q:Bool}(hg:o.guard=some g)(h:rF all e g=some q)(he:aB ρ e a.tmps):Region.wanted o (yielded all.toArray a.tmps)=q:=by
 obtain⟨oj,h1,h⟩:=P6 h;obtain⟨d,h2,h⟩:=P6 h;obtain⟨v,h3,h⟩:=P6 h;rw[yR]at h1;have hd:(all.toArray[g.1]?).bind (·.dst)=some d:=by grind
 obtain⟨x,h4,h5⟩:=he d v h3;have hgd:a.tmps.getD d undef=x:=by rw[aT,h4];rfl
 obtain⟨j,want⟩:=g;simp only at h hd;split at h
 .rename_i b;injection h with h
  subst h;have hx:x=.bool b:=by cases h5;rfl
  rw[hx]at hgd;simp only[Region.wanted,hg,aw9 hd hgd];cases b<;>cases want<;>rfl
 .injection h with h
  subst h;have hx:x=undef:=by
   cases h5 with
   |t cs vs h1 h2=>
    have:vs=[]:=lX h1.symm;subst this;rfl
  rw[hx]at hgd;simp[Region.wanted,hg,bb7 hd hgd]
 .cases h
theorem aP5{up:Runner}(hop:∀o:Oper,aU P o (gQ o.op up)){τ:Option Nat}{all:List Oper}{Q:Exit->Act->World->Prop}:∀(l:List Oper)(ρ:Ren)(e:Env)(s:St)(a:Act)(w:World),EN m l=true->Pre S B m ρ e s a w->(qB all l).run up e s≠.no->
 (∀x e' s' ρ' a' w',gZ ((qB all l).run up e s) x e' s'->jL S B m ρ s w e' s' ρ' a' w'->Q (yO x) a' w')->wpListIn (dG τ) 0 P all.toArray Q l a w
 |[],ρ,e,s,a,w,_,hp,_,hQ=>hQ .n e s ρ a w (.inl rfl) hp
 |o::rest,ρ,e,s,a,w,ho,hp,h,hQ=>by
  have hd:inRange m o.dst=true:=yB ho o (by simp);have hrest:EN m rest=true:=by
   have h0:EN m (o::rest)=bq (inRange m o.dst) (EN m rest) false:=rfl;rw[h0,hd]at ho;exact ho
  have exec:AA (qC o.op) (yI o.dst) (qB all rest) up e s≠.no->(∀x e' s',gZ (AA (qC o.op) (yI o.dst) (qB all rest) up e s) x e' s'->gZ ((qB all (o::rest)).run up e s) x e' s')->
   Region.wanted o (yielded all.toArray a.tmps)=true->wpListIn (dG τ) 0 P all.toArray Q (o::rest) a w:=by
   intro h hin hw;unfold wpListIn;rw[I4 hw];obtain⟨h1,h2⟩:=dm6 h;refine hop o S w ρ e s a w _ _ h1 hp.env hp.rl (λv s' ρ' x w' hv hx hR hro hnx gV=>?_) τ;obtain⟨h3,h4⟩:=h2 v s' hv;have hp':=jL.put hp hd hx hR hro hnx gV;exact aP5 hop rest ρ' _ s' _ w' hrest hp'.pre h3 λx e' s2 ρ2 a2 w2 hh hq=>hQ x e' s2 ρ2 a2 w2 (hin _ _ _ (h4 _ _ _ hh)) (hp'.trans hq)
  cases hg:o.guard with
  |none=>
   have e0:(qB all (o::rest)).run=AA (qC o.op) (yI o.dst) (qB all rest):=by
    show(Option.rec (motive:=λ_=>OL) _ _ o.guard:OL).run=_;rw[hg];rfl
   refine exec (by rw[<-e0];exact h) (λ_ _ _ h=>by rw[e0];exact h) (by simp[Region.wanted,hg])
  |some g=>
   have e0:(qB all (o::rest)).run=bp9 all g (qC o.op) (yI o.dst) (qB all rest):=by
    show(Option.rec (motive:=λ_=>OL) _ _ o.guard:OL).run=_;rw[hg];rfl
   have e1:∀q,rF all e g=some q->(qB all (o::rest)).run up e s=bq q (AA (qC o.op) (yI o.dst) (qB all rest) up e s) ((qB all rest).run up ((yI o.dst).set un e) s):=λq hq=>by
    rw[e0];show(Option.rec (motive:=λ_=>RC) _ _ (rF all e g):RC)=_;rw[hq]
    try rfl
   cases hq:rF all e g with
   |none=>
    exfalso;apply h;rw[e0];show(Option.rec (motive:=λ_=>RC) _ _ (rF all e g):RC)=_;rw[hq]
    try rfl
   |some q=>
    have hw:=a95 hg hq hp.env;have e2:=e1 q hq;cases q with
    |true=>exact exec (by rw[e2]at h;exact h) (λ_ _ _ h=>by rw[e2];exact h) hw
    |false=>
     rw[e2]at h hQ;unfold wpListIn;rw[F9 (by simp[hw])];have hp':=jL.put (v:=un) (x:=undef) hp hd (Ext.refl _) hp.rl rfl (J6 _) unR;exact⟨λ_ _=>trivial,aP5 hop rest ρ _ s _ w hrest hp'.pre h λx e' s2 ρ2 a2 w2 hh hq=>hQ x e' s2 ρ2 a2 w2 hh (hp'.trans hq)⟩
end
def ax3(P:Program)(f:FuncId)(args:List AV)(s:St)(r:RO):Prop:=r≠.no->pO P f/\∀(S:Nat->Prop)(ρ:Ren)(vs:List Value)(w:World),J8 ρ args vs->Rl S w ρ s w->
 Calls P f vs.toArray w λen w'=>∃v s' ρ' x,en=.returned x/\Has r v s'/\Ext ρ ρ'/\Rl S w ρ' s' w'/\s'.ro=s.ro/\s.nx<=s'.nx/\RV ρ' v x
structure oG(P:Program):Prop where
 ty:∀t i,H8 t=some i->N8 P t i
 sk:∀t,TD t=true->P.stoodInHeld t=false
 VG:∀n,2<=n->liesAt P P.depth kQ (n/P.cellsOf kQ) 0 af4 1=true
 mixed:P.follows .mixedOrders=true
 fn:∀f F,DC f=some F->P.funcs[f]?=some F/\(F.name== "runtime.NumGoroutine")=false/\aE8 F=true
 ext:∀f g,aD6 f=some g->pO P f/\∀(ρ:Ren)(args:List AV)(v:AV)(vs:List Value)(w:World),g args=some v->J8 ρ args vs->GE w->Calls P f vs.toArray w λen w'=>∃x,en=.returned x/\RV ρ v x/\Below w.heap.size w w'
 bn2:∀f g,aD8 f=some g->∀(ρ:Ren)(args:List AV)(v:AV)(vs:List Value)(w:World),g args=some v->J8 ρ args vs->GE w->∃x,(callFunc f vs.toArray).run P w=.ok (.value x) w/\RV ρ v x
section
variable{P:Program}{S:Nat->Prop}{w0:World}{ρ:Ren}{e:Env}{s:St}{a:Act}{w:World}{B m:Nat}
theorem U6.aN4{b:Nat}{o:AO}{L:Loc}(h:U6 ρ w b o)(hL:ρ b=some L):w.heap[L.blk]?≠some jZ:=by
 intro hd;cases o with
 |c el cs=>
  obtain⟨L',arr,h1,h2,h3,_⟩:=h;rw[hL]at h1;injection h1 with h1;subst h1;rw[h3]at hd;exact nomatch hd
 |m es=>
  obtain⟨L',arr,h1,h2,_⟩:=h;rw[hL]at h1;injection h1 with h1;subst h1;rw[h2]at hd;exact nomatch hd
 |l q e ps aA body j=>
  obtain⟨L',R,h1,h2,_⟩:=h;rw[hL]at h1;injection h1 with h1;subst h1;rw[h2]at hd;exact nomatch hd
 |si l pos=>
  obtain⟨L',b',h1,h2,_⟩:=h;rw[hL]at h1;injection h1 with h1;subst h1;rw[h2]at hd;exact nomatch hd
 |mi m' seen n=>
  obtain⟨L',M,h1,h2,h3,_⟩:=h;rw[hL]at h1;injection h1 with h1;subst h1;rw[h3]at hd;exact nomatch hd
theorem Rl.shut(hR:Rl S w0 ρ s w){r:Nat}(hD:w.heap[r]?=some jZ)(hB:w0.heap.size<=r):Rl S w0 ρ s (w.putObj r (.deferred none)):=by
 have hoth:∀k,k≠r->(w.putObj r (.deferred none)).heap[k]?=w.heap[k]?:=λk hk=>gK hk
 refine{ hR with
  kept:=⟨hR.kept.os,hR.kept.tape,hR.kept.output,by simpa using hR.kept.size,λk hk=>(hoth k (λe=>by have:=hR.slt k hk;omega)).trans (hR.kept.block k hk),
   λk hk=>(hoth k (λe=>by have:=(V4.1 hk).1;omega)).trans (hR.kept.bG k hk)⟩
  obj:=λb o hb=>(hR.obj b o hb).world λL hL=>hoth _ λe=>?_ }
 exact(hR.obj b o hb).aN4 hL (e▸hD)
theorem bn1{fn:Func}{R:Ending->World->Prop}{tm:Array Value}:∀(ds:List Deferred)(w:World),kL w0.heap.size w ds->Rl S w0 ρ s w->
 (∀w',Rl S w0 ρ s w'->LeavesIn (dG none) 0 P fn tm R [] .returning w')->LeavesInM (dG none) 0 P fn tm R ds .returning w
 |[],w,_,hR,h=>h w hR
 |d::ds,w,⟨⟨r,hr,hD,hB,hne⟩,hds⟩,hR,h=>⟨λe=>(nomatch e),.inl ⟨r,_,by rw[hr],run_takeDeferred hD,bn1 ds _ (kL.put hne hds) (hR.shut hD hB) h⟩⟩
theorem bL9(hT:∀t i,H8 t=some i->N8 P t i)(hR:Rl S w0 ρ s w)(he:aB ρ e a.tmps){rv:ResultVar}{v:AV}(h:ap2 e s rv=some v):∃x,(oZ a rv).run P w=.ok x w/\RV ρ v x:=by
 cases rv with
 |tmp t=>
  obtain⟨x,h1,h2⟩:=he t v h;exact⟨x,by simp[oZ,aT,h1],h2⟩
 |cell y t=>
  unfold ap2 at h;simp only at h;split at h
  .rename_i b o hy;obtain⟨wv,h1,h2⟩:=P6 h;unfold ap7 at h1;split at h1
   .rename_i el cs hb;injection h1 with h1
    subst h1;obtain⟨x,h3,h4⟩:=he y _ hy;obtain⟨L,g1,rfl⟩:=sO h4;obtain⟨L',arr,q1,q2,q3,q4,q5⟩:=hR.cells hb;rw[g1]at q1;injection q1 with q1
    subst q1;obtain⟨z,k1,k2⟩:=bO0 (P:=P) hT q3 q5 h2;refine⟨z,?_,k2⟩;simp only[Instr.loadAt,Instr.sureAddr,I7,Q5,N9]at k1;simp only[oZ,aT,h3,Option.getD_some,asAddr,I7,Q5,N9,k1]
   .cases h1
  .cases h
theorem bL7(hT:∀t i,H8 t=some i->N8 P t i)(hR:Rl S w0 ρ s w)(he:aB ρ e a.tmps):∀{rs:List ResultVar}{r:List AV},bL6 rs e s=some r->
 ∃vs,(rs.mapM λrv=>oZ a rv).run P w=.ok vs w/\J8 ρ r vs/\vs.length=rs.length
 |[],r,h=>by cases h;exact⟨[],by simp,J8.nil _,rfl⟩
 |rv::rs,r,h=>by
  obtain⟨v,h1,h2⟩:=P6 h;obtain⟨r',h3,h4⟩:=P6 h2;injection h4 with h4
  subst h4;obtain⟨x,h5,h6⟩:=bL9 hT hR he h1;obtain⟨vs,h7,h8,h9⟩:=bL7 hT hR he h3;exact⟨x::vs,by simp only[List.mapM_cons,I7,h5,N9,h7,Q5],J8.cons h6 h8,by simp[h9]⟩
theorem YZ(hT:∀t i,H8 t=some i->N8 P t i)(hR:Rl S w0 ρ s w)(he:aB ρ e a.tmps){fn:Func}{v:AV}(h:jG e s fn.results.toList=some v):∃x,(results fn a.tmps).run P w=.ok x w/\RV ρ v x:=by
 unfold jG at h;split at h
 .rename_i rv hrs;obtain⟨x,h1,h2⟩:=bL9 hT hR he h;exact⟨x,SQ hrs h1,h2⟩
 .rename_i l hne;obtain⟨r,h1,h2⟩:=P6 h;injection h2 with h2
  subst h2;obtain⟨vs,h3,h4,h5⟩:=bL7 hT hR he h1;refine⟨_,aT1 h3 (λe1=>?_),.t _ _ h4.1 h4.2⟩;rw[h5]at e1;obtain⟨rv,gV⟩:=List.length_eq_one_iff.1 e1
  grind
theorem bf7:∀{args:List AV}{vs:List Value}(i:Nat)(e:Env)(tm:Array Value),J8 ρ args vs->aB ρ e tm->(∀(j:Nat)(x:Value),vs[j]?=some x->tm[i+j]?=some x)->
 aB ρ ((List.rec (motive:=λ_=>Nat->Env->Env) (λ_ e=>e) (λx _ ih i e=>ih (Nat.succ i) (wG i x e)) args:Nat->Env->Env) i e) tm
 |[],vs,i,e,tm,_,he,_=>he
 |v::args,vs,i,e,tm,hv,he,ht=>by
  match vs,hv with
  |[],hv=>have:=hv.1;simp at this
  |x::vs,hv=>
   have h0:RV ρ v x:=hv.2 0 v x rfl rfl;have hs:J8 ρ args vs:=⟨by have:=hv.1;simpa using this,λj c y h1 h2=>hv.2 (j+1) c y (by simpa using h1) (by simpa using h2)⟩;refine bf7 (i+1) (wG i v e) tm hs (λt y hy=>?_) λj y hy=>?_
   .rcases bm2 hy with⟨rfl,rfl⟩|⟨_,h1⟩
    .exact⟨x,ht 0 x rfl,h0⟩
    .exact he t y h1
   .have:=ht (j+1) y (by simpa using hy)
    grind
theorem bh0(hP:oG P){up:Runner}(hup:tK P up){f:FuncId}{F:Func}{c:Code}(hF:DC f=some F)(hc:F.body=some c){args:List AV}{vs:List Value}(hl:args.length<=F.ntmps)(hv:J8 ρ args vs)(hR:Rl S w ρ s w)
 (hne:up c (GZ args) s≠.no) {R:Ending->World->Prop}
 (hend:∀(x:Ex)(e':Env)(s':St)(ρ':Ren)(a':Act)(w':World),gZ (up c (GZ args) s) x e' s'->Ext ρ ρ'->Rl S w ρ' s' w'->s'.ro=s.ro->s.nx<=s'.nx->aB ρ' e' a'.tmps->(∀id,x≠.x id)/\∃v,(results F a'.tmps).run P w'=.ok v w'/\R (.returned v) w'):Calls P f vs.toArray w R:=by
 obtain⟨hf,hnm,hok⟩:=hP.fn f F hF;have hok:codeOk F.ntmps c=true:=by unfold aE8 at hok;rw[hc]at hok;exact hok
 have hvl:vs.length<=F.ntmps:=by rw[<-hv.1];exact hl
 have hpre:Pre S w.heap.size F.ntmps ρ (GZ args) s { tmps:=vs.toArray++Array.replicate (F.ntmps-vs.toArray.size) undef,defers:=[] } w:=
  ⟨Ext.refl _,hR,rfl,J6 _,bf7 0 zeroE _ hv (λt y hy=>by rw[dB2]at hy;cases hy) (λj x hj=>by
    have hlt:=(O4.1 hj).1;simp only[V7];rw[NG (by simpa using hlt)]
    simpa using hj),by simp;omega,trivial,J6 _⟩
 refine OH.1 (callsIn_of_wp_marks (F:=dG none) (n:=0) hf hc trivial ?_);refine hup c F.ntmps hok none (.inl rfl) S w.heap.size ρ (GZ args) s _ w _ hpre hne λx e' s' ρ' a' w' hh hp=>?_;have fin:(∀id,x≠.x id)->LeavesInM (dG none) 0 P F a'.tmps R a'.defers .returning w':=λ_=>
  bn1 a'.defers w' hp.bG hp.rl λw2 hR2=>(hend x e' s' ρ' a' w2 hh hp.ext hR2 hp.ro hp.nx hp.env).2
 have hx:=(hend x e' s' ρ' a' w' hh hp.ext hp.rl hp.ro hp.nx hp.env).1;cases x with
 |n=>exact fin hx
 |r=>exact fin hx
 |x id=>grind
theorem cm2(hP:oG P){up:Runner}(hup:tK P up){f:FuncId}{F:Func}(hF:DC f=some F)(args:List AV)(s:St):ax3 P f args s (OE up F args s):=by
 intro h;unfold OE at h⊢;have h1:=X6 h;rw[h1,X7]at h⊢;have h1:=H6 h1;rw[jC]at h1;obtain⟨c,h2,h3⟩:=I8 h;rw[h3]at h⊢;clear h3;obtain⟨h4,h5⟩:=bK6 h;generalize (RC.rec (motive:=λ_=>RO) .no (WE F.results.toList) (λl=>tN (iO (λw=>WE F.results.toList w.1 w.2.1 w.2.2) l)) (up c (GZ args) s):RO)=RR at h h5⊢;obtain⟨hf,hnm,_⟩:=hP.fn f F hF;refine⟨⟨F,hf,hnm,by rw[h2];rfl⟩,λS ρ vs w hv hR=>?_⟩;refine bh0 hP hup hF h2 h1 hv hR h4 λx e' s' ρ' a' w' hh hx hR' hro hnx he=>?_;obtain⟨h6,h7⟩:=h5 x e' s' hh;have res:oR (jG e' s' F.results.toList) (λa=>RO.one a s')≠.no->(∀v s'',Has (oR (jG e' s' F.results.toList) λa=>RO.one a s') v s''->Has (WE F.results.toList x e' s') v s'')->
  ∃v,(results F a'.tmps).run P w'=.ok v w'/\∃v' s'' ρ' x,Ending.returned v=.returned x/\Has RR v' s''/\Ext ρ ρ'/\Rl S w ρ' s'' w'/\s''.ro=s.ro/\s.nx<=s''.nx/\RV ρ' v' x:=by
  intro g1 g2;obtain⟨u,g3,g4⟩:=I8 g1;obtain⟨y,g5,g6⟩:=YZ hP.ty hR' he g3;exact⟨y,g5,u,s',ρ',y,rfl,h7 u s' (g2 u s' (.inl g4)),hx,hR',hro,hnx,g6⟩
 cases x with
 |n=>exact⟨λid e=>(by cases e),res h6 λ_ _ h=>h⟩
 |r=>exact⟨λid e=>(by cases e),res h6 λ_ _ h=>h⟩
 |x id=>exact absurd rfl h6
theorem bP2{v:AV}{x:Value}{ρ':Ren}(h:ZW v=true)(hx:RV ρ v x):RV ρ' v x:=by
 cases hx<;>first|(simp[ZW]at h;done)|constructor
theorem ay7{a b:AV}(h:NZ a b=true):a=b:=by
 unfold NZ at h;split at h
 .rename_i k n j m;rw[V8]at h;split at h
  .rename_i hk;rw[sJ hk,F8 h]
  .cases h
 .rename_i k n j m;rw[V8]at h;split at h
  .rename_i hk;rw[sJ hk,F8 h]
  .cases h
 .rename_i p q;cases p<;>cases q<;>first|rfl|cases h
 .rename_i l m;rw[bm7]at h;rw[gB h]
 all_goals first|rfl|cases h
theorem bg1:∀{l m:List AV},ae6 l m=true->l=m
 |[],[],_=>rfl
 |[],_::_,h=>by cases h
 |_::_,[],h=>by cases h
 |x::l,y::m,h=>by
  have h0:ae6 (x::l) (y::m)=bq (NZ x y) (ae6 l m) false:=rfl;rw[h0,V8]at h;split at h
  .rename_i hx;rw[ay7 hx,bg1 h]
  .cases h
theorem co9{a b:CI}(h:ah0 a b=true):a=b:=by
 unfold ah0 at h;split at h
 .rw[ay7 h]
 .rw[V8]at h;split at h
  .rename_i h1;rw[V8]at h;split at h
   .rename_i h2;rw[F8 h1,F8 h2,bg1 h]
   .cases h
  .cases h
 .cases h
theorem bk4:∀{l m:A},VN l m=true->l=m
 |[],[],_=>rfl
 |[],_::_,h=>by cases h
 |_::_,[],h=>by cases h
 |x::l,y::m,h=>by
  have h0:VN (x::l) (y::m)=bq (ah0 x y) (VN l m) false:=rfl;rw[h0,V8]at h;split at h
  .rename_i hx;rw[co9 hx,bk4 h]
  .cases h
theorem cM0{rs:List ResultVar}{rc:RC}{r:A}(h:bv6 rs rc=some r):rc≠.no/\∀x e s,gZ rc x e s->JD rs x e s=some r:=by
 cases rc with
 |no=>cases h
 |one x0 e0 s0=>
  refine⟨λh=>(by cases h),λx e s hx=>?_⟩;rcases hx with hx|⟨l,hx,_⟩
  .injection hx with h1 h2 h3;subst h1;subst h2;subst h3;exact h
  .cases hx
 |many l=>
  refine⟨λh=>(by cases h),λx e s hx=>?_⟩;rcases hx with hx|⟨l',hx,hm⟩
  .cases hx
  .injection hx with hx
   subst hx;replace h:(match iO (λw:Ex×Env×St=>JD rs w.1 w.2.1 w.2.2) l with|[]=>none|x::r=>oB x λa=>ZV a r)=some r:=h;rw[wQ]at h;have same:∀(a:A)(q:List (Option A))(b:A),ZV a q=some b->a=b/\∀y∈q,y=some a:=by
    intro a q;induction q with
    |nil=>intro b h;cases h;exact⟨rfl,λy hy=>by simp at hy⟩
    |cons y q ih=>
     intro b h;obtain⟨c,h1,h2⟩:=P6 (show oB y (λb=>bq (VN a b) (ZV a q) none)=some b from h);rw[V8]at h2;split at h2
     .rename_i hc;have:=bk4 hc
      grind
     .cases h2
   have hmem:JD rs x e s∈l.map λw:Ex×Env×St=>JD rs w.1 w.2.1 w.2.2:=iV.2 ⟨_,hm,rfl⟩;revert h hmem;generalize (l.map λw:Ex×Env×St=>JD rs w.1 w.2.1 w.2.2)=q;intro h hmem
   match q,h,hmem with
   |y::q,h,hmem=>
    obtain⟨c,h1,h2⟩:=P6 (show oB y (λa=>ZV a q)=some r from h)
    grind
theorem aL5(hT:∀t i,H8 t=some i->N8 P t i){S':Nat->Prop}{ρ':Ren}{s':St}{w2:World}(hro:∀b o L,s.h.get (pa b)=some o->ρ b=some L->S' L.blk)(hsub:∀k,S k->S' k)(hR':Rl S' w0 ρ' s' w2){K:List AV->St->RO}:
 ∀(cs:List AV)(xs:List Value)(r:A)(s1:St)(ρ1:Ren)(acc:List AV)(GY:List Value),ah2 cs s'=some r->J8 ρ' cs xs->Rl S w0 ρ1 s1 w2->Ext ρ ρ1->s.nx<=s1.nx->s1.ro=s.ro->J8 ρ1 acc GY->
  (bF9 r=true/\s1=s/\ρ1=ρ\/allB (λc=>bq (ak9 c) false true) r=true)->
  ∃vs sF ρF,zI r s1 acc K=K vs sF/\Ext ρ ρF/\Rl S w0 ρF sF w2/\sF.ro=s.ro/\s.nx<=sF.nx/\J8 ρF vs (GY++xs)
 |[],xs,r,s1,ρ1,acc,GY,hc,hx,hR,hx1,hnx,hr1,hacc,_=>by
  cases hc
  match xs,hx with
  |[],_=>exact⟨acc,s1,ρ1,rfl,hx1,hR,hr1,hnx,by simpa using hacc⟩
  |_::_,hx=>have:=hx.1;simp at this
 |c::cs,xs,r,s1,ρ1,acc,GY,hc,hx,hR,hx1,hnx,hr1,hacc,hone=>by
  obtain⟨ci,h1,h2⟩:=P6 hc;obtain⟨r',h3,h4⟩:=P6 h2;injection h4 with h4
  subst h4
  match xs,hx with
  |[],hx=>have:=hx.1;simp at this
  |x::xs,hx=>
   have hx0:RV ρ' c x:=hx.2 0 c x rfl rfl;have hxs:J8 ρ' cs xs:=⟨by have:=hx.1;simpa using this,λj u y g1 g2=>hx.2 (j+1) u y (by simpa using g1) (by simpa using g2)⟩;have dN2:∀v,v=c->ZW v=true->ci=.v v->∃vs sF ρF,zI (ci::r') s1 acc K=K vs sF/\Ext ρ ρF/\Rl S w0 ρF sF w2/\sF.ro=s.ro/\s.nx<=sF.nx/\J8 ρF vs (GY++x::xs):=by
    intro v hv hs hci;subst hv;subst hci;have h0:zI (.v v::r') s1 acc K=zI r' s1 (dW acc [v]) K:=rfl;rw[h0,oI];obtain⟨vs,sF,ρF,g1,g2⟩:=aL5 hT hro hsub hR' cs xs r' s1 ρ1 (acc++[v]) (GY++[x]) h3 hxs hR hx1 hnx hr1 (hacc.append (J8.cons (bP2 hs hx0) (J8.nil _))) (hone.imp (λ⟨a1,a2⟩=>⟨a1,a2⟩) λa1=>a1);exact⟨vs,sF,ρF,g1,by simpa using g2⟩
   unfold bj1 at h1;split at h1
   .rename_i b o l cp _;obtain⟨k1,h1⟩:=lI h1;obtain⟨wr,k2,h1⟩:=P6 h1;obtain⟨k3,h1⟩:=lI h1;obtain⟨z,k4,h1⟩:=P6 h1;obtain⟨k5,h1⟩:=lI h1;obtain⟨ds,k6,h1⟩:=P6 h1;obtain⟨k7,h1⟩:=lI h1;injection h1 with h1
    subst h1;have k1:=H6 k1;unfold ap7 at k2;split at k2
    rotate_left
    .cases k2
    rename_i el row hb;injection k2 with k2
    subst k2;simp only at k3 k4 k5 k6;have hbl:el≠kQ:=λe1=>by rw[e1]at k3;simp[Nat.beq_refl]at k3
    obtain⟨i,k8,k9⟩:=P6 k4;injection k9 with k9
    subst k9;obtain⟨cap,off,L,hL,rfl,hl,hck,hoff,hbd⟩:=wY hx0;obtain⟨L',arr,q1,q2,q3,q4,q5⟩:=hR'.cells hb;rw[hL]at q1;injection q1 with q1
    subst q1;have hst:s=s1/\ρ=ρ1/\allB (λc=>bq (ak9 c) false true) r'=true:=by
     rcases hone with⟨a1,a2,a3⟩|a1
     .exact⟨a2.symm,a3.symm,a1⟩
     .cases a1
    obtain⟨rfl,rfl,hrest⟩:=hst;have hfit:∃i,H8 el=some i/\off+cap*i.size<=arr.size:=by
     refine⟨i,k8,?_⟩;cases cp with
     |none=>grind
     |some c0=>
      have hc0:=hck c0 rfl;subst hc0;unfold bi5 at k5;simp only[V8]at k5;split at k5
      .rename_i k10;have k10:=H6 k10;have k5:=H6 k5;replace k10:1<=cap*i.size:=k10;replace k5:o+cap*i.size<=bI row:=k5;rw[jC]at k5;have hcap:cap≠0:=λe1=>by grind
       rw[hoff.resolve_right hcap];obtain⟨_,y,hy,_⟩:=q5 (o+cap*i.size-1) _ (I9 (by omega))
       grind
      .cases k5
    obtain⟨d1,d2⟩:=q5.take k6;have bs0:¬S' L.blk:=hR'.own b _ L hb hL k1;have hne:∀c o M,s.h.get (pa c)=some o->ρ c=some M->M.blk≠L.blk:=λc o M hc hM e1=>bs0 (e1▸hro c o M hc hM);have hx':Ext ρ (aJ ρ s.nx ⟨L.blk,off,el,arr.size⟩):=ER hR.fresh _;have hRn:=hR.new (w':=w2) (o:=.c el ds) (L:=⟨L.blk,off,el,arr.size⟩) (Kept.refl _ _) (λ_ _ _ _ _=>rfl) (λhk=>bs0 (hsub _ hk)) hne
     ⟨_,arr,jF _ _,rfl,q3,rfl,λj u hj=>by
       have hlt:j<l*i.size:=by grind
       have hcap:cap≠0:=λe1=>by grind
       obtain⟨g1,y,g2,g3⟩:=d2 j u hj;have hsc:=yB k7 u (iC hj);refine⟨g1,y,?_,bP2 hsc g3⟩;rw[hoff.resolve_right hcap];simp only at g2⊢
       rw[<-g2];congr 1;omega⟩ (λcs e1=>absurd (by injection e1) hbl)
    have gV:RV (aJ ρ s.nx ⟨L.blk,off,el,arr.size⟩) (.s s.nx 0 l none) (.slice (some ⟨L.blk,off,none⟩) l cap):=
     .s _ _ _ cap off none ⟨L.blk,off,el,arr.size⟩ (jF _ _) hl (λk hk=>by cases hk) (.inl (by simp)) λ_=>hfit
    have h0:zI (.s el l ds::r') s acc K=zI r' ⟨s.h.set (pa s.nx) (some (.c el ds)),s.nx+1,s.ro⟩ (dW acc [.s s.nx 0 l none]) K:=by
     show(RO.rec (motive:=λ_=>RO) .no (λa s=>zI r' s (dW acc [a]) K) (λ_=>.no) (mM (.c el ds) (λb=>.s b 0 l none) s):RO)=_;rw[zK]
    rw[h0,oI];obtain⟨vs,sF,ρF,g1,g2,g3,g4,g5,g6⟩:=aL5 hT hro hsub hR' cs xs r' ⟨s.h.set (pa s.nx) (some (.c el ds)),s.nx+1,s.ro⟩ _ (acc++[.s s.nx 0 l none]) (GY++[.slice (some ⟨L.blk,off,none⟩) l cap]) h3 hxs hRn hx' (Nat.le_succ _) rfl
     ((hacc.ext hx').append (J8.cons gV (J8.nil _))) (.inr hrest)
    exact⟨vs,sF,ρF,g1,g2,g3,g4,g5,by simpa using g6⟩
   .obtain⟨h5,h6⟩:=lI h1
    grind
theorem cM1(hP:oG P){up:Runner}(hup:tK P up){f:FuncId}{F:Func}(hF:DC f=some F)(args:List AV)(s:St):ax3 P f args s (QB up F args s):=by
 intro h;unfold QB at h⊢;have h1:=X6 h;rw[h1,X7]at h⊢;have h1:=H6 h1;rw[jC]at h1;obtain⟨c,h2,h3⟩:=I8 h;rw[h3]at h⊢;clear h3;obtain⟨r,h4,h5⟩:=I8 h;rw[h5]at h⊢;clear h5;have h6:=X6 h;rw[h6,X7]at h⊢;obtain⟨h7,h8⟩:=cM0 h4;obtain⟨hf,hnm,_⟩:=hP.fn f F hF;refine⟨⟨F,hf,hnm,by rw[h2];rfl⟩,λS ρ vs w hv hR=>?_⟩;have dM0:(ZL s).nx=s.nx/\(ZL s).h=s.h/\(ZL s).ro=s.nx:=⟨rfl,rfl,rfl⟩
 let S':Nat->Prop:=λk=>S k\/∃b o L,s.h.get (pa b)=some o/\ρ b=some L/\L.blk=k
 have hRo:Rl S' w ρ (ZL s) w:=
  { kept:=Kept.refl _ _
    slt:=λk hk=>by
     rcases hk with hk|⟨b,o,L,g1,g2,g3⟩
     .exact hR.slt k hk
     .obtain⟨M,g4,g5⟩:=(hR.obj b o g1).loc
      grind
    gs:=λw' h=>hR.gs w' (h.mono λk hk=>.inl hk)
    fresh:=hR.fresh
    mP:=J6 _
    obj:=hR.obj
    own:=λb o L hb hL hr=>by
     have:=hR.lt hb
     grind
    jW:=hR.jW
    inj:=hR.inj }
 refine bh0 hP hup hF h2 h1 hv hRo h7 λx e' s' ρ' a' w' hh hx hR' hro hnx he=>?_;have hend:=h8 x e' s' hh;have res:oB (jG e' s' F.results.toList) (λa=>aA7 (zO F.results.toList) a s')=some r->∃v,(results F a'.tmps).run P w'=.ok v w'/\
  ∃v' s'' ρ' x,Ending.returned v=.returned x/\Has (by3 (zO F.results.toList) r s) v' s''/\Ext ρ ρ'/\Rl S w ρ' s'' w'/\s''.ro=s.ro/\s.nx<=s''.nx/\RV ρ' v' x:=by
  intro g1;obtain⟨u,g2,g3⟩:=P6 g1;obtain⟨y,g4,g5⟩:=YZ hP.ty hR' he g2;have hkept:Kept S w w':=⟨hR'.kept.os,hR'.kept.tape,hR'.kept.output,hR'.kept.size,λk hk=>hR'.kept.block k (.inl hk),hR'.kept.bG⟩;have hRs:Rl S w ρ s w':=hR.world hkept λb o L hb hL=>hR'.kept.block _ (.inr ⟨b,o,L,hb,hL,rfl⟩)
  have lay:∀(cs:List AV)(xs:List Value),ah2 cs s'=some r->J8 ρ' cs xs->∃vs sF ρF,zI r s [] (λr s=>match zO F.results.toList,r with
   |true,[a]=>RO.one a s
   |false,r=>.one (.t r) s
   |_,_=>.no)=(match zO F.results.toList,vs with
   |true,[a]=>RO.one a sF
   |false,r=>.one (.t r) sF
   |_,_=>.no)/\Ext ρ ρF/\Rl S w ρF sF w'/\sF.ro=s.ro/\s.nx<=sF.nx/\J8 ρF vs xs:=by
   intro cs xs q1 q2
   have:=aL5 (s:=s) (ρ:=ρ) (S:=S) (w0:=w) hP.ty (S':=S') (λb o L hb hL=>.inr ⟨b,o,L,hb,hL,rfl⟩) (λk hk=>.inl hk) hR' (K:=λr s=>match zO F.results.toList,r with
    |true,[a]=>RO.one a s
    |false,r=>.one (.t r) s
    |_,_=>.no) cs xs r s ρ [] [] q1 q2 hRs (Ext.refl _) (J6 _) rfl (J8.nil _) (.inl ⟨h6,rfl,rfl⟩)
   grind
  refine⟨y,g4,?_⟩;cases hone:zO F.results.toList with
  |true=>
   rw[hone]at g3 lay;obtain⟨vs',sF,ρF,k1,k2,k3,k4,k5,k6⟩:=lay [u] [y] g3 (J8.cons g5 (J8.nil _))
   match vs',k6,k1 with
   |[v'],k6,k1=>exact⟨v',sF,ρF,y,rfl,.inl k1,k2,k3,k4,k5,k6.2 0 v' y rfl rfl⟩
   |[],k6,_=>have:=k6.1;simp at this
   |_::_::_,k6,_=>have:=k6.1;simp at this
  |false=>
   rw[hone]at g3 lay;cases u with
   |t cs=>
    obtain⟨xs,rfl,q2⟩:=bO6 g5;obtain⟨vs',sF,ρF,k1,k2,k3,k4,k5,k6⟩:=lay cs xs g3 q2;exact⟨.t vs',sF,ρF,_,rfl,.inl k1,k2,k3,k4,k5,.t _ _ k6.1 k6.2⟩
   |_=>cases g3
 cases x with
 |n=>exact⟨λid e=>(by cases e),res hend⟩
 |r=>exact⟨λid e=>(by cases e),res hend⟩
 |x id=>cases hend
theorem aA3(hP:oG P){up:Runner}(hup:tK P up)(f:FuncId)(args:List AV)(s:St):ax3 P f args s (yG up f args s):=by
 intro h;unfold yG at h⊢;cases he:aD6 f with
 |some g=>
  rw[he]at h;obtain⟨v,h1,h2⟩:=I8 (show oR (g args) (λa=>RO.one a s)≠.no from h);obtain⟨hb,hx⟩:=hP.ext f g he;refine⟨hb,λS ρ vs w hv hR=>(hx ρ args v vs w h1 hv (hR.gs w hR.kept)).mono ?_⟩;rintro en w' ⟨x,rfl,gV,hbel⟩;refine⟨v,s,ρ,x,rfl,.inl h2,Ext.refl _,hR.world (.of_below hbel hR.slt) λb o L hb hL=>?_,rfl,J6 _,gV⟩;obtain⟨M,g1,g2⟩:=(hR.obj b o hb).loc;rw[hL]at g1;injection g1 with g1;subst g1
  exact hbel.block _ g2
 |none=>
  rw[he]at h;obtain⟨F,h1,h2⟩:=I8 (show oR (DC f) (λF=>bq (XO f) (QB up F args s) (OE up F args s))≠.no from h);have h3:oR (DC f) (λF=>bq (XO f) (QB up F args s) (OE up F args s))≠.no:=h;rw[h2]at h3;show pO P f/\∀(S:Nat->Prop)(ρ:Ren)(vs:List Value)(w:World),J8 ρ args vs->Rl S w ρ s w->Calls P f vs.toArray w λen w'=>∃v s' ρ' x,en=.returned x/\Has (oR (DC f) λF=>bq (XO f) (QB up F args s) (OE up F args s)) v s'/\Ext ρ ρ'/\Rl S w ρ' s' w'/\s'.ro=s.ro/\s.nx<=s'.nx/\RV ρ' v x;rw[h2];cases hj:XO f with
  |true=>rw[hj]at h3;exact cM1 hP hup h1 args s h3
  |false=>rw[hj]at h3;exact cm2 hP hup h1 args s h3
end
end
end Go.Ev
