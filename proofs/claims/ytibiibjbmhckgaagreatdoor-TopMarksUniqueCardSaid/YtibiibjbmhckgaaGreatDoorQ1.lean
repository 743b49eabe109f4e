import Derived.WalkKit
import Derived.RangeFuncRecord
import Derived.OrdersIn
set_option linter.unusedVariables false
set_option linter.unusedSimpArgs false
set_option linter.defProp false
namespace Go
abbrev G5:=@Nat.eq_of_beq_eq_true
abbrev G6:=@cond_false
abbrev H7:=@if_neg
abbrev H9:=@cond_true
abbrev I8:=@Nat.le_of_ble_eq_true
abbrev I9:=@if_pos
abbrev J6:=@Sem.run_bind
abbrev J9:=@List.getElem?_eq_getElem
abbrev N8:=@Nat.le_refl
abbrev O4:=@run_underlying
abbrev O8:=@Result.andThen_ok
abbrev P7:=@List.getElem?_eq_some_iff
abbrev P9:=@List.getElem?_map
abbrev U5:=@Sem.run_pure
abbrev X6:=@Array.getElem?_eq_some_iff
abbrev X9:=@Nat.zero_add
abbrev Y2:=@Nat.le_trans
abbrev Z4:=@Bool.and_eq_true
abbrev aF:=@Nat.zero_le
abbrev aH:=@Nat.lt_of_lt_of_le
abbrev aQ:=@Option.some.injEq
abbrev bJ:=@heap_alloc_new
abbrev bY:=@Array.getD_eq_getD_getElem?
abbrev cO:=@List.length_append
abbrev dN:=@List.getElem?_append_right
abbrev dX:=@List.getElem?_append_left
abbrev eX:=@List.getElem_of_mem
abbrev fJ:=@Nat.lt_or_ge
abbrev iI:=@Addr.add_lit
abbrev iJ:=@Nat.mul_le_mul_right
abbrev iW:=@Array.length_toList
abbrev iY:=@List.mem_append
abbrev iZ:=@List.mem_of_getElem?
abbrev jH:=@List.mem_map
abbrev jJ:=@Option.some.inj
abbrev kN:=@List.getElem?_take
abbrev kP:=@List.map_cons
abbrev kU:=@cell_of_row
abbrev lC:=@List.append_assoc
abbrev mD:=@List.eq_nil_of_length_eq_zero
abbrev mF:=@Nat.add_mul
abbrev nZ:=@List.ext_getElem?
abbrev oW:=@List.all_eq_true
abbrev pG:=@Nat.add_zero
abbrev pV:=@decide_true
abbrev rU:=@setRow_heap
abbrev sD:=@List.length_cons
abbrev vJ:=@heap_alloc_old
abbrev vW:=@setRow_other
abbrev xZ:=@List.mem_singleton
abbrev zL:=@Array.foldl_toList
abbrev zM:=@Array.getElem?_modify
abbrev EW:=@List.mem_append_left
abbrev EX:=@List.mem_append_right
abbrev FK:=@World.cell?_of_block
abbrev RG:=@List.getD_eq_getElem?_getD
abbrev RH:=@List.mem_cons_of_mem
end Go
namespace Go
abbrev E8:=Option Nat
abbrev H6:=List Value
abbrev F6:=List Int
abbrev Q8:=Nat->Value
abbrev dD:=Exit->Act->World->Prop
abbrev S9:=Array Value
abbrev U2:=Nat->Prop
abbrev O1:=List Nat
abbrev aB:=World->Prop
abbrev dH:=Option (Nat×Bool)
abbrev dU:=List (Nat×Nat)
abbrev U7:=Option (Bool)
abbrev Y4:=List Oper
abbrev kR:=Act->World->Prop
abbrev lI:=List (Int×Bool)
abbrev dO:=Array Edge
abbrev gQ:=Option (Int)
abbrev lH:=Array MapEntry
abbrev qQ:=Option (List Int)
abbrev mJ:=Nat->Bool
abbrev zY:=Array (Nat×Operand)
abbrev sH:=List ResultVar
abbrev mG:=List UInt8
abbrev qP:=Option Addr
abbrev FH:=Option (Nat×Nat)
abbrev pJ:=Array Oper
abbrev KU:=List (Nat×Operand)
abbrev uY:=Option Value
abbrev yD:=Array Operand
abbrev yE:=List MapEntry
abbrev zZ:=Option Operand
end Go
namespace Go.F7
open Go Go.RowKit
inductive CV where
 |v (x:Value)
 |agg (cs:List CV)
 |sl (sz:Nat) (ds:List (List CV))
 |pi (cs:List CV) (off:Nat)
 |fn (f:FuncId) (caps:List CV)
 |U6 (vs:List CV)
 |rs (t g:Nat)
 |ow (j:Nat)
 |pr (t g off:Nat)
 |mr (t g:Nat)
 |fr (f:FuncId) (caps:List CV)
 |mp (es:List (CV×CV))
 |wo (r:CV) (os:List (Nat×Nat×List (List CV)×Option (Nat×List CV)))
 |bp (T:Nat) (f:Bool)
abbrev G9:=List CV
abbrev dS:=List (List CV)
abbrev KT:=List (Nat×Nat×List (List CV)×Option (Nat×List CV))
abbrev uX:=Option (Nat×List CV)
abbrev uV:=List (CV×CV)
def CV.cells:CV->List CV
 |.agg cs=>cs
 |c=>[c]
def CV.atom:CV->Bool
 |.agg _=>false
 |.U6 _=>false
 |.wo _ _=>false
 |.v x=>x.oneCell'
 |_=>true
def CV.storable:CV->Bool
 |.agg _=>true
 |c=>c.atom
inductive FV where
 |fn (f:FuncId)
 |yl (l:Nat) (ts:List Value)
 |bd (f:FuncId)
instance {n:Nat}:OfNat FV n:=⟨.fn n⟩
def FV.val:FV->List Value->Value
 |.fn f,vs=>.func (.func f) #[] vs.toArray
 |.yl l _,_=>.func (.yield l) #[] #[]
 |.bd f,vs=>.func (.func f) vs.toArray #[]
def FV.ok:FV->List Value->Prop
 |.fn _,_=>True
 |.yl _ ts,vs=>vs=ts
 |.bd _,_=>True
inductive lF where
 |on
 |busy
 |off (c:Code)
def lF.put(R:Loop):lF->Loop
 |.on=>{ R with state:=.ready,pending:=none }
 |.busy=>{ R with state:=.busy,pending:=none }
 |.off c=>{ R with state:=.done,pending:=some c }
def oL(b:Bool)(J:Code):lF:=bif b then .on else .off J
inductive SV where
 |any
 |un
 |kt
 |kf
 |c (x:CV)
 |pm (t g off:Nat)
 |ap (t g sz:Nat) (es:List (List CV))
 |V4 (f:FV) (caps:List SV)
 |rs (t g:Nat)
 |aY (cs:List CV)
 |pe (t g n off:Nat)
 |mr (t g:Nat)
 |fC (cs:List CV)
abbrev dG:=List SV
abbrev FD:=List (Nat×SV)
abbrev Zone:=Nat->Nat->Prop
inductive Rep(Z:Zone)(w:World):CV->Value->Prop
 |v (x:Value):Rep Z w (.v x) x
 |agg (cs:List CV) (vs:List Value) (hl:cs.length=vs.length) (h:∀(i:Nat)(c:CV)(x:Value),cs[i]?=some c->vs[i]?=some x->Rep Z w c x)
   (ha:∀(i:Nat)(c:CV),cs[i]?=some c->c.atom=true):Rep Z w (.agg cs) (.agg vs.toArray)
 |nil (sz:Nat) (a:Option Addr) (cap:Nat):Rep Z w (.sl sz []) (.slice a 0 cap)
 |sl (sz:Nat) (ds:List (List CV)) (b o cap:Nat) (f:Nat->Nat->Value) (hcap:ds.length<=cap) (hsz:∀(i:Nat)(d:List CV),ds[i]?=some d->d.length=sz)
   (hc:∀(i j:Nat)(d:List CV)(c:CV),ds[i]?=some d->d[j]?=some c->Z b (o+i*sz+j)/\w.cell? ⟨b,o+i*sz+j,none⟩=some (f i j)/\c.atom=true)
   (h:∀(i j:Nat)(d:List CV)(c:CV),ds[i]?=some d->d[j]?=some c->Rep Z w c (f i j)):Rep Z w (.sl sz ds) (.slice (some ⟨b,o,none⟩) ds.length cap)
 |pi (cs:List CV) (b o off:Nat) (f:Nat->Value)
   (hc:∀(j:Nat)(c:CV),cs[j]?=some c->Z b (o+j)/\w.cell? ⟨b,o+j,none⟩=some (f j)/\c.atom=true)
   (h:∀(j:Nat)(c:CV),cs[j]?=some c->Rep Z w c (f j)):Rep Z w (.pi cs off) (.pointer (some ⟨b,o+off,none⟩))
 |fn (f:FuncId) (caps:List CV) (vs:List Value) (hl:caps.length=vs.length) (h:∀(i:Nat)(c:CV)(x:Value),caps[i]?=some c->vs[i]?=some x->Rep Z w c x):
   Rep Z w (.fn f caps) (.func (.func f) #[] vs.toArray)
 |U6 (cs:List CV) (vs:List Value) (hl:cs.length=vs.length) (h:∀(i:Nat)(c:CV)(x:Value),cs[i]?=some c->vs[i]?=some x->Rep Z w c x):
   Rep Z w (.U6 cs) (.tuple vs.toArray)
 |mpn:Rep Z w (.mp []) (.map none)
 |mp (es:List (CV×CV)) (b:Nat) (arr:Array MapEntry) (clock:Nat) (hz:Z b 0) (hh:w.heap[b]?=some (.map arr clock)) (hl:es.length=arr.size)
   (hk:∀(i:Nat)(k v:CV)(e:MapEntry),es[i]?=some (k,v)->arr[i]?=some e->Rep Z w k e.key)
   (hv:∀(i:Nat)(k v:CV)(e:MapEntry),es[i]?=some (k,v)->arr[i]?=some e->Rep Z w v e.val):Rep Z w (.mp es) (.map (some b))
def Keeps(Z:Zone)(w:World)(Z':Zone)(w':World):Prop:=∀b o,Z b o->Z' b o/\w'.cell? ⟨b,o,none⟩=w.cell? ⟨b,o,none⟩/\∀es c,w.heap[b]?=some (.map es c)->w'.heap[b]?=some (.map es c)
inductive G8 where
 |none
 |var (cs:List CV)
 |ro (cs:List CV)
 |tok (el sz:Nat)
 |spent
 |varx (cs:List CV)
 |arr (el sz:Nat) (ds:List (List CV)) (D7:Option (Nat×List CV))
 |map (es:List (CV×CV))
 |lp (l:Nat) (R:Loop) (q:lF)
abbrev Y0:=List (Nat×G8)
abbrev J8:=Nat->Nat×G8
structure St where
 env:Nat->SV
 obj:J8
structure TI where
 desc:TypeDesc
 size:Nat
 bytes:Nat
 zero:List Value
 isAgg:Bool
 ks:List Nat
abbrev Tab:=List (Nat×TI)
def Tab.get:Tab->Nat->Option TI
 |[],_=>.none
 |(k,i)::r,t=>bif Nat.beq k t then some i else Tab.get r t
abbrev FI:=List (Nat×(Nat×G8))
def upd(obj:J8):FI->J8
 |[],s=>obj s
 |(k,x)::r,s=>bif Nat.beq k s then x else upd obj r s
def put(env:Nat->SV)(d:Option Nat)(r:SV):Nat->SV:=
 match d with
 |.none=>env
 |some d=>λt=>bif Nat.beq d t then r else env t
def qK:List Value->List Nat->List CV
 |[],_=>[]
 |x::r,ks=>(match x with
  |.slice .none 0 0=>.sl (ks.headD 0) []
  |x=>.v x)::qK r ks.tail
def aT5:Option TI->CV->CV
 |some i,.sl 0 []=>.sl (i.ks.headD 0) []
 |_,c=>c
def aH3:Value->SV
 |.bool true=>.kt
 |.bool false=>.kf
 |.slice .none 0 0=>.c (.sl 0 [])
 |.map .none=>.c (.mp [])
 |x=>.c (.v x)
def look(st:St):Operand->SV
 |.tmp t=>st.env t
 |.const x=>aH3 x
 |.func f=>.c (.fn f [])
 |.global _=>.any
def bU:SV->Option CV
 |.c x=>some x
 |.kt=>some (.v (.bool true))
 |.kf=>some (.v (.bool false))
 |.ap _ _ sz es=>some (.sl sz es)
 |_=>.none
def gV:SV->Option (Nat×List (List CV))
 |.c (.sl sz ds)=>some (sz,ds)
 |.ap _ _ sz es=>some (sz,es)
 |_=>.none
def GN(obj:J8):CV->Option (CV×List Nat)
 |.pr t g off=>match obj t with
  |(g',.var cs)=>bif Nat.beq g g' then some (.pi cs off,[t])else .none
  |_=>.none
 |_=>.none
def GR(obj:J8):List CV->Option (List CV×List Nat)
 |[]=>some ([],[])
 |c::r=>match GN obj c,GR obj r with
  |some (c,ts),some (cs,us)=>some (c::cs,ts++us)
  |_,_=>.none
def sW(obj:J8):CV->Option (CV×List Nat)
 |.rs t g=>match obj t with
  |(g',.arr _ sz ds .none)=>bif Nat.beq g g' then some (.sl sz ds,[t])else .none
  |_=>.none
 |.mr t g=>match obj t with
  |(g',.map es)=>bif Nat.beq g g' then some (.mp es,[t])else .none
  |_=>.none
 |.pr _ _ _=>.none
 |.fr f caps=>(GR obj caps).map λp=>(.fn f p.1,p.2)
 |.bp _ _=>.none
 |c=>some (c,[])
def wS(obj:J8):List CV->Option (List CV×List Nat)
 |[]=>some ([],[])
 |c::r=>match sW obj c,wS obj r with
  |some (c,ts),some (cs,us)=>some (c::cs,ts++us)
  |_,_=>.none
def GL(obj:J8)(cs:G9):Option G9:=(wS obj cs).map (·.1)
def freeze(obj:J8):SV->Option (CV×List Nat)
 |.pm t g off=>match obj t with
  |(g',.var cs)=>bif Nat.beq g g' then some (.pi cs off,[t])else .none
  |(g',.varx cs)=>bif Nat.beq g g' then(match wS obj cs with
   |some (cs',ts)=>some (.pi cs' off,t::ts)
   |.none=>.none)else .none
  |_=>.none
 |.mr t g=>match obj t with
  |(g',.map es)=>bif Nat.beq g g' then some (.mp es,[t])else .none
  |_=>.none
 |.rs t g=>match obj t with
  |(g',.arr _ sz ds .none)=>bif Nat.beq g g' then some (.sl sz ds,[t])else .none
  |_=>.none
 |s=>(bU s).map λc=>(c,[])
def GK(obj:J8):List SV->Option (List CV×List Nat)
 |[]=>some ([],[])
 |s::r=>match freeze obj s,GK obj r with
  |some (c,ts),some (cs,us)=>some (c::cs,ts++us)
  |_,_=>.none
def TJ(obj:J8):SV->Option (CV×List Nat)
 |.V4 (.fn f) caps=>match GK obj caps with
  |some (cs,ts)=>some (.fn f cs,ts)
  |.none=>.none
 |s=>freeze obj s
def yO(obj:J8):List SV->Option (List CV×List Nat)
 |[]=>some ([],[])
 |s::r=>match TJ obj s,yO obj r with
  |some (c,ts),some (cs,us)=>some (c::cs,ts++us)
  |_,_=>.none
def takeN:Nat->List CV->Option (List CV)
 |0,_=>some []
 |_+1,[]=>.none
 |n+1,c::r=>match takeN n r with
  |some cs=>some (c::cs)
  |.none=>.none
def setAt:List CV->Nat->List CV->Option (List CV)
 |cs,_,[]=>some cs
 |[],_,_::_=>.none
 |_::r,0,x::xs=>match setAt r 0 xs with
  |some cs=>some (x::cs)
  |.none=>.none
 |c::r,n+1,xs=>match setAt r n xs with
  |some cs=>some (c::cs)
  |.none=>.none
def part(i:TI)(cs:G9)(off:Nat):Option CV:=
 bif i.isAgg then(takeN i.size (cs.drop off)).map CV.agg else cs[off]?
def ag0(n b:Nat):Prop:=n<=4294967296\/(n<=140737488355328/\n*b<=140737488355328)
def flat:CV->Bool
 |.v _=>true
 |.U6 [.v _,.v _]=>true
 |.U6 [.v _,.v _,.v _]=>true
 |_=>false
def CV.pure:CV->Bool
 |.wo _ _=>false
 |_=>true
def tK:BinOp->IntKind->Int->Int->Option Value
 |.add,k,a,b=>some (.int k (k.wrap (a+b)))
 |.sub,k,a,b=>some (.int k (k.wrap (a-b)))
 |.mul,k,a,b=>some (.int k (k.wrap (a*b)))
 |.eql,_,a,b=>some (.bool (a==b))
 |.neq,_,a,b=>some (.bool (a !=b))
 |.lss,_,a,b=>some (.bool (decide (a<b)))
 |.leq,_,a,b=>some (.bool (decide (a<=b)))
 |.gtr,_,a,b=>some (.bool (decide (a>b)))
 |.geq,_,a,b=>some (.bool (decide (a>=b)))
 |.and,k,a,b=>some (.int k (k.wrap (BitVec.ofInt k.bits a&&&BitVec.ofInt k.bits b).toNat))
 |.or,k,a,b=>some (.int k (k.wrap (BitVec.ofInt k.bits a ||| BitVec.ofInt k.bits b).toNat))
 |.xor,k,a,b=>some (.int k (k.wrap (BitVec.ofInt k.bits a^^^BitVec.ofInt k.bits b).toNat))
 |_,_,_,_=>.none
def EF:BinOp->ByteArray->ByteArray->Option Value
 |.eql,a,b=>some (.bool (a.data.toList==b.data.toList))
 |.neq,a,b=>some (.bool (!(a.data.toList==b.data.toList)))
 |.lss,a,b=>some (.bool (Op.bytesLess a.data.toList b.data.toList))
 |.leq,a,b=>some (.bool (Op.bytesLess a.data.toList b.data.toList || a.data.toList==b.data.toList))
 |.gtr,a,b=>some (.bool (!(Op.bytesLess a.data.toList b.data.toList || a.data.toList==b.data.toList)))
 |.geq,a,b=>some (.bool (!(Op.bytesLess a.data.toList b.data.toList)))
 |_,_,_=>.none
def jO(op:BinOp)(isBool:Bool)(x y:Value)(K:Value->Prop):Prop:=
 match op,x,y with
 |.quo,.int k a,.int k' b=>k=k'/\b≠0/\K (.int k (k.wrap (a.tdiv b)))
 |.rem,.int k a,.int k' b=>k=k'/\b≠0/\K (.int k (a.tmod b))
 |.shr,.int k a,.int _ b=>0<=b/\K (.int k (a.fdiv (2^(min b.toNat k.bits))))
 |.shl,.int k a,.int _ b=>0<=b/\K (.int k (k.wrap (a*2^(min b.toNat k.bits))))
 |op,.int k a,.int k' b=>match tK op k a b with
  |some r=>bif decide (k=k')then K r else False
  |.none=>False
 |.add,.string a,.string b=>a.size+b.size<=9223372036854775807/\∃s,s=a++b/\K (.string s)
 |op,.string a,.string b=>match EF op a b with
  |some r=>K r
  |.none=>False
 |.eql,.bool a,.bool b=>bif isBool then K (.bool (a==b))else False
 |.neq,.bool a,.bool b=>bif isBool then K (.bool (!(a==b)))else False
 |_,_,_=>False
abbrev aV:=SV->O1->FI->Prop
structure jY where
 fn:FuncId->List CV->CV->Prop
 eff:Op->TypeId->List SV->List (Nat×G8)->SV->List (Nat×G8)->Prop
 efn:FuncId->List SV->List (Nat×G8)->SV->List (Nat×G8)->Prop
section
variable(H:jY)(T:Tab)(look:Operand->SV)(obj:J8)(F:aV->Prop)
def yJ(fields:Array Field)(zero:List CV):List (Nat×Operand)->Option (List CV)
 |[]=>some zero
 |(i,x)::r=>match fields[i]?,bU (look x)with
  |some f,some c=>match T.get f.type with
   |some i=>bif Nat.beq c.cells.length i.size&&c.storable&&Nat.ble 1 i.size then
     match setAt zero f.offset c.cells with
     |some z=>yJ fields z r
     |.none=>.none
    else .none
   |.none=>.none
  |_,_=>.none
def wL(sz:Nat):Nat->List (Nat×Operand)->Option (List (List CV))
 |_,[]=>some []
 |k,(i,x)::r=>match bU (look x),wL sz (k+1) r with
  |some c,some es=>bif Nat.beq i k&&Nat.beq c.cells.length sz&&c.storable then some (c.cells::es)else .none
  |_,_=>.none
def gen(d:Nat):Nat:=(obj d).1
def XM(ty:TypeId)(d:Nat)(x:Operand)(K:aV):Prop:=
 match x with
 |.const (.slice .none 0 0)=>match T.get ty with
  |some { desc:=.slice e, .. }=>match T.get e with
   |some i=>bif Nat.ble 1 i.size then K (.ap d ((obj d).1+1) i.size []) [] [(d,((obj d).1+1,.tok e i.size))]else False
   |.none=>False
  |_=>False
 |x=>match look x with
  |.ap t g sz es=>match obj t with
   |(g',.tok el s)=>bif Nat.beq g g'&& !(Nat.beq t d)then K (.ap d ((obj d).1+1) sz es) [t] [(t,(g,.spent)),(d,((obj d).1+1,.tok el s))]else K (look x) [t] []
   |_=>K (.c (.sl sz es)) [t] []
  |s=>K s [] []
def callArgs(c:Call):Option (FuncId×List SV×List CV):=
 match c.callee with
 |.value f=>match look f with
  |.c (.fn f caps)=>some (f,c.args.toList.map look,caps)
  |.V4 (.fn f) caps=>some (f,c.args.toList.map look++caps,[])
  |_=>.none
 |_=>.none
def kK(c:Call)(K:aV):Prop:=
 match callArgs look c with
 |some (f,args,more)=>match yO obj args with
  |some (cs,ts)=>(∃r,H.fn f (cs++more) r/\(bif ts.isEmpty then r.pure=true else flat r=true)/\K (.c r) ts [])\/F K
  |.none=>F K
 |.none=>F K
def iV(b:Builtin)(c:Call)(d:Option Nat)(K:aV):Prop:=
 match b,c.args.toList with
 |.len,[x]=>match look x with
  |.c (.v (.string s))=>(match(c.argTypes[0]?).bind T.get with
   |some { desc:=.string, .. }=>K (.c (.v (.int .i64 s.size))) [] []
   |_=>False)
  |s=>match gV s,(c.argTypes[0]?).bind T.get with
   |some (_,ds),some { desc:=.slice _, .. }=>K (.c (.v (.int .i64 ds.length))) [] []
   |_,_=>F K
 |.min,[x,y]=>match bU (look x),bU (look y)with
  |some (.v (.int k a)),some (.v (.int _ b))=>K (.c (.v (.int k (if b<a then b else a)))) [] []
  |_,_=>False
 |.max,[x,y]=>match bU (look x),bU (look y)with
  |some (.v (.int k a)),some (.v (.int _ b))=>K (.c (.v (.int k (if a<b then b else a)))) [] []
  |_,_=>False
 |.append,[x,y]=>match look x,gV (look y),d,c.argTypes.toList with
  |.ap t g sz es,some (_,ns),some d,[t1,t2]=>match T.get t1 with
   |some { desc:=.slice e, .. }=>match T.get e with
    |some i=>bif Nat.beq t1 t2&&Nat.beq i.size sz&&Nat.ble 1 sz&&Nat.ble i.bytes 4096&&Nat.beq i.zero.length sz&&(match obj t with|(g',.tok el s)=>Nat.beq g g'&&Nat.beq el e&&Nat.beq s sz|_=>false)then
      ((∀n∈ns,n.length=sz)/\ag0 (es.length+ns.length) i.bytes/\∃es',es'=es++ns/\
      (bif Nat.beq t d then K (.ap t (g+1) sz es') [t] [(t,(g+1,.tok e sz))]
       else K (.ap d ((obj d).1+1) sz es') [t] [(t,(g,.spent)),(d,((obj d).1+1,.tok e sz))]))\/F K
     else False
    |.none=>F K
   |_=>F K
  |_,_,_,_=>F K
 |_,_=>F K
def wpOp(d:Option Nat)(op:Op)(ty:TypeId)(K:aV):Prop:=
 match op with
 |.move x=>K (look x) [] []
 |.assign x=>match d with
  |some d=>XM T look obj ty d x K
  |.none=>False
 |.pick c a b=>match look c with
  |.kt=>K (look a) [] []
  |.kf=>K (look b) [] []
  |.c (.v (.bool q))=>match bU (look a),bU (look b)with
   |some (.v (.bool x)),some (.v (.bool y))=>K (.c (.v (.bool (bif q then x else y)))) [] []
   |_,_=>(q=true->K (look a) [] [])/\(q=false->K (look b) [] [])
  |_=>False
 |.alloc e=>match T.get e,d with
  |some i,some d=>K (.pm d ((obj d).1+1) 0) [] [(d,((obj d).1+1,.var (qK i.zero i.ks)))]
  |_,_=>False
 |.box _ x=>match bU (look x),d with
  |some c,some d=>bif c.storable then K (.pm d ((obj d).1+1) 0) [] [(d,((obj d).1+1,.var c.cells))]else False
  |_,_=>False
 |.build t parts=>match T.get t with
  |some { desc:=.struct fs,zero:=z,ks:=ks, .. }=>bif fs.toList.all (λf=>(T.get f.type).isSome)then(match yJ T look fs (qK z ks) parts.toList with
   |some cs=>K (.c (.agg cs)) [] []
   |.none=>False)else False
  |_=>False
 |.buildSlice t len parts=>match T.get t with
  |some { desc:=.slice e, .. }=>match T.get e,d with
   |some i,some d=>match wL look i.size 0 parts.toList with
    |some es=>bif Nat.beq es.length len&&Nat.ble len 4096&&Nat.ble 1 i.size&&Nat.ble i.size 256&&Nat.beq i.zero.length i.size then K (.ap d ((obj d).1+1) i.size es) [] [(d,((obj d).1+1,.tok e i.size))]else False
    |.none=>F K
   |_,_=>False
  |_=>False
 |.load t x=>match T.get t with
  |some i=>match look x with
   |.pm s g off=>match obj s with
    |(g',.var cs)=>bif Nat.beq g g' then(match part i cs off with|some c=>K (.c c) [s] []|.none=>False)else False
    |(g',.ro cs)=>bif Nat.beq g g' then(match part i cs off with|some c=>K (.c c) [s] []|.none=>False)else False
    |_=>F K
   |.c (.pi cs off)=>match part i cs off with
    |some c=>K (.c c) [] []
    |.none=>False
   |_=>F K
  |.none=>False
 |.store t x y=>match T.get t,look x,(bU (look y)).map (aT5 (T.get t))with
  |some i,.pm s g off,some c=>match obj s with
   |(g',.var cs)=>bif Nat.beq g g'&&Nat.beq c.cells.length i.size&&c.storable&&Nat.ble 1 i.size then(match setAt cs off c.cells with|some cs'=>K .any [s] [(s,(g,.var cs'))]|.none=>False)else False
   |_=>F K
  |_,_,_=>F K
 |.nilCheck x=>match look x with
  |.pm s g _=>match obj s with
   |(g',.var _)=>bif Nat.beq g g' then K (look x) [s] []else False
   |(g',.ro _)=>bif Nat.beq g g' then K (look x) [s] []else False
   |_=>F K
  |.c (.pi _ _)=>K (look x) [] []
  |.c (.fn _ _)=>K (look x) [] []
  |.V4 _ _=>K (look x) [] []
  |_=>F K
 |.binOp op t x y _=>match bU (look x),bU (look y)with
  |some (.v a),some (.v b)=>jO op (match T.get t with|some { desc:=.bool, .. }=>true|_=>false) a b (λr=>K (.c (.v r)) [] [])
  |_,_=>F K
 |.unOp .not _ x=>match look x with
  |.kt=>K .kf [] []
  |.kf=>K .kt [] []
  |.c (.v (.bool b))=>K (.c (.v (.bool !b))) [] []
  |_=>False
 |.unOp .neg _ x=>match look x with
  |.c (.v (.int k n))=>K (.c (.v (.int k (k.wrap (0-n))))) [] []
  |_=>False
 |.convert s t x=>match T.get t,look x,T.get s with
  |some { desc:=.int k, .. },.c (.v (.int _ n)),some _=>K (.c (.v (.int k (k.wrap n)))) [] []
  |some { desc:=.string, .. },.c (.v (.string s)),some _=>K (.c (.v (.string s))) [] []
  |_,_,_=>F K
 |.makeFunc (.func f) first captured=>match first.toList with
  |[]=>K (.V4 (.fn f) (captured.toList.map look)) [] []
  |_::_=>F K
 |.fieldAddr t x k=>match T.get t with
  |some { desc:=.struct fs, .. }=>match fs[k]? with
   |some f=>match T.get f.type with
    |some i=>bif Nat.beq i.size 0 then False else match look x with
     |.pm s g off=>match obj s with
      |(g',.var _)=>bif Nat.beq g g' then K (.pm s g (off+f.offset)) [s] []else False
      |(g',.ro _)=>bif Nat.beq g g' then K (.pm s g (off+f.offset)) [s] []else False
      |_=>F K
     |.c (.pi cs off)=>K (.c (.pi cs (off+f.offset))) [] []
     |_=>F K
    |.none=>False
   |.none=>False
  |_=>False
 |.field t x k=>match T.get t,look x with
  |some { desc:=.struct fs, .. },.c (.agg cs)=>match fs[k]? with
   |some f=>match T.get f.type with
    |some i=>match part i cs f.offset with
     |some c=>K (.c c) [] []
     |.none=>False
    |.none=>False
   |.none=>False
  |_,_=>False
 |.indexAddr t x i=>match T.get t with
  |some { desc:=.slice e, .. }=>match T.get e,gV (look x),look i with
   |some ti,some (sz,ds),.c (.v (.int _ n))=>0<=n/\(sz=ti.size\/n<0)/\∃d,ds[n.toNat]?=some d/\K (.c (.pi d 0)) [] []
   |_,_,_=>F K
  |_=>F K
 |.index t x i=>match T.get t with
  |some { desc:=.string, .. }=>match look x,look i with
   |.c (.v (.string s)),.c (.v (.int _ n))=>0<=n/\∃b,s[n.toNat]?=some b/\K (.c (.v (.int .u8 b.toNat))) [] []
   |_,_=>False
  |_=>False
 |.extract x k=>match look x with
  |.c (.U6 vs)=>match vs[k]? with
   |some c=>K (.c c) [] []
   |.none=>False
  |_=>F K
 |.call c=>match c.callee with
  |.builtin b=>iV T look obj F b c d K
  |_=>kK H look obj F c K
 |_=>F K
end
def cap1:SV->Option CV
 |.rs t g=>some (.rs t g)
 |.pm t g off=>some (.pr t g off)
 |.mr t g=>some (.mr t g)
 |s=>bU s
def SH:List SV->Option (List CV)
 |[]=>some []
 |s::r=>match cap1 s,SH r with
  |some c,some cs=>some (c::cs)
  |_,_=>.none
def aG5:SV->Option (List CV)
 |.rs t g=>some [.rs t g]
 |.pm t g off=>some [.pr t g off]
 |.mr t g=>some [.mr t g]
 |.V4 (.fn f) caps=>(SH caps).map λcs=>[.fr f cs]
 |.aY cs=>some cs
 |s=>match bU s with
  |some c=>bif c.storable then some c.cells else .none
  |.none=>.none
def CV.qA:CV->Bool
 |.rs _ _=>true
 |.pr _ _ _=>true
 |.mr _ _=>true
 |.fr _ _=>true
 |.bp _ _=>true
 |_=>false
def CV.IC:CV->Bool
 |.bp _ _=>true
 |_=>false
def as8:List CV->Bool
 |[]=>true
 |c::r=>bif c.IC then false else as8 r
def qB:List CV->Bool
 |[]=>true
 |c::r=>bif c.qA then false else qB r
def sv1:CV->SV
 |.rs t g=>.rs t g
 |.pr t g off=>.pm t g off
 |.mr t g=>.mr t g
 |.bp _ _=>.any
 |c=>.c c
def zG:CV->SV
 |.rs t g=>.rs t g
 |.pr t g off=>.pm t g off
 |.mr t g=>.mr t g
 |.fr f caps=>.V4 (.fn f) (caps.map sv1)
 |.bp _ _=>.any
 |.agg cs=>bif qB cs then .c (.agg cs)else .aY cs
 |c=>.c c
def an7(ds:List (List CV))(D7:Option (Nat×List CV))(n:Nat)(cs:List CV):Prop:=
 match D7 with
 |.none=>ds[n]?=some cs
 |some (m,d)=>(n=m/\cs=d)\/(n≠m/\ds[n]?=some cs)
def setCells(ds:List (List CV))(D7:Option (Nat×List CV))(n:Nat)(cs:List CV)(ds':List (List CV))(jR:Option (Nat×List CV)):Prop:=
 match D7 with
 |.none=>(qB cs=true/\ds'=ds.set n cs/\jR=.none)\/(ds'=ds/\jR=some (n,cs))
 |some (m,d)=>(n=m/\ds'=ds/\jR=some (n,cs))\/(n≠m/\qB cs=true/\ds'=ds.set n cs/\jR=some (m,d))
def WJ(k:Nat):Option (Nat×List CV)->Option (Nat×List CV)
 |.none=>.none
 |some (m,cs)=>some (k+m,cs)
def sig(d j:Nat):Nat:=d+65536*j
def uH(obj:J8)(d m:Nat):CV->CV
 |.ow j=>bif Nat.blt j m then .rs (sig d j) ((obj (sig d j)).1+1)else .ow j
 |c=>c
def PD(obj:J8)(d m:Nat):CV->Option SV
 |.ow j=>bif Nat.blt j m then some (.rs (sig d j) ((obj (sig d j)).1+1))else .none
 |.agg cs=>some (.aY (cs.map (uH obj d m)))
 |_=>.none
def WB(obj:J8)(d m:Nat):Option (Nat×List CV)->Option (Nat×List CV)
 |.none=>.none
 |some (k,cs)=>some (k,cs.map (uH obj d m))
def rO(obj:J8)(d m:Nat):Nat->List (Nat×Nat×List (List CV)×Option (Nat×List CV))->FI
 |_,[]=>[]
 |j,(el,sz,ds,D7)::r=>(sig d j,((obj (sig d j)).1+1,.arr el sz ds (WB obj d m D7)))::rO obj d m (j+1) r
section
variable(H:jY)(T:Tab)(look:Operand->SV)(obj:J8)
def EO(c:Call)(d:Option Nat)(K:aV):Prop:=
 match c.args.toList,d,c.argTypes.toList with
 |[x,y],some d,[t1,t2]=>match T.get t1 with
  |some { desc:=.slice e, .. }=>match T.get e with
   |some i=>bif Nat.beq t1 t2&&Nat.ble 1 i.size&&Nat.ble i.bytes 4096&&Nat.beq i.zero.length i.size then
     match x,look x,look y with
     |.const (.slice .none 0 0),.c _,sy=>match gV sy with
      |some (_,ns)=>(∀n∈ns,n.length=i.size)/\ag0 ns.length i.bytes/\K (.rs d ((obj d).1+1)) [] [(d,((obj d).1+1,.arr e i.size ns .none))]
      |.none=>False
     |_,.rs t g,.rs s g2=>match obj t,obj s with
      |(g',.arr el sz ds D7),(g2',.arr el2 sz2 ds2 GI)=>bif Nat.beq g g'&&Nat.beq g2 g2'&&Nat.beq el e&&Nat.beq sz i.size&&Nat.beq sz2 i.size&& !(Nat.beq t s)&& !(Nat.beq s d)&& !(Nat.beq t d)&&D7.isNone then
         ds.length+ds2.length<=4294967296/\∃ds',ds'=ds++ds2/\K (.rs d ((obj d).1+1)) [t,s] [(t,(g,.spent)),(s,(g2,.spent)),(d,((obj d).1+1,.arr e i.size ds' (WJ ds.length GI)))]
       else False
      |_,_=>False
     |_,.rs t g,sy=>match obj t,gV sy with
      |(g',.arr el sz ds D7),some (_,ns)=>bif Nat.beq g g'&&Nat.beq el e&&Nat.beq sz i.size then
         (∀n∈ns,n.length=sz)/\ag0 (ds.length+ns.length) i.bytes/\∃ds',ds'=ds++ns/\
         (bif Nat.beq t d then K (.rs t (g+1)) [t] [(t,(g+1,.arr e sz ds' D7))]
          else K (.rs d ((obj d).1+1)) [t] [(t,(g,.spent)),(d,((obj d).1+1,.arr e sz ds' D7))])
       else False
      |_,_=>False
     |_,.ap t g sz es,sy=>match obj t,gV sy with
      |(g',.tok el s),some (_,ns)=>bif Nat.beq g g'&&Nat.beq el e&&Nat.beq s sz&&Nat.beq sz i.size&& !(Nat.beq t d)then
         es=[]/\(∀n∈ns,n.length=sz)/\ns.length<=4294967296/\K (.rs d ((obj d).1+1)) [t] [(t,(g,.spent)),(d,((obj d).1+1,.arr e sz ns .none))]
       else False
      |_,_=>False
     |_,_,_=>False
    else False
   |.none=>False
  |_=>False
 |_,_,_=>False
def xU(c:Call)(d:Option Nat)(K:aV):Prop:=
 match callArgs look c,d with
 |some (f,args,more),some d=>match yO obj args with
  |some (cs,ts)=>bif ts.isEmpty then ∃r os,H.fn f (cs++more) (.wo r os)/\(match PD obj d os.length r with
    |some s=>K s [] (rO obj d os.length 0 os)
    |.none=>False)else False
  |.none=>False
 |_,_=>False
def aK(d:Option Nat)(op:Op)(K:aV):Prop:=
 match op with
 |.load t x=>match T.get t with
  |some i=>match look x with
   |.pm s g off=>match obj s with
    |(g',.varx cs)=>bif Nat.beq g g' then(match part i cs off with|some c=>K (zG c) [s] []|.none=>False)else False
    |_=>False
   |.pe s g n off=>match obj s with
    |(g',.arr _ _ ds D7)=>bif Nat.beq g g' then(∃cs,an7 ds D7 n cs/\match part i cs off with|some c=>K (zG c) [s] []|.none=>False)else False
    |_=>False
   |_=>False
  |.none=>False
 |.store t x y=>match T.get t,aG5 (look y)with
  |some i,some ys=>bif Nat.beq ys.length i.size&&Nat.ble 1 i.size&&as8 ys then(match look x with
   |.pm s g off=>match obj s with
    |(g',.var cs)=>bif Nat.beq g g'&&(bU (look y)).isNone then(match setAt cs off ys with|some cs'=>K .any [s] [(s,(g,.varx cs'))]|.none=>False)else False
    |(g',.varx cs)=>bif Nat.beq g g' then(match setAt cs off ys with|some cs'=>K .any [s] [(s,(g,.varx cs'))]|.none=>False)else False
    |_=>False
   |.pe s g n off=>match obj s with
    |(g',.arr el sz ds D7)=>bif Nat.beq g g' then(∃cs,an7 ds D7 n cs/\match setAt cs off ys with
       |some cs'=>∃ds' jR,setCells ds D7 n cs' ds' jR/\K .any [s] [(s,(g,.arr el sz ds' jR))]
       |.none=>False)else False
    |_=>False
   |_=>False)else False
  |_,_=>False
 |.nilCheck x=>match look x with
  |.pm s g _=>match obj s with
   |(g',.varx _)=>bif Nat.beq g g' then K (look x) [s] []else False
   |_=>False
  |.pe s g _ _=>match obj s with
   |(g',.arr _ _ _ _)=>bif Nat.beq g g' then K (look x) [s] []else False
   |_=>False
  |_=>False
 |.fieldAddr t x k=>match T.get t with
  |some { desc:=.struct fs, .. }=>match fs[k]? with
   |some f=>match T.get f.type with
    |some i=>bif Nat.beq i.size 0 then False else match look x with
     |.pm s g off=>match obj s with
      |(g',.varx _)=>bif Nat.beq g g' then K (.pm s g (off+f.offset)) [s] []else False
      |_=>False
     |.pe s g n off=>match obj s with
      |(g',.arr _ _ _ _)=>bif Nat.beq g g' then K (.pe s g n (off+f.offset)) [s] []else False
      |_=>False
     |_=>False
    |.none=>False
   |.none=>False
  |_=>False
 |.indexAddr t x i=>match T.get t with
  |some { desc:=.slice e, .. }=>match T.get e,look x,look i with
   |some ti,.rs s g,.c (.v (.int _ n))=>match obj s with
    |(g',.arr _ sz ds _)=>bif Nat.beq g g'&&Nat.beq sz ti.size then 0<=n/\n.toNat<ds.length/\K (.pe s g n.toNat 0) [s] []else False
    |_=>False
   |_,_,_=>False
  |_=>False
 |.buildSlice t len parts=>match T.get t with
  |some { desc:=.slice e, .. }=>match T.get e,d,parts.toList with
   |some i,some d,[(0,x)]=>match look x with
    |.aY cs=>bif Nat.beq len 1&&Nat.beq cs.length i.size&&Nat.ble 1 i.size&&Nat.ble i.size 256&&Nat.beq i.zero.length i.size then(∃cs0:List CV,K (.rs d ((obj d).1+1)) [] [(d,((obj d).1+1,.arr e i.size [cs0] (some (0,cs))))])else False
    |_=>False
   |_,_,_=>False
  |_=>False
 |.call c=>match c.callee with
  |.builtin .len=>match c.args.toList,(c.argTypes[0]?).bind T.get with
   |[x],some { desc:=.slice _, .. }=>match look x with
    |.rs s g=>match obj s with
     |(g',.arr _ _ ds _)=>bif Nat.beq g g' then K (.c (.v (.int .i64 ds.length))) [s] []else False
     |_=>False
    |_=>False
   |_,_=>False
  |.builtin .append=>EO T look obj c d K
  |.builtin _=>False
  |_=>xU H look obj c d K
 |_=>False
end
def mX:List (Nat×Nat)->Nat->Nat->Nat->Option Nat
 |[],_,_,_=>.none
 |(t,g)::r,s,h,j=>bif Nat.beq t s&&Nat.beq g h then some j else mX r s h (j+1)
section
variable(τ:dU)(γ:Nat->Nat)
def wM:CV->Option CV
 |.rs t g=>(mX τ t g 0).map λj=>.rs j (γ j)
 |.pr t g off=>(mX τ t g 0).map λj=>.pr j (γ j) off
 |.mr t g=>(mX τ t g 0).map λj=>.mr j (γ j)
 |.fr _ _=>.none
 |c=>some c
def LV:List CV->Option (List CV)
 |[]=>some []
 |c::r=>match wM τ γ c,LV r with
  |some c,some cs=>some (c::cs)
  |_,_=>.none
def FT:CV->Option CV
 |.fr f caps=>(LV τ γ caps).map (CV.fr f)
 |c=>wM τ γ c
def iM:List CV->Option (List CV)
 |[]=>some []
 |c::r=>match FT τ γ c,iM r with
  |some c,some cs=>some (c::cs)
  |_,_=>.none
def uJ:SV->Option SV
 |.rs t g=>(mX τ t g 0).map λj=>.rs j (γ j)
 |.pm t g off=>(mX τ t g 0).map λj=>.pm j (γ j) off
 |.mr t g=>(mX τ t g 0).map λj=>.mr j (γ j)
 |.pe t g n off=>(mX τ t g 0).map λj=>.pe j (γ j) n off
 |.ap t g sz es=>match mX τ t g 0 with
  |some j=>some (.ap j (γ j) sz es)
  |.none=>some (.c (.sl sz es))
 |.aY cs=>(iM τ γ cs).map SV.aY
 |.fC cs=>(iM τ γ cs).map SV.fC
 |.V4 _ _=>.none
 |s=>some s
def WT:List SV->Option (List SV)
 |[]=>some []
 |s::r=>match uJ τ γ s,WT r with
  |some s,some ss=>some (s::ss)
  |_,_=>.none
def sTo:SV->Option SV
 |.V4 f caps=>(WT τ γ caps).map (SV.V4 f)
 |s=>uJ τ γ s
def WS:List SV->Option (List SV)
 |[]=>some []
 |s::r=>match sTo τ γ s,WS r with
  |some s,some ss=>some (s::ss)
  |_,_=>.none
def gY:G8->Option G8
 |.varx cs=>(iM τ γ cs).map G8.varx
 |.arr el sz ds (some (m,cs))=>(iM τ γ cs).map λcs=>.arr el sz ds (some (m,cs))
 |o=>some o
def rG(obj:J8):Nat->List (Nat×Nat)->Option (List (Nat×G8))
 |_,[]=>some []
 |j,(t,g)::r=>bif Nat.beq (obj t).1 g then(match gY τ γ (obj t).2,rG obj (j+1) r with
  |some o,some os=>some ((γ j,o)::os)
  |_,_=>.none)else .none
end
def I5(os:List (Nat×G8)):J8:=λj=>match os[j]? with
 |some o=>o
 |.none=>(0,.none)
def SC(n:Nat):CV->Bool
 |.rs j _=>Nat.blt j n
 |.pr j _ _=>Nat.blt j n
 |.mr j _=>Nat.blt j n
 |_=>true
def qW(n:Nat):CV->Bool
 |.fr _ caps=>caps.all (SC n)
 |c=>SC n c
def DY(n:Nat):SV->Bool
 |.rs j _=>Nat.blt j n
 |.pm j _ _=>Nat.blt j n
 |.mr j _=>Nat.blt j n
 |.pe j _ _ _=>Nat.blt j n
 |.ap j _ _ _=>Nat.blt j n
 |.aY cs=>cs.all (qW n)
 |.fC cs=>cs.all (qW n)
 |.V4 _ _=>false
 |_=>true
def nX(n:Nat):SV->Bool
 |.V4 _ caps=>caps.all (DY n)
 |s=>DY n s
def IW(n:Nat):G8->Bool
 |.varx cs=>cs.all (qW n)
 |.arr _ _ _ (some (_,cs))=>cs.all (qW n)
 |.none=>false
 |_=>true
section
variable(obj:J8)(d off:Nat)(τ:dU)
def V8(j:Nat):Nat:=match τ[j]? with
 |some (t,_)=>t
 |.none=>sig d (off+j)
def dY(j k:Nat):Nat:=match τ[j]? with
 |some (_,g)=>g+k
 |.none=>(obj (sig d (off+j))).1+k
def FQ:CV->CV
 |.rs j k=>.rs (V8 d off τ j) (dY obj d off τ j k)
 |.pr j k o=>.pr (V8 d off τ j) (dY obj d off τ j k) o
 |.mr j k=>.mr (V8 d off τ j) (dY obj d off τ j k)
 |c=>c
def qV:CV->CV
 |.fr f caps=>.fr f (caps.map (FQ obj d off τ))
 |c=>FQ obj d off τ c
def uI:SV->SV
 |.rs j k=>.rs (V8 d off τ j) (dY obj d off τ j k)
 |.pm j k o=>.pm (V8 d off τ j) (dY obj d off τ j k) o
 |.mr j k=>.mr (V8 d off τ j) (dY obj d off τ j k)
 |.pe j k n o=>.pe (V8 d off τ j) (dY obj d off τ j k) n o
 |.ap j k sz es=>.ap (V8 d off τ j) (dY obj d off τ j k) sz es
 |.aY cs=>.aY (cs.map (qV obj d off τ))
 |.fC cs=>.fC (cs.map (qV obj d off τ))
 |s=>s
def zF:SV->SV
 |.V4 f caps=>.V4 f (caps.map (uI obj d off τ))
 |s=>uI obj d off τ s
def eG:G8->G8
 |.varx cs=>.varx (cs.map (qV obj d off τ))
 |.arr el sz ds (some (m,cs))=>.arr el sz ds (some (m,cs.map (qV obj d off τ)))
 |o=>o
def aZ:Nat->List (Nat×G8)->FI
 |_,[]=>[]
 |j,(k,o)::r=>(V8 d off τ j,(dY obj d off τ j k,eG obj d off τ o))::aZ (j+1) r
end
def qC:List Nat->Bool
 |[]=>true
 |x::r=>bif r.any (Nat.beq x)then false else qC r
section
variable(H:jY)(T:Tab)(look:Operand->SV)(obj:J8)
def KC(d:E8)(op:Op)(ty:TypeId)(K:aV):Prop:=
 ∃(τ:dU) (off:Nat) (args:dG) (os:Y0) (r:SV) (os':Y0),
  WS τ (λ_=>0) (op.operands.toList.map look)=some args/\rG τ (λ_=>0) obj 0 τ=some os/\H.eff op ty args os r os'/\
  (qC ((aZ obj (d.getD 0) off τ 0 os').map (·.1))&&Nat.ble τ.length os'.length&&nX os'.length r&&os'.all (λo=>IW os'.length o.2))=true/\
  K (zF obj (d.getD 0) off τ r) (τ.map (·.1)) (aZ obj (d.getD 0) off τ 0 os')
def QT(d:E8)(op:Op)(ty:TypeId)(K:aV):Prop:=wpOp H T look obj (aK H T look obj d op) d op ty K
def KD(d:E8)(op:Op)(ty:TypeId)(K:aV):Prop:=QT H T look obj d op ty K\/KC H look obj d op ty K
def XO(d:E8)(op:Op)(ty:TypeId)(K:aV):Prop:=wpOp H T look obj (λK=>aK H T look obj d op K\/KC H look obj d op ty K) d op ty K
def ao8:Op->Bool
 |.alloc _=>true
 |.buildSlice _ _ _=>true
 |.assign (.const (.slice _ _ _))=>true
 |.binOp _ _ _ (.const .nilIface) _=>true
 |.index _ _ _=>true
 |.build _ _=>true
 |.box _ _=>true
 |_=>false
def fP(d:E8)(op:Op)(ty:TypeId)(K:aV):Prop:=bif ao8 op then(XO H T look obj d op ty K\/KC H look obj d op ty K)else XO H T look obj d op ty K
end
def inRange(n:Nat):Option Nat->Bool
 |.none=>true
 |some d=>Nat.blt d n
def ac9:Op->Option (Bool×TypeId×Operand)
 |.binOp .eql t x (.const (.slice .none 0 0)) _=>some (true,t,x)
 |.binOp .neq t x (.const (.slice .none 0 0)) _=>some (false,t,x)
 |_=>.none
def bY4(T:Tab)(look:Operand->SV)(obj:J8)(t:TypeId)(x:Operand):Option (List (List CV)):=
 match T.get t with
 |some { desc:=.slice _, .. }=>match look x with
  |.rs s g=>match obj s with
   |(g',.arr _ _ ds _)=>bif Nat.beq g g' then some ds else .none
   |_=>.none
  |s=>(gV s).map (·.2)
 |_=>.none
def aj8(T:Tab)(st:St)(q:Bool)(t:TypeId)(x:Operand)(K:SV->Prop):Prop:=
 match bY4 T (look st) st.obj t x with
 |some ds=>∀b:Bool,(b=true->ds=[])->K (bif (b==q)then .kt else .kf)
 |.none=>look st x=.c (.v (.slice .none 0 0))/\(match T.get t with|some { desc:=.slice _, .. }=>True|_=>False)/\K (bif q then .kt else .kf)
def NR:Code->Bool
 |.cond _ _ _=>true
 |.block _ _=>true
 |.region _ ops _=>ops.toList.any λo=>o.guard.isSome
 |_=>false
def ap1(env:Nat->SV):Nat->List SV->Prop
 |_,[]=>True
 |t,s::r=>(s=.any\/s=env t)/\ap1 env (t+1) r
def aQ6(K:Exit->St->Prop)(J:Code)(st:St):Prop:=
 match J with
 |.ret=>K .ret st
 |.exit id=>K (.exit id) st
 |_=>False
def bh6(H:jY)(n:Nat)(g:Operand)(ps:Array Tmp)(assign body:Code)(K:Exit->St->Prop)(st:St):Prop:=
 ∃(s0:Nat) (env:dG) (f:FuncId) (caps:dG),(look st g=.V4 (.fn f) caps\/∃cs:G9,look st g=.c (.fn f cs)/\caps=cs.map SV.c)/\
  Nat.beq env.length n=true/\ap1 st.env 0 env/\∀(l:Nat)(R:Loop),R.params=ps->R.assign=assign->R.body=body->R.tmps.size=n->
   ∃(τ:dU) (off:Nat) (args:dG) (os:Y0) (r:SV) (os':Y0),
    WS τ (λ_=>0) (.V4 (.yl l R.tmps.toList) env::caps)=some args/\rG τ (λ_=>0) (upd st.obj [(s0,((st.obj s0).1+1,.lp l R .on))]) 0 τ=some os/\H.efn f args os r os'/\
    (qC ((aZ (upd st.obj [(s0,((st.obj s0).1+1,.lp l R .on))]) 0 off τ 0 os').map (·.1))&&Nat.ble τ.length os'.length&&nX os'.length r&&os'.all (λo=>IW os'.length o.2))=true/\
    ∃(g':Nat) (b:Bool) (J:Code),upd (upd st.obj [(s0,((st.obj s0).1+1,.lp l R .on))]) (aZ (upd st.obj [(s0,((st.obj s0).1+1,.lp l R .on))]) 0 off τ 0 os') s0=(g',.lp l R (oL b J))/\
     (b=true->K .normal ⟨st.env,upd (upd (upd st.obj [(s0,((st.obj s0).1+1,.lp l R .on))]) (aZ (upd st.obj [(s0,((st.obj s0).1+1,.lp l R .on))]) 0 off τ 0 os')) [(s0,(g',.spent))]⟩)/\
     (b=false->aQ6 K J ⟨st.env,upd (upd (upd st.obj [(s0,((st.obj s0).1+1,.lp l R .on))]) (aZ (upd st.obj [(s0,((st.obj s0).1+1,.lp l R .on))]) 0 off τ 0 os')) [(s0,(g',.spent))]⟩)
section
variable(H:jY)(T:Tab)(n:Nat)
def wpOps(all:List Oper):List Oper->St->(St->Prop)->Prop
 |[],st,K=>K st
 |o::rest,st,K=>
  bif inRange n o.dst then
   match o.guard with
   |.none=>match ac9 o.op with
    |some (q,t,x)=>aj8 T st q t x λr=>wpOps all rest ⟨put st.env o.dst r,st.obj⟩ K
    |.none=>fP H T (look st) st.obj o.dst o.op o.type λr _ u=>wpOps all rest ⟨put st.env o.dst r,upd st.obj u⟩ K
   |some (j,want)=>match(all[j]?).bind (·.dst)with
    |.none=>False
    |some dj=>match st.env dj with
     |.kt=>bif want then fP H T (look st) st.obj o.dst o.op o.type λr _ u=>wpOps all rest ⟨put st.env o.dst r,upd st.obj u⟩ K
       else wpOps all rest ⟨put st.env o.dst .un,st.obj⟩ K
     |.kf=>bif want then wpOps all rest ⟨put st.env o.dst .un,st.obj⟩ K
       else fP H T (look st) st.obj o.dst o.op o.type λr _ u=>wpOps all rest ⟨put st.env o.dst r,upd st.obj u⟩ K
     |.c (.v (.bool b))=>
       (b=true->bif want then fP H T (look ⟨put st.env (some dj) .kt,st.obj⟩) st.obj o.dst o.op o.type λr _ u=>wpOps all rest ⟨put (put st.env (some dj) .kt) o.dst r,upd st.obj u⟩ K
         else wpOps all rest ⟨put (put st.env (some dj) .kt) o.dst .un,st.obj⟩ K)/\
       (b=false->bif want then wpOps all rest ⟨put (put st.env (some dj) .kf) o.dst .un,st.obj⟩ K
         else fP H T (look ⟨put st.env (some dj) .kf,st.obj⟩) st.obj o.dst o.op o.type λr _ u=>wpOps all rest ⟨put (put st.env (some dj) .kf) o.dst r,upd st.obj u⟩ K)
     |.un=>wpOps all rest ⟨put st.env o.dst .un,st.obj⟩ K
     |_=>False
  else False
structure gJ where
 r:SV
 rd:List Nat
 wr:FI
abbrev nJ:=List gJ
def CJ(all:Y4)(i:Nat):Bool:=all.any λo=>match o.guard with|some (j,_)=>Nat.beq j i|.none=>false
def gJ.sites(e:gJ):O1:=e.wr.map (·.1)
def gG(st:St)(o:Oper)(e:gJ):St:=⟨put st.env o.dst e.r,upd st.obj e.wr⟩
def UF(x:Nat):List Nat->Bool
 |[]=>false
 |y::r=>bif Nat.beq x y then true else UF x r
def YO:List Nat->List Nat->Bool
 |[],_=>true
 |x::r,l=>bif UF x l then false else YO r l
def wI(ops:pJ)(oi ok:Oper)(ei ek:gJ):Bool:=
 oi.apart ops ok&&YO ei.sites (ek.rd++ek.sites)&&YO ek.sites ei.rd
def ad2(ops:Array Oper)(mask:Nat)(ok:Oper)(ek:gJ):Nat->List (Oper×gJ)->Bool
 |_,[]=>true
 |i,(oi,ei)::r=>bif Nat.testBit mask i || wI ops oi ok ei ek then ad2 ops mask ok ek (i+1) r else false
def ad1(ops:Array Oper):List Nat->List (Oper×gJ)->List (Oper×gJ)->Bool
 |_,_,[]=>true
 |[],_,_::_=>false
 |m::ms,done,(o,e)::r=>bif ad2 ops m o e 0 done then ad1 ops ms (done++[(o,e)]) r else false
def BG:Nat->List Oper->Bool
 |_,[]=>true
 |i,o::r=>bif o.after.all (λe=> !Region.binds .any e || Nat.blt e.on i)then BG (i+1) r else false
def OC(ops:Y4)(tr:nJ):Bool:=ad1 ops.toArray (Region.before ops.toArray).toList [] (ops.zip tr)&&BG 0 ops
def rM(guards:Bool)(r:SV)(K:SV->Prop):Prop:=
 bif guards then(match r with
  |.c (.v (.bool b))=>(b=true->K .kt)/\(b=false->K .kf)
  |r=>K r)
 else K r
def lV(all:List Oper):Nat->List Oper->St->List gJ->(List gJ->St->Prop)->Prop
 |_,[],st,tr,K=>K tr.reverse st
 |i,o::rest,st,tr,K=>
  bif inRange n o.dst then
   match o.guard with
   |.none=>fP H T (look st) st.obj o.dst o.op o.type λr rd u=>rM (CJ all i) r λr=>lV all (i+1) rest (gG st o ⟨r,rd,u⟩) (⟨r,rd,u⟩::tr) K
   |some (j,want)=>match(all[j]?).bind (·.dst)with
    |.none=>False
    |some dj=>match st.env dj with
     |.kt=>bif want then fP H T (look st) st.obj o.dst o.op o.type λr rd u=>rM (CJ all i) r λr=>lV all (i+1) rest (gG st o ⟨r,rd,u⟩) (⟨r,rd,u⟩::tr) K
       else lV all (i+1) rest (gG st o ⟨.un,[],[]⟩) (⟨.un,[],[]⟩::tr) K
     |.kf=>bif want then lV all (i+1) rest (gG st o ⟨.un,[],[]⟩) (⟨.un,[],[]⟩::tr) K
       else fP H T (look st) st.obj o.dst o.op o.type λr rd u=>rM (CJ all i) r λr=>lV all (i+1) rest (gG st o ⟨r,rd,u⟩) (⟨r,rd,u⟩::tr) K
     |.un=>lV all (i+1) rest (gG st o ⟨.un,[],[]⟩) (⟨.un,[],[]⟩::tr) K
     |_=>False
  else False
def bh3(ops:Y4)(st:St)(K:St->Prop):Prop:=
 lV H T n ops 0 ops st [] λtr st'=>OC ops tr=true/\K st'
def DC(obj:J8):SV->SV
 |.ap t g sz es=>match obj t with
  |(g',.tok _ _)=>bif Nat.beq g g' then .ap t 0 sz es else .c (.sl sz es)
  |_=>.c (.sl sz es)
 |.pm t g off=>match obj t with
  |(g',.var _)=>bif Nat.beq g g' then .pm t 0 off else .any
  |(g',.ro _)=>bif Nat.beq g g' then .pm t 0 off else .any
  |(g',.varx _)=>bif Nat.beq g g' then .pm t 0 off else .any
  |_=>.any
 |.V4 _ _=>.any
 |.aY _=>.any
 |.fC _=>.any
 |.rs t g=>match obj t with
  |(g',.arr _ _ _ _)=>bif Nat.beq g g' then .rs t 0 else .any
  |_=>.any
 |.mr t g=>match obj t with
  |(g',.map _)=>bif Nat.beq g g' then .mr t 0 else .any
  |_=>.any
 |.pe t g n off=>match obj t with
  |(g',.arr _ _ _ _)=>bif Nat.beq g g' then .pe t 0 n off else .any
  |_=>.any
 |.kt=>.c (.v (.bool true))
 |.kf=>.c (.v (.bool false))
 |s=>s
def aT9(obj:J8):SV->SV
 |.V4 f caps=>.V4 f (caps.map (DC obj))
 |s=>DC obj s
def IL(obj:J8):CV->Bool
 |.rs t g=>match obj t with
  |(g',.arr _ _ _ _)=>Nat.beq g g'
  |_=>false
 |.pr t g _=>match obj t with
  |(g',.var _)=>Nat.beq g g'
  |(g',.ro _)=>Nat.beq g g'
  |(g',.varx _)=>Nat.beq g g'
  |_=>false
 |.mr t g=>match obj t with
  |(g',.map _)=>Nat.beq g g'
  |_=>false
 |.fr _ _=>false
 |_=>true
def aS0(obj:J8):CV->Bool
 |.fr _ caps=>caps.all (IL obj)
 |c=>IL obj c
def ab9(obj:J8)(cs:G9):Bool:=cs.all (aS0 obj)
def ad3:CV->CV
 |.rs t _=>.rs t 0
 |.pr t _ off=>.pr t 0 off
 |.mr t _=>.mr t 0
 |c=>c
def CZ:CV->CV
 |.fr f caps=>.fr f (caps.map ad3)
 |c=>ad3 c
def kF(obj:J8):G8->G8
 |.varx cs=>bif ab9 obj cs then .varx (cs.map CZ)else .none
 |.arr el sz ds (some (m,cs))=>bif ab9 obj cs then .arr el sz ds (some (m,cs.map CZ))else .none
 |o=>o
def PIN:Nat:=4294967296
def at1(st:St)(s:Nat):G8:=bif Nat.blt s PIN || Nat.beq (st.obj s).1 0 then kF st.obj (st.obj s).2 else .none
def Weak(st st':St):Prop:=
 (∀t,st'.env t=.any\/st'.env t=aT9 st.obj (st.env t))/\∀s,st'.obj s=(0,.none)\/st'.obj s=(0,at1 st s)
def eP:Code->(Exit->St->Prop)->St->Prop
 |.skip,K,st=>K .normal st
 |.region _ ops draw,K,st=>bif draw then bh3 H T n ops.toList st (K .normal)else wpOps H T n ops.toList ops.toList st (K .normal)
 |.seq a b,K,st=>bif NR a then eP a (λe st=>match e with|.normal=>eP b K st\/∃st0,Weak st st0/\eP b K st0|e=>K e st) st
   else eP a (λe st=>match e with|.normal=>eP b K st|e=>K e st) st
 |.cond c a b,K,st=>match look st c with
  |.kt=>eP a K st
  |.kf=>eP b K st
  |.c (.v (.bool q))=>(q=true->eP a K st)/\(q=false->eP b K st)
  |_=>False
 |.block id body,K,st=>eP body (λe st=>match e with|.exit j=>bif Nat.beq j id then K .normal st else K e st|e=>K e st) st
 |.loop body,K,st=>∃I:Nat->St->Prop,(∃k st0,Weak st st0/\I k st0)/\
   ∀k st1,I k st1->eP body (λe st2=>match e with|.normal=>∃k' PX,k'<k/\Weak st2 PX/\I k' PX|e=>K e st2) st1
 |.exit id,K,st=>K (.exit id) st
 |.ret,K,st=>K .ret st
 |.rangeFunc g ps assign body,K,st=>bh6 H n g ps assign body K st
 |.scope body,K,st=>eP body (λe st=>match e with|.goto _=>False|e=>K e st) st
 |.label _,K,st=>K .normal st
 |_,_,_=>False
end
def eF:Code->Bool
 |.rangeFunc _ _ _ _=>false
 |.seq a b=>eF a&&eF b
 |.cond _ a b=>eF a&&eF b
 |.block _ a=>eF a
 |.loop a=>eF a
 |.scope a=>eF a
 |_=>true
def xC:List (Nat×SV)->Nat->SV
 |[],_=>.any
 |(k,s)::r,t=>bif Nat.beq k t then s else xC r t
def mkObj:List (Nat×G8)->J8
 |[],_=>(0,.none)
 |(k,o)::r,s=>bif Nat.beq k s then(0,o)else mkObj r s
def aX(st:St):List (Nat×SV)->Prop
 |[]=>True
 |(t,s)::r=>aT9 st.obj (st.env t)=s/\aX st r
def KR(st:St):List (Nat×G8)->Prop
 |[]=>True
 |(t,o)::r=>at1 st t=o/\KR st r
theorem bg6{st:St}{l:FD}{m:Y0}(h:aX st l)(h':KR st m):Weak st ⟨xC l,mkObj m⟩:=by
 constructor
 .intro t;induction l with
  |nil=>exact .inl rfl
  |cons p r ih=>
   obtain⟨k,s⟩:=p;simp only[xC];cases hb:Nat.beq k t with
   |false=>exact ih h.2
   |true=>
    have:=G5 hb;subst this;exact .inr h.1.symm
 .intro t;induction m with
  |nil=>exact .inl rfl
  |cons p r ih=>
   obtain⟨k,o⟩:=p;simp only[mkObj];cases hb:Nat.beq k t with
   |false=>exact ih h'.2
   |true=>
    have:=G5 hb;subst this;exact .inr (by rw[h'.1];rfl)
def ar4:List CV->Nat->SV
 |[],_=>.any
 |c::_,0=>.c c
 |_::r,t+1=>ar4 r t
def aa8(args:G9):St:=⟨ar4 args,λ_=>(0,.none)⟩
def DV(T:Tab)(st:St):ResultVar->Option CV
 |.tmp t=>bU (st.env t)
 |.cell x t=>match T.get t,st.env x with
  |some i,.pm s g off=>match st.obj s with
   |(g',.var cs)=>bif Nat.beq g g' then part i cs off else .none
   |_=>.none
  |_,_=>.none
def ae8(T:Tab)(st:St)(rv:ResultVar)(c:CV):Prop:=
 match rv with
 |.tmp t=>match st.env t with
  |.rs s g=>match st.obj s with
   |(g',.arr _ sz ds D7)=>Nat.beq g g'=true/\∃ds',c=.sl sz ds'/\(match D7 with
    |.none=>ds'=ds
    |some (m,cs)=>∃cs',GL st.obj cs=some cs'/\ds'=ds.set m cs')
   |_=>False
  |.aY cs=>∃cs',GL st.obj cs=some cs'/\c=.agg cs'
  |.mr s g=>match st.obj s with
   |(g',.map es)=>Nat.beq g g'=true/\c=.mp es
   |_=>False
  |_=>DV T st rv=some c
 |.cell x t=>match T.get t,st.env x with
  |some i,.pm s g off=>match st.obj s with
   |(g',.varx cs)=>Nat.beq g g'=true/\∃cs',GL st.obj cs=some cs'/\part i cs' off=some c
   |_=>DV T st rv=some c
  |_,_=>False
def ae9(T:Tab)(st:St):List ResultVar->List CV->Prop
 |[],cs=>cs=[]
 |r::rs,cs=>match cs with
  |[]=>False
  |c::cs=>ae8 T st r c/\ae9 T st rs cs
def kJ(T:Tab)(st:St):List ResultVar->Option (List CV)
 |[]=>some []
 |r::rs=>match DV T st r,kJ T st rs with
  |some c,some cs=>some (c::cs)
  |_,_=>.none
def ae7(T:Tab)(st:St)(rs:List ResultVar):Option CV:=
 match rs with
 |[x]=>DV T st x
 |rs=>(kJ T st rs).map CV.U6
def kT(τ:List (Nat×Nat)):CV->Option CV
 |.ow j=>match τ[j]? with
  |some (t,g)=>some (.rs t g)
  |.none=>.none
 |.rs _ _=>.none
 |.pr _ _ _=>.none
 |.mr _ _=>.none
 |.fr _ _=>.none
 |.bp _ _=>.none
 |c=>some c
def wJ(τ:List (Nat×Nat)):List CV->Option (List CV)
 |[]=>some []
 |c::r=>match kT τ c,wJ τ r with
  |some c,some cs=>some (c::cs)
  |_,_=>.none
def RZ(τ:List (Nat×Nat)):Option (Nat×List CV)->Option (Option (Nat×List CV))
 |.none=>some .none
 |some (m,cs)=>(wJ τ cs).map λcs=>some (m,cs)
def VR(st:St)(τ:List (Nat×Nat)):List (Nat×Nat)->List (Nat×Nat×List (List CV)×Option (Nat×List CV))->Prop
 |[],os=>os=[]
 |(t,g)::r,os=>match os with
  |[]=>False
  |(el,sz,ds,D7)::os=>(match RZ τ D7 with
   |some f=>st.obj t=(g,.arr el sz ds f)
   |.none=>False)/\VR st τ r os
def nodupB:List Nat->Bool
 |[]=>true
 |x::r=>bif r.any (Nat.beq x)then false else nodupB r
def bT0(T:Tab)(st:St)(rs:List ResultVar)(r:CV)(os:List (Nat×Nat×List (List CV)×Option (Nat×List CV))):Prop:=
 ∃τ:List (Nat×Nat),nodupB (τ.map (·.1))=true/\VR st τ τ os/\match rs,r with
  |[.tmp t],.ow j=>(τ[j]?).map (λp=>SV.rs p.1 p.2)=some (st.env t)
  |[.tmp t],.agg cs=>(wJ τ cs).map SV.aY=some (st.env t)
  |[.cell x t],.agg cs=>(match T.get t,st.env x with
   |some i,.pm s g off=>match st.obj s with
    |(g',.varx ys)=>Nat.beq g g'=true/\∃zs,wJ τ cs=some zs/\part i ys off=some (.agg zs)
    |_=>False
   |_,_=>False)
  |_,_=>False
def vT(T:Tab)(rs:List ResultVar)(r:CV)(st:St):Prop:=
 (r.pure=true/\ae7 T st rs=some r)\/(match r with
   |.wo r os=>bT0 T st rs r os
   |.U6 cs=>ae9 T st rs cs/\rs.length≠1
   |r=>match rs with|[x]=>ae8 T st x r|_=>False)
def bS8(T:Tab)(rs:List ResultVar)(r:CV)(e:Exit)(st:St):Prop:=
 match e with
 |.ret=>vT T rs r st
 |.normal=>vT T rs r st
 |_=>False
end Go.F7
namespace Go.F7
open Go Go.RowKit
abbrev eU(ρ:E8):Fence:={ Fence.wide with round:=ρ }
def Oper.dV(P:Program)(o:Oper)(a:Act)(w:World)(next:kR)(Q:dD):Prop:=
 ∀ρ:E8,o.wpIn (eU ρ) 0 P a w next Q
def SE{ρ:E8}{n:Nat}{P:Program}{f:FuncId}{args:S9}{w:World}{R:Ending->World->Prop}:CallsIn (eU ρ) n P f args w R↔Calls P f args w R:=callsIn_wide
def QS{P:Program}{o:Oper}{a:Act}{w:World}{next:kR}{Q:dD}(hd:∀c,o.op≠.defer c)(h:o.wp P a w next Q):Oper.dV P o a w next Q:=by
 intro ρ;refine⟨λ_ _=>trivial,?_⟩;rw[Oper.semAt_eq _ _ _ hd];unfold Oper.wp at h;generalize (execOp a.eval o).run P w=r at h;have hn:∀m:Nat,((eU ρ).depth.isSome=true->1<=m):=λm h=>by cases h
 cases r with
 |ok x w'=>
  cases x with
  |enter f args=>exact⟨hn _,SE.2 h⟩
  |row row args=>exact⟨hn _,λc cs _=>by obtain⟨v,w'',q1,q2⟩:=h c cs;exact⟨v,w'',q1,stepsIn_wide.2 q2⟩⟩
  |_=>first|exact h|exact h.elim
 |halt x w'=>cases x<;>first|exact h|exact h.elim
def Keeps.refl(Z:Zone)(w:World):Keeps Z w Z w:=λ_ _ h=>⟨h,rfl,λ_ _ h=>h⟩
def Keeps.trans{Z Z' gU:Zone}{w w' w'':World}(h:Keeps Z w Z' w')(h':Keeps Z' w' gU w''):Keeps Z w gU w'':=
 λb o hz=>⟨(h' b o (h b o hz).1).1,(h' b o (h b o hz).1).2.1.trans (h b o hz).2.1,λes c he=>(h' b o (h b o hz).1).2.2 es c ((h b o hz).2.2 es c he)⟩
def Rep.keep{Z Z':Zone}{w w':World}(hk:Keeps Z w Z' w'){c:CV}{x:Value}(h:Rep Z w c x):Rep Z' w' c x:=by
 induction h with
 |v x=>exact .v x
 |agg cs vs hl _ ha ih=>exact .agg cs vs hl ih ha
 |nil sz a cap=>exact .nil sz a cap
 |sl sz ds b o cap f hcap hsz hc _ ih=>
  refine .sl sz ds b o cap f hcap hsz (λi j d c h1 h2=>?_) ih;obtain⟨hz,hcell,hat⟩:=hc i j d c h1 h2;exact⟨(hk _ _ hz).1,(hk _ _ hz).2.1.trans hcell,hat⟩
 |pi cs b o off f hc _ ih=>
  refine .pi cs b o off f (λj c h1=>?_) ih;obtain⟨hz,hcell,hat⟩:=hc j c h1;exact⟨(hk _ _ hz).1,(hk _ _ hz).2.1.trans hcell,hat⟩
 |fn f caps vs hl _ ih=>exact .fn f caps vs hl ih
 |U6 cs vs hl _ ih=>exact .U6 cs vs hl ih
 |mpn=>exact .mpn
 |mp es b arr clock hz hh hl _ _ ih1 ih2=>exact .mp es b arr clock (hk _ _ hz).1 ((hk _ _ hz).2.2 _ _ hh) hl ih1 ih2
def Rep.atom{Z:Zone}{w:World}{c:CV}{x:Value}(h:Rep Z w c x)(ha:c.atom=true):x.oneCell'=true:=by
 cases h<;>first|exact ha|rfl|(simp[CV.atom]at ha)
def U0(Z:Zone)(w:World)(cs:G9)(vs:H6):Prop:=cs.length=vs.length/\∀(i:Nat)(c:CV)(x:Value),cs[i]?=some c->vs[i]?=some x->Rep Z w c x
def U0.nil(Z:Zone)(w:World):U0 Z w [] []:=⟨rfl,λi c x h=>by simp at h⟩
def U0.cons{Z:Zone}{w:World}{c:CV}{x:Value}{cs:G9}{vs:H6}(h:Rep Z w c x)(hs:U0 Z w cs vs):U0 Z w (c::cs) (x::vs):=by
 refine⟨by simp[hs.1],λi c' x' h1 h2=>?_⟩;cases i with
 |zero=>grind
 |succ i=>simp at h1 h2;exact hs.2 i c' x' h1 h2
theorem U0.head{Z:Zone}{w:World}{c:CV}{x:Value}{cs:G9}{vs:H6}(h:U0 Z w (c::cs) (x::vs)):Rep Z w c x:=h.2 0 c x rfl rfl
def U0.tail{Z:Zone}{w:World}{c:CV}{x:Value}{cs:G9}{vs:H6}(h:U0 Z w (c::cs) (x::vs)):U0 Z w cs vs:=
 ⟨by have:=h.1;simpa using this,λi c' x' h1 h2=>h.2 (i+1) c' x' (by simpa using h1) (by simpa using h2)⟩
def U0.keep{Z Z':Zone}{w w':World}(hk:Keeps Z w Z' w'){cs:G9}{vs:H6}(h:U0 Z w cs vs):U0 Z' w' cs vs:=⟨h.1,λi c x h1 h2=>(h.2 i c x h1 h2).keep hk⟩
def U0.append{Z:Zone}{w:World}{cs ds:G9}{vs us:H6}(h:U0 Z w cs vs)(k:U0 Z w ds us):U0 Z w (cs++ds) (vs++us):=by
 induction cs generalizing vs with
 |nil=>
  cases vs with
  |nil=>exact k
  |cons x xs=>have:=h.1;simp at this
 |cons c cs ih=>
  cases vs with
  |nil=>have:=h.1;simp at this
  |cons x xs=>exact U0.cons h.head (ih h.tail)
def live(obj:J8)(t g:Nat):Prop:=∃cs,obj t=(g,.var cs)\/obj t=(g,.ro cs)\/obj t=(g,.varx cs)
inductive iK(Z:Zone)(w:World)(obj:J8)(E:Nat->Value):CV->Value->Prop
 |cl {c:CV} {x:Value} (h:Rep Z w c x):iK Z w obj E c x
 |rs (t g:Nat) (x:Value) (hs:∃a l k,x=.slice a l k) (hg:g<=(obj t).1) (h:∀el sz ds D7,obj t=(g,.arr el sz ds D7)->E t=x):iK Z w obj E (.rs t g) x
 |pr (t g off:Nat) (x:Value) (hs:∃p,x=.pointer p) (hg:g<=(obj t).1) (h:live obj t g->∃b,E t=.pointer (some ⟨b,0,none⟩)/\x=.pointer (some ⟨b,off,none⟩)):iK Z w obj E (.pr t g off) x
 |mr (t g:Nat) (x:Value) (hs:∃b,x=.map b) (hg:g<=(obj t).1) (h:∀es,obj t=(g,.map es)->E t=x):iK Z w obj E (.mr t g) x
 |bp (T:Nat) (f:Bool) (x:Value) (hs:∃p,x=.pointer p):iK Z w obj E (.bp T f) x
inductive Z5(Z:Zone)(w:World)(obj:J8)(E:Nat->Value):CV->Value->Prop
 |one {c:CV} {x:Value} (h:iK Z w obj E c x):Z5 Z w obj E c x
 |fr (f:FuncId) (caps:List CV) (vs:List Value) (hl:caps.length=vs.length) (h:∀(i:Nat)(c:CV)(x:Value),caps[i]?=some c->vs[i]?=some x->iK Z w obj E c x):
   Z5 Z w obj E (.fr f caps) (.func (.func f) #[] vs.toArray)
def Z5.cl{Z:Zone}{w:World}{obj:J8}{E:Q8}{c:CV}{x:Value}(h:Rep Z w c x):Z5 Z w obj E c x:=.one (.cl h)
inductive O7(Z:Zone)(w:World)(obj:J8)(E:Nat->Value):SV->Value->Prop
 |any (x:Value):O7 Z w obj E .any x
 |un:O7 Z w obj E .un undef
 |kt:O7 Z w obj E .kt (.bool true)
 |kf:O7 Z w obj E .kf (.bool false)
 |c (c:CV) (x:Value) (h:Rep Z w c x):O7 Z w obj E (.c c) x
 |pm (t g off:Nat) (x:Value) (hs:∃p,x=.pointer p) (hg:g<=(obj t).1) (h:live obj t g->∃b,E t=.pointer (some ⟨b,0,none⟩)/\x=.pointer (some ⟨b,off,none⟩)):O7 Z w obj E (.pm t g off) x
 |ap (t g sz:Nat) (es:List (List CV)) (x:Value) (h:Rep Z w (.sl sz es) x) (hg:g<=(obj t).1) (ht:∀el s,obj t=(g,.tok el s)->E t=x):O7 Z w obj E (.ap t g sz es) x
 |V4 (f:FV) (caps:List SV) (vs:List Value) (hf:f.ok vs) (hl:caps.length=vs.length) (h:∀(i:Nat)(s:SV)(x:Value),caps[i]?=some s->vs[i]?=some x->O7 Z w obj E s x):
   O7 Z w obj E (.V4 f caps) (f.val vs)
 |rs (t g:Nat) (x:Value) (hs:∃a l k,x=.slice a l k) (hg:g<=(obj t).1) (h:∀el sz ds D7,obj t=(g,.arr el sz ds D7)->E t=x):O7 Z w obj E (.rs t g) x
 |aY (cs:List CV) (vs:List Value) (hl:cs.length=vs.length) (h:∀(i:Nat)(c:CV)(x:Value),cs[i]?=some c->vs[i]?=some x->Z5 Z w obj E c x)
   (ha:∀(i:Nat)(c:CV),cs[i]?=some c->c.atom=true):O7 Z w obj E (.aY cs) (.agg vs.toArray)
 |fC (cs:List CV) (vs:List Value) (hl:cs.length=vs.length) (h:∀(i:Nat)(c:CV)(x:Value),cs[i]?=some c->vs[i]?=some x->Z5 Z w obj E c x)
   (ha:∀(i:Nat)(c:CV),cs[i]?=some c->c.atom=true):O7 Z w obj E (.fC cs) (.tuple vs.toArray)
 |pe (t g n off:Nat) (x:Value) (hg:g<=(obj t).1) (h:∀el sz ds D7,obj t=(g,.arr el sz ds D7)->∃b l k,E t=.slice (some ⟨b,0,none⟩) l k/\x=.pointer (some ⟨b,n*sz+off,none⟩)):O7 Z w obj E (.pe t g n off) x
 |mr (t g:Nat) (x:Value) (hs:∃b,x=.map b) (hg:g<=(obj t).1) (h:∀es,obj t=(g,.map es)->E t=x):O7 Z w obj E (.mr t g) x
structure eY(obj:J8)(E:Nat->Value)(D8:J8)(E':Nat->Value):Prop where
 gen:∀t,(obj t).1<=(D8 t).1
 var:∀t g,g<=(obj t).1->live D8 t g->live obj t g/\E' t=E t
 tok:∀t g el s,g<=(obj t).1->D8 t=(g,.tok el s)->obj t=(g,.tok el s)/\E' t=E t
 arr:∀t g el sz ds D7,g<=(obj t).1->D8 t=(g,.arr el sz ds D7)->(∃ds0 oJ,obj t=(g,.arr el sz ds0 oJ))/\E' t=E t
 map:∀t g es,g<=(obj t).1->D8 t=(g,.map es)->(∃es0,obj t=(g,.map es0))/\E' t=E t
def eY.refl(obj:J8)(E:Q8):eY obj E obj E:=⟨λ_=>N8 _,λ_ _ _ h=>⟨h,rfl⟩,λ_ _ _ _ _ h=>⟨h,rfl⟩,λ_ _ _ _ _ _ _ h=>⟨⟨_,_,h⟩,rfl⟩,λ_ _ _ _ h=>⟨⟨_,h⟩,rfl⟩⟩
def iK.keep{Z Z':Zone}{w w':World}{obj D8:J8}{E E':Q8}(hk:Keeps Z w Z' w')(ho:eY obj E D8 E'){c:CV}{x:Value}(h:iK Z w obj E c x):iK Z' w' D8 E' c x:=by
 cases h with
 |cl h=>exact .cl (h.keep hk)
 |rs t g x hs hg h=>
  refine .rs t g x hs (Y2 hg (ho.gen t)) λel sz ds D7 he=>?_;obtain⟨⟨ds0,oJ,h0⟩,hE⟩:=ho.arr t g el sz ds D7 hg he
  grind
 |pr t g off x hs hg h=>
  refine .pr t g off x hs (Y2 hg (ho.gen t)) λhl=>?_;obtain⟨hl',hE⟩:=ho.var t g hg hl
  grind
 |mr t g x hs hg h=>
  refine .mr t g x hs (Y2 hg (ho.gen t)) λes he=>?_;obtain⟨⟨es0,h0⟩,hE⟩:=ho.map t g es hg he
  grind
 |bp T f x hs=>exact .bp T f x hs
def Z5.keep{Z Z':Zone}{w w':World}{obj D8:J8}{E E':Q8}(hk:Keeps Z w Z' w')(ho:eY obj E D8 E'){c:CV}{x:Value}(h:Z5 Z w obj E c x):Z5 Z' w' D8 E' c x:=by
 cases h with
 |one h=>exact .one (h.keep hk ho)
 |fr f caps vs hl h=>exact .fr f caps vs hl λi c x h1 h2=>(h i c x h1 h2).keep hk ho
def O7.keep{Z Z':Zone}{w w':World}{obj D8:J8}{E E':Q8}(hk:Keeps Z w Z' w')(ho:eY obj E D8 E'){s:SV}{x:Value}(h:O7 Z w obj E s x):O7 Z' w' D8 E' s x:=by
 induction h with
 |any x=>exact .any x
 |un=>exact .un
 |kt=>exact .kt
 |kf=>exact .kf
 |c c x h=>exact .c c x (h.keep hk)
 |pm t g off x hs hg h=>
  refine .pm t g off x hs (Y2 hg (ho.gen t)) λhl=>?_;obtain⟨hl',hE⟩:=ho.var t g hg hl
  grind
 |ap t g sz es x h hg ht=>
  refine .ap t g sz es x (h.keep hk) (Y2 hg (ho.gen t)) λel s hl=>?_;obtain⟨hl',hE⟩:=ho.tok t g el s hg hl
  grind
 |V4 f caps vs hf hl _ ih=>exact .V4 f caps vs hf hl ih
 |rs t g x hs hg h=>
  refine .rs t g x hs (Y2 hg (ho.gen t)) λel sz ds D7 he=>?_;obtain⟨⟨ds0,oJ,h0⟩,hE⟩:=ho.arr t g el sz ds D7 hg he
  grind
 |aY cs vs hl h ha=>exact .aY cs vs hl (λi c x h1 h2=>(h i c x h1 h2).keep hk ho) ha
 |fC cs vs hl h ha=>exact .fC cs vs hl (λi c x h1 h2=>(h i c x h1 h2).keep hk ho) ha
 |pe t g n off x hg h=>
  refine .pe t g n off x (Y2 hg (ho.gen t)) λel sz ds D7 he=>?_;obtain⟨⟨ds0,oJ,h0⟩,hE⟩:=ho.arr t g el sz ds D7 hg he
  grind
 |mr t g x hs hg h=>
  refine .mr t g x hs (Y2 hg (ho.gen t)) λes he=>?_;obtain⟨⟨es0,h0⟩,hE⟩:=ho.map t g es hg he
  grind
@[reducible] def G8.blk (o:G8) (e:Value) (b:Nat):Prop:=
  match o,e with
  |.var _,.pointer (some a)=>a.block=b
  |.ro _,.pointer (some a)=>a.block=b
  |.tok _ _,.slice (some a) _ _=>a.block=b
  |.varx _,.pointer (some a)=>a.block=b
  |.arr _ _ _ _,.slice (some a) _ _=>a.block=b
  |.map _,.map (some m)=>m=b
  |.lp l _ _,_=>l=b
  |_,_=>False
def aO(ds:List (List CV))(D7:Option (Nat×List CV))(i:Nat):Option (List CV):=
 match D7 with
 |.none=>ds[i]?
 |some (m,d)=>if i=m then some d else ds[i]?
def KN(ds:dS)(D7:uX):Prop:=
 (∀m d,D7=some (m,d)->m<ds.length)/\∀(i:Nat)(d:G9),ds[i]?=some d->(∀m d',D7=some (m,d')->i≠m)->qB d=true
theorem Rep.IV{Z:Zone}{w:World}{c:CV}{x:Value}(h:Rep Z w c x):c.qA=false:=by cases h<;>rfl
def iK.closed{Z:Zone}{w:World}{obj:J8}{E:Q8}{c:CV}{x:Value}(h:iK Z w obj E c x)(hc:c.qA=false):Rep Z w c x:=by
 cases h with
 |cl h=>exact h
 |rs=>cases hc
 |pr=>cases hc
 |mr=>cases hc
 |bp=>cases hc
def Z5.closed{Z:Zone}{w:World}{obj:J8}{E:Q8}{c:CV}{x:Value}(h:Z5 Z w obj E c x)(hc:c.qA=false):Rep Z w c x:=by
 cases h with
 |one h=>exact h.closed hc
 |fr=>cases hc
def mY:∀{cs:G9}(_:qB cs=true){j:Nat}{c:CV},cs[j]?=some c->c.qA=false
 |[],_,_,_,hj=>by simp at hj
 |d::r,h,j,c,hj=>by
  simp only[qB]at h;cases hd:d.qA with
  |true=>grind
  |false=>
   rw[hd]at h;cases j with
   |zero=>grind
   |succ j=>exact mY h (by simpa using hj)
def OE:∀{cs:G9},(∀(j:Nat)(c:CV),cs[j]?=some c->c.qA=false)->qB cs=true
 |[],_=>rfl
 |d::r,h=>by
  simp only[qB,h 0 d rfl,G6];exact OE λj c hj=>h (j+1) c (by simpa using hj)
def lM:Obj:=.deferred (some [])
structure Kept(S:Nat->Prop)(w w':World):Prop where
 os:w'.os=w.os
 tape:w'.tape=w.tape
 output:w'.output=w.output
 size:w.heap.size<=w'.heap.size
 block:∀k,S k->w'.heap[k]?=w.heap[k]?
 dK:∀k:Nat,w.heap[k]?=some lM->w'.heap[k]?=some lM
def ax6(w:World)(g k:Nat)(cs:S9)(h:w.heap[k]?=some lM):(w.setRow g cs).heap[k]?=some lM:=by
 by_cases hk:k=g
 .subst hk;simp[World.setRow,zM,h,lM]
 .rw[vW w g k cs hk];exact h
def Kept.refl(S:U2)(w:World):Kept S w w:=⟨rfl,rfl,rfl,N8 _,λ_ _=>rfl,λ_ h=>h⟩
def Kept.trans{S:U2}{a b c:World}(h:Kept S a b)(k:Kept S b c):Kept S a c:=
 ⟨k.os.trans h.os,k.tape.trans h.tape,k.output.trans h.output,Y2 h.size k.size,λi hi=>(k.block i hi).trans (h.block i hi),λi hi=>k.dK i (h.dK i hi)⟩
def Kept.mono{S S':U2}{w w':World}(h:Kept S w w')(hs:∀k,S' k->S k):Kept S' w w':=⟨h.os,h.tape,h.output,h.size,λk hk=>h.block k (hs k hk),h.dK⟩
def Kept.drew{S:U2}{a w:World}(h:Kept S a w):Kept S a w.drew:=⟨h.os,h.tape,h.output,h.size,h.block,h.dK⟩
def Kept.alloc{S:U2}{a w:World}(h:Kept S a w)(hS:∀k,S k->k<w.heap.size)(o:Obj):Kept S a (w.alloc o):=
 h.trans ⟨rfl,rfl,rfl,by simp,λk hk=>Below.heap_alloc _ _ _ (hS k hk),λk hk=>(Below.heap_alloc _ _ _ (X6.1 hk).1).trans hk⟩
def Kept.grown{S:U2}{a w w':World}{row:E8}(h:Kept S a w)(hg:w.grownBy w' row)(hS:∀k,S k->k<w.heap.size)(hr:∀k,row=some k->¬S k)(hd:∀k,row=some k->w.heap[k]?≠some lM):Kept S a w':=
 h.trans ⟨hg.os,hg.tape,hg.output,hg.size,λk hk=>hg.block k (hS k hk) (λe=>hr k e.symm hk),λk hk=>(hg.block k (X6.1 hk).1 (λe=>hd k e.symm hk)).trans hk⟩
def Kept.of_below{S:U2}{w w':World}(h:Below w.heap.size w w')(hS:∀k,S k->k<w.heap.size):Kept S w w':=⟨h.os,h.tape,h.output,h.size,λk hk=>h.block k (hS k hk),λk hk=>(h.block k (X6.1 hk).1).trans hk⟩
def Kept.below{B:Nat}{w w':World}(h:Kept (λk=>k<B) w w'):Below B w w':=⟨h.os,h.tape,h.output,h.size,h.block⟩
def KJ(e:Value)(el:Nat)(arr:S9)(cs:G9):Prop:=∀(j T:Nat)(f:Bool),cs[j]?=some (.bp T f)->el=T/\arr[j]?=some (bif f then e else .pointer none)
def bI2:∀{cs:G9}(_:as8 cs=true){j:Nat}{c:CV},cs[j]?=some c->c.IC=false
 |[],_,_,_,hj=>by simp at hj
 |d::r,h,j,c,hj=>by
  simp only[as8]at h;cases hd:d.IC with
  |true=>grind
  |false=>
   rw[hd]at h;cases j with
   |zero=>grind
   |succ j=>exact bI2 h (by simpa using hj)
def KJ.none{e:Value}{el:Nat}{arr:S9}{cs:G9}(h:∀(j:Nat)(c:CV),cs[j]?=some c->c.IC=false):KJ e el arr cs:=λj T f hj=>by have:=h j _ hj;simp[CV.IC]at this
def KJ.same{e:Value}{el:Nat}{arr:S9}{cs cs':G9}(h:KJ e el arr cs)(hs:∀(j T:Nat)(f:Bool),cs'[j]?=some (.bp T f)->cs[j]?=some (.bp T f)):KJ e el arr cs':=λj T f hj=>h j T f (hs j T f hj)
theorem Rep.c52{Z:Zone}{w:World}{c:CV}{x:Value}(h:Rep Z w c x):c.IC=false:=by cases h<;>rfl
structure Born(arr:Array MapEntry)(clock:Nat):Prop where
 lt:∀e∈arr.toList,e.born<clock
 nd:(arr.toList.map (·.born)).Nodup
def Born.nil:Born #[] 0:=⟨λ_ h=>by simp at h,by simp⟩
def Born.push{arr:lH}{c:Nat}(h:Born arr c)(k v:Value):Born (arr.push { key:=k,val:=v,born:=c }) (c+1) where
 lt e he:=by
  simp only[Array.toList_push,iY,xZ]at he;rcases he with he|rfl
  .exact Nat.lt_succ_of_lt (h.lt e he)
  .grind
 nd:=by
  simp only[Array.toList_push,List.map_append,kP,List.map_nil];refine List.nodup_append.2 ⟨h.nd,by simp,λa ha b hb=>?_⟩;obtain⟨e,he,rfl⟩:=jH.1 ha;simp at hb;subst hb;exact Nat.ne_of_lt (h.lt e he)
def Born.modify{arr:lH}{c:Nat}(h:Born arr c)(i:Nat)(f:MapEntry->MapEntry)(hf:∀e,(f e).born=e.born):Born (arr.modify i f) c:=by
 have key:(arr.modify i f).toList.map (·.born)=arr.toList.map (·.born):=by
  apply nZ
  grind
 refine⟨λe he=>?_,key▸h.nd⟩;have hm:e.born∈(arr.modify i f).toList.map (·.born):=jH.2 ⟨e,he,rfl⟩;rw[key]at hm;obtain⟨e',h1,h2⟩:=jH.1 hm;exact h2▸h.lt e' h1
def X7(Z:Zone)(w:World)(obj:J8)(E:Nat->Value)(e:Value):G8->Prop
 |.none=>True
 |.spent=>True
 |.var cs=>∃b el arr,e=.pointer (some ⟨b,0,none⟩)/\w.heap[b]?=some (.cells arr el (0,0))/\arr.size=cs.length/\
   (∀(j:Nat)(c:CV),cs[j]?=some c->c.atom=true/\∃x,arr[j]?=some x/\Rep Z w c x)/\∀o,¬Z b o
 |.ro cs=>∃b el arr,e=.pointer (some ⟨b,0,none⟩)/\w.heap[b]?=some (.cells arr el (0,0))/\arr.size=cs.length/\
   (∀(j:Nat)(c:CV),cs[j]?=some c->c.atom=true/\Z b j/\∃x,arr[j]?=some x/\Rep Z w c x)
 |.tok el sz=>∃n xs,0<sz/\w.ownsRow 0 el sz e n xs/\∀g cap,e=.slice (some ⟨g,0,none⟩) n cap->(∀o,n*sz<=o->¬Z g o)
 |.varx cs=>∃b el arr,e=.pointer (some ⟨b,0,none⟩)/\w.heap[b]?=some (.cells arr el (0,0))/\arr.size=cs.length/\
   (∀(j:Nat)(c:CV),cs[j]?=some c->c.atom=true/\∃x,arr[j]?=some x/\Z5 Z w obj E c x)/\(∀o,¬Z b o)/\KJ e el arr cs
 |.arr el sz ds D7=>∃xs,0<sz/\w.ownsRow 0 el sz e ds.length xs/\KN ds D7/\(∀(i:Nat)(d:List CV),i<ds.length->aO ds D7 i=some d->d.length=sz)/\
   (∀(i:Nat)(d:List CV),i<ds.length->aO ds D7 i=some d->∀(j:Nat)(c:CV),d[j]?=some c->c.atom=true/\∃u,xs[i*sz+j]?=some u/\Z5 Z w obj E c u)/\∀b o,e.ownBlock=some b->¬Z b o
 |.map es=>∃b arr clock,e=.map (some b)/\w.heap[b]?=some (.map arr clock)/\(es.length=arr.size/\Born arr clock)/\
   (∀(i:Nat)(k v:CV)(m:MapEntry),es[i]?=some (k,v)->arr[i]?=some m->Rep Z w k m.key/\Rep Z w v m.val)/\∀o,¬Z b o
 |.lp l R q=>w.heap[l]?=some (.loop (q.put R))/\∀o,¬Z l o
structure Base where
 z:Zone
 obj:J8
 E:Nat->Value
structure zX(obj:J8)(E:Nat->Value)(D8:J8)(E':Nat->Value):Prop where
 var:∀t,Nat.blt t PIN=false->live D8 t 0->live obj t 0/\E' t=E t
 tok:∀t el s,Nat.blt t PIN=false->D8 t=(0,.tok el s)->obj t=(0,.tok el s)/\E' t=E t
 arr:∀t el sz ds D7,Nat.blt t PIN=false->D8 t=(0,.arr el sz ds D7)->(∃ds0 oJ,obj t=(0,.arr el sz ds0 oJ))/\E' t=E t
 map:∀t es,Nat.blt t PIN=false->D8 t=(0,.map es)->(∃es0,obj t=(0,.map es0))/\E' t=E t
def zX.refl(obj:J8)(E:Q8):zX obj E obj E:=⟨λ_ _ h=>⟨h,rfl⟩,λ_ _ _ _ h=>⟨h,rfl⟩,λ_ _ _ _ _ _ h=>⟨⟨_,_,h⟩,rfl⟩,λ_ _ _ h=>⟨⟨_,h⟩,rfl⟩⟩
def zX.step{o0 o o':J8}{E0 E E':Q8}(h:zX o0 E0 o E)(k:eY o E o' E'):zX o0 E0 o' E' where
 var t ht hl:=by
  obtain⟨h1,h2⟩:=k.var t 0 (aF _) hl;obtain⟨h3,h4⟩:=h.var t ht h1
  grind
 tok t el s ht hl:=by
  obtain⟨h1,h2⟩:=k.tok t 0 el s (aF _) hl;obtain⟨h3,h4⟩:=h.tok t el s ht h1
  grind
 arr t el sz ds D7 ht hl:=by
  obtain⟨⟨ds0,f0,h1⟩,h2⟩:=k.arr t 0 el sz ds D7 (aF _) hl;obtain⟨h3,h4⟩:=h.arr t el sz ds0 f0 ht h1
  grind
 map t es ht hl:=by
  obtain⟨⟨es0,h1⟩,h2⟩:=k.map t 0 es (aF _) hl;obtain⟨h3,h4⟩:=h.map t es0 ht h1
  grind
def lZ(B:Nat)(w:World):List Deferred->Prop
 |[]=>True
 |d::ds=>(∃r,d={ target:=.collected r,args:=#[] }/\w.heap[r]?=some lM/\B<=r/\∀d'∈ds,d'≠{ target:=.collected r,args:=#[] })/\lZ B w ds
def lZ.kept{B:Nat}{w w':World}{S:U2}(hk:Kept S w w'):∀{ds:List Deferred},lZ B w ds->lZ B w' ds
 |[],_=>trivial
 |_::_,⟨⟨r,h1,h2,h3⟩,h⟩=>⟨⟨r,h1,hk.dK r h2,h3⟩,lZ.kept hk h⟩
structure Inv(G:World->Prop)(Z0:Base)(w0:World)(S:Nat->Prop)(n:Nat)(Z:Zone)(E:Nat->Value)(st:St)(a:Act)(w:World):Prop where
 gs:∀w',Kept S w0 w'->G w'
 slt:∀k,S k->k<w0.heap.size
 below:Kept S w0 w
 defers:lZ w0.heap.size w a.defers
 sz:a.tmps.size=n
 X5:∀b o,Z b o->b<w.heap.size
 keeps:Keeps Z0.z w0 Z w
 pin:zX Z0.obj Z0.E st.obj E
 iH:∀b o,Z b o->Z0.z b o\/¬S b
 env:∀t,O7 Z w st.obj E (st.env t) (a.tmps.getD t undef)
 obj:∀t,X7 Z w st.obj E (E t) (st.obj t).2
 own:∀t b,(st.obj t).2.blk (E t) b->¬S b
 apart:∀t t' b,t≠t'->(st.obj t).2.blk (E t) b->¬(st.obj t').2.blk (E t') b
def Inv.z0{G:aB}{Z0:Base}{w0:World}{S:U2}{n:Nat}{Z:Zone}{E:Q8}{st:St}{a:Act}{w:World}(h:Inv G Z0 w0 S n Z E st a w):∀b o,Z0.z b o->Z b o:=λb o hz=>(h.keeps b o hz).1
def cH8(a:Act)(d:E8)(x:Value)(t:Nat)(hd:inRange a.tmps.size d=true):
    (a.put d x).tmps.getD t undef=match d with|.none=>a.tmps.getD t undef|some d=>if d=t then x else a.tmps.getD t undef:=by
 cases d with
 |none=>rfl
 |some d=>
  simp only[Act.put];have hlt:d<a.tmps.size:=Nat.lt_of_succ_le (by simpa[inRange,Nat.blt]using hd);by_cases h:d=t
  .subst h;simp[Array.getD,hlt]
  .simp only[H7 h,bY]
   grind
def VW(a:Act)(d:E8)(x:Value):(a.put d x).tmps.size=a.tmps.size:=by cases d<;>simp[Act.put]
theorem put_defers(a:Act)(d:E8)(x:Value):(a.put d x).defers=a.defers:=by cases d<;>rfl
section
variable{G:aB}{Z0:Base}{w0:World}{S:U2}{n:Nat}{Z Z':Zone}{E E':Q8}{st:St}{a:Act}{w w':World}
def cE6{obj:J8}{d:E8}{r:SV}{x:Value}{env:Nat->SV}(hd:inRange a.tmps.size d=true)(h:∀t,O7 Z w obj E (env t) (a.tmps.getD t undef))(hr:O7 Z w obj E r x)(t:Nat):
    O7 Z w obj E (put env d r t) ((a.put d x).tmps.getD t undef):=by
 rw[cH8 a d x t hd];cases d with
 |none=>exact h t
 |some d=>
  simp only[put];by_cases hdt:d=t
  .subst hdt;simpa using hr
  .have:Nat.beq d t=false:=by
    cases hb:Nat.beq d t with
    |false=>rfl
    |true=>exact absurd (G5 hb) hdt
   grind
def Inv.step(hI:Inv G Z0 w0 S n Z E st a w){d:E8}{r:SV}{x:Value}{D8:J8}(hd:inRange n d=true)
    (hb:Kept S w w') (hk:Keeps Z w Z' w') (hlt:∀b o,Z' b o->b<w'.heap.size) (hnew:∀b o,Z' b o->Z b o\/¬S b)
    (ho:eY st.obj E D8 E') (kD:∀t,X7 Z' w' D8 E' (E' t) (D8 t).2)
    (hap:∀t t' b,t≠t'->(D8 t).2.blk (E' t) b->¬(D8 t').2.blk (E' t') b) (how:∀t b,(D8 t).2.blk (E' t) b->¬S b) (hr:O7 Z' w' D8 E' r x):
    Inv G Z0 w0 S n Z' E' ⟨put st.env d r,D8⟩ (a.put d x) w':=
 { gs:=hI.gs
   slt:=hI.slt
   below:=hI.below.trans hb
   defers:=by rw[put_defers];exact hI.defers.kept hb
   sz:=by rw[VW];exact hI.sz
   X5:=hlt
   keeps:=hI.keeps.trans hk
   pin:=hI.pin.step ho
   iH:=λb o h=>(hnew b o h).elim (hI.iH b o) .inr
   env:=λt=>cE6 (by rw[hI.sz];exact hd) (λt=>(hI.env t).keep hk ho) hr t
   obj:=kD
   own:=how
   apart:=hap }
def Inv.value(hI:Inv G Z0 w0 S n Z E st a w){d:E8}{r:SV}{x:Value}(hd:inRange n d=true)(hr:O7 Z w st.obj E r x):
    Inv G Z0 w0 S n Z E ⟨put st.env d r,st.obj⟩ (a.put d x) w:=
 hI.step hd (Kept.refl _ _) (Keeps.refl _ _) hI.X5 (λ_ _ h=>.inl h) (eY.refl _ _) hI.obj hI.apart hI.own hr
def X7.keep{obj D8:J8}{o:G8}{e:Value}(h:X7 Z w obj E e o)(hk:Keeps Z w Z' w')(ho:eY obj E D8 E')(hblk:∀b,o.blk e b->w'.heap[b]?=w.heap[b]?/\∀k,Z' b k->Z b k):X7 Z' w' D8 E' e o:=by
 cases o with
 |none=>trivial
 |spent=>trivial
 |var cs=>
  obtain⟨b,el,arr,he,hh,hs,hc,hz⟩:=h;obtain⟨h1,h2⟩:=hblk b (by rw[he]<;>rfl)
  exact⟨b,el,arr,he,h1.trans hh,hs,λj c hj=>⟨(hc j c hj).1,by obtain⟨_,x,hx,hr⟩:=hc j c hj;exact⟨x,hx,hr.keep hk⟩⟩,λo hz'=>hz o (h2 o hz')⟩
 |ro cs=>
  obtain⟨b,el,arr,he,hh,hs,hc⟩:=h;exact⟨b,el,arr,he,(hblk b (by rw[he]<;>rfl)).1.trans hh,hs,λj c hj=>⟨(hc j c hj).1,(hk _ _ (hc j c hj).2.1).1,by obtain⟨_,_,x,hx,hr⟩:=hc j c hj;exact⟨x,hx,hr.keep hk⟩⟩⟩
 |tok el sz=>
  obtain⟨m,xs,hsz,⟨hl,hown⟩,hz⟩:=h;rcases hown with hnil|⟨g,cap,cur,he,hb,hh,hrest⟩
  .exact⟨m,xs,hsz,⟨hl,.inl hnil⟩,λg cap he=>by rw[hnil.1]at he;simp at he⟩
  .obtain⟨h1,h2⟩:=hblk g (by rw[he]<;>rfl)
   exact⟨m,xs,hsz,⟨hl,.inr ⟨g,cap,cur,he,hb,h1.trans hh,hrest⟩⟩,λg' cap' he' o ho hz'=>by
    have:g'=g:=by grind
    subst this
    exact hz g' cap' he' o ho (h2 o hz')⟩
 |varx cs=>
  obtain⟨b,el,arr,he,hh,hs,hc,hz,hbp⟩:=h;obtain⟨h1,h2⟩:=hblk b (by rw[he]<;>rfl)
  exact⟨b,el,arr,he,h1.trans hh,hs,λj c hj=>⟨(hc j c hj).1,by obtain⟨_,x,hx,hr⟩:=hc j c hj;exact⟨x,hx,hr.keep hk ho⟩⟩,λo hz'=>hz o (h2 o hz'),hbp⟩
 |arr el sz ds D7=>
  obtain⟨xs,hsz,⟨hl,hown⟩,hm,hd,hc,hz⟩:=h;have hcc:∀(i:Nat)(d:G9),i<ds.length->aO ds D7 i=some d->∀(j:Nat)(c:CV),d[j]?=some c->c.atom=true/\∃u,xs[i*sz+j]?=some u/\Z5 Z' w' D8 E' c u:=
   λi d hi hcx j c hj=>⟨(hc i d hi hcx j c hj).1,by obtain⟨_,x,hx,hr⟩:=hc i d hi hcx j c hj;exact⟨x,hx,hr.keep hk ho⟩⟩
  rcases hown with hnil|⟨g,cap,cur,he,hb,hh,hrest⟩
  .exact⟨xs,hsz,⟨hl,.inl hnil⟩,hm,hd,hcc,λb o hb=>by rw[hnil.1]at hb;simp[Value.ownBlock]at hb⟩
  .obtain⟨h1,h2⟩:=hblk g (by rw[he]<;>rfl)
   exact⟨xs,hsz,⟨hl,.inr ⟨g,cap,cur,he,hb,h1.trans hh,hrest⟩⟩,hm,hd,hcc,λb o hb' hz'=>by
    have:b=g:=by rw[he]at hb';simp[Value.ownBlock]at hb';exact hb'.symm
    subst this
    exact hz b o hb' (h2 o hz')⟩
 |map es=>
  obtain⟨b,arr,clock,he,hh,hl,hc,hz⟩:=h;obtain⟨h1,h2⟩:=hblk b (by rw[he]<;>rfl)
  exact⟨b,arr,clock,he,h1.trans hh,hl,λi k v m h3 h4=>⟨(hc i k v m h3 h4).1.keep hk,(hc i k v m h3 h4).2.keep hk⟩,λo hz'=>hz o (h2 o hz')⟩
 |lp l R q=>
  obtain⟨hh,hz⟩:=h;obtain⟨h1,h2⟩:=hblk l rfl;exact⟨h1.trans hh,λo hz'=>hz o (h2 o hz')⟩
def be1(x:Value)(el sz:Nat){b:Nat}:(G8.tok el sz).blk x b=(x.ownBlock=some b):=by
 cases x with
 |slice a l c=>cases a<;>simp[G8.blk,Value.ownBlock]
 |_=>simp[G8.blk,Value.ownBlock]
def jK(x:Value)(el sz:Nat)(ds:dS)(D7:uX){b:Nat}:(G8.arr el sz ds D7).blk x b=(x.ownBlock=some b):=by
 cases x with
 |slice a l c=>cases a<;>simp[G8.blk,Value.ownBlock]
 |_=>simp[G8.blk,Value.ownBlock]
def X7.lt{obj:J8}{o:G8}{e:Value}{b:Nat}(h:X7 Z w obj E e o)(hb:o.blk e b):b<w.heap.size:=by
 cases o with
 |none=>grind
 |spent=>grind
 |var cs=>
  obtain⟨b',el,arr,he,hh,_⟩:=h
  grind
 |ro cs=>
  obtain⟨b',el,arr,he,hh,_⟩:=h
  grind
 |tok el sz=>
  obtain⟨m,xs,hsz,hown,_⟩:=h;rw[be1]at hb;exact(hown.lt b hb).2
 |varx cs=>
  obtain⟨b',el,arr,he,hh,_⟩:=h
  grind
 |arr el sz ds D7=>
  obtain⟨xs,hsz,hown,_⟩:=h;rw[jK]at hb;exact(hown.lt b hb).2
 |map es=>
  obtain⟨b',arr,clock,he,hh,_⟩:=h
  grind
 |lp l R q=>
  simp[G8.blk]at hb;subst hb;exact(X6.1 h.1).1
def bp0{b o:Nat}(h:w'.heap[b]?=w.heap[b]?):w'.cell? ⟨b,o,none⟩=w.cell? ⟨b,o,none⟩:=FK (a:=⟨b,o,none⟩) h
def jM{b o:Nat}(h:w'.heap[b]?=w.heap[b]?):w'.cell? ⟨b,o,none⟩=w.cell? ⟨b,o,none⟩/\∀es c,w.heap[b]?=some (.map es c)->w'.heap[b]?=some (.map es c):=⟨bp0 h,λ_ _ he=>h.trans he⟩
def Keeps.alloc(hlt:∀b o,Z b o->b<w.heap.size)(o:Obj):Keeps Z w Z (w.alloc o):=
 λb k hz=>⟨hz,jM (vJ w o (hlt b k hz))⟩
end
def uF:CV->CV
 |.ow j=>.rs j 0
 |c=>c
def fF(os:List (Nat×Nat×List (List CV)×Option (Nat×List CV)))(j:Nat):Nat×G8:=
 match os[j]? with
 |some (el,sz,ds,.none)=>(0,.arr el sz ds .none)
 |some (el,sz,ds,some (m,cs))=>(0,.arr el sz ds (some (m,cs.map uF)))
 |.none=>(0,.none)
def RN(Z:Zone)(Fr:Nat->Prop)(w:World)(r:CV)(os:List (Nat×Nat×List (List CV)×Option (Nat×List CV)))(x:Value):Prop:=
 ∃Eo:Nat->Value,(∀j,X7 Z w (fF os) Eo (Eo j) (fF os j).2)/\(∀j j' b,j≠j'->(fF os j).2.blk (Eo j) b->¬(fF os j').2.blk (Eo j') b)/\(∀j b,(fF os j).2.blk (Eo j) b->Fr b)/\
  (∀j,j<os.length->∃a l k,Eo j=.slice a l k)/\
  (∀(k el sz:Nat)(ds:List (List CV))(m:Nat)(cs:List CV),os[k]?=some (el,sz,ds,some (m,cs))->qB cs=true/\∀(i j:Nat),cs[i]?=some (.ow j)->j<os.length)/\
  match r with
  |.ow j=>x=Eo j/\j<os.length
  |.agg cs=>∃vs:List Value,qB cs=true/\x=.agg vs.toArray/\cs.length=vs.length/\(∀(i:Nat)(c:CV)(v:Value),cs[i]?=some c->vs[i]?=some v->Z5 Z w (fF os) Eo (uF c) v)/\(∀(i:Nat)(c:CV),cs[i]?=some c->c.atom=true)/\
    (∀(i j:Nat),cs[i]?=some (.ow j)->j<os.length)
  |_=>False
def FC(Z:Zone)(Fr:Nat->Prop)(w:World)(r:CV)(x:Value):Prop:=
 match r with
 |.wo r os=>RN Z Fr w r os x
 |r=>Rep Z w r x
def RN.fr{Z:Zone}{Fr Fr':U2}{w:World}{r:CV}{os:KT}{x:Value}(h:RN Z Fr w r os x)(hf:∀b,Fr b->Fr' b):RN Z Fr' w r os x:=by
 obtain⟨Eo,h1,h2,h3,h4⟩:=h;exact⟨Eo,h1,h2,λj b hb=>hf b (h3 j b hb),h4⟩
def FC.pure{Z:Zone}{Fr:U2}{w:World}{r:CV}{x:Value}(h:FC Z Fr w r x)(hp:r.pure=true):Rep Z w r x:=by
 cases r<;>first|exact h|(simp[CV.pure]at hp)
def FC.mk{Z:Zone}{Fr:U2}{w:World}{r:CV}{x:Value}(h:Rep Z w r x):FC Z Fr w r x:=by
 cases h<;>(unfold FC;constructor<;>assumption)
def rZ(P:Program)(f:FuncId):Prop:=∃fn,P.funcs[f]?=some fn/\(fn.name== "runtime.NumGoroutine")=false/\fn.body.isNone=false
def Holds(P:Program)(G:aB)(f:FuncId)(args:G9)(r:CV):Prop:=
 rZ P f/\∀(Z:Zone)(w:World)(vs:H6),U0 Z w args vs->(∀b o,Z b o->b<w.heap.size)->(∀w',Below w.heap.size w w'->G w')->
  Calls P f vs.toArray w λe w'=>∃(x:Value) (Z':Zone),e=.returned x/\FC Z' (λb=>w.heap.size<=b) w' r x/\(∀b o,Z b o->Z' b o)/\
   (∀b o,Z' b o->(Z b o\/w.heap.size<=b)/\b<w'.heap.size)/\Below w.heap.size w w'
structure uP(Z:Zone)(w:World)(os:List (Nat×G8))(Eo:Nat->Value):Prop where
 ok:∀j,X7 Z w (I5 os) Eo (Eo j) (I5 os j).2
 apart:∀j j' b,j≠j'->(I5 os j).2.blk (Eo j) b->¬(I5 os j').2.blk (Eo j') b
def GB(os:Y0)(Eo:Q8)(b:Nat):Prop:=∃j,(I5 os j).2.blk (Eo j) b
def SG(w:World)(os:Y0)(Eo:Q8)(k:Nat):Prop:=k<w.heap.size/\¬GB os Eo k
structure rY(Z:Zone)(w:World)(os:List (Nat×G8))(Eo:Nat->Value)(Z':Zone)(w':World)(os':List (Nat×G8))(bZ:Nat->Value)(r:SV)(x:Value):Prop where
 res:O7 Z' w' (I5 os') bZ r x
 grp:uP Z' w' os' bZ
 keeps:Keeps Z w Z' w'
 X5:∀b o,Z' b o->b<w'.heap.size
 iH:∀b o,Z' b o->Z b o\/w.heap.size<=b\/GB os Eo b
 kept:Kept (SG w os Eo) w w'
 own:∀b,GB os' bZ b->w.heap.size<=b\/GB os Eo b
 ok:eY (I5 os) Eo (I5 os') bZ
def fD(P:Program)(G:aB)(op:Op)(ty:TypeId)(args:dG)(os:Y0)(r:SV)(os':Y0):Prop:=
 ∀(Z:Zone)(w:World)(Eo:Q8)(a:Act)(o:Oper)(next:kR)(Q:dD),o.op=op->o.type=ty->uP Z w os Eo->(∀b o,Z b o->b<w.heap.size)->
  args.length=op.operands.size->(∀(i:Nat)(s:SV)(x:Operand),args[i]?=some s->op.operands[i]?=some x->O7 Z w (I5 os) Eo s (a.eval x))->(∀w',Kept (SG w os Eo) w w'->G w')->
  (∀x Z' w' bZ,rY Z w os Eo Z' w' os' bZ r x->next (a.put o.dst x) w')->Oper.dV P o a w next Q
def gI(P:Program)(G:aB)(f:FuncId)(args:dG)(os:Y0)(r:SV)(os':Y0):Prop:=
 rZ P f/\∀(Z:Zone)(w:World)(Eo:Q8)(vs:H6),uP Z w os Eo->(∀b o,Z b o->b<w.heap.size)->args.length=vs.length->
  (∀(i:Nat)(s:SV)(x:Value),args[i]?=some s->vs[i]?=some x->O7 Z w (I5 os) Eo s x)->(∀w',Kept (SG w os Eo) w w'->G w')->
  Calls P f vs.toArray w λe w'=>∃x Z' bZ,e=.returned x/\rY Z w os Eo Z' w' os' bZ r x
def jF(P:Program)(G:aB):jY:=⟨Holds P G,fD P G,gI P G⟩
end Go.F7
namespace Go.F7
open Go Go.RowKit
def YN:TypeDesc->Bool
 |.struct _=>true
 |.array _ _=>true
 |_=>false
def Q9(i:TI):Value:=bif i.isAgg then .agg i.zero.toArray else i.zero.headD undef
structure O6(P:Program)(t:Nat)(i:TI):Prop where
 u:P.underlying t=some i.desc
 info:(P.info? t).map (λj=>(j.size,j.bytes))=some (i.size,i.bytes)
 zero:((P.info? t).bind (λj=>j.zero))=some (Q9 i)
 agg:i.isAgg=YN i.desc
 one:i.zero.all (λz=>z.oneCell')=true
 len:i.zero.length=i.size
 single:i.isAgg=false->i.size=1
def aA(P:Program)(T:Tab):Prop:=∀t i,T.get t=some i->O6 P t i
section
variable{P:Program}{G:aB}{T:Tab}{Z0:Base}{w0:World}{S:U2}{n:Nat}{Z:Zone}{E:Q8}{st:St}{a:Act}{w:World}
def O6.gX{t:Nat}{i:TI}(h:O6 P t i):∃j,P.info? t=some j/\j.size=i.size/\j.bytes=i.bytes/\j.zero=some (Q9 i):=by
 have h1:=h.info;have h2:=h.zero;cases hj:P.info? t with
 |none=>grind
 |some j=>grind
def O6.sizeOf{t:Nat}{i:TI}(h:O6 P t i)(w:World):(Go.sizeOf t).run P w=.ok i.size w:=by
 obtain⟨j,hj,hs,_,_⟩:=h.gX;simp[Go.sizeOf,typeInfo,hj,hs]
theorem O6.IB{t:Nat}{i:TI}(h:O6 P t i)(w:World):(Go.isAgg t).run P w=.ok i.isAgg w:=by
 rw[h.agg];unfold Go.isAgg;rw[J6,O4 h.u];cases i.desc<;>rfl
def bJ0{o:Oper}{r:Result Next}(hr:(execOp a.eval o).run P w=r)(h:∀d w',r≠.ok (.defer d) w')(h':∀x w',r≠.halt x w'):∀c,o.op≠.defer c:=by
 intro c hc;obtain⟨dst,op,type,pos,after,guard⟩:=o;simp only at hc;subst hc;simp only[execOp,J6]at hr;cases hq:(resolve a.eval c type).run P w with
 |ok d w'=>
  rw[hq]at hr;simp only[O8,U5]at hr
  grind
 |halt x w'=>
  rw[hq]at hr;exact h' _ _ hr.symm
def bP{o:Oper}{next:kR}{Q:dD}{x:Value}{w':World}(h:(execOp a.eval o).run P w=.ok (.value x) w')(hn:next (a.put o.dst x) w'):Oper.dV P o a w next Q:=by
 refine QS (bJ0 h (λ_ _ h=>nomatch h) (λ_ _ h=>nomatch h)) ?_;unfold Oper.wp;rw[h];exact hn
def QU{o:Oper}{next:kR}{Q:dD}{w':World}(h:(execOp a.eval o).run P w=.ok .skip w')(hn:next (a.put o.dst undef) w'):Oper.dV P o a w next Q:=by
 refine QS (bJ0 h (λ_ _ h=>nomatch h) (λ_ _ h=>nomatch h)) ?_;unfold Oper.wp;rw[h];exact hn
def df8(obj:J8)(x:Value):O7 Z w obj E (aH3 x) x:=by
 unfold aH3;split
 .exact .kt
 .exact .kf
 .exact .c _ _ (.nil _ _ _)
 .exact .c _ _ .mpn
 .exact .c _ _ (.v _)
def aG(hI:Inv G Z0 w0 S n Z E st a w)(x:Operand):O7 Z w st.obj E (look st x) (a.eval x):=by
 cases x with
 |tmp t=>exact hI.env t
 |const x=>exact df8 _ x
 |global g=>exact .any _
 |func f=>exact .c _ _ (.fn f [] [] rfl (λi c x h=>by simp at h))
def oD{obj:J8}{s:SV}{x:Value}{c:CV}(h:O7 Z w obj E s x)(hc:bU s=some c):Rep Z w c x:=by
 cases h with
 |any=>simp[bU]at hc
 |un=>simp[bU]at hc
 |kt=>simp[bU]at hc;subst hc;exact .v _
 |kf=>simp[bU]at hc;subst hc;exact .v _
 |c c' x h=>simp[bU]at hc;subst hc;exact h
 |pm=>simp[bU]at hc
 |ap t g sz es x h=>simp[bU]at hc;subst hc;exact h
 |V4=>simp[bU]at hc
 |rs=>simp[bU]at hc
 |aY=>simp[bU]at hc
 |fC=>simp[bU]at hc
 |pe=>simp[bU]at hc
 |mr=>simp[bU]at hc
def RU{obj:J8}{s:SV}{x:Value}{sz:Nat}{ds:dS}(h:O7 Z w obj E s x)(hc:gV s=some (sz,ds)):Rep Z w (.sl sz ds) x:=by
 cases h with
 |any=>simp[gV]at hc
 |un=>simp[gV]at hc
 |kt=>simp[gV]at hc
 |kf=>simp[gV]at hc
 |c c' x h=>
  cases c' with
  |sl s d=>simp[gV]at hc;obtain⟨rfl,rfl⟩:=hc;exact h
  |_=>simp[gV]at hc
 |pm=>simp[gV]at hc
 |ap t g s es x h=>simp[gV]at hc;obtain⟨rfl,rfl⟩:=hc;exact h
 |V4=>simp[gV]at hc
 |rs=>simp[gV]at hc
 |aY=>simp[gV]at hc
 |fC=>simp[gV]at hc
 |pe=>simp[gV]at hc
 |mr=>simp[gV]at hc
theorem nC{x y:Value}(h:Rep Z w (.v x) y):y=x:=by cases h;rfl
def mZ{obj:J8}{x y:Value}(h:O7 Z w obj E (.c (.v x)) y):y=x:=by cases h with|c _ _ h=>exact nC h
def jI(P:Program)(G:aB)(T:Tab)(o:Oper):Prop:=
 ∀(Z0:Base)(w0:World)(S:U2)(n:Nat)(Z:Zone)(E:Q8)(st:St)(a:Act)(w:World)(K:aV)(next:kR)(Q:dD)(F:aV->Prop),
  Inv G Z0 w0 S n Z E st a w->inRange n o.dst=true->wpOp (jF P G) T (look st) st.obj F o.dst o.op o.type K->(F K->Oper.dV P o a w next Q)->
  (∀r rd u Z' E' x w',K r rd u->Inv G Z0 w0 S n Z' E' ⟨put st.env o.dst r,upd st.obj u⟩ (a.put o.dst x) w'->next (a.put o.dst x) w')->Oper.dV P o a w next Q
def bT{o:Oper}{K:aV}{next:kR}{Q:dD}(hI:Inv G Z0 w0 S n Z E st a w)(hd:inRange n o.dst=true)
    (hn:∀r rd u Z' E' x w',K r rd u->Inv G Z0 w0 S n Z' E' ⟨put st.env o.dst r,upd st.obj u⟩ (a.put o.dst x) w'->next (a.put o.dst x) w')
    {r:SV} {rd:O1} {x:Value} (hk:K r rd []) (hrun:(execOp a.eval o).run P w=.ok (.value x) w) (hr:O7 Z w st.obj E r x):Oper.dV P o a w next Q:=
 bP hrun (hn r rd [] Z E x w hk (hI.value hd hr))
def ds7(dst:E8)(x:Operand)(type:TypeId)(pos:String)(after:dO)(guard:dH):jI P G T ⟨dst,.move x,type,pos,after,guard⟩:=by
 intro Z0 w0 S n Z E st a w K next Q F hI hd h hX hn
 exact bT hI hd hn h (by simp[execOp]) (aG hI x)
def ds9(dst:E8)(c x y:Operand)(type:TypeId)(pos:String)(after:dO)(guard:dH):jI P G T ⟨dst,.pick c x y,type,pos,after,guard⟩:=by
 intro Z0 w0 S n Z E st a w K next Q F hI hd h hX hn
 have hc:=aG hI c;have hx:=aG hI x;have hy:=aG hI y;simp only[wpOp]at h;split at h
 .rename_i he;rw[he]at hc;have hv:a.eval c=.bool true:=by generalize a.eval c=y at*;cases hc;rfl
  exact bT hI hd hn h (by simp[execOp,hv,asBool]) hx
 .rename_i he;rw[he]at hc;have hv:a.eval c=.bool false:=by generalize a.eval c=y at*;cases hc;rfl
  exact bT hI hd hn h (by simp[execOp,hv,asBool]) hy
 .rename_i q he;rw[he]at hc;have hv:a.eval c=.bool q:=mZ hc;split at h
  .rename_i u v h1 h2;have e1:=nC (oD hx h1);have e2:=nC (oD hy h2);refine bT hI hd hn h (by simp[execOp,hv,asBool];rfl) (.c _ _ ?_);cases q
   .simp only[Bool.false_eq_true,if_false,e2,G6];exact .v _
   .simp only[if_true,e1,H9];exact .v _
  .cases q with
   |true=>exact bT hI hd hn (h.1 rfl) (by simp[execOp,hv,asBool]) hx
   |false=>exact bT hI hd hn (h.2 rfl) (by simp[execOp,hv,asBool]) hy
 .grind
def dt1(dst:E8)(op:UnOp)(t:TypeId)(x:Operand)(type:TypeId)(pos:String)(after:dO)(guard:dH):jI P G T ⟨dst,.unOp op t x,type,pos,after,guard⟩:=by
 intro Z0 w0 S n Z E st a w K next Q F hI hd h hX hn
 have hx:=aG hI x;cases op with
 |not=>
  simp only[wpOp]at h;split at h
  .rename_i he;rw[he]at hx;have hv:a.eval x=.bool true:=by generalize a.eval x=y at*;cases hx;rfl
   exact bT hI hd hn h (by simp[execOp,hv,Op.unary]) .kf
  .rename_i he;rw[he]at hx;have hv:a.eval x=.bool false:=by generalize a.eval x=y at*;cases hx;rfl
   exact bT hI hd hn h (by simp[execOp,hv,Op.unary]) .kt
  .rename_i b he;rw[he]at hx;have hv:a.eval x=.bool b:=mZ hx;exact bT hI hd hn h (by simp[execOp,hv,Op.unary]) (.c _ _ (.v _))
  .grind
 |neg=>
  simp only[wpOp]at h;split at h
  .rename_i k m he;rw[he]at hx;have hv:a.eval x=.int k m:=mZ hx;exact bT hI hd hn h (by simp[execOp,hv,Op.unary,Op.intArith]) (.c _ _ (.v _))
  .grind
 |_=>simp only[wpOp]at h;first|exact h.elim|exact hX h
def bU8{t:TypeId}(hu:P.underlying t=some .bool)(p q:Bool)(w:World):(Op.equal t (.bool p) (.bool q)).run P w=.ok (p==q) w:=by
 have h:∀d:Nat,(Op.equalIn (d+1) t (.bool p) (.bool q)).run P w=.ok (p==q) w:=λd=>by
  simp only[Op.equalIn,J6,O4 hu,O8];simp
 exact h 9999
def bU7{op:BinOp}{ib:Bool}{x y:Value}{K:Value->Prop}{t:TypeId}{ox oy:Operand}(hib:ib=true->P.underlying t=some .bool)(h:jO op ib x y K)(w:World):
    ∃r,K r/\(do eqGuard op t ox oy x y;binOp op t x y:Sem Value).run P w=.ok r w:=by
 unfold jO at h;split at h
 .obtain⟨rfl,hb,hk⟩:=h;exact⟨_,hk,by simp[eqGuard,binOp,Op.intDiv,hb]⟩
 .obtain⟨rfl,hb,hk⟩:=h;exact⟨_,hk,by simp[eqGuard,binOp,Op.intDiv,hb]⟩
 .obtain⟨hb,hk⟩:=h;exact⟨_,hk,by simp[eqGuard,binOp,Op.shift,Int.not_lt.2 hb]⟩
 .obtain⟨hb,hk⟩:=h;exact⟨_,hk,by simp[eqGuard,binOp,Op.shift,Int.not_lt.2 hb]⟩
 .rename_i k i k' j hq1 hq2 hq3 hq4;split at h
  .rename_i r hr;have hkk:k=k':=by grind
   subst hkk;simp only[pV,H9]at h;refine⟨r,h,?_⟩;cases op<;>simp only[tK,reduceCtorEq,aQ]at hr<;>(subst hr;first|(simp[eqGuard,binOp,Op.intBits];done)|simp[eqGuard,binOp,Op.intArith,Op.intCmp])
  .grind
 .rename_i s1 s2;obtain⟨hs,s',rfl,hk⟩:=h;refine⟨_,hk,?_⟩;have hmx:¬(((s1.size+s2.size:Nat):Int)>IntKind.i64.max):=by
   have:IntKind.i64.max=9223372036854775807:=rfl;omega
  simp only[eqGuard,binOp,Op.stringOp,hmx,if_false];simp
 .rename_i s1 s2 hq;split at h
  .rename_i r hr;refine⟨r,h,?_⟩;have hdl:∀x y:ByteArray,(x.data.toList==y.data.toList)=(x.toList==y.toList):=λx y=>by rw[ByteArray.toList_eq,ByteArray.toList_eq]
   have hbl:∀x y:ByteArray,Op.bytesLess x.data.toList y.data.toList=Op.bytesLess x.toList y.toList:=λx y=>by rw[ByteArray.toList_eq,ByteArray.toList_eq]
   cases op<;>simp only[EF,reduceCtorEq,aQ,hdl,hbl]at hr<;>(subst hr;simp[eqGuard,binOp,Op.stringOp])
  .grind
 .rename_i p q;cases ib with
  |false=>grind
  |true=>
   have hu:=hib rfl;simp only[H9]at h;refine⟨_,h,?_⟩;have h1:=bU8 (P:=P) hu p q w;simp only[eqGuard,binOp,J6,h1];simp[h1]
 .rename_i p q;cases ib with
  |false=>grind
  |true=>
   have hu:=hib rfl;simp only[H9]at h;refine⟨_,h,?_⟩;have h1:=bU8 (P:=P) hu p q w;simp only[eqGuard,binOp,J6,h1];simp[h1]
 .grind
def dq6(hT:aA P T)(dst:E8)(op:BinOp)(t:TypeId)(x y:Operand)(t':TypeId)(type:TypeId)(pos:String)(after:dO)(guard:dH):jI P G T ⟨dst,.binOp op t x y t',type,pos,after,guard⟩:=by
 intro Z0 w0 S n Z E st a w K next Q F hI hd h hX hn
 have hx:=aG hI x;have hy:=aG hI y;simp only[wpOp]at h;split at h
 .rename_i u v h1 h2;have e1:=nC (oD hx h1);have e2:=nC (oD hy h2)
  obtain⟨r,hk,hr⟩:=bU7 (P:=P) (t:=t) (ox:=x) (oy:=y) (λhib=>by
   split at hib
   .rename_i hg;exact(hT _ _ hg).u
   .cases hib) h w
  refine bT hI hd hn hk (x:=r) ?_ (.c _ _ (.v _));simp only[execOp,e1,e2,J6]at hr⊢;rw[hr];rfl
 .grind
def dr5(hT:aA P T)(dst:E8)(s t:TypeId)(x:Operand)(type:TypeId)(pos:String)(after:dO)(guard:dH):jI P G T ⟨dst,.convert s t x,type,pos,after,guard⟩:=by
 intro Z0 w0 S n Z E st a w K next Q F hI hd h hX hn
 have hx:=aG hI x;simp only[wpOp]at h;split at h
 .rename_i k _ _ _ _ _ k' m _ h1 he h2;rw[he]at hx;have hv:a.eval x=.int k' m:=mZ hx;have hu:=(hT _ _ h1).u;have hs:=(hT _ _ h2).u;refine bT hI hd hn h (x:=.int k (k.wrap m)) ?_ (.c _ _ (.v _));simp only[execOp,convert,hv,J6,O4 hu,O4 hs,O8];simp[Conv.intToInt]
 .rename_i _ _ _ _ _ str _ h1 he h2;rw[he]at hx;have hv:a.eval x=.string str:=mZ hx;have hu:=(hT _ _ h1).u;have hs:=(hT _ _ h2).u;refine bT hI hd hn h (x:=.string str) ?_ (.c _ _ (.v _));simp only[execOp,convert,hv,J6,O4 hu,O4 hs,O8];simp
 .grind
end
end Go.F7
namespace Go.F7
open Go Go.RowKit
def az2:∀(m:Nat)(l xs:G9),takeN m l=some xs->xs.length=m/\∀(j:Nat),j<m->xs[j]?=l[j]?
 |0,l,xs,h=>by simp[takeN]at h;subst h;exact⟨rfl,λj hj=>by omega⟩
 |m+1,[],xs,h=>by simp[takeN]at h
 |m+1,c::r,xs,h=>by
  simp only[takeN]at h;split at h
  .rename_i cs hcs;simp at h;subst h;obtain⟨h1,h2⟩:=az2 m r cs hcs;refine⟨by simp[h1],λj hj=>?_⟩;cases j with
   |zero=>rfl
   |succ j=>grind
  .simp at h
section
variable{P:Program}{G:aB}{T:Tab}{Z0:Base}{w0:World}{S:U2}{n:Nat}{Z:Zone}{E:Q8}{st:St}{a:Act}{w:World}
def aZ9{t:TypeId}{i:TI}(hi:O6 P t i){cs:G9}{b o off:Nat}{f:Q8}{c:CV}
    (hc:∀(j:Nat)(c:CV),cs[j]?=some c->w.cell? ⟨b,o+j,none⟩=some (f j)/\c.atom=true/\Rep Z w c (f j)) (hp:part i cs off=some c):
    ∃x,(Instr.loadAt t (.pointer (some ⟨b,o+off,none⟩))).run P w=.ok x w/\Rep Z w c x:=by
 unfold part at hp;cases hagg:i.isAgg with
 |false=>
  rw[hagg]at hp;simp only[G6]at hp;obtain⟨h1,_,h3⟩:=hc off c hp;refine⟨f off,?_,h3⟩;have hr:=hi.IB w;rw[hagg]at hr;simp[Instr.loadAt,Instr.sureAddr,loadVar,hr,Go.load,Sem.run,h1]
 |true=>
  rw[hagg]at hp;simp only[H9]at hp;cases hx:takeN i.size (cs.drop off)with
  |none=>grind
  |some xs=>
   rw[hx]at hp;simp at hp;subst hp;obtain⟨hl,hj⟩:=az2 _ _ _ hx;have hr:=hi.IB w;rw[hagg]at hr;have hat:∀(j:Nat)(c:CV),xs[j]?=some c->cs[off+j]?=some c:=λj c hjc=>by grind
   let vals:=(List.range i.size).map λj=>f (off+j)
   have hvl:vals.length=i.size:=by simp[vals]
   have hcells:=run_loadCells_list (P:=P) w ⟨b,o+off,none⟩ vals (λj v yS=>by
    have hlt:j<i.size:=by grind
    have hxj:∃c,xs[j]?=some c:=⟨xs[j]'(by omega),J9 (by omega)⟩;obtain⟨c,hxc⟩:=hxj;obtain⟨h1,_,_⟩:=hc _ c (hat j c hxc);have:v=f (off+j):=by grind
    rw[this,iI,Nat.add_assoc]
    exact h1)
   rw[hvl]at hcells;refine⟨.agg vals.toArray,?_,.agg xs vals (by omega) (λj c x hjc hjx=>?_) (λj c hjc=>(hc _ c (hat j c hjc)).2.1)⟩
   .simp[Instr.loadAt,Instr.sureAddr,loadVar,hr,hi.sizeOf w,hcells]
   .grind
def EK(hI:Inv G Z0 w0 S n Z E st a w){s g:Nat}{cs:G9}(h:st.obj s=(g,.var cs)\/st.obj s=(g,.ro cs)){off:Nat}{x:Value}(hx:O7 Z w st.obj E (.pm s g off) x):
    ∃b,E s=.pointer (some ⟨b,0,none⟩)/\x=.pointer (some ⟨b,off,none⟩)/\∃f:Nat->Value,∀(j:Nat)(c:CV),cs[j]?=some c->w.cell? ⟨b,j,none⟩=some (f j)/\c.atom=true/\Rep Z w c (f j):=by
 cases hx with
 |pm _ _ _ _ _ hg hl=>
  obtain⟨b,hE,hxe⟩:=hl ⟨cs,h.imp id .inl⟩;refine⟨b,hE,hxe,?_⟩;have ho:=hI.obj s;rcases h with h|h
  .rw[h]at ho;obtain⟨b',el,arr,he,hh,hs,hc,_⟩:=ho;have:b'=b:=by grind
   subst this;refine⟨λj=>arr.getD j undef,λj c hj=>?_⟩;obtain⟨hat,x',hx',hr⟩:=hc j c hj;have:arr.getD j undef=x':=by rw[bY,hx'];rfl
   simp only[this];exact⟨(kU w b' j arr el (0,0) hh).trans hx',hat,hr⟩
  .rw[h]at ho;obtain⟨b',el,arr,he,hh,hs,hc⟩:=ho;have:b'=b:=by grind
   subst this;refine⟨λj=>arr.getD j undef,λj c hj=>?_⟩;obtain⟨hat,_,x',hx',hr⟩:=hc j c hj;have:arr.getD j undef=x':=by rw[bY,hx'];rfl
   simp only[this];exact⟨(kU w b' j arr el (0,0) hh).trans hx',hat,hr⟩
def U8{b:Bool}{p:Prop}(h:bif b then p else False):b=true/\p:=by grind
def ds5(hT:aA P T)(dst:E8)(t:TypeId)(x:Operand)(type:TypeId)(pos:String)(after:dO)(guard:dH):jI P G T ⟨dst,.load t x,type,pos,after,guard⟩:=by
 intro Z0 w0 S n Z E st a w K next Q F hI hd h hX hn
 have hx:=aG hI x;simp only[wpOp]at h;split at h
 .rename_i i hti;have hi:=hT _ _ hti;have fin:∀(b o off:Nat)(cs:G9)(f:Q8)(c:CV)(rd:O1),a.eval x=.pointer (some ⟨b,o+off,none⟩)->
   (∀(j:Nat)(c:CV),cs[j]?=some c->w.cell? ⟨b,o+j,none⟩=some (f j)/\c.atom=true/\Rep Z w c (f j))->part i cs off=some c->K (.c c) rd []->
   Oper.dV P ⟨dst,.load t x,type,pos,after,guard⟩ a w next Q:=by
   intro b o off cs f c rd he hc hp hk;obtain⟨v,hv,hrep⟩:=aZ9 hi hc hp;refine bT hI hd hn hk (x:=v) ?_ (.c _ _ hrep);simp only[execOp,he,J6,hv];rfl
  split at h
  .rename_i s g off he;rw[he]at hx;split at h
   .rename_i g' cs ho;replace h:=U8 h;obtain⟨hgg,h⟩:=h;have:=G5 hgg;subst this;split at h
    .rename_i c hp;obtain⟨b,_,hxe,f,hc⟩:=EK hI (.inl ho) hx;exact fin b 0 off cs f c _ (by rw[hxe,X9]) (λj c hj=>by rw[X9];exact hc j c hj) hp h
    .grind
   .rename_i g' cs ho;replace h:=U8 h;obtain⟨hgg,h⟩:=h;have:=G5 hgg;subst this;split at h
    .rename_i c hp;obtain⟨b,_,hxe,f,hc⟩:=EK hI (.inr ho) hx;exact fin b 0 off cs f c _ (by rw[hxe,X9]) (λj c hj=>by rw[X9];exact hc j c hj) hp h
    .grind
   .grind
  .rename_i cs off he;rw[he]at hx;split at h
   .rename_i c hp;generalize hax:a.eval x=y at hx;cases hx with
    |c _ _ hr=>
     cases hr with
     |pi _ b o _ f hc hrep=>exact fin b o off cs f c _ hax (λj c hj=>⟨(hc j c hj).2.1,(hc j c hj).2.2,hrep j c hj⟩) hp h
   .grind
  .grind
 .grind
def ds8(dst:E8)(x:Operand)(type:TypeId)(pos:String)(after:dO)(guard:dH):jI P G T ⟨dst,.nilCheck x,type,pos,after,guard⟩:=by
 intro Z0 w0 S n Z E st a w K next Q F hI hd h hX hn
 have hx:=aG hI x;have fin:∀(b off:Nat)(rd:O1),a.eval x=.pointer (some ⟨b,off,none⟩)->K (look st x) rd []->Oper.dV P ⟨dst,.nilCheck x,type,pos,after,guard⟩ a w next Q:=by
  intro b off rd he hk;exact bT hI hd hn hk (x:=a.eval x) (by simp[execOp,he]) hx
 simp only[wpOp]at h;split at h
 .rename_i s g off he;have hx':=hx;rw[he]at hx';split at h
  .rename_i g' cs ho;replace h:=U8 h;obtain⟨hgg,h⟩:=h;have:=G5 hgg;subst this;obtain⟨b,_,hxe,_⟩:=EK hI (.inl ho) hx'
   grind
  .rename_i g' cs ho;replace h:=U8 h;obtain⟨hgg,h⟩:=h;have:=G5 hgg;subst this;obtain⟨b,_,hxe,_⟩:=EK hI (.inr ho) hx'
   grind
  .grind
 .rename_i cs off he;have hx':=hx;rw[he]at hx';generalize hax:a.eval x=y at hx';cases hx' with
  |c _ _ hr=>
   cases hr with
   |pi _ b o _ f hc hrep=>grind
 .rename_i f caps he;have hx':=hx;rw[he]at hx';generalize hax:a.eval x=y at hx';cases hx' with
  |c _ _ hr=>
   cases hr with
   |fn _ _ vs hl hrep=>exact bT hI hd hn h (x:=a.eval x) (by simp[execOp,hax]) hx
 .rename_i f caps he;have hx':=hx;rw[he]at hx';generalize hax:a.eval x=y at hx';cases hx' with
  |V4 f _ vs hf hl hrep=>exact bT hI hd hn h (x:=a.eval x) (by cases f<;>simp[execOp,hax,FV.val]) hx
 .grind
def dr8(hT:aA P T)(dst:E8)(t:TypeId)(x:Operand)(k:Nat)(type:TypeId)(pos:String)(after:dO)(guard:dH):jI P G T ⟨dst,.fieldAddr t x k,type,pos,after,guard⟩:=by
 intro Z0 w0 S n Z E st a w K next Q F hI hd h hX hn
 have hx:=aG hI x;simp only[wpOp]at h;split at h
 .rename_i fs _ _ _ _ _ hti;have hi:=hT _ _ hti;split at h
  .rename_i f hf;split at h
   .rename_i i hfi;have aM9:=hT _ _ hfi;cases hz:Nat.beq i.size 0 with
    |true=>grind
    |false=>
     rw[hz]at h;simp only[G6]at h;have hne:i.size≠0:=λe=>by rw[e]at hz;exact Bool.noConfusion hz
     have run:∀b off,(Instr.fieldAt t (.pointer (some ⟨b,off,none⟩)) k).run P w=.ok (.pointer (some ⟨b,off+f.offset,none⟩)) w:=by
      intro b off;have hu:=hi.u;simp only at hu;simp[Instr.fieldAt,O4 hu,hf,Instr.sureAddr,fieldPlace,aM9.sizeOf w,hne,iI]
     split at h
     .rename_i s g off he;have hx':=hx;rw[he]at hx';have go:∀cs,(st.obj s=(g,.var cs)\/st.obj s=(g,.ro cs))->K (.pm s g (off+f.offset)) [s] []->Oper.dV P ⟨dst,.fieldAddr t x k,type,pos,after,guard⟩ a w next Q:=by
       intro cs ho hk;obtain⟨b,hE,hxe,_⟩:=EK hI ho hx';refine bT hI hd hn hk (x:=.pointer (some ⟨b,off+f.offset,none⟩)) ?_ (.pm _ _ _ _ ⟨_,rfl⟩ ?_ λ_=>⟨b,hE,rfl⟩)
       .simp only[execOp,hxe,J6,run];rfl
       .grind
      split at h
      .rename_i g' cs ho;replace h:=U8 h;obtain⟨hgg,h⟩:=h;have:=G5 hgg
       grind
      .rename_i g' cs ho;replace h:=U8 h;obtain⟨hgg,h⟩:=h;have:=G5 hgg
       grind
      .grind
     .rename_i cs off he;rw[he]at hx;generalize hax:a.eval x=y at hx;cases hx with
      |c _ _ hr=>
       cases hr with
       |pi _ b o _ f' hc hrep=>
        refine bT hI hd hn h (x:=.pointer (some ⟨b,o+off+f.offset,none⟩)) ?_ (.c _ _ ?_)
        .simp only[execOp,hax,J6,run];rfl
        .rw[Nat.add_assoc];exact .pi cs b o _ f' hc hrep
     .grind
   .grind
  .grind
 .grind
def dh5{t:TypeId}{i:TI}(hi:O6 P t i){cs:G9}{vs:H6}{off:Nat}{c:CV}(hl:cs.length=vs.length)
    (hc:∀(j:Nat)(c:CV)(x:Value),cs[j]?=some c->vs[j]?=some x->Rep Z w c x) (ha:∀(j:Nat)(c:CV),cs[j]?=some c->c.atom=true) (hp:part i cs off=some c):
    ∃x,(Go.part t vs.toArray off).run P w=.ok x w/\Rep Z w c x:=by
 unfold part at hp;have hr:=hi.IB w;cases hagg:i.isAgg with
 |false=>
  rw[hagg]at hp hr;simp only[G6]at hp;have hlt:off<cs.length:=(P7.1 hp).1;have hv:vs[off]?=some (vs[off]'(by omega)):=J9 (by omega);refine⟨_,?_,hc off c _ hp hv⟩;simp[Go.part,hr,hv]
 |true=>
  rw[hagg]at hp hr;simp only[H9]at hp;cases hx:takeN i.size (cs.drop off)with
  |none=>grind
  |some xs=>
   rw[hx]at hp;simp at hp;subst hp;obtain⟨hxl,hj⟩:=az2 _ _ _ hx;have hat:∀(j:Nat)(c:CV),xs[j]?=some c->cs[off+j]?=some c:=λj c hjc=>by grind
   have hfit:i.size=0\/off+i.size<=cs.length:=by
    rcases Nat.eq_zero_or_pos i.size with h0|h0
    .grind
    .right;have hlast:∃c,xs[i.size-1]?=some c:=⟨xs[i.size-1]'(by omega),J9 (by omega)⟩
     grind
   refine⟨.agg ((vs.drop off).take i.size).toArray,?_,.agg xs _ ?_ (λj c x hjc hjx=>?_) (λj c hjc=>ha _ c (hat j c hjc))⟩
   .simp[Go.part,hr,hi.sizeOf w]
   .grind
   .grind
def dr7(hT:aA P T)(dst:E8)(t:TypeId)(x:Operand)(k:Nat)(type:TypeId)(pos:String)(after:dO)(guard:dH):jI P G T ⟨dst,.field t x k,type,pos,after,guard⟩:=by
 intro Z0 w0 S n Z E st a w K next Q F hI hd h hX hn
 have hx:=aG hI x;simp only[wpOp]at h;split at h
 .rename_i fs _ _ _ _ _ cs hti he;have hi:=hT _ _ hti;rw[he]at hx;split at h
  .rename_i f hf;split at h
   .rename_i i hfi;split at h
    .rename_i c hp;generalize hax:a.eval x=y at hx;cases hx with
     |c _ _ hr=>
      cases hr with
      |agg _ vs hl hrep ha=>
       obtain⟨v,hv,hvr⟩:=dh5 (hT _ _ hfi) hl hrep ha hp;refine bT hI hd hn h (x:=v) ?_ (.c _ _ hvr);have hu:=hi.u;simp only at hu;simp[execOp,hax,Instr.field,O4 hu,hf,asAgg,hv]
    .grind
   .grind
  .grind
 .grind
def ds4(hT:aA P T)(dst:E8)(t:TypeId)(x i:Operand)(type:TypeId)(pos:String)(after:dO)(guard:dH):jI P G T ⟨dst,.indexAddr t x i,type,pos,after,guard⟩:=by
 intro Z0 w0 S n Z E st a w K next Q F hI hd h hX hn
 have hx:=aG hI x;have hi:=aG hI i;simp only[wpOp]at h;split at h
 .rename_i e _ _ _ _ _ hti;split at h
  .rename_i te sz ds k m hte hsl he;obtain⟨h0,hszz,d,hdd,hk⟩:=h;have hs:sz=te.size:=hszz.resolve_right (by omega);subst hs;rw[he]at hi;have hiv:a.eval i=.int k m:=mZ hi;have hr:=RU hx hsl;generalize hax:a.eval x=y at hr;cases hr with
   |nil=>simp at hdd
   |sl _ _ b o cap f hcap hsz hc hrep=>
    have hlt:m.toNat<ds.length:=(P7.1 hdd).1;refine bT hI hd hn hk (x:=.pointer (some ⟨b,o+m.toNat*te.size,none⟩)) ?_ (.c _ _ ?_)
    .have hu:=(hT _ _ hti).u;simp only at hu;have hm:0<=m/\m<(ds.length:Int):=⟨h0,by omega⟩;simp only[execOp,hax,hiv,Instr.indexAt,asIntOf,J6,U5,O8,O4 hu,(hT _ _ hte).sizeOf w,I9 hm,iI]
    .have:=Rep.pi (Z:=Z) (w:=w) d b (o+m.toNat*te.size) 0 (λj=>f m.toNat j) (λj c hj=>hc _ j d c hdd hj) (λj c hj=>hrep _ j d c hdd hj)
     grind
  .grind
 .grind
def dr9(hT:aA P T)(dst:E8)(t:TypeId)(x i:Operand)(type:TypeId)(pos:String)(after:dO)(guard:dH):jI P G T ⟨dst,.index t x i,type,pos,after,guard⟩:=by
 intro Z0 w0 S n Z E st a w K next Q F hI hd h hX hn
 have hx:=aG hI x;have hi:=aG hI i;simp only[wpOp]at h;split at h
 .rename_i _ _ _ _ _ hti;split at h
  .rename_i s k m h1 h2;obtain⟨h0,b,hb,hk⟩:=h;rw[h1]at hx;rw[h2]at hi;have hxv:a.eval x=.string s:=mZ hx;have hiv:a.eval i=.int k m:=mZ hi;refine bT hI hd hn hk (x:=.int .u8 b.toNat) ?_ (.c _ _ (.v _));have hu:=(hT _ _ hti).u;simp only at hu;simp only[execOp,hxv,hiv,Instr.index,asIntOf,J6,U5,O8,O4 hu,I9 h0,hb]
  .grind
 .grind
def dr6(dst:E8)(x:Operand)(k:Nat)(type:TypeId)(pos:String)(after:dO)(guard:dH):jI P G T ⟨dst,.extract x k,type,pos,after,guard⟩:=by
 intro Z0 w0 S n Z E st a w K next Q F hI hd h hX hn
 have hx:=aG hI x;simp only[wpOp]at h;split at h
 .rename_i vs he;rw[he]at hx;split at h
  .rename_i c hc;generalize hax:a.eval x=y at hx;cases hx with
   |c _ _ hr=>
    cases hr with
    |U6 _ us hl hrep=>
     have hlt:k<vs.length:=(P7.1 hc).1;have hu:us[k]?=some (us[k]'(by omega)):=J9 (by omega);refine bT hI hd hn h (x:=us[k]'(by omega)) ?_ (.c _ _ (hrep k c _ hc hu));simp[execOp,hax,Instr.extract,hu]
  .grind
 .grind
def ds6(dst:E8)(fn:Fn)(first captured:yD)(type:TypeId)(pos:String)(after:dO)(guard:dH):jI P G T ⟨dst,.makeFunc fn first captured,type,pos,after,guard⟩:=by
 intro Z0 w0 S n Z E st a w K next Q F hI hd h hX hn
 cases fn with
 |func f=>
  simp only[wpOp]at h;split at h
  rotate_left
  .exact hX h
  rename_i he;have hemp:first=#[]:=by grind
  subst hemp;refine bT hI hd hn h (x:=.func (.func f) #[] (captured.map a.eval)) (by simp[execOp,Instr.makeFunc]) ?_
  have:=O7.V4 (Z:=Z) (w:=w) (obj:=st.obj) (E:=E) (.fn f) (captured.toList.map (look st)) (captured.toList.map a.eval) trivial (by simp) (λi s x h1 h2=>by
   rw[P9]at h1 h2;cases hc:captured.toList[i]? with
   |none=>grind
   |some op=>
    rw[hc]at h1 h2;simp at h1 h2;subst h1;subst h2
    exact aG hI op)
  rw[show(captured.map a.eval)=(captured.toList.map a.eval).toArray from by rw[<-Array.toList_map,Array.toArray_toList]];exact this
 |_=>simp only[wpOp]at h;first|exact h.elim|exact hX h
end
end Go.F7
namespace Go.F7
open Go Go.RowKit
def jV(E:Q8)(d:Nat)(x:Value):Nat->Value:=λt=>if t=d then x else E t
def vV(E:Q8)(d:Nat)(x:Value):jV E d x d=x:=by simp[jV]
def a06(E:Q8){d t:Nat}(x:Value)(h:t≠d):jV E d x t=E t:=by simp[jV,h]
def wC(obj:J8)(d:Nat)(x:Nat×G8):upd obj [(d,x)] d=x:=by simp[upd]
def wB(obj:J8){d t:Nat}(x:Nat×G8)(h:t≠d):upd obj [(d,x)] t=obj t:=by
 simp only[upd];cases hb:Nat.beq d t with
 |false=>rfl
 |true=>exact absurd (G5 hb).symm h
def JY(obj:J8)(s d:Nat)(x y:Nat×G8):upd obj [(s,x),(d,y)] s=x:=by simp[upd]
def aC1(obj:J8){s d:Nat}(x y:Nat×G8)(h:s≠d):upd obj [(s,x),(d,y)] d=y:=by
 simp only[upd];cases hb:Nat.beq s d with
 |false=>simp
 |true=>exact absurd (G5 hb) h
theorem aC0(obj:J8){s d t:Nat}(x y:Nat×G8)(h:t≠s)(h':t≠d):upd obj [(s,x),(d,y)] t=obj t:=by
 simp only[upd];cases hb:Nat.beq s t with
 |true=>exact absurd (G5 hb).symm h
 |false=>
  cases hb':Nat.beq d t with
  |true=>exact absurd (G5 hb').symm h'
  |false=>rfl
section
variable{P:Program}{G:aB}{T:Tab}{Z0:Base}{w0:World}{S:U2}{n:Nat}{Z Z':Zone}{E:Q8}{st:St}{a:Act}{w w':World}
def Inv.size_le(hI:Inv G Z0 w0 S n Z E st a w):w0.heap.size<=w.heap.size:=hI.below.size
def Inv.xK(hI:Inv G Z0 w0 S n Z E st a w)(k:Nat)(hk:S k):k<w.heap.size:=aH (hI.slt k hk) hI.size_le
def Inv.fresh(hI:Inv G Z0 w0 S n Z E st a w){k:Nat}(hk:w.heap.size<=k):¬S k:=λh=>Nat.lt_irrefl _ (aH (hI.xK k h) hk)
def aF2(hI:Inv G Z0 w0 S n Z E st a w)(o:Obj):Kept S w (w.alloc o):=(Kept.refl _ _).alloc hI.xK o
def lG(o o':G8):Prop:=
 match o,o' with
 |.var _,.var _|.var _,.varx _|.varx _,.varx _|.varx _,.var _=>True
 |.ro _,.ro _|.var _,.ro _|.varx _,.ro _|.ro _,.var _|.ro _,.varx _=>True
 |.tok el s,.tok fB s'=>el=fB/\s=s'
 |.arr el s _ _,.arr fB s' _ _=>el=fB/\s=s'
 |.map _,.map _=>True
 |_,_=>False
def G8.still(o:G8):Prop:=o=.spent\/∃l R q,o=.lp l R q
def bL7{obj D8:J8}{E E':Q8}(ch:U2)(hsame:∀t,¬ch t->D8 t=obj t/\E' t=E t)
    (hch:∀t,ch t->(obj t).1<(D8 t).1\/((D8 t).1=(obj t).1/\(G8.still (D8 t).2\/(E' t=E t/\lG (obj t).2 (D8 t).2)))):eY obj E D8 E':=by
 refine⟨λt=>?_,λt g hg hl=>?_,λt g el s hg ht=>?_,λt g el sz ds D7 hg ht=>?_,λt g es hg ht=>?_⟩
 .by_cases h:ch t
  .grind
  .grind
 .by_cases h:ch t
  .obtain⟨cs,hl⟩:=hl;rcases hch t h with h|⟨hgen,h|⟨hE,hk⟩⟩
   .grind
   .rcases hl with hl|hl|hl<;>(rw[hl]at h;simp[G8.still]at h)
   .refine⟨?_,hE⟩;have hg2:(obj t).1=g:=by grind
    cases ho:obj t with
    |mk g0 o=>
     rw[ho]at hk hg2;simp only at hk hg2;subst hg2;rcases hl with hl|hl|hl<;>rw[hl]at hk<;>cases o<;>simp only[lG]at hk<;>first|exact⟨_,.inl ho⟩|exact⟨_,.inr (.inl ho)⟩|exact⟨_,.inr (.inr ho)⟩
  .rw[show live D8 t g=live obj t g from by unfold live;rw[(hsame t h).1]]at hl
   grind
 .by_cases h:ch t
  .rcases hch t h with h|⟨hgen,h|⟨hE,hk⟩⟩
   .grind
   .rw[ht]at h;simp[G8.still]at h
   .refine⟨?_,hE⟩;rw[ht]at hgen hk;cases ho:obj t with
    |mk g0 o=>
     rw[ho]at hk hgen;simp only at hk hgen;subst hgen;cases o<;>simp only[lG]at hk
     grind
  .grind
 .by_cases h:ch t
  .rcases hch t h with h|⟨hgen,h|⟨hE,hk⟩⟩
   .grind
   .rw[ht]at h;simp[G8.still]at h
   .refine⟨?_,hE⟩;rw[ht]at hgen hk;cases ho:obj t with
    |mk g0 o=>
     rw[ho]at hk hgen;simp only at hk hgen;subst hgen;cases o<;>simp only[lG]at hk
     grind
  .grind
 .by_cases h:ch t
  .rcases hch t h with h|⟨hgen,h|⟨hE,hk⟩⟩
   .grind
   .rw[ht]at h;simp[G8.still]at h
   .refine⟨?_,hE⟩;rw[ht]at hgen hk;cases ho:obj t with
    |mk g0 o=>
     rw[ho]at hk hgen;simp only at hk hgen;subst hgen;cases o<;>simp only[lG]at hk
     grind
  .grind
def Inv.bR7(hI:Inv G Z0 w0 S n Z E st a w){d:E8}{r:SV}{x:Value}{D8:J8}{E':Q8}(ch:U2)(hd:inRange n d=true)
    (hb:Kept S w w') (hk:Keeps Z w Z' w') (hlt:∀b o,Z' b o->b<w'.heap.size) (hnew:∀b o,Z' b o->Z b o\/¬S b)
    (hsame:∀t,¬ch t->D8 t=st.obj t/\E' t=E t)
    (hok:eY st.obj E D8 E')
    (kD:eY st.obj E D8 E'->∀t,ch t->X7 Z' w' D8 E' (E' t) (D8 t).2)
    (hframe:∀t,¬ch t->∀b,(st.obj t).2.blk (E t) b->w'.heap[b]?=w.heap[b]?/\(∀k,Z' b k->Z b k)/\∀s,ch s->¬(D8 s).2.blk (E' s) b)
    (hap:∀t t' b,ch t->ch t'->t≠t'->(D8 t).2.blk (E' t) b->¬(D8 t').2.blk (E' t') b)
    (how:∀t,ch t->∀b,(D8 t).2.blk (E' t) b->¬S b)
    (hr:O7 Z' w' D8 E' r x):Inv G Z0 w0 S n Z' E' ⟨put st.env d r,D8⟩ (a.put d x) w':=by
 refine hI.step hd hb hk hlt hnew hok (λt=>?_) (λt t' b hne h1 h2=>?_) (λt b hb'=>?_) hr
 rotate_right
 .by_cases h:ch t
  .grind
  .rw[(hsame t h).1,(hsame t h).2]at hb';exact hI.own t b hb'
 .by_cases h:ch t
  .grind
  .rw[(hsame t h).1,(hsame t h).2];exact(hI.obj t).keep hk hok λb hb=>⟨(hframe t h b hb).1,(hframe t h b hb).2.1⟩
 .by_cases h:ch t
  .by_cases h':ch t'
   .exact hap t t' b h h' hne h1 h2
   .rw[(hsame t' h').1,(hsame t' h').2]at h2;exact(hframe t' h' b h2).2.2 t h h1
  .rw[(hsame t h).1,(hsame t h).2]at h1;by_cases h':ch t'
   .exact(hframe t h b h1).2.2 t' h' h2
   .rw[(hsame t' h').1,(hsame t' h').2]at h2;exact hI.apart t t' b hne h1 h2
def Inv.renew(hI:Inv G Z0 w0 S n Z E st a w){d:E8}{r:SV}{x:Value}{D8:J8}{E':Q8}(ch:U2)(hd:inRange n d=true)
    (hb:Kept S w w') (hk:Keeps Z w Z' w') (hlt:∀b o,Z' b o->b<w'.heap.size) (hnew:∀b o,Z' b o->Z b o\/¬S b)
    (hsame:∀t,¬ch t->D8 t=st.obj t/\E' t=E t)
    (hch:∀t,ch t->(st.obj t).1<(D8 t).1\/((D8 t).1=(st.obj t).1/\(G8.still (D8 t).2\/(E' t=E t/\lG (st.obj t).2 (D8 t).2))))
    (kD:eY st.obj E D8 E'->∀t,ch t->X7 Z' w' D8 E' (E' t) (D8 t).2)
    (hframe:∀t,¬ch t->∀b,(st.obj t).2.blk (E t) b->w'.heap[b]?=w.heap[b]?/\(∀k,Z' b k->Z b k)/\∀s,ch s->¬(D8 s).2.blk (E' s) b)
    (hap:∀t t' b,ch t->ch t'->t≠t'->(D8 t).2.blk (E' t) b->¬(D8 t').2.blk (E' t') b)
    (how:∀t,ch t->∀b,(D8 t).2.blk (E' t) b->¬S b)
    (hr:O7 Z' w' D8 E' r x):Inv G Z0 w0 S n Z' E' ⟨put st.env d r,D8⟩ (a.put d x) w':=
 hI.bR7 ch hd hb hk hlt hnew hsame (bL7 ch hsame hch) kD hframe hap how hr
def Inv.newVar(hI:Inv G Z0 w0 S n Z E st a w){d:Nat}(hd:inRange n (some d)=true)(cs:G9)(arr:S9)(el:TypeId)(hsz:arr.size=cs.length)
    (hc:∀(j:Nat)(c:CV),cs[j]?=some c->c.atom=true/\∃x,arr[j]?=some x/\Rep Z w c x):
    Inv G Z0 w0 S n Z (jV E d (.pointer (some ⟨w.heap.size,0,none⟩))) ⟨put st.env (some d) (.pm d ((st.obj d).1+1) 0),upd st.obj [(d,((st.obj d).1+1,.var cs))]⟩
     (a.put (some d) (.pointer (some ⟨w.heap.size,0,none⟩))) (w.alloc (.cells arr el)):=by
 have hk:Keeps Z w Z (w.alloc (.cells arr el)):=Keeps.alloc hI.X5 _;have hother:∀t,t≠d->upd st.obj [(d,((st.obj d).1+1,.var cs))] t=st.obj t:=λt h=>wB _ _ h;have hsame:upd st.obj [(d,((st.obj d).1+1,.var cs))] d=((st.obj d).1+1,.var cs):=wC _ _ _;refine hI.renew (·=d) hd (aF2 hI _) hk (λb o h=>by have:=hI.X5 b o h;simp;omega) (λ_ _ h=>.inl h) (λt ht=>⟨hother t ht,a06 E _ ht⟩) ?_ ?_ ?_ ?_ ?_ ?_
 .grind
 .rintro _ t rfl;rw[hsame,vV];refine⟨w.heap.size,el,arr,rfl,bJ w _,hsz,λj c hj=>?_,λo hz=>Nat.lt_irrefl _ (hI.X5 _ _ hz)⟩;obtain⟨h1,x,h2,h3⟩:=hc j c hj;exact⟨h1,x,h2,h3.keep hk⟩
 .intro t ht b hb;have hlt:=(hI.obj t).lt hb;refine⟨vJ w _ hlt,λ_ hz=>hz,?_⟩;rintro s rfl h;rw[hsame,vV]at h
  grind
 .grind
 .rintro t rfl b hb;rw[hsame,vV]at hb;simp[G8.blk]at hb;exact hI.fresh (by omega)
 .refine .pm _ _ _ _ ⟨_,rfl⟩ ?_ λ_=>⟨w.heap.size,vV _ _ _,rfl⟩
  grind
def lX{t:Nat}{i:TI}(h:O6 P t i):(Q9 i).cells=i.zero.toArray:=by
 unfold Q9;cases hagg:i.isAgg with
 |true=>rfl
 |false=>
  have hs:=h.single hagg;have hl:=h.len;rw[hs]at hl
  match hz:i.zero,hl with
  |[z],_=>
   have ho:=h.one;rw[hz]at ho;simp at ho;simp only[G6,List.headD];cases z<;>first|rfl|simp[Value.oneCell']at ho
def aD2:∀(zs:H6)(ks:O1),(qK zs ks).length=zs.length
 |[],_=>rfl
 |_::r,ks=>congrArg Nat.succ (aD2 r ks.tail)
def ck4:∀(zs:H6)(ks:O1),zs.all (λz=>z.oneCell')=true->∀(j:Nat)(c:CV),(qK zs ks)[j]?=some c->c.atom=true/\∃x,zs[j]?=some x/\Rep Z w c x
 |[],_,_,j,c,h=>by simp[qK]at h
 |z::r,ks,ho,0,c,h=>by
  simp only[List.all_cons,Z4]at ho;simp only[qK,List.getElem?_cons_zero,aQ]at h;subst h;refine⟨?_,z,rfl,?_⟩
  .split
   .rfl
   .exact ho.1
  .split
   .exact .nil _ _ _
   .exact .v _
 |z::r,ks,ho,j+1,c,h=>by
  simp only[List.all_cons,Z4]at ho;simp only[qK,List.getElem?_cons_succ]at h⊢;exact ck4 r ks.tail ho.2 j c h
def ak2{t:Nat}{i:TI}(h:O6 P t i)(j:Nat)(c:CV)(hj:(qK i.zero i.ks)[j]?=some c):c.atom=true/\∃x,i.zero.toArray[j]?=some x/\Rep Z w c x:=by
 obtain⟨h1,x,h2,h3⟩:=ck4 (Z:=Z) (w:=w) i.zero i.ks h.one j c hj
 grind
def dq3(hT:aA P T)(dst:E8)(e:TypeId)(type:TypeId)(pos:String)(after:dO)(guard:dH):jI P G T ⟨dst,.alloc e,type,pos,after,guard⟩:=by
 intro Z0 w0 S n Z E st a w K next Q F hI hd h hX hn
 simp only[wpOp]at h;split at h
 .rename_i i d hti;have hi:=hT _ _ hti;obtain⟨j,hj,hjs,_,hjz⟩:=hi.gX;refine bP ?_ (hn _ _ _ _ _ _ _ h (hI.newVar hd (qK i.zero i.ks) i.zero.toArray e (by simp[aD2]) (λj c hj=>ak2 hi j c hj)));simp[execOp,Instr.alloc,zeroValue,typeInfo,hj,hjz,newVar,newRow,lX hi]
 .grind
def SK{c:CV}{x:Value}(h:Rep Z w c x)(hs:c.storable=true):x.cells.size=c.cells.length/\∀(j:Nat)(d:CV),c.cells[j]?=some d->d.atom=true/\∃y,x.cells[j]?=some y/\Rep Z w d y:=by
 have one:∀(c:CV)(x:Value),c.cells=[c]->x.cells=#[x]->c.atom=true->Rep Z w c x->x.cells.size=c.cells.length/\∀(j:Nat)(d:CV),c.cells[j]?=some d->d.atom=true/\∃y,x.cells[j]?=some y/\Rep Z w d y:=by grind
 cases h with
 |agg cs vs hl hr ha=>
  refine⟨by simp[Value.cells,CV.cells,hl],λj d hj=>⟨ha j d hj,?_⟩⟩;simp only[CV.cells]at hj;have hlt:j<cs.length:=(P7.1 hj).1;have hv:vs[j]?=some (vs[j]'(by omega)):=J9 (by omega);exact⟨_,by simp[Value.cells,hv],hr j d _ hj hv⟩
 |U6 vs us hl hr=>simp[CV.storable,CV.atom]at hs
 |v x=>
  have hx:x.oneCell'=true:=hs;exact one _ _ rfl (by cases x<;>first|rfl|simp[Value.oneCell']at hx) hx (.v x)
 |nil sz a cap=>exact one _ _ rfl rfl rfl (.nil _ _ _)
 |sl sz ds b o cap f hcap hsz hc hr=>exact one _ _ rfl rfl rfl (.sl sz ds b o cap f hcap hsz hc hr)
 |pi cs b o off f hc hr=>exact one _ _ rfl rfl rfl (.pi cs b o off f hc hr)
 |fn f caps vs hl hr=>exact one _ _ rfl rfl rfl (.fn f caps vs hl hr)
 |mpn=>exact one _ _ rfl rfl rfl .mpn
 |mp es b arr clock hz hh hl hk hv=>exact one _ _ rfl rfl rfl (.mp es b arr clock hz hh hl hk hv)
def dq7(dst:E8)(e:TypeId)(x:Operand)(type:TypeId)(pos:String)(after:dO)(guard:dH):jI P G T ⟨dst,.box e x,type,pos,after,guard⟩:=by
 intro Z0 w0 S n Z E st a w K next Q F hI hd h hX hn
 have hx:=aG hI x;simp only[wpOp]at h;split at h
 .rename_i c d hc;replace h:=U8 h;obtain⟨hs,h⟩:=h;obtain⟨hsz,hcell⟩:=SK (oD hx hc) hs;refine bP ?_ (hn _ _ _ _ _ _ _ h (hI.newVar hd c.cells (a.eval x).cells e hsz hcell));simp[execOp,Instr.box,newVar,newRow]
 .grind
def WH:∀(cs:G9)(off:Nat)(xs ys:G9),setAt cs off xs=some ys->ys.length=cs.length/\(xs=[]\/off+xs.length<=cs.length)/\
    ∀(j:Nat),ys[j]?=if off<=j/\j<off+xs.length then xs[j-off]? else cs[j]?
 |cs,off,[],ys,h=>by
  cases cs<;>simp[setAt]at h<;>subst h<;>exact⟨rfl,.inl rfl,λj=>by rw[H7 (by simp)]⟩
 |[],off,x::xs,ys,h=>by simp[setAt]at h
 |c::r,0,x::xs,ys,h=>by
  simp only[setAt]at h;split at h
  .rename_i zs hz;simp at h;subst h;obtain⟨h1,h2,h3⟩:=WH r 0 xs zs hz;refine⟨by simp[h1],.inr ?_,λj=>?_⟩
   .grind
   .grind
  .simp at h
 |c::r,off+1,x::xs,ys,h=>by
  simp only[setAt]at h;split at h
  .rename_i zs hz;simp at h;subst h;obtain⟨h1,h2,h3⟩:=WH r off (x::xs) zs hz;refine⟨by simp[h1],.inr ?_,λj=>?_⟩
   .grind
   .cases j with
    |zero=>simp
    |succ j=>
     grind
  .simp at h
def Inv.setVar(hI:Inv G Z0 w0 S n Z E st a w){d:E8}(hd:inRange n d=true){s g b:Nat}{cs cs':G9}{arr arr':S9}{el:TypeId}(ho:st.obj s=(g,.var cs))
    (hE:E s=.pointer (some ⟨b,0,none⟩)) (hh:w.heap[b]?=some (.cells arr el (0,0))) (hsz:arr'.size=cs'.length) (x:Value)
    (hc:∀(j:Nat)(c:CV),cs'[j]?=some c->c.atom=true/\∃x,arr'[j]?=some x/\Rep Z w c x):
    Inv G Z0 w0 S n Z E ⟨put st.env d .any,upd st.obj [(s,(g,.var cs'))]⟩ (a.put d x) (w.setRow b arr'):=by
 have hos:=hI.obj s;rw[ho]at hos;obtain⟨b',fB,dR3,he,_,_,_,hz⟩:=hos;have hbb:b'=b:=by grind
 subst hbb;have hnS:¬S b':=hI.own s b' (by rw[ho,hE]<;>rfl)
 have hk:Keeps Z w Z (w.setRow b' arr'):=λb o hz'=>⟨hz',jM (vW w b' b arr' (λe=>by subst e;exact hz o hz'))⟩;have hother:∀t,t≠s->upd st.obj [(s,(g,.var cs'))] t=st.obj t:=λt h=>wB _ _ h;have hsame:upd st.obj [(s,(g,.var cs'))] s=(g,.var cs'):=wC _ _ _;refine hI.renew (·=s) hd ⟨rfl,rfl,rfl,by simp[World.setRow],λk hk=>vW w b' k arr' (λe=>hnS (e▸hk)),λk hk=>ax6 w b' k arr' hk⟩ hk (λb o h=>by have:=hI.X5 b o h;simpa[World.setRow]using this) (λ_ _ h=>.inl h) (λt ht=>⟨hother t ht,rfl⟩) ?_ ?_ ?_ ?_ ?_ (.any _)
 .rintro t rfl;rw[hsame,ho];exact .inr ⟨rfl,.inr ⟨rfl,trivial⟩⟩
 .rintro _ t rfl;rw[hsame];refine⟨b',el,arr',hE,rU w b' arr arr' el (0,0) hh,hsz,λj c hj=>?_,hz⟩;obtain⟨h1,y,h2,h3⟩:=hc j c hj;exact⟨h1,y,h2,h3.keep hk⟩
 .intro t ht b hb;have hne:b≠b':=λe=>by subst e;exact hI.apart t s b ht hb (by rw[ho,hE]<;>rfl)
  refine⟨vW w b' b arr' hne,λ_ hz=>hz,?_⟩
  grind
 .grind
 .grind
def c36{w:World}{obj:J8}{E:Q8}{s:SV}{x:Value}{c:CV}{o:Option TI}(h:O7 Z w obj E s x)(hc:(bU s).map (aT5 o)=some c):Rep Z w c x:=by
 cases ha:bU s with
 |none=>grind
 |some d=>
  rw[ha]at hc;obtain rfl:=jJ hc;have hr:=oD h ha;unfold aT5;split
  .cases hr with
   |nil _ a cap=>exact .nil _ a cap
   |sl _ _ b o cap f hcap hsz hc h=>exact .sl _ [] b o cap f hcap (λi d hd=>nomatch hd) (λi j d c hd=>nomatch hd) (λi j d c hd=>nomatch hd)
  .exact hr
def dt0(hT:aA P T)(dst:E8)(t:TypeId)(x y:Operand)(type:TypeId)(pos:String)(after:dO)(guard:dH):jI P G T ⟨dst,.store t x y,type,pos,after,guard⟩:=by
 intro Z0 w0 S n Z E st a w K next Q F hI hd h hX hn
 have hx:=aG hI x;have hy:=aG hI y;simp only[wpOp]at h;split at h
 .rename_i i s g off c hti hlx hcy;have hi:=hT _ _ hti;rw[hlx]at hx;split at h
  .rename_i g' cs ho;replace h:=U8 h;obtain⟨hb,h⟩:=h;simp only[Z4]at hb;obtain⟨⟨⟨hgg,hlen⟩,hst⟩,hpos⟩:=hb;have:=G5 hgg;subst this;split at h
   .rename_i cs' hset;obtain⟨hys,oK⟩:=SK (c36 hy hcy) hst;have hcl:c.cells.length=i.size:=G5 hlen;have hip:1<=i.size:=I8 hpos;obtain⟨h1,h2,h3⟩:=WH _ _ _ _ hset;obtain⟨b,hE,hxe,_⟩:=EK hI (.inl ho) hx;have hos:=hI.obj s;rw[ho]at hos;obtain⟨b',el,arr,he,hh,hs,hc,_⟩:=hos;have hbb:b'=b:=by grind
    subst hbb;have hfit:off+(a.eval y).cells.toList.length<=arr.size:=by grind
    have hone:∀v∈(a.eval y).cells.toList,v.oneCell'=true:=λv hv=>by
     obtain⟨j,hj,yS⟩:=eX hv;have hj':j<c.cells.length:=by grind
     have hcj:c.cells[j]?=some (c.cells[j]'hj'):=J9 hj';obtain⟨hat,u,hu,hr⟩:=oK j _ hcj;have:u=v:=by grind
     subst this;exact hr.atom hat
    have hrun:=run_storeCells_at (P:=P) b' off el (a.eval y).cells.toList 0 arr w hh (by simpa using hfit) hone;refine QU ?_ (hn _ _ _ _ _ _ _ h (hI.setVar (arr':=(arr.toList.take (off+0)++(a.eval y).cells.toList++arr.toList.drop (off+0+(a.eval y).cells.toList.length)).toArray) hd ho hE hh ?_ undef ?_))
    .simp only[execOp,hxe,Instr.storeAt,Instr.sureAddr,storeVar,J6,U5,O8,hi.sizeOf w];rw[H7 (by rw[hys,hcl];simp)];simp only[U5,O8,hrun]
    .grind
    .intro j c' hj;have hjl:j<cs.length:=by grind
     rw[h3 j]at hj;have hget:((arr.toList.take (off+0)++(a.eval y).cells.toList++arr.toList.drop (off+0+(a.eval y).cells.toList.length)).toArray)[j]?=
      if off<=j/\j<off+c.cells.length then(a.eval y).cells[j-off]? else arr[j]?:=by
      simp only[pG,List.getElem?_toArray,lC];have hl1:(arr.toList.take off).length=off:=by grind
      by_cases hjo:j<off
      .grind
      .rw[dN (by omega),hl1];by_cases hjk:j<off+c.cells.length
       .grind
       .grind
     grind
   .grind
  .grind
 .grind
end
end Go.F7
namespace Go.F7
open Go Go.RowKit
section
variable{P:Program}{G:aB}{T:Tab}{Z0:Base}{w0:World}{S:U2}{n:Nat}{Z Z':Zone}{E:Q8}{st:St}{a:Act}{w w':World}
def Inv.tok(hI:Inv G Z0 w0 S n Z E st a w){d:Nat}(hd:inRange n (some d)=true){x:Value}{sz el s':Nat}{es:dS}{D8:J8}
    (hod:D8 d=((st.obj d).1+1,.tok el s')) (NM:∀t,t≠d->D8 t=st.obj t\/D8 t=((st.obj t).1,.spent))
    (hb:Kept S w w') (hk:Keeps Z w Z' w') (hlt:∀b o,Z' b o->b<w'.heap.size) (hnew:∀b o,Z' b o->Z b o\/¬S b)
    (hown:X7 Z' w' st.obj E x (.tok el s')) (hrep:Rep Z' w' (.sl sz es) x)
    (hnS:∀b,(G8.tok el s').blk x b->¬S b)
    (aa2:∀t,t≠d->D8 t=st.obj t->∀b,(st.obj t).2.blk (E t) b->w'.heap[b]?=w.heap[b]?/\(∀k,Z' b k->Z b k)/\¬(G8.tok el s').blk x b):
    Inv G Z0 w0 S n Z' (jV E d x) ⟨put st.env (some d) (.ap d ((st.obj d).1+1) sz es),D8⟩ (a.put (some d) x) w':=by
 refine hI.renew (λt=>t=d\/D8 t≠st.obj t) hd hb hk hlt hnew ?_ ?_ ?_ ?_ ?_ ?_ ?_
 .intro t ht;have h1:t≠d:=λe=>ht (.inl e);exact⟨Classical.byContradiction λe=>ht (.inr e),a06 E _ h1⟩
 .intro t ht;by_cases h:t=d
  .grind
  .rcases NM t h with h1|h1
   .grind
   .rw[h1];exact .inr ⟨rfl,.inl (.inl rfl)⟩
 .intro _ t ht;by_cases h:t=d
  .subst h;rw[hod,vV];exact hown
  .rcases NM t h with h1|h1
   .grind
   .rw[h1];trivial
 .intro t ht b hb;have h1:t≠d:=λe=>ht (.inl e);have h2:D8 t=st.obj t:=Classical.byContradiction λe=>ht (.inr e);obtain⟨g1,g2,g3⟩:=aa2 t h1 h2 b hb;refine⟨g1,g2,λs hs=>?_⟩;by_cases h:s=d
  .subst h;rw[hod,vV];exact g3
  .grind
 .intro t t' b ht ht' hne h1 h2;by_cases h:t=d
  .grind
  .grind
 .intro t ht b hb';by_cases h:t=d
  .subst h;rw[hod,vV]at hb';exact hnS b hb'
  .grind
 .refine .ap _ _ _ _ _ hrep ?_ λ_ _ _=>vV _ _ _
  grind
def dq5(dst:E8)(x:Operand)(type:TypeId)(pos:String)(after:dO)(guard:dH):jI P G T ⟨dst,.assign x,type,pos,after,guard⟩:=by
 intro Z0 w0 S n Z E st a w K next Q F hI hd h hX hn
 simp only[wpOp]at h;cases dst with
 |none=>grind
 |some d=>
  simp only[XM]at h;split at h
  .split at h
   .rename_i e _ _ _ _ _ hty;split at h
    .rename_i i hi;replace h:=U8 h;obtain⟨h1,h⟩:=h;have h1:1<=i.size:=I8 h1;refine bP (x:=.slice none 0 0) (w':=w) (by simp[execOp,Act.eval]) (hn _ _ _ Z (jV E d (.slice none 0 0)) _ w h ?_);refine hI.tok hd (wC _ _ _) (λt ht=>.inl (wB _ _ ht)) (Kept.refl _ _) (Keeps.refl _ _) hI.X5 (λ_ _ h=>.inl h) ?_ (.nil _ _ _) (λb hb=>by simp[G8.blk]at hb) ?_
     .exact⟨0,[],h1,World.ownsRow_nil w _ _ _,λg cap he=>by simp at he⟩
     .grind
    .grind
   .grind
  .have hx:=aG hI x;have hrun:(execOp a.eval ⟨some d,.assign x,type,pos,after,guard⟩).run P w=.ok (.value (a.eval x)) w:=by simp[execOp]
   split at h
   .rename_i t g sz es he;have hx':=hx;rw[he]at hx';split at h
    .rename_i g' el s' ho;cases hb:(Nat.beq g g'&& !(Nat.beq t d))with
     |false=>
      rw[hb]at h;simp only[G6]at h;exact bT hI hd hn h hrun hx
     |true=>
      rw[hb]at h;simp only[H9]at h;simp only[Z4,Bool.not_eq_true']at hb;have hgg:=G5 hb.1;subst hgg;have htd:t≠d:=λe=>by subst e;simp at hb
      cases hx' with
      |ap _ _ _ _ _ hrep hgl hE=>
       have jL:=hE _ _ ho;refine bP hrun (hn _ _ _ Z (jV E d (a.eval x)) _ w h ?_);have hot:=hI.obj t;rw[ho,jL]at hot;refine hI.tok hd (aC1 _ _ _ htd) (λs hs=>?_) (Kept.refl _ _) (Keeps.refl _ _) hI.X5 (λ_ _ h=>.inl h) hot hrep (λb hb=>hI.own t b (by rw[ho,jL];exact hb)) ?_
       .by_cases hst:s=t
        .subst hst;right;rw[JY,ho]
        .left;exact aC0 _ _ _ hst hs
       .intro s hs hos b hb';refine⟨rfl,λ_ h=>h,λhx=>?_⟩;have hst:s≠t:=λe=>by subst e;rw[JY]at hos;rw[ho]at hos;simp at hos
        exact hI.apart s t b hst hb' (by rw[ho,jL];exact hx)
    .refine bT hI hd hn h hrun (.c _ _ ?_);cases hx' with
     |ap _ _ _ _ _ hrep hgl hE=>exact hrep
   .exact bT hI hd hn h hrun hx
def flat_get{ds:dS}{sz:Nat}(hsz:∀(i:Nat)(d:G9),ds[i]?=some d->d.length=sz)(h0:0<sz){k:Nat}(hk:k<ds.length*sz):
    ∃d c,ds[k/sz]?=some d/\d[k % sz]?=some c:=by
 have h1:k/sz<ds.length:=Nat.div_lt_of_lt_mul (by rw[Nat.mul_comm];exact hk);have h2:ds[k/sz]?=some (ds[k/sz]'h1):=J9 h1;have h3:=hsz _ _ h2;have h4:k % sz<(ds[k/sz]'h1).length:=by rw[h3];exact Nat.mod_lt _ h0
 exact⟨_,_,h2,J9 h4⟩
def bl7{base:Nat}{t ty e:TypeId}{i:TypeInfo}{z:Value}{size:Nat}(ht:P.underlying t=some (.slice e))(hi:P.info? e=some i)(hz:i.zero=some z)
    (hsize:i.size=size) (hzs:z.cells.size=size) (hsz:0<size)
    {v:Value} {m0:Nat} {xs:H6} (hown:w.ownsRow base e size v m0 xs)
    {b:Addr} {m c:Nat} {news:H6} (hm:0<m) (hl:news.length=m*size) (hnews:∀j u,news[j]?=some u->w.cell? (b.add j)=some u) (h1:∀u∈news,u.oneCell'=true)
    (h63:m0+m<=9223372036854775807) (hbytes:(m0+m)*i.bytes<=140737488355328) (hbase:base<=w.heap.size):
    ∃v' w',(Builtin.append_ #[t,t] ty #[v,.slice (some b) m c]).run P w=.ok v' w'/\w'.ownsRow base e size v' (m0+m) (xs++news)/\w.grownBy w' v.ownBlock/\
     (∀g o,v.ownBlock=some g->o<m0*size->w'.cell? ⟨g,o,none⟩=w.cell? ⟨g,o,none⟩)/\
     (v'.ownBlock=v.ownBlock\/v'.ownBlock=some w.heap.size):=by
 obtain⟨v',w',hr,ho',hg',_⟩:=run_append_own (P:=P) w base t ty e i z size i.bytes ht hi hz hsize rfl hzs hsz v m0 xs hown b m c news hl hnews h1 (by simp only[maxLen];omega) hbytes hbase;refine⟨v',w',hr,ho',hg',?_⟩;subst hsize;rcases hown.2 with⟨rfl,rfl⟩|⟨g,cap,cur,rfl,hbg,hg,hnc,hcm,hcs,htake⟩
 .have hr2:=run_append_nil (P:=P) w t ty e i z ht hi hz b m c news hl hnews hm (by omega) (by simp only[X9]at hbytes;omega);rw[hr2]at hr;injection hr with hv hw
  subst hv;exact⟨λg o hgo=>by simp[Value.ownBlock]at hgo,.inr rfl⟩
 .by_cases hroom:m0+m<=cap
  .have hfit:m0*i.size+news.length<=cur.size:=by rw[hl,hcs,<-mF];exact iJ _ hroom
   have hr2:=run_append_room (P:=P) w t ty e i ht hi g m0 cap cur hg b m c news hl hnews h1 hroom hfit;rw[hr2]at hr;injection hr with hv hw
   subst hv;subst hw;refine⟨λg' o hgo ho=>?_,.inl rfl⟩;simp[Value.ownBlock]at hgo;subst hgo;rw[cell_setRow_same w g o cur _ e (0,0) hg,kU w g o cur e (0,0) hg]
   grind
  .have holds:∀j u,xs[j]?=some u->w.cell? ((⟨g,0,none⟩:Addr).add j)=some u:=hown.cells (g:=g) rfl;have hr2:=run_append_grow (P:=P) w t ty e i z ht hi hz ⟨g,0,none⟩ m0 cap xs hown.1 holds b m c news hl hnews (by omega) (by omega) (growslice_fits (by omega) hbytes);rw[hr2]at hr;injection hr with hv hw
   subst hv;subst hw;refine⟨λg' o hgo ho=>?_,.inr rfl⟩;simp[Value.ownBlock]at hgo;subst hgo;exact bp0 (w:=w.drew) (vJ w.drew _ (X6.1 hg).1)
def bl5{base:Nat}{t ty e:TypeId}{i:TypeInfo}{size:Nat}(ht:P.underlying t=some (.slice e))(hi:P.info? e=some i)
    {v:Value} {m0:Nat} {xs:H6} (hown:w.ownsRow base e size v m0 xs) (ya:qP) (yc:Nat):
    (Builtin.append_ #[t,t] ty #[v,.slice ya 0 yc]).run P w=.ok v w:=by
 rcases hown.2 with⟨rfl,rfl⟩|⟨g,cap,cur,rfl,_,_,hnc,_⟩
 .cases ya<;>simp[Builtin.append_,O4 ht,sizeOf,typeInfo,hi,Builtin.lenOf,Builtin.firstCells,loadCells,loadCellsFrom]
 .cases ya<;>simp[Builtin.append_,O4 ht,sizeOf,typeInfo,hi,Builtin.lenOf,Builtin.firstCells,hnc,storeCells,loadCells,loadCellsFrom]
def DT(x:Value)(el sz:Nat){b:Nat}:(G8.tok el sz).blk x b=(x.ownBlock=some b):=be1 x el sz
def bN2{el:TypeId}{sz m0:Nat}{xs:H6}{x:Value}{es:dS}(hown:w.ownsRow 0 el sz x m0 xs)(hrep:Rep Z w (.sl sz es) x):
    m0=es.length/\(∀(i:Nat)(d:G9),es[i]?=some d->d.length=sz)/\∀(i j:Nat)(d:G9)(c:CV),es[i]?=some d->d[j]?=some c->c.atom=true/\∃u,xs[i*sz+j]?=some u/\Rep Z w c u:=by
 cases hrep with
 |nil a b cap=>
  refine⟨?_,λi d h=>by simp at h,λi j d c h=>by simp at h⟩;rcases hown.2 with⟨_,h⟩|⟨g,cap',cur,he,_⟩
  .exact h
  .grind
 |sl _ _ b o cap f hcap hs hc hr=>
  rcases hown.2 with⟨he,_⟩|⟨g,cap',cur,he,hbg,hg,hnc,hcm,hcs,htake⟩
  .simp at he
  .simp only[Value.slice.injEq,aQ,Addr.mk.injEq]at he;obtain⟨⟨rfl,rfl,_⟩,rfl,rfl⟩:=he;refine⟨rfl,hs,λi j d c h1 h2=>?_⟩;obtain⟨_,hcell,hat⟩:=hc i j d c h1 h2;refine⟨hat,f i j,?_,hr i j d c h1 h2⟩;rw[X9,kU w b _ cur el (0,0) hg]at hcell;rw[<-htake,kN,I9 ?_]
   .grind
   .have hi:i<es.length:=(P7.1 h1).1;have hj:j<sz:=by grind
    have h5:(i+1)*sz<=es.length*sz:=iJ _ (by omega)
    grind
def PE{el:TypeId}{sz m0:Nat}{xs:H6}{x:Value}{es:dS}(hown:w.ownsRow 0 el sz x m0 xs)(hm:m0=es.length)
    (hs:∀(i:Nat)(d:G9),es[i]?=some d->d.length=sz) (hc:∀(i j:Nat)(d:G9)(c:CV),es[i]?=some d->d[j]?=some c->c.atom=true/\∃u,xs[i*sz+j]?=some u/\Rep Z w c u)
    (hz:∀b o,x.ownBlock=some b->o<m0*sz->Z b o):Rep Z w (.sl sz es) x:=by
 subst hm;rcases hown.2 with⟨rfl,h0⟩|⟨g,cap,cur,rfl,hbg,hg,hnc,hcm,hcs,htake⟩
 .have:es=[]:=mD h0;subst this;exact .nil _ _ _
 .refine .sl sz es g 0 cap (λi j=>xs.getD (i*sz+j) undef) hnc hs (λi j d c h1 h2=>?_) (λi j d c h1 h2=>?_)
  .obtain⟨hat,u,hu,_⟩:=hc i j d c h1 h2;have hlt:i*sz+j<es.length*sz:=by grind
   rw[X9];refine⟨hz g _ rfl hlt,?_,hat⟩;rw[hown.cellAt _ hlt,RG,hu];rfl
  .grind
end
end Go.F7
namespace Go.F7
open Go Go.RowKit
section
variable{P:Program}{G:aB}{T:Tab}{Z0:Base}{w0:World}{S:U2}{n:Nat}{Z Z':Zone}{E:Q8}{st:St}{a:Act}{w w':World}
theorem BJ(dst:E8)(b:Builtin)(args:yD)(argTypes:Array TypeId)(type:TypeId)(pos:String)(after:dO)(guard:dH):
 (execOp a.eval ⟨dst,.call ⟨.builtin b,args,argTypes⟩,type,pos,after,guard⟩).run P w=(builtin b argTypes type (args.map λ|.const _=>true|_=>false) (args.map a.eval)).run P w:=by
 simp only[execOp,resolve,invoke,J6,U5,O8];rfl
def aH5(k sz:Nat):k/sz*sz+k % sz=k:=by rw[Nat.mul_comm];exact Nat.div_add_mod k sz
def VT{base el sz m b:Nat}{x:Value}{xs:H6}(h:w.ownsRow base el sz x m xs)(hb:x.ownBlock=some b):∃cur,w.heap[b]?=some (.cells cur el (0,0)):=by
 rcases h.2 with⟨he,_⟩|⟨g,cap,cur,he,_,hg,_⟩
 .rw[he]at hb;simp[Value.ownBlock]at hb
 .rw[he]at hb;simp[Value.ownBlock]at hb;subst hb;exact⟨cur,hg⟩
def bN1{base el sz m b:Nat}{x:Value}{xs:H6}(h:w.ownsRow base el sz x m xs)(hb:x.ownBlock=some b){p:Prop}:∀es c,w.heap[b]?=some (.map es c)->p:=λes c he=>by
 obtain⟨cur,hc⟩:=VT h hb
 grind
def bl6(hI:Inv G Z0 w0 S n Z E st a w){t g e sz:Nat}(ho:st.obj t=(g,.tok e sz)){s b:Nat}(hs:s≠t)(hb:(st.obj s).2.blk (E s) b):(E t).ownBlock≠some b/\b<w.heap.size:=by
 refine⟨λhx=>hI.apart s t b hs hb (by rw[ho,DT];exact hx),(hI.obj s).lt hb⟩
def dq4(hT:aA P T)(dst:E8)(args:yD)(argTypes:Array TypeId)(type:TypeId)(pos:String)(after:dO)(guard:dH):
    jI P G T ⟨dst,.call ⟨.builtin .append,args,argTypes⟩,type,pos,after,guard⟩:=by
 intro Z0 w0 S n Z E st a w K next Q F hI hd h hX hn
 obtain⟨args⟩:=args;obtain⟨argTypes⟩:=argTypes;rcases args with _|⟨x,_|⟨y,_|⟨z,r⟩⟩⟩
 .simp only[wpOp,iV]at h;exact hX h
 .simp only[wpOp,iV]at h;exact hX h
 rotate_left
 .simp only[wpOp,iV]at h;exact hX h
 .simp only[wpOp,iV]at h;split at h
  .rename_i t g sz es s2 ns d t1 t2 hlx hly;have hx:=aG hI x;have hy:=aG hI y;rw[hlx]at hx;have hyr:=RU hy hly;split at h
   .rename_i e _ _ _ _ _ ht1;split at h
    .rename_i i hte;replace h:=U8 h;obtain⟨Y7,h⟩:=h;simp only[Z4]at Y7;obtain⟨⟨⟨⟨⟨aO5,hisz⟩,bw3⟩,hby⟩,hzl⟩,htok⟩:=Y7;have:=G5 aO5;subst this;have hisz:=G5 hisz;have bw3:=I8 bw3;have hby:=I8 hby;have ho:st.obj t=(g,.tok e sz):=by
      split at htok
      .rename_i g' el s ho;simp only[Z4]at htok;rw[ho,G5 htok.1.1,G5 htok.1.2,G5 htok.2]
      .cases htok
     clear htok;rcases h with h|h
     rotate_left
     .exact hX h
     obtain⟨hns,hlen,es',rfl,h⟩:=h;have hu1:=(hT _ _ ht1).u;simp only at hu1;have hie:=hT _ _ hte;obtain⟨j,hj,hjs,hjb,hjz⟩:=hie.gX;have hzc:(Q9 i).cells.size=sz:=by rw[lX hie];simp[hie.len,hisz]
     have jL:E t=a.eval x:=by
      generalize a.eval x=v at hx;cases hx with|ap _ _ _ _ _ _ _ hE=>exact hE _ _ ho
     have hxr:Rep Z w (.sl sz es) (a.eval x):=by
      generalize a.eval x=v at hx;cases hx with|ap _ _ _ _ _ hr _ _=>exact hr
     have hot:=hI.obj t;rw[ho,jL]at hot;obtain⟨m0,xs,mW,hown,hz⟩:=hot;obtain⟨hm0,hes,hec⟩:=bN2 hown hxr;have fin:∀(v':Value)(w':World)(Z':Zone),(Builtin.append_ #[t1,t1] type #[a.eval x,a.eval y]).run P w=.ok v' w'->Kept S w w'->Keeps Z w Z' w'->
      (∀b o,Z' b o->b<w'.heap.size)->(∀b o,Z' b o->Z b o\/¬S b)->X7 Z' w' st.obj E v' (.tok e sz)->Rep Z' w' (.sl sz (es++ns)) v'->(∀b,v'.ownBlock=some b->¬S b)->
      (∀s,s≠t->∀b,(st.obj s).2.blk (E s) b->w'.heap[b]?=w.heap[b]?/\(∀k,Z' b k->Z b k)/\v'.ownBlock≠some b)->
      Oper.dV P ⟨some d,.call ⟨.builtin .append,⟨[x,y]⟩,⟨[t1,t1]⟩⟩,type,pos,after,guard⟩ a w next Q:=by
      intro v' w' Z' hrun hb hk hlt hnew hok hrep hnS hoth;have hrun':(execOp a.eval ⟨some d,.call ⟨.builtin .append,⟨[x,y]⟩,⟨[t1,t1]⟩⟩,type,pos,after,guard⟩).run P w=.ok (.value v') w':=by
       rw[BJ];simp only[builtin,J6,List.map_toArray,kP,List.map_nil,hrun];rfl
      cases htd:Nat.beq t d with
      |true=>
       rw[htd]at h;simp only[H9]at h;have:=G5 htd;subst this;have hg:(st.obj t).1=g:=by rw[ho]
       refine bP hrun' (hn _ _ _ Z' (jV E t v') v' w' h ?_);have:=hI.tok (x:=v') (sz:=sz) (es:=es++ns) (D8:=upd st.obj [(t,(g+1,.tok e sz))]) hd (by rw[wC,hg]) (λs hs=>.inl (wB _ _ hs)) hb hk hlt hnew hok hrep (λb hb=>hnS b (by rw[<-DT];exact hb))
        (λs hs _ b hb'=>by rw[DT];exact hoth s hs b hb')
       grind
      |false=>
       rw[htd]at h;simp only[G6]at h;have aa6:t≠d:=λe=>by subst e;simp at htd
       refine bP hrun' (hn _ _ _ Z' (jV E d v') v' w' h ?_);refine hI.tok hd (aC1 _ _ _ aa6) (λs hs=>?_) hb hk hlt hnew hok hrep (λb hb=>hnS b (by rw[<-DT];exact hb)) (λs hs hos b hb'=>?_)
       .by_cases hst:s=t
        .subst hst;right;rw[JY,ho]
        .left;exact aC0 _ _ _ hst hs
       .rw[DT];have hst:s≠t:=λe=>by subst e;rw[JY,ho]at hos;simp at hos
        grind
     have empty:ns=[]->∀(ya:qP)(yc:Nat),a.eval y=.slice ya 0 yc->Oper.dV P ⟨some d,.call ⟨.builtin .append,⟨[x,y]⟩,⟨[t1,t1]⟩⟩,type,pos,after,guard⟩ a w next Q:=by
      intro hnil ya yc hye;subst hnil;refine fin (a.eval x) w Z (by rw[hye];exact bl5 hu1 hj hown ya yc) (Kept.refl _ _) (Keeps.refl _ _) hI.X5 (λ_ _ h=>.inl h) ⟨m0,xs,mW,hown,hz⟩ (by simpa using hxr) (λb hb=>hI.own t b (by rw[ho,jL,DT];exact hb)) ?_;intro s hs b hb;have:=bl6 hI ho hs hb
      grind
     generalize hye:a.eval y=yv at hyr;cases hyr with
     |nil _ ya yc=>grind
     |sl _ _ b o cap f hcap hs2 hc hr=>
      by_cases hnil:ns=[]
      .grind
      .have hpos:0<ns.length:=List.length_pos_iff.2 hnil;have aO4:s2=sz:=by
        have hfirst:ns[0]?=some (ns[0]'hpos):=J9 hpos
        grind
       subst aO4
       let news:=(List.range (ns.length*s2)).map λk=>f (k/s2) (k % s2)
       have hnl:news.length=ns.length*s2:=by simp[news]
       have TQ:∀k,k<ns.length*s2->news[k]?=some (f (k/s2) (k % s2)):=λk hk=>by grind
       have hnews:∀j u,news[j]?=some u->w.cell? ((⟨b,o,none⟩:Addr).add j)=some u:=λk u hk=>by
        have hlt:k<ns.length*s2:=by grind
        obtain⟨dd,c,h1,h2⟩:=flat_get hs2 mW hlt;obtain⟨_,hcell,_⟩:=hc _ _ dd c h1 h2;rw[TQ k hlt]at hk;injection hk with hk
        rw[iI,<-hk];rw[Nat.add_assoc,aH5]at hcell;exact hcell
       have hone:∀u∈news,u.oneCell'=true:=λu hu=>by
        obtain⟨k,hk,hku⟩:=eX hu;have hlt:k<ns.length*s2:=by grind
        obtain⟨dd,c,h1,h2⟩:=flat_get hs2 mW hlt;have hu':u=f (k/s2) (k % s2):=by grind
        rw[hu'];exact(hr _ _ dd c h1 h2).atom (hc _ _ dd c h1 h2).2.2
       have hbytes:(m0+ns.length)*j.bytes<=140737488355328:=by
        rw[hm0,hjb];rcases hlen with hlen|hlen
        .calc (es.length+ns.length)*i.bytes<=4294967296*4096:=Nat.mul_le_mul hlen hby
          _<=140737488355328:=by decide
        .exact hlen.2
       have hlen:es.length+ns.length<=140737488355328:=by
        rcases hlen with hlen|hlen
        .omega
        .exact hlen.1
       obtain⟨v',w',hrun,hown',hgr,hold,hblk⟩:=bl7 (P:=P) (ty:=type) (c:=cap) hu1 hj hjz (hjs.trans hisz) hzc mW hown hpos hnl hnews hone (by omega) hbytes (aF _);have hxS:∀k,(a.eval x).ownBlock=some k->¬S k:=λk hk=>hI.own t k (by rw[ho,jL,DT];exact hk)
       have hvb:∀k,v'.ownBlock=some k->¬S k/\k<w'.heap.size:=λk hk=>⟨by
        rcases hblk with hb1|hb1
        .grind
        .rw[hb1]at hk;injection hk with hk;exact hI.fresh (by omega),(hown'.lt k hk).2⟩
       refine fin v' w' (λb o=>Z b o\/(v'.ownBlock=some b/\o<(m0+ns.length)*s2)) (by rw[hye];exact hrun) ?_ ?_ ?_ ?_ ?_ ?_ (λb hb=>(hvb b hb).1) ?_
       .exact(Kept.refl _ _).grown hgr hI.xK hxS (λk hk=>by obtain⟨cur,hc⟩:=VT hown hk;rw[hc];exact λh=>nomatch h)
       .intro b o hzb;refine⟨.inl hzb,?_⟩;by_cases U3:(a.eval x).ownBlock=some b
        .refine⟨hold b o U3 ?_,λes' c' he'=>(bN1 hown U3 es' c' he':_)⟩;rcases fJ o (m0*s2)with hlt|hge
         .exact hlt
         .exfalso;rcases hown.2 with⟨he,_⟩|⟨g',cap',cur,he,_⟩
          .rw[he]at U3;simp[Value.ownBlock]at U3
          .rw[he]at U3;simp[Value.ownBlock]at U3
           grind
        .exact jM (hgr.block b (hI.X5 b o hzb) (λe=>U3 e.symm))
       .intro b o hzb;rcases hzb with hzb|⟨hzb,_⟩
        .exact aH (hI.X5 b o hzb) hgr.size
        .grind
       .grind
       .refine⟨m0+ns.length,xs++news,mW,hown',λg' cap' he o ho' hzz=>?_⟩;rcases hzz with hzz|⟨_,hlt⟩
        .rcases hblk with hb1|hb1
         .have hgx:(a.eval x).ownBlock=some g':=by rw[<-hb1,he];rfl
          rcases hown.2 with⟨hee,_⟩|⟨g2,cap2,cur,hee,_⟩
          .rw[hee]at hgx;simp[Value.ownBlock]at hgx
          .rw[hee]at hgx;simp[Value.ownBlock]at hgx
           grind
         .have hgx:v'.ownBlock=some g':=by rw[he];rfl
          rw[hb1]at hgx;injection hgx with hgx
          have:=hI.X5 _ _ hzz;omega
        .omega
       .have hkeep:Keeps Z w (λb o=>Z b o\/(v'.ownBlock=some b/\o<(m0+ns.length)*s2)) w':=by
         intro b o hzb;refine⟨.inl hzb,?_⟩;by_cases U3:(a.eval x).ownBlock=some b
         .refine⟨hold b o U3 ?_,λes' c' he'=>(bN1 hown U3 es' c' he':_)⟩;rcases fJ o (m0*s2)with hlt|hge
          .exact hlt
          .exfalso;rcases hown.2 with⟨he,_⟩|⟨g',cap',cur,he,_⟩
           .rw[he]at U3;simp[Value.ownBlock]at U3
           .rw[he]at U3;simp[Value.ownBlock]at U3
            grind
         .exact jM (hgr.block b (hI.X5 b o hzb) (λe=>U3 e.symm))
        refine PE hown' (by rw[cO,hm0]) (λi d hid=>?_) (λi j d c hid hjc=>?_) (λb o hb ho'=>.inr ⟨hb,ho'⟩)
        .grind
        .have hxl:=hown.1;rcases fJ i es.length with hlt|hge
         .rw[dX hlt]at hid;obtain⟨hat,u,hu,hru⟩:=hec i j d c hid hjc;refine⟨hat,u,?_,hru.keep hkeep⟩
          grind
         .rw[dN hge]at hid;obtain⟨_,_,hat⟩:=hc _ j d c hid hjc;have hjl:j<s2:=by grind
          have hil:i-es.length<ns.length:=(P7.1 hid).1;refine⟨hat,f (i-es.length) j,?_,(hr _ j d c hid hjc).keep hkeep⟩;have hidx:i*s2+j=xs.length+((i-es.length)*s2+j):=by
           rw[hxl,hm0,<-Nat.add_assoc,<-mF]
           grind
          rw[hidx,dN (by omega),Nat.add_sub_cancel_left];have hkl:(i-es.length)*s2+j<ns.length*s2:=by
           have h5:(i-es.length+1)*s2<=ns.length*s2:=iJ _ (by omega)
           grind
          rw[TQ _ hkl];congr 2
          .rw[Nat.mul_comm,Nat.mul_add_div mW,Nat.div_eq_of_lt hjl,pG]
          .rw[Nat.mul_comm,Nat.mul_add_mod,Nat.mod_eq_of_lt hjl]
       .intro s hs b hb;have hoth:=bl6 hI ho hs hb;rw[jL]at hoth;have hv':v'.ownBlock≠some b:=by grind
        exact⟨hgr.block b hoth.2 (λe=>hoth.1 e.symm),λk hk=>hk.elim id (λh=>absurd h.1 hv'),hv'⟩
    .grind
   .grind
  .grind
def dr4(hT:aA P T)(dst:E8)(b:Builtin)(args:yD)(argTypes:Array TypeId)(type:TypeId)(pos:String)(after:dO)(guard:dH):
    jI P G T ⟨dst,.call ⟨.builtin b,args,argTypes⟩,type,pos,after,guard⟩:=by
 by_cases hap:b=.append
 .subst hap;exact dq4 hT _ _ _ _ _ _ _
 intro Z0 w0 S n Z E st a w K next Q F hI hd h hX hn
 obtain⟨args⟩:=args;simp only[wpOp,iV]at h;split at h
 .rename_i x;have hx:=aG hI x;have hrun:∀v,(Builtin.len_ argTypes type #[a.eval x]).run P w=.ok v w->(execOp a.eval ⟨dst,.call ⟨.builtin .len,⟨[x]⟩,argTypes⟩,type,pos,after,guard⟩).run P w=.ok (.value v) w:=by
   intro v hv;rw[BJ];simp only[builtin,J6,List.map_toArray,kP,List.map_nil,hv];rfl
  split at h
  .rename_i s he;rw[he]at hx;have hxe:a.eval x=.string s:=mZ hx;split at h
   .rename_i _ _ _ _ _ hbt;cases hat:argTypes[0]? with
    |none=>grind
    |some t0=>
     rw[hat]at hbt;have hu:=(hT _ _ hbt).u;simp only at hu;refine bT hI hd hn h (hrun _ ?_) (.c _ _ (.v _));simp[Builtin.len_,hat,O4 hu,hxe,goInt]
   .grind
  .split at h
   .rename_i sz ds e _ _ _ _ _ hsl hbt;cases hat:argTypes[0]? with
    |none=>grind
    |some t0=>
     rw[hat]at hbt;have hu:=(hT _ _ hbt).u;simp only at hu;have hr:=RU hx hsl;have hxe:∃aa cap,a.eval x=.slice aa ds.length cap:=by
      generalize a.eval x=y at hr;cases hr with
      |nil _ aa cap=>exact⟨aa,cap,rfl⟩
      |sl _ _ b o cap=>grind
     obtain⟨aa,cap,hxe⟩:=hxe;refine bT hI hd hn h (hrun _ ?_) (.c _ _ (.v _));simp[Builtin.len_,hat,O4 hu,hxe,goInt]
   .grind
 .rename_i x y;have hx:=aG hI x;have hy:=aG hI y;split at h
  .rename_i k i1 k2 i2 h1 h2;have e1:=nC (oD hx h1);have e2:=nC (oD hy h2);refine bT hI hd hn h (x:=.int k (if i2<i1 then i2 else i1)) ?_ (.c _ _ (.v _));rw[BJ];simp[builtin,Builtin.min_,Builtin.min2,e1,e2]
  .grind
 .rename_i x y;have hx:=aG hI x;have hy:=aG hI y;split at h
  .rename_i k i1 k2 i2 h1 h2;have e1:=nC (oD hx h1);have e2:=nC (oD hy h2);refine bT hI hd hn h (x:=.int k (if i1<i2 then i2 else i1)) ?_ (.c _ _ (.v _));rw[BJ];simp[builtin,Builtin.max_,Builtin.max2,e1,e2]
  .grind
 .grind
 .grind
end
end Go.F7
namespace Go.F7
open Go Go.RowKit
def foldl_set(off:Nat):∀(vs:H6)(k:Nat)(cells:S9),off+k+vs.length<=cells.size->
    ((vs.zipIdx k).foldl (λcs (p:Value×Nat)=>cs.setIfInBounds (off+p.2) p.1) cells).size=cells.size/\
    ∀m,((vs.zipIdx k).foldl (λcs (p:Value×Nat)=>cs.setIfInBounds (off+p.2) p.1) cells)[m]?=if off+k<=m/\m<off+k+vs.length then vs[m-(off+k)]? else cells[m]?
 |[],k,cells,_=>⟨by simp,λm=>by rw[H7 (by simp)];simp⟩
 |v::vs,k,cells,h=>by
  simp only[sD]at h;obtain⟨h1,h2⟩:=foldl_set off vs (k+1) (cells.setIfInBounds (off+k) v) (by simp;omega);simp only[List.zipIdx_cons,List.foldl_cons];refine⟨by rw[h1];simp,λm=>?_⟩;rw[h2 m];by_cases hm:m=off+k
  .grind
  .by_cases hin:off+(k+1)<=m/\m<off+(k+1)+vs.length
   .grind
   .grind
section
variable{P:Program}{G:aB}{T:Tab}{Z0:Base}{w0:World}{S:U2}{n:Nat}{Z Z':Zone}{E:Q8}{st:St}{a:Act}{w w':World}
def RJ(Z:Zone)(w:World)(zs:G9)(cells:S9):Prop:=cells.size=zs.length/\∀(j:Nat)(c:CV),zs[j]?=some c->c.atom=true/\∃x,cells[j]?=some x/\Rep Z w c x
def RJ.set{zs ys:G9}{cells:S9}(h:RJ Z w zs cells){off:Nat}{c:CV}{x:Value}(hx:Rep Z w c x)(hst:c.storable=true)(hpos:0<c.cells.length)(hs:setAt zs off c.cells=some ys):
    off+x.cells.size<=cells.size/\RJ Z w ys (x.cells.zipIdx.foldl (λcs (p:Value×Nat)=>cs.setIfInBounds (off+p.2) p.1) cells):=by
 obtain⟨h1,h2⟩:=SK hx hst;obtain⟨g1,g2,g3⟩:=WH _ _ _ _ hs;have hfit:off+x.cells.size<=cells.size:=by
  rcases g2 with g2|g2
  .grind
  .rw[h1,h.1];exact g2
 refine⟨hfit,?_⟩;have hfold:=foldl_set off x.cells.toList 0 cells (by simpa using hfit);have heq:x.cells.zipIdx.foldl (λcs (p:Value×Nat)=>cs.setIfInBounds (off+p.2) p.1) cells=(x.cells.toList.zipIdx 0).foldl (λcs (p:Value×Nat)=>cs.setIfInBounds (off+p.2) p.1) cells:=by
  rw[<-zL,Array.toList_zipIdx]
 rw[heq];refine⟨by rw[hfold.1,h.1,g1],λj d hj=>?_⟩;rw[hfold.2 j];rw[g3 j]at hj;simp only[pG,iW,h1];by_cases hin:off<=j/\j<off+c.cells.length
 .grind
 .rw[H7 hin]at hj⊢;exact h.2 j d hj
def bt8(hT:aA P T)(hI:Inv G Z0 w0 S n Z E st a w)(fs:Array Field)(places:dU)(hpl:∀(i:Nat)(f:Field),fs[i]?=some f->∀ti,T.get f.type=some ti->places[i]?=some (f.offset,ti.size)):
    ∀(parts:KU)(zs ys:G9)(cells:S9),RJ Z w zs cells->yJ T (look st) fs zs parts=some ys->
     ∃cells',Instr.fill (λi=>places[i]?) cells (parts.map λp=>(p.1,a.eval p.2))=some cells'/\RJ Z w ys cells'
 |[],zs,ys,cells,h,hb=>by simp[yJ]at hb;subst hb;exact⟨cells,rfl,h⟩
 |(i,x)::r,zs,ys,cells,h,hb=>by
  simp only[yJ]at hb;split at hb
  .rename_i f c hf hc;split at hb
   .rename_i ti hti;cases Y7:(Nat.beq c.cells.length ti.size&&c.storable&&Nat.ble 1 ti.size)with
    |false=>grind
    |true=>
     rw[Y7]at hb;simp only[Z4]at Y7;simp only[H9]at hb;have hcl:=G5 Y7.1.1;split at hb
     .rename_i zs' hset;have hx:=oD (aG hI x) hc;obtain⟨hfit,hrc⟩:=h.set hx Y7.1.2 (by rw[hcl];exact I8 Y7.2) hset;obtain⟨cells',yR,hr'⟩:=bt8 hT hI fs places hpl r zs' ys _ hrc hb;refine⟨cells',?_,hr'⟩;have hp:=hpl i f hf ti hti;have hsz:(a.eval x).cells.size=ti.size:=by rw[(SK hx Y7.1.2).1,hcl]
      simp only[kP,Instr.fill,hp,hsz]
      grind
     .simp at hb
   .simp at hb
  .simp at hb
def dq8(hT:aA P T)(dst:E8)(t:TypeId)(parts:zY)(type:TypeId)(pos:String)(after:dO)(guard:dH):jI P G T ⟨dst,.build t parts,type,pos,after,guard⟩:=by
 intro Z0 w0 S n Z E st a w K next Q F hI hd h hX hn
 simp only[wpOp]at h;split at h
 .rename_i fs size bytes z isAgg ks hti;replace h:=U8 h;obtain⟨hall,h⟩:=h;rw[oW]at hall;split at h
  .rename_i cs hb;have hi:=hT _ _ hti;obtain⟨j,hj,hjs,hjb,hjz⟩:=hi.gX;have hu:=hi.u;simp only at hu
   let places:=fs.toList.map λf=>(f.offset,match T.get f.type with|some ti=>ti.size|.none=>0)
   have hmap:fs.toList.mapM (λf=>(P.info? f.type).map λi=>(f.offset,i.size))=some places:=by
    have:∀l:List Field,(∀f∈l,(T.get f.type).isSome=true)->l.mapM (λf=>(P.info? f.type).map λi=>(f.offset,i.size))=some (l.map λf=>(f.offset,match T.get f.type with|some ti=>ti.size|.none=>0)):=by
     intro l;induction l with
     |nil=>grind
     |cons f l ih=>
      intro hl;have hf:=hl f (by simp);cases htf:T.get f.type with
      |none=>grind
      |some ti=>
       obtain⟨jf,hjf,cM3,_,_⟩:=(hT _ _ htf).gX
       grind
    grind
   have hz0:RJ Z w (qK z ks) (Q9 ⟨.struct fs,size,bytes,z,isAgg,ks⟩).cells:=by
    rw[lX hi];exact⟨by simp[aD2],λj c hj=>ak2 hi j c hj⟩
   obtain⟨cells,yR,hrc⟩:=bt8 hT hI fs places (λi f hf ti hti=>by
    have:fs.toList[i]?=some f:=by grind
    simp[places,P9,this,hti]) parts.toList _ _ _ hz0 hb
   have aM6:P.built t (parts.map λ(i,x)=>(i,a.eval x)).toList=some cells:=by
    unfold Program.built;simp only[hj,hu,hjz,hmap];rw[Array.toList_map]
    grind
   refine bT hI hd hn h (x:=.agg cells) ?_ (.c _ _ ?_)
   .simp only[execOp,J6,run_build w t _ cells aM6];rfl
   .have:=Rep.agg (Z:=Z) (w:=w) cs cells.toList (by simpa using hrc.1.symm) (λi c x h1 h2=>by
     obtain⟨_,y,hy,hr⟩:=hrc.2 i c h1;have:x=y:=by grind
     rw[this];exact hr) (λi c h1=>(hrc.2 i c h1).1)
    simpa using this
  .grind
 .grind
end
end Go.F7
namespace Go.F7
open Go Go.RowKit
section
variable{P:Program}{G:aB}{T:Tab}{Z0:Base}{w0:World}{S:U2}{n:Nat}{Z Z':Zone}{E:Q8}{st:St}{a:Act}{w w':World}
def bt7(hI:Inv G Z0 w0 S n Z E st a w)(sz:Nat)(hsz:0<sz):
    ∀(parts:KU)(k:Nat)(es:dS)(cells:S9),wL (look st) sz k parts=some es->cells.size=(k+es.length)*sz->
     ∃cells',Instr.fill (λi=>some (i*sz,sz)) cells (parts.map λp=>(p.1,a.eval p.2))=some cells'/\cells'.size=cells.size/\(∀m,m<k*sz->cells'[m]?=cells[m]?)/\
      (∀(i:Nat)(d:G9),es[i]?=some d->d.length=sz)/\
      ∀(i j:Nat)(d:G9)(c:CV),es[i]?=some d->d[j]?=some c->c.atom=true/\∃u,cells'[(k+i)*sz+j]?=some u/\Rep Z w c u
 |[],k,es,cells,h,hs=>by
  simp[wL]at h;subst h;exact⟨cells,rfl,rfl,λ_ _=>rfl,λi d h=>by simp at h,λi j d c h=>by simp at h⟩
 |(i0,x)::r,k,es,cells,h,hs=>by
  simp only[wL]at h;split at h
  .rename_i c es' hc hes;cases Y7:(Nat.beq i0 k&&Nat.beq c.cells.length sz&&c.storable)with
   |false=>grind
   |true=>
    rw[Y7]at h;simp only[Z4]at Y7;simp only[H9,aQ]at h;subst h;have hi0:=G5 Y7.1.1;subst hi0;have hcl:=G5 Y7.1.2;have hx:=oD (aG hI x) hc;obtain⟨h1,h2⟩:=SK hx Y7.2;have hss:cells.size=(i0+1+es'.length)*sz:=by grind
    have hfit:i0*sz+(a.eval x).cells.size<=cells.size:=by grind
    have hfold:=foldl_set (i0*sz) (a.eval x).cells.toList 0 cells (by simpa using hfit);have heq:(a.eval x).cells.zipIdx.foldl (λcs (p:Value×Nat)=>cs.setIfInBounds (i0*sz+p.2) p.1) cells=((a.eval x).cells.toList.zipIdx 0).foldl (λcs (p:Value×Nat)=>cs.setIfInBounds (i0*sz+p.2) p.1) cells:=by
     rw[<-zL,Array.toList_zipIdx]
    obtain⟨cells',yR,hsz',hlow,hlen',hrep⟩:=bt7 hI sz hsz r (i0+1) es' ((a.eval x).cells.zipIdx.foldl (λcs (p:Value×Nat)=>cs.setIfInBounds (i0*sz+p.2) p.1) cells) hes (by rw[heq,hfold.1];exact hss);rw[heq]at hsz' hlow;refine⟨cells',?_,by rw[hsz',hfold.1],λm hm=>?_,λi d hid=>?_,λi j d cc hid hjc=>?_⟩
    .simp only[kP,Instr.fill,h1,hcl]
     grind
    .grind
    .grind
    .cases i with
     |zero=>
      simp at hid;subst hid;obtain⟨hat,u,hu,hr⟩:=h2 j cc hjc;refine⟨hat,u,?_,hr⟩
      grind
     |succ i=>grind
  .simp at h
def dq9(hT:aA P T)(dst:E8)(t:TypeId)(len:Nat)(parts:zY)(type:TypeId)(pos:String)(after:dO)(guard:dH):jI P G T ⟨dst,.buildSlice t len parts,type,pos,after,guard⟩:=by
 intro Z0 w0 S n Z E st a w K next Q F hI hd h hX hn
 simp only[wpOp]at h;split at h
 .rename_i e _ _ _ _ _ hti;split at h
  .rename_i i d hte;split at h
   .rename_i es hes;replace h:=U8 h;obtain⟨Y7,h⟩:=h;simp only[Z4]at Y7;obtain⟨⟨⟨⟨hlen,hl1⟩,h1⟩,h2⟩,hzl⟩:=Y7;have hlen:=G5 hlen;subst hlen;have hl1:=I8 hl1;have h1:=I8 h1;have h2:=I8 h2;have hi:=hT _ _ hte;obtain⟨j,hj,hjs,hjb,hjz⟩:=hi.gX;have hu:=(hT _ _ hti).u;simp only at hu
    let zero:S9:=if es.length*i.size=0 then #[]else(Q9 i).cells
    obtain⟨cells,yR,hcs,_,hdl,hrep⟩:=bt7 hI i.size h1 parts.toList 0 es ((Array.range (es.length*i.size)).map (zero[· % zero.size]!)) hes (by simp);have hcs:cells.size=es.length*i.size:=by grind
    have hlim:¬(es.length*i.size>2^24):=by
     have:es.length*i.size<=4096*256:=Nat.mul_le_mul hl1 h2;omega
    have hrun:(execOp a.eval ⟨some d,.buildSlice t es.length parts,type,pos,after,guard⟩).run P w=.ok (.value (.slice (some ⟨w.heap.size,0,none⟩) es.length es.length)) (w.alloc (.cells cells e)):=by
     have tJ:Instr.fill (λi'=>some (i'*i.size,i.size)) ((Array.range (es.length*i.size)).map (zero[· % zero.size]!)) (parts.map λ(i,x)=>(i,a.eval x)).toList=some cells:=by
      rw[Array.toList_map];exact yR
     simp only[execOp,Instr.buildSlice,J6,O4 hu,O8,hi.sizeOf w,H7 hlim,U5];by_cases h0:es.length*i.size=0
     .have hze:zero=#[]:=by simp[zero,h0]
      rw[hze]at tJ;rw[I9 h0];simp only[J6,U5,O8,tJ];rfl
     .have hze:zero=(Q9 i).cells:=by simp[zero,h0]
      rw[hze]at tJ;have hzv:(zeroValue e).run P w=.ok (Q9 i) w:=by simp[zeroValue,typeInfo,hj,hjz]
      simp only[H7 h0,J6,hzv,O8,U5,tJ];rfl
    have hown:=World.ownsRow_lit (base:=0) (e:=e) (size:=i.size) w cells es.length (aF _) (by simp only[maxLen];omega) hcs;have hkeep:Keeps Z w (λb o=>Z b o\/(b=w.heap.size/\o<es.length*i.size)) (w.alloc (.cells cells e)):=λb o hz=>⟨.inl hz,(Keeps.alloc hI.X5 _ b o hz).2⟩;refine bP hrun (hn _ _ _ (λb o=>Z b o\/(b=w.heap.size/\o<es.length*i.size)) (jV E d (.slice (some ⟨w.heap.size,0,none⟩) es.length es.length)) _ _ h ?_);refine hI.tok hd (wC _ _ _) (λt ht=>.inl (wB _ _ ht)) (aF2 hI _) hkeep ?_ ?_ ?_ ?_ (λb hb=>by simp[G8.blk]at hb;exact hI.fresh (by omega)) ?_
    .intro b o hz;rcases hz with hz|⟨rfl,_⟩
     .have:=hI.X5 b o hz;simp;omega
     .simp
    .intro b o hz;rcases hz with hz|⟨rfl,_⟩
     .grind
     .exact .inr (hI.fresh (N8 _))
    .refine⟨es.length,cells.toList,h1,hown,λg cap he o ho hz=>?_⟩;simp only[Value.slice.injEq,aQ,Addr.mk.injEq]at he;rcases hz with hz|⟨_,hz⟩
     .have:=hI.X5 g o hz;omega
     .omega
    .refine PE hown rfl hdl (λi' j' d' c' h3 h4=>?_) (λb o hb ho=>.inr ?_)
     .obtain⟨hat,u,hu,hr⟩:=hrep i' j' d' c' h3 h4;exact⟨hat,u,by simpa using hu,hr.keep hkeep⟩
     .simp[Value.ownBlock]at hb
      grind
    .intro t ht _ b hb;have hlt:=(hI.obj t).lt hb;refine⟨vJ w _ hlt,λk hk=>hk.elim id (λh=>by omega),?_⟩
     grind
   .grind
  .grind
 .grind
def Zf(Z:Zone)(obj:J8)(E:Q8)(ts:O1):Zone:=λb o=>Z b o\/∃s∈ts,(obj s).2.blk (E s) b
def ak8(obj:J8)(E:Q8){ts us:O1}(h:∀s∈ts,s∈us):Keeps (Zf Z obj E ts) w (Zf Z obj E us) w:=
 λ_ _ hz=>⟨hz.imp id λ⟨s,hs,hb⟩=>⟨s,h s hs,hb⟩,rfl,λ_ _ h=>h⟩
def AA(obj:J8)(E:Q8)(ts:O1):Keeps Z w (Zf Z obj E ts) w:=λ_ _ hz=>⟨.inl hz,rfl,λ_ _ h=>h⟩
def aE7(hI:Inv G Z0 w0 S n Z E st a w){t g el sz:Nat}{ds:dS}{ts:O1}(ho:st.obj t=(g,.arr el sz ds none))(ht:t∈ts){x:Value}(hE:E t=x):Rep (Zf Z st.obj E ts) w (.sl sz ds) x:=by
 have hk:Keeps Z w (Zf Z st.obj E ts) w:=AA _ _ _;have hot:=hI.obj t;rw[ho]at hot;obtain⟨xs,hsz,hown,hfoc,hdl,hcl,hz⟩:=hot;rw[hE]at hown;refine PE hown rfl (λi d hd=>hdl i d (P7.1 hd).1 hd) (λi j d c h1 h2=>?_) (λb o hb _=>.inr ⟨t,ht,by rw[ho,hE,jK];exact hb⟩);obtain⟨hat,u,hu,hr⟩:=hcl i d (P7.1 h1).1 h1 j c h2;exact⟨hat,u,hu,(hr.closed (mY (hfoc.2 i d h1 (λm d' he=>by cases he)) h2)).keep hk⟩
def bG2(hI:Inv G Z0 w0 S n Z E st a w){t g:Nat}{es:uV}{ts:O1}(ho:st.obj t=(g,.map es))(ht:t∈ts){x:Value}(hE:E t=x):Rep (Zf Z st.obj E ts) w (.mp es) x:=by
 have hk:Keeps Z w (Zf Z st.obj E ts) w:=AA _ _ _;have hot:=hI.obj t;rw[ho,hE]at hot;obtain⟨b,arr,clock,he,hh,hl,hc,hz⟩:=hot;rw[he];exact .mp es b arr clock (.inr ⟨t,ht,by rw[ho,hE,he]<;>rfl⟩) hh hl.1 (λi k v m h1 h2=>(hc i k v m h1 h2).1.keep hk) (λi k v m h1 h2=>(hc i k v m h1 h2).2.keep hk)
def cH0(hI:Inv G Z0 w0 S n Z E st a w){c c':CV}{ts us:O1}(hf:GN st.obj c=some (c',ts))(hu:∀t∈ts,t∈us){x:Value}(h:iK Z w st.obj E c x):Rep (Zf Z st.obj E us) w c' x:=by
 cases c with
 |pr t g off=>
  simp only[GN]at hf;split at hf
  .rename_i g' cs ho;cases hb:Nat.beq g g' with
   |false=>grind
   |true=>
    rw[hb]at hf;simp at hf;obtain⟨rfl,rfl⟩:=hf;have:=G5 hb;subst this;have hs:O7 Z w st.obj E (.pm t g off) x:=by
     cases h with
     |pr _ _ _ _ hs hg hl=>exact .pm t g off x hs hg hl
     |cl h=>cases h
    obtain⟨b,hE,hx,f,hc⟩:=EK hI (.inl ho) hs;have hk:Keeps Z w (Zf Z st.obj E us) w:=AA _ _ _;have:=Rep.pi (Z:=Zf Z st.obj E us) (w:=w) cs b 0 off f (λj c hj=>⟨.inr ⟨t,hu t (by simp),by rw[ho,hE]<;>rfl⟩,by rw[X9];exact(hc j c hj).1,(hc j c hj).2.1⟩) (λj c hj=>(hc j c hj).2.2.keep hk)
    grind
  .simp at hf
 |_=>simp[GN]at hf
def bv7(hI:Inv G Z0 w0 S n Z E st a w):∀{cs cs':G9}{ts us:O1},GR st.obj cs=some (cs',ts)->(∀t∈ts,t∈us)->cs'.length=cs.length/\∀(j:Nat)(c':CV),cs'[j]?=some c'->∃c,cs[j]?=some c/\
    ∀x,iK Z w st.obj E c x->Rep (Zf Z st.obj E us) w c' x
 |[],cs',ts,us,hf,_=>by
  simp[GR]at hf
  grind
 |c::r,cs',ts,us,hf,hu=>by
  simp only[GR]at hf;split at hf
  .rename_i d t1 ds t2 h1 h2;simp at hf;obtain⟨rfl,rfl⟩:=hf;obtain⟨hl,hr⟩:=bv7 hI (us:=us) h2 (λt ht=>hu t (EX _ ht));refine⟨by simp[hl],λj c' hj=>?_⟩;cases j with
   |zero=>
    simp at hj;subst hj;exact⟨c,rfl,λx hx=>cH0 hI h1 (λt ht=>hu t (EW _ ht)) hx⟩
   |succ j=>grind
  .simp at hf
def cG8(hI:Inv G Z0 w0 S n Z E st a w){c:CV}{x:Value}(h:Z5 Z w st.obj E c x){c':CV}{ts us:O1}(hf:sW st.obj c=some (c',ts))(hu:∀t∈ts,t∈us):Rep (Zf Z st.obj E us) w c' x/\(c.atom=true->c'.atom=true):=by
 have closed:∀(c:CV),c.qA=false->Z5 Z w st.obj E c x->some (c,([]:O1))=some (c',ts)->Rep (Zf Z st.obj E us) w c' x/\(c.atom=true->c'.atom=true):=by
  intro c hc hr he;simp at he;obtain⟨rfl,rfl⟩:=he;exact⟨(hr.closed hc).keep (AA _ _ _),id⟩
 cases h with
 |fr f caps vs hl h=>
  simp only[sW,Option.map_eq_some_iff]at hf;obtain⟨⟨cs,us'⟩,hp,hq⟩:=hf;simp at hq;obtain⟨rfl,rfl⟩:=hq;obtain⟨h1,h2⟩:=bv7 hI hp hu;refine⟨.fn f cs vs (by omega) (λi c x hc hx=>?_),λ_=>rfl⟩
  grind
 |one h1=>
  cases h1 with
  |cl h=>
   have hn:=h.IV;have hx:Z5 Z w st.obj E c x:=.cl h;cases c<;>first|exact closed _ hn hx hf|(simp[CV.qA]at hn)
  |rs t g x hs hg h=>
   simp only[sW]at hf;split at hf
   .rename_i g' el sz ds ho;cases hb:Nat.beq g g' with
    |false=>grind
    |true=>
     rw[hb]at hf;simp at hf;obtain⟨rfl,rfl⟩:=hf;have:=G5 hb;subst this;exact⟨aE7 hI ho (hu t (by simp)) (h _ _ _ _ ho),λ_=>rfl⟩
   .simp at hf
  |pr=>simp[sW]at hf
  |bp=>simp[sW]at hf
  |mr t g x hs hg h=>
   simp only[sW]at hf;split at hf
   .rename_i g' es ho;cases hb:Nat.beq g g' with
    |false=>grind
    |true=>
     rw[hb]at hf;simp at hf;obtain⟨rfl,rfl⟩:=hf;have:=G5 hb;subst this;exact⟨bG2 hI ho (hu t (by simp)) (h _ ho),λ_=>rfl⟩
   .simp at hf
def aL0(hI:Inv G Z0 w0 S n Z E st a w):∀{cs cs':G9}{ts us:O1},wS st.obj cs=some (cs',ts)->(∀t∈ts,t∈us)->cs'.length=cs.length/\∀(j:Nat)(c':CV),cs'[j]?=some c'->∃c,cs[j]?=some c/\(c.atom=true->c'.atom=true)/\
    ∀x,Z5 Z w st.obj E c x->Rep (Zf Z st.obj E us) w c' x
 |[],cs',ts,us,hf,_=>by
  simp[wS]at hf
  grind
 |c::r,cs',ts,us,hf,hu=>by
  simp only[wS]at hf;split at hf
  .rename_i d t1 ds t2 h1 h2;simp at hf;obtain⟨rfl,rfl⟩:=hf;obtain⟨hl,hr⟩:=aL0 hI (us:=us) h2 (λt ht=>hu t (EX _ ht));refine⟨by simp[hl],λj c' hj=>?_⟩;cases j with
   |zero=>
    simp at hj;subst hj;refine⟨c,rfl,λhat=>?_,λx hx=>(cG8 hI hx h1 (λt ht=>hu t (EW _ ht))).1⟩;have hatom:∀(c:CV)(d:CV)(t1:O1),sW st.obj c=some (d,t1)->c.atom=true->d.atom=true:=by
     intro c d t1 hf hat;unfold sW at hf;split at hf
     .split at hf
      .rename_i g _ g' _ _ _ _;cases hb:Nat.beq g g' with
       |false=>grind
       |true=>rw[hb]at hf;simp at hf;rw[<-hf.1];rfl
      .simp at hf
     .split at hf
      .rename_i g _ g' _ _;cases hb:Nat.beq g g' with
       |false=>grind
       |true=>rw[hb]at hf;simp at hf;rw[<-hf.1];rfl
      .simp at hf
     .simp at hf
     .simp only[Option.map_eq_some_iff]at hf;obtain⟨p,_,hq⟩:=hf;simp at hq;rw[<-hq.1];rfl
     .simp at hf
     .grind
    grind
   |succ j=>grind
  .simp at hf
def bv4(hI:Inv G Z0 w0 S n Z E st a w){s:SV}{x:Value}(h:O7 Z w st.obj E s x){c:CV}{ts:O1}(hf:freeze st.obj s=some (c,ts)):Rep (Zf Z st.obj E ts) w c x:=by
 unfold freeze at hf;split at hf
 .rename_i t g off;split at hf
  .rename_i g' cs ho;cases hb:Nat.beq g g' with
   |false=>grind
   |true=>
    rw[hb]at hf;simp at hf;obtain⟨rfl,rfl⟩:=hf;have:=G5 hb;subst this;obtain⟨b,hE,hx,f,hc⟩:=EK hI (.inl ho) h;have hk:Keeps Z w (Zf Z st.obj E [t]) w:=AA _ _ _;have:=Rep.pi (Z:=Zf Z st.obj E [t]) (w:=w) cs b 0 off f (λj c hj=>⟨.inr ⟨t,by simp,by rw[ho,hE]<;>rfl⟩,by rw[X9];exact(hc j c hj).1,(hc j c hj).2.1⟩) (λj c hj=>(hc j c hj).2.2.keep hk)
    grind
  .rename_i g' cs ho;cases hb:Nat.beq g g' with
   |false=>grind
   |true=>
    rw[hb]at hf;simp only[H9]at hf;have:=G5 hb;subst this;split at hf
    .rename_i cs' us hq;simp at hf;obtain⟨rfl,rfl⟩:=hf;have hot:=hI.obj t;rw[ho]at hot;obtain⟨b,el,arr,hE,hh,hs,hc,hz⟩:=hot;have hx:x=.pointer (some ⟨b,off,none⟩):=by
      cases h with
      |pm _ _ _ _ _ _ hl=>
       obtain⟨b',h1,h2⟩:=hl ⟨cs,.inr (.inr ho)⟩
       grind
     obtain⟨hl,hr⟩:=aL0 hI (us:=t::us) hq (λs hs=>RH _ hs);have:=Rep.pi (Z:=Zf Z st.obj E (t::us)) (w:=w) cs' b 0 off (λj=>arr.getD j undef) (λj c hj=>?_) (λj c hj=>?_)
     .grind
     .obtain⟨c0,h0,hat,_⟩:=hr j c hj;obtain⟨h1,y,hy,_⟩:=hc j c0 h0;refine⟨.inr ⟨t,by simp,by rw[ho,hE]<;>rfl⟩,?_,hat h1⟩
      rw[X9,kU w b j arr el (0,0) hh,bY,hy];rfl
     .obtain⟨c0,h0,_,hrr⟩:=hr j c hj;obtain⟨_,y,hy,hxx⟩:=hc j c0 h0;have:arr.getD j undef=y:=by rw[bY,hy];rfl
      grind
    .simp at hf
  .simp at hf
 .rename_i t g;split at hf
  .rename_i g' es ho;cases hb:Nat.beq g g' with
   |false=>grind
   |true=>
    rw[hb]at hf;simp at hf;obtain⟨rfl,rfl⟩:=hf;have:=G5 hb;subst this;exact bG2 hI ho (by simp) (by cases h with|mr _ _ _ _ _ h=>exact h _ ho)
  .simp at hf
 .rename_i t g;split at hf
  .rename_i g' el sz ds ho;cases hb:Nat.beq g g' with
   |false=>grind
   |true=>
    rw[hb]at hf;simp at hf;obtain⟨rfl,rfl⟩:=hf;have:=G5 hb;subst this;exact aE7 hI ho (by simp) (by cases h with|rs _ _ _ _ _ h=>exact h _ _ _ _ ho)
  .simp at hf
 .cases hc:bU s with
  |none=>grind
  |some c'=>
   rw[hc]at hf;simp at hf;obtain⟨rfl,rfl⟩:=hf;exact(oD h hc).keep (AA _ _ _)
def bv2(hI:Inv G Z0 w0 S n Z E st a w):∀(ss:dG)(vs:H6)(cs:G9)(ts:O1),ss.length=vs.length->(∀(i:Nat)(s:SV)(x:Value),ss[i]?=some s->vs[i]?=some x->O7 Z w st.obj E s x)->
    GK st.obj ss=some (cs,ts)->U0 (Zf Z st.obj E ts) w cs vs
 |[],[],cs,ts,_,_,hf=>by simp[GK]at hf;obtain⟨rfl,rfl⟩:=hf;exact U0.nil _ _
 |[],_::_,_,_,hl,_,_=>by simp at hl
 |_::_,[],_,_,hl,_,_=>by simp at hl
 |s::ss,x::vs,cs,ts,hl,h,hf=>by
  simp only[GK]at hf;split at hf
  .rename_i c t1 cs' t2 h1 h2;simp at hf;obtain⟨rfl,rfl⟩:=hf;have r1:=bv4 hI (h 0 s x rfl rfl) h1;have r2:=bv2 hI ss vs cs' t2 (by simpa using hl) (λi s' x' ha hb=>h (i+1) s' x' (by simpa using ha) (by simpa using hb)) h2;exact U0.cons (r1.keep (ak8 _ _ (λs hs=>EW _ hs))) (r2.keep (ak8 _ _ (λs hs=>EX _ hs)))
  .simp at hf
def cG5(hI:Inv G Z0 w0 S n Z E st a w){s:SV}{x:Value}(h:O7 Z w st.obj E s x){c:CV}{ts:O1}(hf:TJ st.obj s=some (c,ts)):Rep (Zf Z st.obj E ts) w c x:=by
 unfold TJ at hf;split at hf
 .rename_i f caps;split at hf
  .rename_i cs ts' hl;simp at hf;obtain⟨rfl,rfl⟩:=hf;cases h with
   |V4 _ _ vs hf hlen hr=>
    have:=bv2 hI caps vs cs ts' hlen hr hl;exact .fn f cs vs this.1 this.2
  .simp at hf
 .exact bv4 hI h hf
def bu9(hI:Inv G Z0 w0 S n Z E st a w):∀(ss:dG)(vs:H6)(cs:G9)(ts:O1),ss.length=vs.length->(∀(i:Nat)(s:SV)(x:Value),ss[i]?=some s->vs[i]?=some x->O7 Z w st.obj E s x)->
    yO st.obj ss=some (cs,ts)->U0 (Zf Z st.obj E ts) w cs vs
 |[],[],cs,ts,_,_,hf=>by simp[yO]at hf;obtain⟨rfl,rfl⟩:=hf;exact U0.nil _ _
 |[],_::_,_,_,hl,_,_=>by simp at hl
 |_::_,[],_,_,hl,_,_=>by simp at hl
 |s::ss,x::vs,cs,ts,hl,h,hf=>by
  simp only[yO]at hf;split at hf
  .rename_i c t1 cs' t2 h1 h2;simp at hf;obtain⟨rfl,rfl⟩:=hf;have r1:=cG5 hI (h 0 s x rfl rfl) h1;have r2:=bu9 hI ss vs cs' t2 (by simpa using hl) (λi s' x' ha hb=>h (i+1) s' x' (by simpa using ha) (by simpa using hb)) h2;exact U0.cons (r1.keep (ak8 _ _ (λs hs=>EW _ hs))) (r2.keep (ak8 _ _ (λs hs=>EX _ hs)))
  .simp at hf
def cG2{r:CV}{x:Value}(hr:flat r=true)(h:Rep Z w r x)(Z':Zone)(w':World):Rep Z' w' r x:=by
 have U6:∀(cs:G9)(vs:H6),(∀c∈cs,∃y,c=.v y)->cs.length=vs.length->(∀(i:Nat)(c:CV)(x:Value),cs[i]?=some c->vs[i]?=some x->Rep Z w c x)->Rep Z' w' (.U6 cs) (.tuple vs.toArray):=by
  intro cs vs hall hl hh;refine .U6 cs vs hl λi c x h1 h2=>?_;obtain⟨y,rfl⟩:=hall c (iZ h1);have:=nC (hh i _ x h1 h2);rw[this];exact .v y
 unfold flat at hr;split at hr
 .rw[nC h];exact .v _
 .cases h with|U6 _ vs hl hh=>exact U6 _ _ (by simp) hl hh
 .cases h with|U6 _ vs hl hh=>exact U6 _ _ (by simp) hl hh
 .cases hr
def bo4(hI:Inv G Z0 w0 S n Z E st a w){c:Call}{f:FuncId}{args:dG}{more cs:G9}{ts:O1}(hargs:callArgs (look st) c=some (f,args,more))(hfr:yO st.obj args=some (cs,ts))(hb:rZ P f)
    (dst:E8) (type:TypeId) (pos:String) (after:dO) (guard:dH):
    ∃vs:H6,U0 (Zf Z st.obj E ts) w (cs++more) vs/\(execOp a.eval ⟨dst,.call c,type,pos,after,guard⟩).run P w=.ok (.enter f vs.toArray) w:=by
 have cP3:∃caps extra:H6,(∃fo,c.callee=.value fo/\a.eval fo=.func (.func f) #[] (caps++extra).toArray)/\U0 Z w more extra/\args.length=((c.args.toList.map a.eval)++caps).length/\
  ∀(i:Nat)(s:SV)(x:Value),args[i]?=some s->((c.args.toList.map a.eval)++caps)[i]?=some x->O7 Z w st.obj E s x:=by
  have hmap:∀(i:Nat)(s:SV)(x:Value),(c.args.toList.map (look st))[i]?=some s->(c.args.toList.map a.eval)[i]?=some x->O7 Z w st.obj E s x:=by
   intro i s x h1 h2;rw[P9]at h1 h2;cases ho:c.args.toList[i]? with
   |none=>grind
   |some op=>
    rw[ho]at h1 h2;simp at h1 h2;subst h1;subst h2;exact aG hI op
  have happ:∀(ss:dG)(vs:H6),ss.length=vs.length->(∀(i:Nat)(s:SV)(x:Value),ss[i]?=some s->vs[i]?=some x->O7 Z w st.obj E s x)->
   ∀(i:Nat)(s:SV)(x:Value),(c.args.toList.map (look st)++ss)[i]?=some s->(c.args.toList.map a.eval++vs)[i]?=some x->O7 Z w st.obj E s x:=by
   intro ss vs hl hh i s x h1 h2
   grind
  unfold callArgs at hargs;split at hargs
  .rename_i fo hfo;have hfx:=aG hI fo;split at hargs
   .rename_i f' caps hlf;simp at hargs;obtain⟨rfl,rfl,rfl⟩:=hargs;rw[hlf]at hfx;generalize hax:a.eval fo=y at hfx;cases hfx with
    |c _ _ hr=>
     cases hr with
     |fn _ _ vs hl hh=>exact⟨[],vs,⟨fo,hfo,hax⟩,⟨hl,hh⟩,by simp,by simpa using hmap⟩
   .rename_i f' caps hlf;simp at hargs;obtain⟨rfl,rfl,rfl⟩:=hargs;rw[hlf]at hfx;generalize hax:a.eval fo=y at hfx;cases hfx with
    |V4 _ _ vs _ hl hh=>exact⟨vs,[],⟨fo,hfo,by simpa[FV.val]using hax⟩,U0.nil _ _,by simp[hl],happ _ _ hl hh⟩
   .grind
  .grind
 obtain⟨caps,extra,⟨fo,hfo,hfv⟩,hex,hal,har⟩:=cP3;obtain⟨fn,hfn,hnm,hbd⟩:=hb;have hrl:=(bu9 hI args _ cs ts hal har hfr).append (hex.keep (AA st.obj E ts));refine⟨_,hrl,?_⟩;have wW:c.args.map a.eval++(caps++extra).toArray=((c.args.toList.map a.eval)++caps++extra).toArray:=by grind
 simp only[execOp,resolve,hfo,Deferred.ofValue,hfv,invoke,callFunc,J6,U5,O8,Array.empty_append,wW];have hnm':¬(fn.name= "runtime.NumGoroutine"):=by grind
 have wX:¬(fn.body=none):=λe=>by grind
 simp[Go.program,Sem.run,hfn,hnm',wX]
def cG1{r:CV}(h:flat r=true):r.pure=true:=by cases r<;>first|rfl|(simp[flat]at h)
def bZ5(c:Call)(hc:∀b,c.callee≠.builtin b)(dst:E8)(type:TypeId)(pos:String)(after:dO)(guard:dH):jI P G T ⟨dst,.call c,type,pos,after,guard⟩:=by
 intro Z0 w0 S n Z E st a w K next Q F hI hd h hX hn
 have hcall:kK (jF P G) (look st) st.obj F c K:=by
  unfold wpOp at h;cases hcc:c.callee with
  |builtin b=>grind
  |value f=>grind
  |invoke r m=>grind
 clear h;unfold kK at hcall;split at hcall
 .rename_i f args more hargs;split at hcall
  .rename_i cs ts hfr;rcases hcall with hcall|hcall
   rotate_left
   .grind
   obtain⟨r,hholds,hts,hk⟩:=hcall;obtain⟨hbody,BX⟩:=hholds;obtain⟨vs,hrl,hrun⟩:=bo4 hI hargs hfr hbody dst type pos after guard;refine QS (λ_ h=>nomatch h) ?_;unfold Oper.wp;rw[hrun];simp only[Oper.upon];have aP0:∀b o,Zf Z st.obj E ts b o->b<w.heap.size:=λb o hz=>hz.elim (hI.X5 b o) λ⟨s,_,hb⟩=>(hI.obj s).lt hb;refine(BX _ w _ hrl aP0 (λw1 hb1=>hI.gs _ (hI.below.trans (.of_below hb1 hI.xK)))).mono ?_;rintro e w' ⟨x,gU,rfl,hrep,hsub,hnew,hbel⟩;have aq9:∀(Z1:Zone),Keeps Z w Z1 w'->(∀b o,b<w.heap.size->Z1 b o->Z b o)->∀t,X7 Z1 w' st.obj E (E t) (st.obj t).2:=λZ1 hk1 hz1 t=>
    (hI.obj t).keep hk1 (eY.refl _ _) λb hb=>⟨hbel.block b ((hI.obj t).lt hb),λk hz=>hz1 b k ((hI.obj t).lt hb) hz⟩
   have hbel0:Kept S w w':=.of_below hbel hI.xK;cases hte:ts.isEmpty with
   |true=>
    rw[hte]at hts;simp only[H9]at hts;have htn:ts=[]:=by grind
    subst htn;have hkeep:Keeps Z w gU w':=λb o hz=>⟨hsub b o (.inl hz),jM (hbel.block b (hI.X5 b o hz))⟩;refine hn _ _ _ gU E x w' hk ?_;refine hI.step hd hbel0 hkeep (λb o hz=>(hnew b o hz).2) (λb o hz=>?_) (eY.refl _ _) (aq9 gU hkeep λb o hb hz=>?_) hI.apart hI.own (.c _ _ (hrep.pure hts))
    .rcases(hnew b o hz).1 with h1|h1
     .rcases h1 with h1|⟨s,hs,_⟩
      .grind
      .simp at hs
     .exact .inr (hI.fresh h1)
    .rcases(hnew b o hz).1 with h1|h1
     .rcases h1 with h1|⟨s,hs,_⟩
      .exact h1
      .simp at hs
     .omega
   |false=>
    rw[hte]at hts;simp only[G6]at hts;have hkeep:Keeps Z w Z w':=λb o hz=>⟨hz,jM (hbel.block b (hI.X5 b o hz))⟩;refine hn _ _ _ Z E x w' hk ?_;exact hI.step hd hbel0 hkeep (λb o hz=>aH (hI.X5 b o hz) hbel.size) (λ_ _ hz=>.inl hz) (eY.refl _ _) (aq9 Z hkeep λ_ _ _ hz=>hz) hI.apart hI.own (.c _ _ (cG2 hts (hrep.pure (cG1 hts)) _ _))
  .grind
 .grind
def bM4(hT:aA P T)(o:Oper):jI P G T o:=by
 obtain⟨dst,op,type,pos,after,guard⟩:=o;cases op with
 |move x=>exact ds7 _ _ _ _ _ _
 |assign x=>exact dq5 _ _ _ _ _ _
 |pick c x y=>exact ds9 _ _ _ _ _ _ _ _
 |alloc e=>exact dq3 hT _ _ _ _ _ _
 |box e x=>exact dq7 _ _ _ _ _ _ _
 |build t ps=>exact dq8 hT _ _ _ _ _ _ _
 |buildSlice t len ps=>exact dq9 hT _ _ _ _ _ _ _ _
 |load t x=>exact ds5 hT _ _ _ _ _ _ _
 |store t x y=>exact dt0 hT _ _ _ _ _ _ _ _
 |nilCheck x=>exact ds8 _ _ _ _ _ _
 |binOp op t x y t'=>exact dq6 hT _ _ _ _ _ _ _ _ _ _
 |unOp op t x=>exact dt1 _ _ _ _ _ _ _ _
 |convert s t x=>exact dr5 hT _ _ _ _ _ _ _ _
 |makeFunc fn first captured=>exact ds6 _ _ _ _ _ _ _ _
 |fieldAddr t x k=>exact dr8 hT _ _ _ _ _ _ _ _
 |field t x k=>exact dr7 hT _ _ _ _ _ _ _ _
 |indexAddr t x i=>exact ds4 hT _ _ _ _ _ _ _ _
 |index t x i=>exact dr9 hT _ _ _ _ _ _ _ _
 |extract x k=>exact dr6 _ _ _ _ _ _ _
 |call c=>
  obtain⟨callee,args,argTypes⟩:=c;cases callee with
  |builtin b=>exact dr4 hT _ _ _ _ _ _ _ _
  |value f=>exact bZ5 _ (λb h=>by cases h) _ _ _ _ _
  |invoke r m=>exact bZ5 _ (λb h=>by cases h) _ _ _ _ _
 |_=>intro Z0 w0 S n Z E st a w K next Q F hI hd h hX hn;exact hX h
end
end Go.F7
