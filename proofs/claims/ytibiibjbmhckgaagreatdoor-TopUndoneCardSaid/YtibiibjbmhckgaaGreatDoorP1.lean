import Derived.WalkKit
import Derived.RangeFuncRecord
import Derived.OrdersIn
set_option linter.unusedVariables false
set_option linter.unusedSimpArgs false
namespace Go
abbrev F8:=@Nat.eq_of_beq_eq_true
abbrev F9:=@if_neg
abbrev G6:=@cond_false
abbrev H6:=@Nat.le_of_ble_eq_true
abbrev H7:=@cond_true
abbrev I4:=@if_pos
abbrev I7:=@Sem.run_bind
abbrev I9:=@List.getElem?_eq_getElem
abbrev J6:=@Nat.le_refl
abbrev L6:=@run_underlying
abbrev N9:=@Result.andThen_ok
abbrev O4:=@List.getElem?_eq_some_iff
abbrev O6:=@List.getElem?_map
abbrev Q5:=@Sem.run_pure
abbrev V4:=@Array.getElem?_eq_some_iff
abbrev V7:=@Nat.zero_add
abbrev X3:=@Bool.and_eq_true
abbrev X4:=@Nat.le_trans
abbrev Y3:=@Nat.zero_le
abbrev Z5:=@Nat.lt_of_lt_of_le
abbrev Z9:=@Option.some.injEq
abbrev aT:=@Array.getD_eq_getD_getElem?
abbrev aW:=@heap_alloc_new
abbrev bJ:=@List.getElem?_append_right
abbrev bQ:=@List.length_append
abbrev bV:=@List.getElem?_append_left
abbrev dV:=@List.getElem_of_mem
abbrev eG:=@Nat.lt_or_ge
abbrev gY:=@Addr.add_lit
abbrev iC:=@List.mem_of_getElem?
abbrev iE:=@Option.some.inj
abbrev iJ:=@Nat.mul_le_mul_right
abbrev iT:=@Array.length_toList
abbrev iU:=@List.mem_append
abbrev iV:=@List.mem_map
abbrev jK:=@List.getElem?_take
abbrev jY:=@cell_of_row
abbrev kM:=@List.append_assoc
abbrev kP:=@List.map_cons
abbrev lX:=@List.eq_nil_of_length_eq_zero
abbrev mY:=@List.ext_getElem?
abbrev nG:=@decide_true
abbrev nZ:=@List.all_eq_true
abbrev oD:=@Nat.add_zero
abbrev pR:=@List.length_cons
abbrev pV:=@Nat.add_mul
abbrev rC:=@setRow_heap
abbrev sS:=@setRow_other
abbrev uP:=@heap_alloc_old
abbrev xG:=@Array.foldl_toList
abbrev xH:=@Array.getElem?_modify
abbrev xR:=@List.mem_singleton
abbrev BO:=@List.mem_append_left
abbrev BP:=@List.mem_append_right
abbrev CB:=@World.cell?_of_block
abbrev NQ:=@List.getD_eq_getElem?_getD
abbrev NR:=@List.mem_cons_of_mem
end Go
namespace Go.F6
open Go Go.RowKit
inductive CV where
 |v (x:Value)
 |agg (cs:List CV)
 |sl (sz:Nat) (ds:List (List CV))
 |pi (cs:List CV) (off:Nat)
 |fn (f:FuncId) (caps:List CV)
 |P7 (vs:List CV)
 |rs (t g:Nat)
 |ow (j:Nat)
 |pr (t g off:Nat)
 |mr (t g:Nat)
 |fr (f:FuncId) (caps:List CV)
 |mp (es:List (CV×CV))
 |wo (r:CV) (os:List (Nat×Nat×List (List CV)×Option (Nat×List CV)))
 |bp (T:Nat) (f:Bool)
def CV.cells:CV->List CV
 |.agg cs=>cs
 |c=>[c]
def CV.atom:CV->Bool
 |.agg _=>false
 |.P7 _=>false
 |.wo _ _=>false
 |.v x=>x.oneCell'
 |_=>true
def CV.storable:CV->Bool
 |.agg _=>true
 |c=>c.atom
inductive FV where
 |fn (f:FuncId)
 |yl (l:Nat) (ts:List Value)
 |bd (f:FuncId)
instance {n:Nat}:OfNat FV n:=⟨.fn n⟩
def FV.val:FV->List Value->Value
 |.fn f,vs=>.func (.func f) #[] vs.toArray
 |.yl l _,_=>.func (.yield l) #[] #[]
 |.bd f,vs=>.func (.func f) vs.toArray #[]
def FV.ok:FV->List Value->Prop
 |.fn _,_=>True
 |.yl _ ts,vs=>vs=ts
 |.bd _,_=>True
inductive jU where
 |on
 |busy
 |off (c:Code)
def jU.put(R:Loop):jU->Loop
 |.on=>{ R with state:=.ready,pending:=none }
 |.busy=>{ R with state:=.busy,pending:=none }
 |.off c=>{ R with state:=.done,pending:=some c }
def mJ(b:Bool)(J:Code):jU:=bif b then .on else .off J
inductive SV where
 |any
 |un
 |kt
 |kf
 |c (x:CV)
 |pm (t g off:Nat)
 |ap (t g sz:Nat) (es:List (List CV))
 |Q7 (f:FV) (caps:List SV)
 |rs (t g:Nat)
 |aC (cs:List CV)
 |pe (t g n off:Nat)
 |mr (t g:Nat)
 |eF (cs:List CV)
abbrev Zone:=Nat->Nat->Prop
inductive Rep(Z:Zone)(w:World):CV->Value->Prop
 |v (x:Value):Rep Z w (.v x) x
 |agg (cs:List CV) (vs:List Value) (hl:cs.length=vs.length) (h:∀(i:Nat)(c:CV)(x:Value),cs[i]?=some c->vs[i]?=some x->Rep Z w c x)
   (ha:∀(i:Nat)(c:CV),cs[i]?=some c->c.atom=true):Rep Z w (.agg cs) (.agg vs.toArray)
 |nil (sz:Nat) (a:Option Addr) (cap:Nat):Rep Z w (.sl sz []) (.slice a 0 cap)
 |sl (sz:Nat) (ds:List (List CV)) (b o cap:Nat) (f:Nat->Nat->Value) (hcap:ds.length<=cap) (hsz:∀(i:Nat)(d:List CV),ds[i]?=some d->d.length=sz)
   (hc:∀(i j:Nat)(d:List CV)(c:CV),ds[i]?=some d->d[j]?=some c->Z b (o+i*sz+j)/\w.cell? ⟨b,o+i*sz+j,none⟩=some (f i j)/\c.atom=true)
   (h:∀(i j:Nat)(d:List CV)(c:CV),ds[i]?=some d->d[j]?=some c->Rep Z w c (f i j)):Rep Z w (.sl sz ds) (.slice (some ⟨b,o,none⟩) ds.length cap)
 |pi (cs:List CV) (b o off:Nat) (f:Nat->Value)
   (hc:∀(j:Nat)(c:CV),cs[j]?=some c->Z b (o+j)/\w.cell? ⟨b,o+j,none⟩=some (f j)/\c.atom=true)
   (h:∀(j:Nat)(c:CV),cs[j]?=some c->Rep Z w c (f j)):Rep Z w (.pi cs off) (.pointer (some ⟨b,o+off,none⟩))
 |fn (f:FuncId) (caps:List CV) (vs:List Value) (hl:caps.length=vs.length) (h:∀(i:Nat)(c:CV)(x:Value),caps[i]?=some c->vs[i]?=some x->Rep Z w c x):
   Rep Z w (.fn f caps) (.func (.func f) #[] vs.toArray)
 |P7 (cs:List CV) (vs:List Value) (hl:cs.length=vs.length) (h:∀(i:Nat)(c:CV)(x:Value),cs[i]?=some c->vs[i]?=some x->Rep Z w c x):
   Rep Z w (.P7 cs) (.tuple vs.toArray)
 |YG:Rep Z w (.mp []) (.map none)
 |mp (es:List (CV×CV)) (b:Nat) (arr:Array MapEntry) (clock:Nat) (hz:Z b 0) (hh:w.heap[b]?=some (.map arr clock)) (hl:es.length=arr.size)
   (hk:∀(i:Nat)(k v:CV)(e:MapEntry),es[i]?=some (k,v)->arr[i]?=some e->Rep Z w k e.key)
   (hv:∀(i:Nat)(k v:CV)(e:MapEntry),es[i]?=some (k,v)->arr[i]?=some e->Rep Z w v e.val):Rep Z w (.mp es) (.map (some b))
def Keeps(Z:Zone)(w:World)(Z':Zone)(w':World):Prop:=∀b o,Z b o->Z' b o/\w'.cell? ⟨b,o,none⟩=w.cell? ⟨b,o,none⟩/\∀es c,w.heap[b]?=some (.map es c)->w'.heap[b]?=some (.map es c)
inductive D9 where
 |none
 |var (cs:List CV)
 |ro (cs:List CV)
 |tok (el sz:Nat)
 |spent
 |varx (cs:List CV)
 |arr (el sz:Nat) (ds:List (List CV)) (D8:Option (Nat×List CV))
 |map (es:List (CV×CV))
 |lp (l:Nat) (R:Loop) (q:jU)
abbrev I5:=Nat->Nat×D9
structure St where
 env:Nat->SV
 obj:I5
structure TI where
 desc:TypeDesc
 size:Nat
 bytes:Nat
 zero:List Value
 isAgg:Bool
 ks:List Nat
abbrev Tab:=List (Nat×TI)
def Tab.get:Tab->Nat->Option TI
 |[],_=>.none
 |(k,i)::r,t=>bif Nat.beq k t then some i else Tab.get r t
abbrev BZ:=List (Nat×(Nat×D9))
def upd(obj:I5):BZ->I5
 |[],s=>obj s
 |(k,x)::r,s=>bif Nat.beq k s then x else upd obj r s
def put(env:Nat->SV)(d:Option Nat)(r:SV):Nat->SV:=
 match d with
 |.none=>env
 |some d=>λt=>bif Nat.beq d t then r else env t
def nX:List Value->List Nat->List CV
 |[],_=>[]
 |x::r,ks=>(match x with
  |.slice .none 0 0=>.sl (ks.headD 0) []
  |x=>.v x)::nX r ks.tail
def aN1:Option TI->CV->CV
 |some i,.sl 0 []=>.sl (i.ks.headD 0) []
 |_,c=>c
def aB2:Value->SV
 |.bool true=>.kt
 |.bool false=>.kf
 |.slice .none 0 0=>.c (.sl 0 [])
 |.map .none=>.c (.mp [])
 |x=>.c (.v x)
def look(st:St):Operand->SV
 |.tmp t=>st.env t
 |.const x=>aB2 x
 |.func f=>.c (.fn f [])
 |.global _=>.any
def aQ:SV->Option CV
 |.c x=>some x
 |.kt=>some (.v (.bool true))
 |.kf=>some (.v (.bool false))
 |.ap _ _ sz es=>some (.sl sz es)
 |_=>.none
def eP:SV->Option (Nat×List (List CV))
 |.c (.sl sz ds)=>some (sz,ds)
 |.ap _ _ sz es=>some (sz,es)
 |_=>.none
def DL(obj:I5):CV->Option (CV×List Nat)
 |.pr t g off=>match obj t with
  |(g',.var cs)=>bif Nat.beq g g' then some (.pi cs off,[t])else .none
  |_=>.none
 |_=>.none
def DN(obj:I5):List CV->Option (List CV×List Nat)
 |[]=>some ([],[])
 |c::r=>match DL obj c,DN obj r with
  |some (c,ts),some (cs,us)=>some (c::cs,ts++us)
  |_,_=>.none
def qG(obj:I5):CV->Option (CV×List Nat)
 |.rs t g=>match obj t with
  |(g',.arr _ sz ds .none)=>bif Nat.beq g g' then some (.sl sz ds,[t])else .none
  |_=>.none
 |.mr t g=>match obj t with
  |(g',.map es)=>bif Nat.beq g g' then some (.mp es,[t])else .none
  |_=>.none
 |.pr _ _ _=>.none
 |.fr f caps=>(DN obj caps).map λp=>(.fn f p.1,p.2)
 |.bp _ _=>.none
 |c=>some (c,[])
def uJ(obj:I5):List CV->Option (List CV×List Nat)
 |[]=>some ([],[])
 |c::r=>match qG obj c,uJ obj r with
  |some (c,ts),some (cs,us)=>some (c::cs,ts++us)
  |_,_=>.none
def DJ(obj:I5)(cs:List CV):Option (List CV):=(uJ obj cs).map (·.1)
def freeze(obj:I5):SV->Option (CV×List Nat)
 |.pm t g off=>match obj t with
  |(g',.var cs)=>bif Nat.beq g g' then some (.pi cs off,[t])else .none
  |(g',.varx cs)=>bif Nat.beq g g' then(match uJ obj cs with
   |some (cs',ts)=>some (.pi cs' off,t::ts)
   |.none=>.none)else .none
  |_=>.none
 |.mr t g=>match obj t with
  |(g',.map es)=>bif Nat.beq g g' then some (.mp es,[t])else .none
  |_=>.none
 |.rs t g=>match obj t with
  |(g',.arr _ sz ds .none)=>bif Nat.beq g g' then some (.sl sz ds,[t])else .none
  |_=>.none
 |s=>(aQ s).map λc=>(c,[])
def DI(obj:I5):List SV->Option (List CV×List Nat)
 |[]=>some ([],[])
 |s::r=>match freeze obj s,DI obj r with
  |some (c,ts),some (cs,us)=>some (c::cs,ts++us)
  |_,_=>.none
def PN(obj:I5):SV->Option (CV×List Nat)
 |.Q7 (.fn f) caps=>match DI obj caps with
  |some (cs,ts)=>some (.fn f cs,ts)
  |.none=>.none
 |s=>freeze obj s
def wI(obj:I5):List SV->Option (List CV×List Nat)
 |[]=>some ([],[])
 |s::r=>match PN obj s,wI obj r with
  |some (c,ts),some (cs,us)=>some (c::cs,ts++us)
  |_,_=>.none
def takeN:Nat->List CV->Option (List CV)
 |0,_=>some []
 |_+1,[]=>.none
 |n+1,c::r=>match takeN n r with
  |some cs=>some (c::cs)
  |.none=>.none
def setAt:List CV->Nat->List CV->Option (List CV)
 |cs,_,[]=>some cs
 |[],_,_::_=>.none
 |_::r,0,x::xs=>match setAt r 0 xs with
  |some cs=>some (x::cs)
  |.none=>.none
 |c::r,n+1,xs=>match setAt r n xs with
  |some cs=>some (c::cs)
  |.none=>.none
def part(i:TI)(cs:List CV)(off:Nat):Option CV:=
 bif i.isAgg then(takeN i.size (cs.drop off)).map CV.agg else cs[off]?
def ZM(n b:Nat):Prop:=n<=4294967296\/(n<=140737488355328/\n*b<=140737488355328)
def flat:CV->Bool
 |.v _=>true
 |.P7 [.v _,.v _]=>true
 |.P7 [.v _,.v _,.v _]=>true
 |_=>false
def CV.pure:CV->Bool
 |.wo _ _=>false
 |_=>true
def qL:BinOp->IntKind->Int->Int->Option Value
 |.add,k,a,b=>some (.int k (k.wrap (a+b)))
 |.sub,k,a,b=>some (.int k (k.wrap (a-b)))
 |.mul,k,a,b=>some (.int k (k.wrap (a*b)))
 |.eql,_,a,b=>some (.bool (a==b))
 |.neq,_,a,b=>some (.bool (a !=b))
 |.lss,_,a,b=>some (.bool (decide (a<b)))
 |.leq,_,a,b=>some (.bool (decide (a<=b)))
 |.gtr,_,a,b=>some (.bool (decide (a>b)))
 |.geq,_,a,b=>some (.bool (decide (a>=b)))
 |.and,k,a,b=>some (.int k (k.wrap (BitVec.ofInt k.bits a&&&BitVec.ofInt k.bits b).toNat))
 |.or,k,a,b=>some (.int k (k.wrap (BitVec.ofInt k.bits a ||| BitVec.ofInt k.bits b).toNat))
 |.xor,k,a,b=>some (.int k (k.wrap (BitVec.ofInt k.bits a^^^BitVec.ofInt k.bits b).toNat))
 |_,_,_,_=>.none
def AL:BinOp->ByteArray->ByteArray->Option Value
 |.eql,a,b=>some (.bool (a.data.toList==b.data.toList))
 |.neq,a,b=>some (.bool (!(a.data.toList==b.data.toList)))
 |.lss,a,b=>some (.bool (Op.bytesLess a.data.toList b.data.toList))
 |.leq,a,b=>some (.bool (Op.bytesLess a.data.toList b.data.toList || a.data.toList==b.data.toList))
 |.gtr,a,b=>some (.bool (!(Op.bytesLess a.data.toList b.data.toList || a.data.toList==b.data.toList)))
 |.geq,a,b=>some (.bool (!(Op.bytesLess a.data.toList b.data.toList)))
 |_,_,_=>.none
def iI(op:BinOp)(isBool:Bool)(x y:Value)(K:Value->Prop):Prop:=
 match op,x,y with
 |.quo,.int k a,.int k' b=>k=k'/\b≠0/\K (.int k (k.wrap (a.tdiv b)))
 |.rem,.int k a,.int k' b=>k=k'/\b≠0/\K (.int k (a.tmod b))
 |.shr,.int k a,.int _ b=>0<=b/\K (.int k (a.fdiv (2^(min b.toNat k.bits))))
 |.shl,.int k a,.int _ b=>0<=b/\K (.int k (k.wrap (a*2^(min b.toNat k.bits))))
 |op,.int k a,.int k' b=>match qL op k a b with
  |some r=>bif decide (k=k')then K r else False
  |.none=>False
 |.add,.string a,.string b=>a.size+b.size<=9223372036854775807/\∃s,s=a++b/\K (.string s)
 |op,.string a,.string b=>match AL op a b with
  |some r=>K r
  |.none=>False
 |.eql,.bool a,.bool b=>bif isBool then K (.bool (a==b))else False
 |.neq,.bool a,.bool b=>bif isBool then K (.bool (!(a==b)))else False
 |_,_,_=>False
abbrev Z8:=SV->List Nat->BZ->Prop
structure iW where
 fn:FuncId->List CV->CV->Prop
 eff:Op->TypeId->List SV->List (Nat×D9)->SV->List (Nat×D9)->Prop
 efn:FuncId->List SV->List (Nat×D9)->SV->List (Nat×D9)->Prop
section
variable(H:iW)(T:Tab)(look:Operand->SV)(obj:I5)(F:Z8->Prop)
def wE(fields:Array Field)(zero:List CV):List (Nat×Operand)->Option (List CV)
 |[]=>some zero
 |(i,x)::r=>match fields[i]?,aQ (look x)with
  |some f,some c=>match T.get f.type with
   |some i=>bif Nat.beq c.cells.length i.size&&c.storable&&Nat.ble 1 i.size then
     match setAt zero f.offset c.cells with
     |some z=>wE fields z r
     |.none=>.none
    else .none
   |.none=>.none
  |_,_=>.none
def tZ(sz:Nat):Nat->List (Nat×Operand)->Option (List (List CV))
 |_,[]=>some []
 |k,(i,x)::r=>match aQ (look x),tZ sz (k+1) r with
  |some c,some es=>bif Nat.beq i k&&Nat.beq c.cells.length sz&&c.storable then some (c.cells::es)else .none
  |_,_=>.none
def gen(d:Nat):Nat:=(obj d).1
def UL(ty:TypeId)(d:Nat)(x:Operand)(K:Z8):Prop:=
 match x with
 |.const (.slice .none 0 0)=>match T.get ty with
  |some { desc:=.slice e, .. }=>match T.get e with
   |some i=>bif Nat.ble 1 i.size then K (.ap d ((obj d).1+1) i.size []) [] [(d,((obj d).1+1,.tok e i.size))]else False
   |.none=>False
  |_=>False
 |x=>match look x with
  |.ap t g sz es=>match obj t with
   |(g',.tok el s)=>bif Nat.beq g g'&& !(Nat.beq t d)then K (.ap d ((obj d).1+1) sz es) [t] [(t,(g,.spent)),(d,((obj d).1+1,.tok el s))]else K (look x) [t] []
   |_=>K (.c (.sl sz es)) [t] []
  |s=>K s [] []
def callArgs(c:Call):Option (FuncId×List SV×List CV):=
 match c.callee with
 |.value f=>match look f with
  |.c (.fn f caps)=>some (f,c.args.toList.map look,caps)
  |.Q7 (.fn f) caps=>some (f,c.args.toList.map look++caps,[])
  |_=>.none
 |_=>.none
def jH(c:Call)(K:Z8):Prop:=
 match callArgs look c with
 |some (f,args,more)=>match wI obj args with
  |some (cs,ts)=>(∃r,H.fn f (cs++more) r/\(bif ts.isEmpty then r.pure=true else flat r=true)/\K (.c r) ts [])\/F K
  |.none=>F K
 |.none=>F K
def gJ(b:Builtin)(c:Call)(d:Option Nat)(K:Z8):Prop:=
 match b,c.args.toList with
 |.len,[x]=>match look x with
  |.c (.v (.string s))=>(match(c.argTypes[0]?).bind T.get with
   |some { desc:=.string, .. }=>K (.c (.v (.int .i64 s.size))) [] []
   |_=>False)
  |s=>match eP s,(c.argTypes[0]?).bind T.get with
   |some (_,ds),some { desc:=.slice _, .. }=>K (.c (.v (.int .i64 ds.length))) [] []
   |_,_=>F K
 |.min,[x,y]=>match aQ (look x),aQ (look y)with
  |some (.v (.int k a)),some (.v (.int _ b))=>K (.c (.v (.int k (if b<a then b else a)))) [] []
  |_,_=>False
 |.max,[x,y]=>match aQ (look x),aQ (look y)with
  |some (.v (.int k a)),some (.v (.int _ b))=>K (.c (.v (.int k (if a<b then b else a)))) [] []
  |_,_=>False
 |.append,[x,y]=>match look x,eP (look y),d,c.argTypes.toList with
  |.ap t g sz es,some (_,ns),some d,[t1,t2]=>match T.get t1 with
   |some { desc:=.slice e, .. }=>match T.get e with
    |some i=>bif Nat.beq t1 t2&&Nat.beq i.size sz&&Nat.ble 1 sz&&Nat.ble i.bytes 4096&&Nat.beq i.zero.length sz&&(match obj t with|(g',.tok el s)=>Nat.beq g g'&&Nat.beq el e&&Nat.beq s sz|_=>false)then
      ((∀n∈ns,n.length=sz)/\ZM (es.length+ns.length) i.bytes/\∃es',es'=es++ns/\
      (bif Nat.beq t d then K (.ap t (g+1) sz es') [t] [(t,(g+1,.tok e sz))]
       else K (.ap d ((obj d).1+1) sz es') [t] [(t,(g,.spent)),(d,((obj d).1+1,.tok e sz))]))\/F K
     else False
    |.none=>F K
   |_=>F K
  |_,_,_,_=>F K
 |_,_=>F K
def wpOp(d:Option Nat)(op:Op)(ty:TypeId)(K:Z8):Prop:=
 match op with
 |.move x=>K (look x) [] []
 |.assign x=>match d with
  |some d=>UL T look obj ty d x K
  |.none=>False
 |.pick c a b=>match look c with
  |.kt=>K (look a) [] []
  |.kf=>K (look b) [] []
  |.c (.v (.bool q))=>match aQ (look a),aQ (look b)with
   |some (.v (.bool x)),some (.v (.bool y))=>K (.c (.v (.bool (bif q then x else y)))) [] []
   |_,_=>(q=true->K (look a) [] [])/\(q=false->K (look b) [] [])
  |_=>False
 |.alloc e=>match T.get e,d with
  |some i,some d=>K (.pm d ((obj d).1+1) 0) [] [(d,((obj d).1+1,.var (nX i.zero i.ks)))]
  |_,_=>False
 |.box _ x=>match aQ (look x),d with
  |some c,some d=>bif c.storable then K (.pm d ((obj d).1+1) 0) [] [(d,((obj d).1+1,.var c.cells))]else False
  |_,_=>False
 |.build t parts=>match T.get t with
  |some { desc:=.struct fs,zero:=z,ks:=ks, .. }=>bif fs.toList.all (λf=>(T.get f.type).isSome)then(match wE T look fs (nX z ks) parts.toList with
   |some cs=>K (.c (.agg cs)) [] []
   |.none=>False)else False
  |_=>False
 |.buildSlice t len parts=>match T.get t with
  |some { desc:=.slice e, .. }=>match T.get e,d with
   |some i,some d=>match tZ look i.size 0 parts.toList with
    |some es=>bif Nat.beq es.length len&&Nat.ble len 4096&&Nat.ble 1 i.size&&Nat.ble i.size 256&&Nat.beq i.zero.length i.size then K (.ap d ((obj d).1+1) i.size es) [] [(d,((obj d).1+1,.tok e i.size))]else False
    |.none=>F K
   |_,_=>False
  |_=>False
 |.load t x=>match T.get t with
  |some i=>match look x with
   |.pm s g off=>match obj s with
    |(g',.var cs)=>bif Nat.beq g g' then(match part i cs off with|some c=>K (.c c) [s] []|.none=>False)else False
    |(g',.ro cs)=>bif Nat.beq g g' then(match part i cs off with|some c=>K (.c c) [s] []|.none=>False)else False
    |_=>F K
   |.c (.pi cs off)=>match part i cs off with
    |some c=>K (.c c) [] []
    |.none=>False
   |_=>F K
  |.none=>False
 |.store t x y=>match T.get t,look x,(aQ (look y)).map (aN1 (T.get t))with
  |some i,.pm s g off,some c=>match obj s with
   |(g',.var cs)=>bif Nat.beq g g'&&Nat.beq c.cells.length i.size&&c.storable&&Nat.ble 1 i.size then(match setAt cs off c.cells with|some cs'=>K .any [s] [(s,(g,.var cs'))]|.none=>False)else False
   |_=>F K
  |_,_,_=>F K
 |.nilCheck x=>match look x with
  |.pm s g _=>match obj s with
   |(g',.var _)=>bif Nat.beq g g' then K (look x) [s] []else False
   |(g',.ro _)=>bif Nat.beq g g' then K (look x) [s] []else False
   |_=>F K
  |.c (.pi _ _)=>K (look x) [] []
  |.c (.fn _ _)=>K (look x) [] []
  |.Q7 _ _=>K (look x) [] []
  |_=>F K
 |.binOp op t x y _=>match aQ (look x),aQ (look y)with
  |some (.v a),some (.v b)=>iI op (match T.get t with|some { desc:=.bool, .. }=>true|_=>false) a b (λr=>K (.c (.v r)) [] [])
  |_,_=>F K
 |.unOp .not _ x=>match look x with
  |.kt=>K .kf [] []
  |.kf=>K .kt [] []
  |.c (.v (.bool b))=>K (.c (.v (.bool !b))) [] []
  |_=>False
 |.unOp .neg _ x=>match look x with
  |.c (.v (.int k n))=>K (.c (.v (.int k (k.wrap (0-n))))) [] []
  |_=>False
 |.convert s t x=>match T.get t,look x,T.get s with
  |some { desc:=.int k, .. },.c (.v (.int _ n)),some _=>K (.c (.v (.int k (k.wrap n)))) [] []
  |some { desc:=.string, .. },.c (.v (.string s)),some _=>K (.c (.v (.string s))) [] []
  |_,_,_=>F K
 |.makeFunc (.func f) first captured=>match first.toList with
  |[]=>K (.Q7 (.fn f) (captured.toList.map look)) [] []
  |_::_=>F K
 |.fieldAddr t x k=>match T.get t with
  |some { desc:=.struct fs, .. }=>match fs[k]? with
   |some f=>match T.get f.type with
    |some i=>bif Nat.beq i.size 0 then False else match look x with
     |.pm s g off=>match obj s with
      |(g',.var _)=>bif Nat.beq g g' then K (.pm s g (off+f.offset)) [s] []else False
      |(g',.ro _)=>bif Nat.beq g g' then K (.pm s g (off+f.offset)) [s] []else False
      |_=>F K
     |.c (.pi cs off)=>K (.c (.pi cs (off+f.offset))) [] []
     |_=>F K
    |.none=>False
   |.none=>False
  |_=>False
 |.field t x k=>match T.get t,look x with
  |some { desc:=.struct fs, .. },.c (.agg cs)=>match fs[k]? with
   |some f=>match T.get f.type with
    |some i=>match part i cs f.offset with
     |some c=>K (.c c) [] []
     |.none=>False
    |.none=>False
   |.none=>False
  |_,_=>False
 |.indexAddr t x i=>match T.get t with
  |some { desc:=.slice e, .. }=>match T.get e,eP (look x),look i with
   |some ti,some (sz,ds),.c (.v (.int _ n))=>0<=n/\(sz=ti.size\/n<0)/\∃d,ds[n.toNat]?=some d/\K (.c (.pi d 0)) [] []
   |_,_,_=>F K
  |_=>F K
 |.index t x i=>match T.get t with
  |some { desc:=.string, .. }=>match look x,look i with
   |.c (.v (.string s)),.c (.v (.int _ n))=>0<=n/\∃b,s[n.toNat]?=some b/\K (.c (.v (.int .u8 b.toNat))) [] []
   |_,_=>False
  |_=>False
 |.extract x k=>match look x with
  |.c (.P7 vs)=>match vs[k]? with
   |some c=>K (.c c) [] []
   |.none=>False
  |_=>F K
 |.call c=>match c.callee with
  |.builtin b=>gJ T look obj F b c d K
  |_=>jH H look obj F c K
 |_=>F K
end
def cap1:SV->Option CV
 |.rs t g=>some (.rs t g)
 |.pm t g off=>some (.pr t g off)
 |.mr t g=>some (.mr t g)
 |s=>aQ s
def OI:List SV->Option (List CV)
 |[]=>some []
 |s::r=>match cap1 s,OI r with
  |some c,some cs=>some (c::cs)
  |_,_=>.none
def aA4:SV->Option (List CV)
 |.rs t g=>some [.rs t g]
 |.pm t g off=>some [.pr t g off]
 |.mr t g=>some [.mr t g]
 |.Q7 (.fn f) caps=>(OI caps).map λcs=>[.fr f cs]
 |.aC cs=>some cs
 |s=>match aQ s with
  |some c=>bif c.storable then some c.cells else .none
  |.none=>.none
def CV.nK:CV->Bool
 |.rs _ _=>true
 |.pr _ _ _=>true
 |.mr _ _=>true
 |.fr _ _=>true
 |.bp _ _=>true
 |_=>false
def CV.EC:CV->Bool
 |.bp _ _=>true
 |_=>false
def am3:List CV->Bool
 |[]=>true
 |c::r=>bif c.EC then false else am3 r
def nN:List CV->Bool
 |[]=>true
 |c::r=>bif c.nK then false else nN r
def sv1:CV->SV
 |.rs t g=>.rs t g
 |.pr t g off=>.pm t g off
 |.mr t g=>.mr t g
 |.bp _ _=>.any
 |c=>.c c
def xA:CV->SV
 |.rs t g=>.rs t g
 |.pr t g off=>.pm t g off
 |.mr t g=>.mr t g
 |.fr f caps=>.Q7 (.fn f) (caps.map sv1)
 |.bp _ _=>.any
 |.agg cs=>bif nN cs then .c (.agg cs)else .aC cs
 |c=>.c c
def ag9(ds:List (List CV))(D8:Option (Nat×List CV))(n:Nat)(cs:List CV):Prop:=
 match D8 with
 |.none=>ds[n]?=some cs
 |some (m,d)=>(n=m/\cs=d)\/(n≠m/\ds[n]?=some cs)
def setCells(ds:List (List CV))(D8:Option (Nat×List CV))(n:Nat)(cs:List CV)(ds':List (List CV))(iM:Option (Nat×List CV)):Prop:=
 match D8 with
 |.none=>(nN cs=true/\ds'=ds.set n cs/\iM=.none)\/(ds'=ds/\iM=some (n,cs))
 |some (m,d)=>(n=m/\ds'=ds/\iM=some (n,cs))\/(n≠m/\nN cs=true/\ds'=ds.set n cs/\iM=some (m,d))
def TB(k:Nat):Option (Nat×List CV)->Option (Nat×List CV)
 |.none=>.none
 |some (m,cs)=>some (k+m,cs)
def sig(d j:Nat):Nat:=d+65536*j
def qV(obj:I5)(d m:Nat):CV->CV
 |.ow j=>bif Nat.blt j m then .rs (sig d j) ((obj (sig d j)).1+1)else .ow j
 |c=>c
def LK(obj:I5)(d m:Nat):CV->Option SV
 |.ow j=>bif Nat.blt j m then some (.rs (sig d j) ((obj (sig d j)).1+1))else .none
 |.agg cs=>some (.aC (cs.map (qV obj d m)))
 |_=>.none
def SN(obj:I5)(d m:Nat):Option (Nat×List CV)->Option (Nat×List CV)
 |.none=>.none
 |some (k,cs)=>some (k,cs.map (qV obj d m))
def pG(obj:I5)(d m:Nat):Nat->List (Nat×Nat×List (List CV)×Option (Nat×List CV))->BZ
 |_,[]=>[]
 |j,(el,sz,ds,D8)::r=>(sig d j,((obj (sig d j)).1+1,.arr el sz ds (SN obj d m D8)))::pG obj d m (j+1) r
section
variable(H:iW)(T:Tab)(look:Operand->SV)(obj:I5)
def BH(c:Call)(d:Option Nat)(K:Z8):Prop:=
 match c.args.toList,d,c.argTypes.toList with
 |[x,y],some d,[t1,t2]=>match T.get t1 with
  |some { desc:=.slice e, .. }=>match T.get e with
   |some i=>bif Nat.beq t1 t2&&Nat.ble 1 i.size&&Nat.ble i.bytes 4096&&Nat.beq i.zero.length i.size then
     match x,look x,look y with
     |.const (.slice .none 0 0),.c _,sy=>match eP sy with
      |some (_,ns)=>(∀n∈ns,n.length=i.size)/\ZM ns.length i.bytes/\K (.rs d ((obj d).1+1)) [] [(d,((obj d).1+1,.arr e i.size ns .none))]
      |.none=>False
     |_,.rs t g,.rs s g2=>match obj t,obj s with
      |(g',.arr el sz ds D8),(g2',.arr el2 sz2 ds2 DF)=>bif Nat.beq g g'&&Nat.beq g2 g2'&&Nat.beq el e&&Nat.beq sz i.size&&Nat.beq sz2 i.size&& !(Nat.beq t s)&& !(Nat.beq s d)&& !(Nat.beq t d)&&D8.isNone then
         ds.length+ds2.length<=4294967296/\∃ds',ds'=ds++ds2/\K (.rs d ((obj d).1+1)) [t,s] [(t,(g,.spent)),(s,(g2,.spent)),(d,((obj d).1+1,.arr e i.size ds' (TB ds.length DF)))]
       else False
      |_,_=>False
     |_,.rs t g,sy=>match obj t,eP sy with
      |(g',.arr el sz ds D8),some (_,ns)=>bif Nat.beq g g'&&Nat.beq el e&&Nat.beq sz i.size then
         (∀n∈ns,n.length=sz)/\ZM (ds.length+ns.length) i.bytes/\∃ds',ds'=ds++ns/\
         (bif Nat.beq t d then K (.rs t (g+1)) [t] [(t,(g+1,.arr e sz ds' D8))]
          else K (.rs d ((obj d).1+1)) [t] [(t,(g,.spent)),(d,((obj d).1+1,.arr e sz ds' D8))])
       else False
      |_,_=>False
     |_,.ap t g sz es,sy=>match obj t,eP sy with
      |(g',.tok el s),some (_,ns)=>bif Nat.beq g g'&&Nat.beq el e&&Nat.beq s sz&&Nat.beq sz i.size&& !(Nat.beq t d)then
         es=[]/\(∀n∈ns,n.length=sz)/\ns.length<=4294967296/\K (.rs d ((obj d).1+1)) [t] [(t,(g,.spent)),(d,((obj d).1+1,.arr e sz ns .none))]
       else False
      |_,_=>False
     |_,_,_=>False
    else False
   |.none=>False
  |_=>False
 |_,_,_=>False
def vS(c:Call)(d:Option Nat)(K:Z8):Prop:=
 match callArgs look c,d with
 |some (f,args,more),some d=>match wI obj args with
  |some (cs,ts)=>bif ts.isEmpty then ∃r os,H.fn f (cs++more) (.wo r os)/\(match LK obj d os.length r with
    |some s=>K s [] (pG obj d os.length 0 os)
    |.none=>False)else False
  |.none=>False
 |_,_=>False
def Y6(d:Option Nat)(op:Op)(K:Z8):Prop:=
 match op with
 |.load t x=>match T.get t with
  |some i=>match look x with
   |.pm s g off=>match obj s with
    |(g',.varx cs)=>bif Nat.beq g g' then(match part i cs off with|some c=>K (xA c) [s] []|.none=>False)else False
    |_=>False
   |.pe s g n off=>match obj s with
    |(g',.arr _ _ ds D8)=>bif Nat.beq g g' then(∃cs,ag9 ds D8 n cs/\match part i cs off with|some c=>K (xA c) [s] []|.none=>False)else False
    |_=>False
   |_=>False
  |.none=>False
 |.store t x y=>match T.get t,aA4 (look y)with
  |some i,some ys=>bif Nat.beq ys.length i.size&&Nat.ble 1 i.size&&am3 ys then(match look x with
   |.pm s g off=>match obj s with
    |(g',.var cs)=>bif Nat.beq g g'&&(aQ (look y)).isNone then(match setAt cs off ys with|some cs'=>K .any [s] [(s,(g,.varx cs'))]|.none=>False)else False
    |(g',.varx cs)=>bif Nat.beq g g' then(match setAt cs off ys with|some cs'=>K .any [s] [(s,(g,.varx cs'))]|.none=>False)else False
    |_=>False
   |.pe s g n off=>match obj s with
    |(g',.arr el sz ds D8)=>bif Nat.beq g g' then(∃cs,ag9 ds D8 n cs/\match setAt cs off ys with
       |some cs'=>∃ds' iM,setCells ds D8 n cs' ds' iM/\K .any [s] [(s,(g,.arr el sz ds' iM))]
       |.none=>False)else False
    |_=>False
   |_=>False)else False
  |_,_=>False
 |.nilCheck x=>match look x with
  |.pm s g _=>match obj s with
   |(g',.varx _)=>bif Nat.beq g g' then K (look x) [s] []else False
   |_=>False
  |.pe s g _ _=>match obj s with
   |(g',.arr _ _ _ _)=>bif Nat.beq g g' then K (look x) [s] []else False
   |_=>False
  |_=>False
 |.fieldAddr t x k=>match T.get t with
  |some { desc:=.struct fs, .. }=>match fs[k]? with
   |some f=>match T.get f.type with
    |some i=>bif Nat.beq i.size 0 then False else match look x with
     |.pm s g off=>match obj s with
      |(g',.varx _)=>bif Nat.beq g g' then K (.pm s g (off+f.offset)) [s] []else False
      |_=>False
     |.pe s g n off=>match obj s with
      |(g',.arr _ _ _ _)=>bif Nat.beq g g' then K (.pe s g n (off+f.offset)) [s] []else False
      |_=>False
     |_=>False
    |.none=>False
   |.none=>False
  |_=>False
 |.indexAddr t x i=>match T.get t with
  |some { desc:=.slice e, .. }=>match T.get e,look x,look i with
   |some ti,.rs s g,.c (.v (.int _ n))=>match obj s with
    |(g',.arr _ sz ds _)=>bif Nat.beq g g'&&Nat.beq sz ti.size then 0<=n/\n.toNat<ds.length/\K (.pe s g n.toNat 0) [s] []else False
    |_=>False
   |_,_,_=>False
  |_=>False
 |.buildSlice t len parts=>match T.get t with
  |some { desc:=.slice e, .. }=>match T.get e,d,parts.toList with
   |some i,some d,[(0,x)]=>match look x with
    |.aC cs=>bif Nat.beq len 1&&Nat.beq cs.length i.size&&Nat.ble 1 i.size&&Nat.ble i.size 256&&Nat.beq i.zero.length i.size then(∃cs0:List CV,K (.rs d ((obj d).1+1)) [] [(d,((obj d).1+1,.arr e i.size [cs0] (some (0,cs))))])else False
    |_=>False
   |_,_,_=>False
  |_=>False
 |.call c=>match c.callee with
  |.builtin .len=>match c.args.toList,(c.argTypes[0]?).bind T.get with
   |[x],some { desc:=.slice _, .. }=>match look x with
    |.rs s g=>match obj s with
     |(g',.arr _ _ ds _)=>bif Nat.beq g g' then K (.c (.v (.int .i64 ds.length))) [s] []else False
     |_=>False
    |_=>False
   |_,_=>False
  |.builtin .append=>BH T look obj c d K
  |.builtin _=>False
  |_=>vS H look obj c d K
 |_=>False
end
def kX:List (Nat×Nat)->Nat->Nat->Nat->Option Nat
 |[],_,_,_=>.none
 |(t,g)::r,s,h,j=>bif Nat.beq t s&&Nat.beq g h then some j else kX r s h (j+1)
section
variable(τ:List (Nat×Nat))(γ:Nat->Nat)
def uD:CV->Option CV
 |.rs t g=>(kX τ t g 0).map λj=>.rs j (γ j)
 |.pr t g off=>(kX τ t g 0).map λj=>.pr j (γ j) off
 |.mr t g=>(kX τ t g 0).map λj=>.mr j (γ j)
 |.fr _ _=>.none
 |c=>some c
def IU:List CV->Option (List CV)
 |[]=>some []
 |c::r=>match uD τ γ c,IU r with
  |some c,some cs=>some (c::cs)
  |_,_=>.none
def CS:CV->Option CV
 |.fr f caps=>(IU τ γ caps).map (CV.fr f)
 |c=>uD τ γ c
def fP:List CV->Option (List CV)
 |[]=>some []
 |c::r=>match CS τ γ c,fP r with
  |some c,some cs=>some (c::cs)
  |_,_=>.none
def qY:SV->Option SV
 |.rs t g=>(kX τ t g 0).map λj=>.rs j (γ j)
 |.pm t g off=>(kX τ t g 0).map λj=>.pm j (γ j) off
 |.mr t g=>(kX τ t g 0).map λj=>.mr j (γ j)
 |.pe t g n off=>(kX τ t g 0).map λj=>.pe j (γ j) n off
 |.ap t g sz es=>match kX τ t g 0 with
  |some j=>some (.ap j (γ j) sz es)
  |.none=>some (.c (.sl sz es))
 |.aC cs=>(fP τ γ cs).map SV.aC
 |.eF cs=>(fP τ γ cs).map SV.eF
 |.Q7 _ _=>.none
 |s=>some s
def TP:List SV->Option (List SV)
 |[]=>some []
 |s::r=>match qY τ γ s,TP r with
  |some s,some ss=>some (s::ss)
  |_,_=>.none
def ZU:SV->Option SV
 |.Q7 f caps=>(TP τ γ caps).map (SV.Q7 f)
 |s=>qY τ γ s
def TN:List SV->Option (List SV)
 |[]=>some []
 |s::r=>match ZU τ γ s,TN r with
  |some s,some ss=>some (s::ss)
  |_,_=>.none
def eY:D9->Option D9
 |.varx cs=>(fP τ γ cs).map D9.varx
 |.arr el sz ds (some (m,cs))=>(fP τ γ cs).map λcs=>.arr el sz ds (some (m,cs))
 |o=>some o
def oV(obj:I5):Nat->List (Nat×Nat)->Option (List (Nat×D9))
 |_,[]=>some []
 |j,(t,g)::r=>bif Nat.beq (obj t).1 g then(match eY τ γ (obj t).2,oV obj (j+1) r with
  |some o,some os=>some ((γ j,o)::os)
  |_,_=>.none)else .none
end
def G9(os:List (Nat×D9)):I5:=λj=>match os[j]? with
 |some o=>o
 |.none=>(0,.none)
def OG(n:Nat):CV->Bool
 |.rs j _=>Nat.blt j n
 |.pr j _ _=>Nat.blt j n
 |.mr j _=>Nat.blt j n
 |_=>true
def oK(n:Nat):CV->Bool
 |.fr _ caps=>caps.all (OG n)
 |c=>OG n c
def zX(n:Nat):SV->Bool
 |.rs j _=>Nat.blt j n
 |.pm j _ _=>Nat.blt j n
 |.mr j _=>Nat.blt j n
 |.pe j _ _ _=>Nat.blt j n
 |.ap j _ _ _=>Nat.blt j n
 |.aC cs=>cs.all (oK n)
 |.eF cs=>cs.all (oK n)
 |.Q7 _ _=>false
 |_=>true
def lV(n:Nat):SV->Bool
 |.Q7 _ caps=>caps.all (zX n)
 |s=>zX n s
def EK(n:Nat):D9->Bool
 |.varx cs=>cs.all (oK n)
 |.arr _ _ _ (some (_,cs))=>cs.all (oK n)
 |.none=>false
 |_=>true
section
variable(obj:I5)(d off:Nat)(τ:List (Nat×Nat))
def U1(j:Nat):Nat:=match τ[j]? with
 |some (t,_)=>t
 |.none=>sig d (off+j)
def bW(j k:Nat):Nat:=match τ[j]? with
 |some (_,g)=>g+k
 |.none=>(obj (sig d (off+j))).1+k
def CQ:CV->CV
 |.rs j k=>.rs (U1 d off τ j) (bW obj d off τ j k)
 |.pr j k o=>.pr (U1 d off τ j) (bW obj d off τ j k) o
 |.mr j k=>.mr (U1 d off τ j) (bW obj d off τ j k)
 |c=>c
def oJ:CV->CV
 |.fr f caps=>.fr f (caps.map (CQ obj d off τ))
 |c=>CQ obj d off τ c
def qX:SV->SV
 |.rs j k=>.rs (U1 d off τ j) (bW obj d off τ j k)
 |.pm j k o=>.pm (U1 d off τ j) (bW obj d off τ j k) o
 |.mr j k=>.mr (U1 d off τ j) (bW obj d off τ j k)
 |.pe j k n o=>.pe (U1 d off τ j) (bW obj d off τ j k) n o
 |.ap j k sz es=>.ap (U1 d off τ j) (bW obj d off τ j k) sz es
 |.aC cs=>.aC (cs.map (oJ obj d off τ))
 |.eF cs=>.eF (cs.map (oJ obj d off τ))
 |s=>s
def wZ:SV->SV
 |.Q7 f caps=>.Q7 f (caps.map (qX obj d off τ))
 |s=>qX obj d off τ s
def cZ:D9->D9
 |.varx cs=>.varx (cs.map (oJ obj d off τ))
 |.arr el sz ds (some (m,cs))=>.arr el sz ds (some (m,cs.map (oJ obj d off τ)))
 |o=>o
def aG:Nat->List (Nat×D9)->BZ
 |_,[]=>[]
 |j,(k,o)::r=>(U1 d off τ j,(bW obj d off τ j k,cZ obj d off τ o))::aG (j+1) r
end
def nO:List Nat->Bool
 |[]=>true
 |x::r=>bif r.any (Nat.beq x)then false else nO r
section
variable(H:iW)(T:Tab)(look:Operand->SV)(obj:I5)
def FW(d:Option Nat)(op:Op)(ty:TypeId)(K:Z8):Prop:=
 ∃(τ:List (Nat×Nat)) (off:Nat) (args:List SV) (os:List (Nat×D9)) (r:SV) (os':List (Nat×D9)),
  TN τ (λ_=>0) (op.operands.toList.map look)=some args/\oV τ (λ_=>0) obj 0 τ=some os/\H.eff op ty args os r os'/\
  (nO ((aG obj (d.getD 0) off τ 0 os').map (·.1))&&Nat.ble τ.length os'.length&&lV os'.length r&&os'.all (λo=>EK os'.length o.2))=true/\
  K (wZ obj (d.getD 0) off τ r) (τ.map (·.1)) (aG obj (d.getD 0) off τ 0 os')
def MX(d:Option Nat)(op:Op)(ty:TypeId)(K:Z8):Prop:=wpOp H T look obj (Y6 H T look obj d op) d op ty K
def FX(d:Option Nat)(op:Op)(ty:TypeId)(K:Z8):Prop:=MX H T look obj d op ty K\/FW H look obj d op ty K
def UM(d:Option Nat)(op:Op)(ty:TypeId)(K:Z8):Prop:=wpOp H T look obj (λK=>Y6 H T look obj d op K\/FW H look obj d op ty K) d op ty K
def ai0:Op->Bool
 |.alloc _=>true
 |.buildSlice _ _ _=>true
 |.assign (.const (.slice _ _ _))=>true
 |.binOp _ _ _ (.const .nilIface) _=>true
 |.index _ _ _=>true
 |.build _ _=>true
 |.box _ _=>true
 |_=>false
def dS(d:Option Nat)(op:Op)(ty:TypeId)(K:Z8):Prop:=bif ai0 op then(UM H T look obj d op ty K\/FW H look obj d op ty K)else UM H T look obj d op ty K
end
def inRange(n:Nat):Option Nat->Bool
 |.none=>true
 |some d=>Nat.blt d n
def YJ:Op->Option (Bool×TypeId×Operand)
 |.binOp .eql t x (.const (.slice .none 0 0)) _=>some (true,t,x)
 |.binOp .neq t x (.const (.slice .none 0 0)) _=>some (false,t,x)
 |_=>.none
def bR6(T:Tab)(look:Operand->SV)(obj:I5)(t:TypeId)(x:Operand):Option (List (List CV)):=
 match T.get t with
 |some { desc:=.slice _, .. }=>match look x with
  |.rs s g=>match obj s with
   |(g',.arr _ _ ds _)=>bif Nat.beq g g' then some ds else .none
   |_=>.none
  |s=>(eP s).map (·.2)
 |_=>.none
def ac8(T:Tab)(st:St)(q:Bool)(t:TypeId)(x:Operand)(K:SV->Prop):Prop:=
 match bR6 T (look st) st.obj t x with
 |some ds=>∀b:Bool,(b=true->ds=[])->K (bif (b==q)then .kt else .kf)
 |.none=>look st x=.c (.v (.slice .none 0 0))/\(match T.get t with|some { desc:=.slice _, .. }=>True|_=>False)/\K (bif q then .kt else .kf)
def KC:Code->Bool
 |.cond _ _ _=>true
 |.block _ _=>true
 |.region _ ops _=>ops.toList.any λo=>o.guard.isSome
 |_=>false
def ai5(env:Nat->SV):Nat->List SV->Prop
 |_,[]=>True
 |t,s::r=>(s=.any\/s=env t)/\ai5 env (t+1) r
def aK5(K:Exit->St->Prop)(J:Code)(st:St):Prop:=
 match J with
 |.ret=>K .ret st
 |.exit id=>K (.exit id) st
 |_=>False
def ba5(H:iW)(n:Nat)(g:Operand)(ps:Array Tmp)(assign body:Code)(K:Exit->St->Prop)(st:St):Prop:=
 ∃(s0:Nat) (env:List SV) (f:FuncId) (caps:List SV),(look st g=.Q7 (.fn f) caps\/∃cs:List CV,look st g=.c (.fn f cs)/\caps=cs.map SV.c)/\
  Nat.beq env.length n=true/\ai5 st.env 0 env/\∀(l:Nat)(R:Loop),R.params=ps->R.assign=assign->R.body=body->R.tmps.size=n->
   ∃(τ:List (Nat×Nat)) (off:Nat) (args:List SV) (os:List (Nat×D9)) (r:SV) (os':List (Nat×D9)),
    TN τ (λ_=>0) (.Q7 (.yl l R.tmps.toList) env::caps)=some args/\oV τ (λ_=>0) (upd st.obj [(s0,((st.obj s0).1+1,.lp l R .on))]) 0 τ=some os/\H.efn f args os r os'/\
    (nO ((aG (upd st.obj [(s0,((st.obj s0).1+1,.lp l R .on))]) 0 off τ 0 os').map (·.1))&&Nat.ble τ.length os'.length&&lV os'.length r&&os'.all (λo=>EK os'.length o.2))=true/\
    ∃(g':Nat) (b:Bool) (J:Code),upd (upd st.obj [(s0,((st.obj s0).1+1,.lp l R .on))]) (aG (upd st.obj [(s0,((st.obj s0).1+1,.lp l R .on))]) 0 off τ 0 os') s0=(g',.lp l R (mJ b J))/\
     (b=true->K .normal ⟨st.env,upd (upd (upd st.obj [(s0,((st.obj s0).1+1,.lp l R .on))]) (aG (upd st.obj [(s0,((st.obj s0).1+1,.lp l R .on))]) 0 off τ 0 os')) [(s0,(g',.spent))]⟩)/\
     (b=false->aK5 K J ⟨st.env,upd (upd (upd st.obj [(s0,((st.obj s0).1+1,.lp l R .on))]) (aG (upd st.obj [(s0,((st.obj s0).1+1,.lp l R .on))]) 0 off τ 0 os')) [(s0,(g',.spent))]⟩)
section
variable(H:iW)(T:Tab)(n:Nat)
def wpOps(all:List Oper):List Oper->St->(St->Prop)->Prop
 |[],st,K=>K st
 |o::rest,st,K=>
  bif inRange n o.dst then
   match o.guard with
   |.none=>match YJ o.op with
    |some (q,t,x)=>ac8 T st q t x λr=>wpOps all rest ⟨put st.env o.dst r,st.obj⟩ K
    |.none=>dS H T (look st) st.obj o.dst o.op o.type λr _ u=>wpOps all rest ⟨put st.env o.dst r,upd st.obj u⟩ K
   |some (j,want)=>match(all[j]?).bind (·.dst)with
    |.none=>False
    |some dj=>match st.env dj with
     |.kt=>bif want then dS H T (look st) st.obj o.dst o.op o.type λr _ u=>wpOps all rest ⟨put st.env o.dst r,upd st.obj u⟩ K
       else wpOps all rest ⟨put st.env o.dst .un,st.obj⟩ K
     |.kf=>bif want then wpOps all rest ⟨put st.env o.dst .un,st.obj⟩ K
       else dS H T (look st) st.obj o.dst o.op o.type λr _ u=>wpOps all rest ⟨put st.env o.dst r,upd st.obj u⟩ K
     |.c (.v (.bool b))=>
       (b=true->bif want then dS H T (look ⟨put st.env (some dj) .kt,st.obj⟩) st.obj o.dst o.op o.type λr _ u=>wpOps all rest ⟨put (put st.env (some dj) .kt) o.dst r,upd st.obj u⟩ K
         else wpOps all rest ⟨put (put st.env (some dj) .kt) o.dst .un,st.obj⟩ K)/\
       (b=false->bif want then wpOps all rest ⟨put (put st.env (some dj) .kf) o.dst .un,st.obj⟩ K
         else dS H T (look ⟨put st.env (some dj) .kf,st.obj⟩) st.obj o.dst o.op o.type λr _ u=>wpOps all rest ⟨put (put st.env (some dj) .kf) o.dst r,upd st.obj u⟩ K)
     |.un=>wpOps all rest ⟨put st.env o.dst .un,st.obj⟩ K
     |_=>False
  else False
structure Z7 where
 r:SV
 rd:List Nat
 wr:BZ
def zD(all:List Oper)(i:Nat):Bool:=all.any λo=>match o.guard with|some (j,_)=>Nat.beq j i|.none=>false
def Z7.sites(e:Z7):List Nat:=e.wr.map (·.1)
def dZ(st:St)(o:Oper)(e:Z7):St:=⟨put st.env o.dst e.r,upd st.obj e.wr⟩
def QG(x:Nat):List Nat->Bool
 |[]=>false
 |y::r=>bif Nat.beq x y then true else QG x r
def VP:List Nat->List Nat->Bool
 |[],_=>true
 |x::r,l=>bif QG x l then false else VP r l
def tV(ops:Array Oper)(oi ok:Oper)(ei ek:Z7):Bool:=
 oi.apart ops ok&&VP ei.sites (ek.rd++ek.sites)&&VP ek.sites ei.rd
def YL(ops:Array Oper)(mask:Nat)(ok:Oper)(ek:Z7):Nat->List (Oper×Z7)->Bool
 |_,[]=>true
 |i,(oi,ei)::r=>bif Nat.testBit mask i || tV ops oi ok ei ek then YL ops mask ok ek (i+1) r else false
def YK(ops:Array Oper):List Nat->List (Oper×Z7)->List (Oper×Z7)->Bool
 |_,_,[]=>true
 |[],_,_::_=>false
 |m::ms,done,(o,e)::r=>bif YL ops m o e 0 done then YK ops ms (done++[(o,e)]) r else false
def yL:Nat->List Oper->Bool
 |_,[]=>true
 |i,o::r=>bif o.after.all (λe=> !Region.binds .any e || Nat.blt e.on i)then yL (i+1) r else false
def KP(ops:List Oper)(tr:List Z7):Bool:=YK ops.toArray (Region.before ops.toArray).toList [] (ops.zip tr)&&yL 0 ops
def pF(guards:Bool)(r:SV)(K:SV->Prop):Prop:=
 bif guards then(match r with
  |.c (.v (.bool b))=>(b=true->K .kt)/\(b=false->K .kf)
  |r=>K r)
 else K r
def kJ(all:List Oper):Nat->List Oper->St->List Z7->(List Z7->St->Prop)->Prop
 |_,[],st,tr,K=>K tr.reverse st
 |i,o::rest,st,tr,K=>
  bif inRange n o.dst then
   match o.guard with
   |.none=>dS H T (look st) st.obj o.dst o.op o.type λr rd u=>pF (zD all i) r λr=>kJ all (i+1) rest (dZ st o ⟨r,rd,u⟩) (⟨r,rd,u⟩::tr) K
   |some (j,want)=>match(all[j]?).bind (·.dst)with
    |.none=>False
    |some dj=>match st.env dj with
     |.kt=>bif want then dS H T (look st) st.obj o.dst o.op o.type λr rd u=>pF (zD all i) r λr=>kJ all (i+1) rest (dZ st o ⟨r,rd,u⟩) (⟨r,rd,u⟩::tr) K
       else kJ all (i+1) rest (dZ st o ⟨.un,[],[]⟩) (⟨.un,[],[]⟩::tr) K
     |.kf=>bif want then kJ all (i+1) rest (dZ st o ⟨.un,[],[]⟩) (⟨.un,[],[]⟩::tr) K
       else dS H T (look st) st.obj o.dst o.op o.type λr rd u=>pF (zD all i) r λr=>kJ all (i+1) rest (dZ st o ⟨r,rd,u⟩) (⟨r,rd,u⟩::tr) K
     |.un=>kJ all (i+1) rest (dZ st o ⟨.un,[],[]⟩) (⟨.un,[],[]⟩::tr) K
     |_=>False
  else False
def ba2(ops:List Oper)(st:St)(K:St->Prop):Prop:=
 kJ H T n ops 0 ops st [] λtr st'=>KP ops tr=true/\K st'
def zM(obj:I5):SV->SV
 |.ap t g sz es=>match obj t with
  |(g',.tok _ _)=>bif Nat.beq g g' then .ap t 0 sz es else .c (.sl sz es)
  |_=>.c (.sl sz es)
 |.pm t g off=>match obj t with
  |(g',.var _)=>bif Nat.beq g g' then .pm t 0 off else .any
  |(g',.ro _)=>bif Nat.beq g g' then .pm t 0 off else .any
  |(g',.varx _)=>bif Nat.beq g g' then .pm t 0 off else .any
  |_=>.any
 |.Q7 _ _=>.any
 |.aC _=>.any
 |.eF _=>.any
 |.rs t g=>match obj t with
  |(g',.arr _ _ _ _)=>bif Nat.beq g g' then .rs t 0 else .any
  |_=>.any
 |.mr t g=>match obj t with
  |(g',.map _)=>bif Nat.beq g g' then .mr t 0 else .any
  |_=>.any
 |.pe t g n off=>match obj t with
  |(g',.arr _ _ _ _)=>bif Nat.beq g g' then .pe t 0 n off else .any
  |_=>.any
 |.kt=>.c (.v (.bool true))
 |.kf=>.c (.v (.bool false))
 |s=>s
def aN5(obj:I5):SV->SV
 |.Q7 f caps=>.Q7 f (caps.map (zM obj))
 |s=>zM obj s
def EG(obj:I5):CV->Bool
 |.rs t g=>match obj t with
  |(g',.arr _ _ _ _)=>Nat.beq g g'
  |_=>false
 |.pr t g _=>match obj t with
  |(g',.var _)=>Nat.beq g g'
  |(g',.ro _)=>Nat.beq g g'
  |(g',.varx _)=>Nat.beq g g'
  |_=>false
 |.mr t g=>match obj t with
  |(g',.map _)=>Nat.beq g g'
  |_=>false
 |.fr _ _=>false
 |_=>true
def aL8(obj:I5):CV->Bool
 |.fr _ caps=>caps.all (EG obj)
 |c=>EG obj c
def YA(obj:I5)(cs:List CV):Bool:=cs.all (aL8 obj)
def YM:CV->CV
 |.rs t _=>.rs t 0
 |.pr t _ off=>.pr t 0 off
 |.mr t _=>.mr t 0
 |c=>c
def zL:CV->CV
 |.fr f caps=>.fr f (caps.map YM)
 |c=>YM c
def jD(obj:I5):D9->D9
 |.varx cs=>bif YA obj cs then .varx (cs.map zL)else .none
 |.arr el sz ds (some (m,cs))=>bif YA obj cs then .arr el sz ds (some (m,cs.map zL))else .none
 |o=>o
def PIN:Nat:=4294967296
def am5(st:St)(s:Nat):D9:=bif Nat.blt s PIN || Nat.beq (st.obj s).1 0 then jD st.obj (st.obj s).2 else .none
def Weak(st st':St):Prop:=
 (∀t,st'.env t=.any\/st'.env t=aN5 st.obj (st.env t))/\∀s,st'.obj s=(0,.none)\/st'.obj s=(0,am5 st s)
def dB:Code->(Exit->St->Prop)->St->Prop
 |.skip,K,st=>K .normal st
 |.region _ ops draw,K,st=>bif draw then ba2 H T n ops.toList st (K .normal)else wpOps H T n ops.toList ops.toList st (K .normal)
 |.seq a b,K,st=>bif KC a then dB a (λe st=>match e with|.normal=>dB b K st\/∃st0,Weak st st0/\dB b K st0|e=>K e st) st
   else dB a (λe st=>match e with|.normal=>dB b K st|e=>K e st) st
 |.cond c a b,K,st=>match look st c with
  |.kt=>dB a K st
  |.kf=>dB b K st
  |.c (.v (.bool q))=>(q=true->dB a K st)/\(q=false->dB b K st)
  |_=>False
 |.block id body,K,st=>dB body (λe st=>match e with|.exit j=>bif Nat.beq j id then K .normal st else K e st|e=>K e st) st
 |.loop body,K,st=>∃I:Nat->St->Prop,(∃k st0,Weak st st0/\I k st0)/\
   ∀k st1,I k st1->dB body (λe st2=>match e with|.normal=>∃k' MB,k'<k/\Weak st2 MB/\I k' MB|e=>K e st2) st1
 |.exit id,K,st=>K (.exit id) st
 |.ret,K,st=>K .ret st
 |.rangeFunc g ps assign body,K,st=>ba5 H n g ps assign body K st
 |.scope body,K,st=>dB body (λe st=>match e with|.goto _=>False|e=>K e st) st
 |.label _,K,st=>K .normal st
 |_,_,_=>False
end
def cO:Code->Bool
 |.rangeFunc _ _ _ _=>false
 |.seq a b=>cO a&&cO b
 |.cond _ a b=>cO a&&cO b
 |.block _ a=>cO a
 |.loop a=>cO a
 |.scope a=>cO a
 |_=>true
def uU:List (Nat×SV)->Nat->SV
 |[],_=>.any
 |(k,s)::r,t=>bif Nat.beq k t then s else uU r t
def mkObj:List (Nat×D9)->I5
 |[],_=>(0,.none)
 |(k,o)::r,s=>bif Nat.beq k s then(0,o)else mkObj r s
def aB(st:St):List (Nat×SV)->Prop
 |[]=>True
 |(t,s)::r=>aN5 st.obj (st.env t)=s/\aB st r
def GV(st:St):List (Nat×D9)->Prop
 |[]=>True
 |(t,o)::r=>am5 st t=o/\GV st r
theorem a96{st:St}{l:List (Nat×SV)}{m:List (Nat×D9)}(h:aB st l)(h':GV st m):Weak st ⟨uU l,mkObj m⟩:=by
 constructor
 .intro t;induction l with
  |nil=>exact .inl rfl
  |cons p r ih=>
   obtain⟨k,s⟩:=p;simp only[uU];cases hb:Nat.beq k t with
   |false=>exact ih h.2
   |true=>
    have:=F8 hb;subst this;exact .inr h.1.symm
 .intro t;induction m with
  |nil=>exact .inl rfl
  |cons p r ih=>
   obtain⟨k,o⟩:=p;simp only[mkObj];cases hb:Nat.beq k t with
   |false=>exact ih h'.2
   |true=>
    have:=F8 hb;subst this;exact .inr (by rw[h'.1];rfl)
def ak8:List CV->Nat->SV
 |[],_=>.any
 |c::_,0=>.c c
 |_::r,t+1=>ak8 r t
def XK(args:List CV):St:=⟨ak8 args,λ_=>(0,.none)⟩
def zV(T:Tab)(st:St):ResultVar->Option CV
 |.tmp t=>aQ (st.env t)
 |.cell x t=>match T.get t,st.env x with
  |some i,.pm s g off=>match st.obj s with
   |(g',.var cs)=>bif Nat.beq g g' then part i cs off else .none
   |_=>.none
  |_,_=>.none
def ZB(T:Tab)(st:St)(rv:ResultVar)(c:CV):Prop:=
 match rv with
 |.tmp t=>match st.env t with
  |.rs s g=>match st.obj s with
   |(g',.arr _ sz ds D8)=>Nat.beq g g'=true/\∃ds',c=.sl sz ds'/\(match D8 with
    |.none=>ds'=ds
    |some (m,cs)=>∃cs',DJ st.obj cs=some cs'/\ds'=ds.set m cs')
   |_=>False
  |.aC cs=>∃cs',DJ st.obj cs=some cs'/\c=.agg cs'
  |.mr s g=>match st.obj s with
   |(g',.map es)=>Nat.beq g g'=true/\c=.mp es
   |_=>False
  |_=>zV T st rv=some c
 |.cell x t=>match T.get t,st.env x with
  |some i,.pm s g off=>match st.obj s with
   |(g',.varx cs)=>Nat.beq g g'=true/\∃cs',DJ st.obj cs=some cs'/\part i cs' off=some c
   |_=>zV T st rv=some c
  |_,_=>False
def ZC(T:Tab)(st:St):List ResultVar->List CV->Prop
 |[],cs=>cs=[]
 |r::rs,cs=>match cs with
  |[]=>False
  |c::cs=>ZB T st r c/\ZC T st rs cs
def jG(T:Tab)(st:St):List ResultVar->Option (List CV)
 |[]=>some []
 |r::rs=>match zV T st r,jG T st rs with
  |some c,some cs=>some (c::cs)
  |_,_=>.none
def ZA(T:Tab)(st:St)(rs:List ResultVar):Option CV:=
 match rs with
 |[x]=>zV T st x
 |rs=>(jG T st rs).map CV.P7
def jM(τ:List (Nat×Nat)):CV->Option CV
 |.ow j=>match τ[j]? with
  |some (t,g)=>some (.rs t g)
  |.none=>.none
 |.rs _ _=>.none
 |.pr _ _ _=>.none
 |.mr _ _=>.none
 |.fr _ _=>.none
 |.bp _ _=>.none
 |c=>some c
def tX(τ:List (Nat×Nat)):List CV->Option (List CV)
 |[]=>some []
 |c::r=>match jM τ c,tX τ r with
  |some c,some cs=>some (c::cs)
  |_,_=>.none
def OB(τ:List (Nat×Nat)):Option (Nat×List CV)->Option (Option (Nat×List CV))
 |.none=>some .none
 |some (m,cs)=>(tX τ cs).map λcs=>some (m,cs)
def SA(st:St)(τ:List (Nat×Nat)):List (Nat×Nat)->List (Nat×Nat×List (List CV)×Option (Nat×List CV))->Prop
 |[],os=>os=[]
 |(t,g)::r,os=>match os with
  |[]=>False
  |(el,sz,ds,D8)::os=>(match OB τ D8 with
   |some f=>st.obj t=(g,.arr el sz ds f)
   |.none=>False)/\SA st τ r os
def nodupB:List Nat->Bool
 |[]=>true
 |x::r=>bif r.any (Nat.beq x)then false else nodupB r
def bM0(T:Tab)(st:St)(rs:List ResultVar)(r:CV)(os:List (Nat×Nat×List (List CV)×Option (Nat×List CV))):Prop:=
 ∃τ:List (Nat×Nat),nodupB (τ.map (·.1))=true/\SA st τ τ os/\match rs,r with
  |[.tmp t],.ow j=>(τ[j]?).map (λp=>SV.rs p.1 p.2)=some (st.env t)
  |[.tmp t],.agg cs=>(tX τ cs).map SV.aC=some (st.env t)
  |[.cell x t],.agg cs=>(match T.get t,st.env x with
   |some i,.pm s g off=>match st.obj s with
    |(g',.varx ys)=>Nat.beq g g'=true/\∃zs,tX τ cs=some zs/\part i ys off=some (.agg zs)
    |_=>False
   |_,_=>False)
  |_,_=>False
def qW(T:Tab)(rs:List ResultVar)(r:CV)(st:St):Prop:=
 (r.pure=true/\ZA T st rs=some r)\/(match r with
   |.wo r os=>bM0 T st rs r os
   |.P7 cs=>ZC T st rs cs/\rs.length≠1
   |r=>match rs with|[x]=>ZB T st x r|_=>False)
def bL8(T:Tab)(rs:List ResultVar)(r:CV)(e:Exit)(st:St):Prop:=
 match e with
 |.ret=>qW T rs r st
 |.normal=>qW T rs r st
 |_=>False
end Go.F6
namespace Go.F6
open Go Go.RowKit
abbrev dG(ρ:Option Nat):Fence:={ Fence.wide with round:=ρ }
def Oper.bT(P:Program)(o:Oper)(a:Act)(w:World)(next:Act->World->Prop)(Q:Exit->Act->World->Prop):Prop:=
 ∀ρ:Option Nat,o.wpIn (dG ρ) 0 P a w next Q
theorem OH{ρ:Option Nat}{n:Nat}{P:Program}{f:FuncId}{args:Array Value}{w:World}{R:Ending->World->Prop}:CallsIn (dG ρ) n P f args w R↔Calls P f args w R:=callsIn_wide
theorem MW{P:Program}{o:Oper}{a:Act}{w:World}{next:Act->World->Prop}{Q:Exit->Act->World->Prop}(hd:∀c,o.op≠.defer c)(h:o.wp P a w next Q):Oper.bT P o a w next Q:=by
 intro ρ;refine⟨λ_ _=>trivial,?_⟩;rw[Oper.semAt_eq _ _ _ hd];unfold Oper.wp at h;generalize (execOp a.eval o).run P w=r at h;have hn:∀m:Nat,((dG ρ).depth.isSome=true->1<=m):=λm h=>by cases h
 cases r with
 |ok x w'=>
  cases x with
  |enter f args=>exact⟨hn _,OH.2 h⟩
  |row row args=>exact⟨hn _,λc cs _=>by obtain⟨v,w'',q1,q2⟩:=h c cs;exact⟨v,w'',q1,stepsIn_wide.2 q2⟩⟩
  |_=>first|exact h|exact h.elim
 |halt x w'=>cases x<;>first|exact h|exact h.elim
theorem Keeps.refl(Z:Zone)(w:World):Keeps Z w Z w:=λ_ _ h=>⟨h,rfl,λ_ _ h=>h⟩
theorem Keeps.trans{Z Z' eH:Zone}{w w' w'':World}(h:Keeps Z w Z' w')(h':Keeps Z' w' eH w''):Keeps Z w eH w'':=
 λb o hz=>⟨(h' b o (h b o hz).1).1,(h' b o (h b o hz).1).2.1.trans (h b o hz).2.1,λes c he=>(h' b o (h b o hz).1).2.2 es c ((h b o hz).2.2 es c he)⟩
theorem Rep.keep{Z Z':Zone}{w w':World}(hk:Keeps Z w Z' w'){c:CV}{x:Value}(h:Rep Z w c x):Rep Z' w' c x:=by
 induction h with
 |v x=>exact .v x
 |agg cs vs hl _ ha ih=>exact .agg cs vs hl ih ha
 |nil sz a cap=>exact .nil sz a cap
 |sl sz ds b o cap f hcap hsz hc _ ih=>
  refine .sl sz ds b o cap f hcap hsz (λi j d c h1 h2=>?_) ih;obtain⟨hz,hcell,hat⟩:=hc i j d c h1 h2;exact⟨(hk _ _ hz).1,(hk _ _ hz).2.1.trans hcell,hat⟩
 |pi cs b o off f hc _ ih=>
  refine .pi cs b o off f (λj c h1=>?_) ih;obtain⟨hz,hcell,hat⟩:=hc j c h1;exact⟨(hk _ _ hz).1,(hk _ _ hz).2.1.trans hcell,hat⟩
 |fn f caps vs hl _ ih=>exact .fn f caps vs hl ih
 |P7 cs vs hl _ ih=>exact .P7 cs vs hl ih
 |YG=>exact .YG
 |mp es b arr clock hz hh hl _ _ ih1 ih2=>exact .mp es b arr clock (hk _ _ hz).1 ((hk _ _ hz).2.2 _ _ hh) hl ih1 ih2
theorem Rep.atom{Z:Zone}{w:World}{c:CV}{x:Value}(h:Rep Z w c x)(ha:c.atom=true):x.oneCell'=true:=by
 cases h<;>first|exact ha|rfl|(simp[CV.atom]at ha)
def O8(Z:Zone)(w:World)(cs:List CV)(vs:List Value):Prop:=cs.length=vs.length/\∀(i:Nat)(c:CV)(x:Value),cs[i]?=some c->vs[i]?=some x->Rep Z w c x
theorem O8.nil(Z:Zone)(w:World):O8 Z w [] []:=⟨rfl,λi c x h=>by simp at h⟩
theorem O8.cons{Z:Zone}{w:World}{c:CV}{x:Value}{cs:List CV}{vs:List Value}(h:Rep Z w c x)(hs:O8 Z w cs vs):O8 Z w (c::cs) (x::vs):=by
 refine⟨by simp[hs.1],λi c' x' h1 h2=>?_⟩;cases i with
 |zero=>grind
 |succ i=>simp at h1 h2;exact hs.2 i c' x' h1 h2
theorem O8.head{Z:Zone}{w:World}{c:CV}{x:Value}{cs:List CV}{vs:List Value}(h:O8 Z w (c::cs) (x::vs)):Rep Z w c x:=h.2 0 c x rfl rfl
theorem O8.tail{Z:Zone}{w:World}{c:CV}{x:Value}{cs:List CV}{vs:List Value}(h:O8 Z w (c::cs) (x::vs)):O8 Z w cs vs:=
 ⟨by have:=h.1;simpa using this,λi c' x' h1 h2=>h.2 (i+1) c' x' (by simpa using h1) (by simpa using h2)⟩
theorem O8.keep{Z Z':Zone}{w w':World}(hk:Keeps Z w Z' w'){cs:List CV}{vs:List Value}(h:O8 Z w cs vs):O8 Z' w' cs vs:=⟨h.1,λi c x h1 h2=>(h.2 i c x h1 h2).keep hk⟩
theorem O8.append{Z:Zone}{w:World}{cs ds:List CV}{vs us:List Value}(h:O8 Z w cs vs)(k:O8 Z w ds us):O8 Z w (cs++ds) (vs++us):=by
 induction cs generalizing vs with
 |nil=>
  cases vs with
  |nil=>exact k
  |cons x xs=>have:=h.1;simp at this
 |cons c cs ih=>
  cases vs with
  |nil=>have:=h.1;simp at this
  |cons x xs=>exact O8.cons h.head (ih h.tail)
def live(obj:I5)(t g:Nat):Prop:=∃cs,obj t=(g,.var cs)\/obj t=(g,.ro cs)\/obj t=(g,.varx cs)
inductive fM(Z:Zone)(w:World)(obj:I5)(E:Nat->Value):CV->Value->Prop
 |cl {c:CV} {x:Value} (h:Rep Z w c x):fM Z w obj E c x
 |rs (t g:Nat) (x:Value) (hs:∃a l k,x=.slice a l k) (hg:g<=(obj t).1) (h:∀el sz ds D8,obj t=(g,.arr el sz ds D8)->E t=x):fM Z w obj E (.rs t g) x
 |pr (t g off:Nat) (x:Value) (hs:∃p,x=.pointer p) (hg:g<=(obj t).1) (h:live obj t g->∃b,E t=.pointer (some ⟨b,0,none⟩)/\x=.pointer (some ⟨b,off,none⟩)):fM Z w obj E (.pr t g off) x
 |mr (t g:Nat) (x:Value) (hs:∃b,x=.map b) (hg:g<=(obj t).1) (h:∀es,obj t=(g,.map es)->E t=x):fM Z w obj E (.mr t g) x
 |bp (T:Nat) (f:Bool) (x:Value) (hs:∃p,x=.pointer p):fM Z w obj E (.bp T f) x
inductive X5(Z:Zone)(w:World)(obj:I5)(E:Nat->Value):CV->Value->Prop
 |one {c:CV} {x:Value} (h:fM Z w obj E c x):X5 Z w obj E c x
 |fr (f:FuncId) (caps:List CV) (vs:List Value) (hl:caps.length=vs.length) (h:∀(i:Nat)(c:CV)(x:Value),caps[i]?=some c->vs[i]?=some x->fM Z w obj E c x):
   X5 Z w obj E (.fr f caps) (.func (.func f) #[] vs.toArray)
theorem X5.cl{Z:Zone}{w:World}{obj:I5}{E:Nat->Value}{c:CV}{x:Value}(h:Rep Z w c x):X5 Z w obj E c x:=.one (.cl h)
inductive N7(Z:Zone)(w:World)(obj:I5)(E:Nat->Value):SV->Value->Prop
 |any (x:Value):N7 Z w obj E .any x
 |un:N7 Z w obj E .un undef
 |kt:N7 Z w obj E .kt (.bool true)
 |kf:N7 Z w obj E .kf (.bool false)
 |c (c:CV) (x:Value) (h:Rep Z w c x):N7 Z w obj E (.c c) x
 |pm (t g off:Nat) (x:Value) (hs:∃p,x=.pointer p) (hg:g<=(obj t).1) (h:live obj t g->∃b,E t=.pointer (some ⟨b,0,none⟩)/\x=.pointer (some ⟨b,off,none⟩)):N7 Z w obj E (.pm t g off) x
 |ap (t g sz:Nat) (es:List (List CV)) (x:Value) (h:Rep Z w (.sl sz es) x) (hg:g<=(obj t).1) (ht:∀el s,obj t=(g,.tok el s)->E t=x):N7 Z w obj E (.ap t g sz es) x
 |Q7 (f:FV) (caps:List SV) (vs:List Value) (hf:f.ok vs) (hl:caps.length=vs.length) (h:∀(i:Nat)(s:SV)(x:Value),caps[i]?=some s->vs[i]?=some x->N7 Z w obj E s x):
   N7 Z w obj E (.Q7 f caps) (f.val vs)
 |rs (t g:Nat) (x:Value) (hs:∃a l k,x=.slice a l k) (hg:g<=(obj t).1) (h:∀el sz ds D8,obj t=(g,.arr el sz ds D8)->E t=x):N7 Z w obj E (.rs t g) x
 |aC (cs:List CV) (vs:List Value) (hl:cs.length=vs.length) (h:∀(i:Nat)(c:CV)(x:Value),cs[i]?=some c->vs[i]?=some x->X5 Z w obj E c x)
   (ha:∀(i:Nat)(c:CV),cs[i]?=some c->c.atom=true):N7 Z w obj E (.aC cs) (.agg vs.toArray)
 |eF (cs:List CV) (vs:List Value) (hl:cs.length=vs.length) (h:∀(i:Nat)(c:CV)(x:Value),cs[i]?=some c->vs[i]?=some x->X5 Z w obj E c x)
   (ha:∀(i:Nat)(c:CV),cs[i]?=some c->c.atom=true):N7 Z w obj E (.eF cs) (.tuple vs.toArray)
 |pe (t g n off:Nat) (x:Value) (hg:g<=(obj t).1) (h:∀el sz ds D8,obj t=(g,.arr el sz ds D8)->∃b l k,E t=.slice (some ⟨b,0,none⟩) l k/\x=.pointer (some ⟨b,n*sz+off,none⟩)):N7 Z w obj E (.pe t g n off) x
 |mr (t g:Nat) (x:Value) (hs:∃b,x=.map b) (hg:g<=(obj t).1) (h:∀es,obj t=(g,.map es)->E t=x):N7 Z w obj E (.mr t g) x
structure dH(obj:I5)(E:Nat->Value)(E5:I5)(E':Nat->Value):Prop where
 gen:∀t,(obj t).1<=(E5 t).1
 var:∀t g,g<=(obj t).1->live E5 t g->live obj t g/\E' t=E t
 tok:∀t g el s,g<=(obj t).1->E5 t=(g,.tok el s)->obj t=(g,.tok el s)/\E' t=E t
 arr:∀t g el sz ds D8,g<=(obj t).1->E5 t=(g,.arr el sz ds D8)->(∃ds0 mD,obj t=(g,.arr el sz ds0 mD))/\E' t=E t
 map:∀t g es,g<=(obj t).1->E5 t=(g,.map es)->(∃es0,obj t=(g,.map es0))/\E' t=E t
theorem dH.refl(obj:I5)(E:Nat->Value):dH obj E obj E:=⟨λ_=>J6 _,λ_ _ _ h=>⟨h,rfl⟩,λ_ _ _ _ _ h=>⟨h,rfl⟩,λ_ _ _ _ _ _ _ h=>⟨⟨_,_,h⟩,rfl⟩,λ_ _ _ _ h=>⟨⟨_,h⟩,rfl⟩⟩
theorem fM.keep{Z Z':Zone}{w w':World}{obj E5:I5}{E E':Nat->Value}(hk:Keeps Z w Z' w')(ho:dH obj E E5 E'){c:CV}{x:Value}(h:fM Z w obj E c x):fM Z' w' E5 E' c x:=by
 cases h with
 |cl h=>exact .cl (h.keep hk)
 |rs t g x hs hg h=>
  refine .rs t g x hs (X4 hg (ho.gen t)) λel sz ds D8 he=>?_;obtain⟨⟨ds0,mD,h0⟩,hE⟩:=ho.arr t g el sz ds D8 hg he
  grind
 |pr t g off x hs hg h=>
  refine .pr t g off x hs (X4 hg (ho.gen t)) λhl=>?_;obtain⟨hl',hE⟩:=ho.var t g hg hl
  grind
 |mr t g x hs hg h=>
  refine .mr t g x hs (X4 hg (ho.gen t)) λes he=>?_;obtain⟨⟨es0,h0⟩,hE⟩:=ho.map t g es hg he
  grind
 |bp T f x hs=>exact .bp T f x hs
theorem X5.keep{Z Z':Zone}{w w':World}{obj E5:I5}{E E':Nat->Value}(hk:Keeps Z w Z' w')(ho:dH obj E E5 E'){c:CV}{x:Value}(h:X5 Z w obj E c x):X5 Z' w' E5 E' c x:=by
 cases h with
 |one h=>exact .one (h.keep hk ho)
 |fr f caps vs hl h=>exact .fr f caps vs hl λi c x h1 h2=>(h i c x h1 h2).keep hk ho
theorem N7.keep{Z Z':Zone}{w w':World}{obj E5:I5}{E E':Nat->Value}(hk:Keeps Z w Z' w')(ho:dH obj E E5 E'){s:SV}{x:Value}(h:N7 Z w obj E s x):N7 Z' w' E5 E' s x:=by
 induction h with
 |any x=>exact .any x
 |un=>exact .un
 |kt=>exact .kt
 |kf=>exact .kf
 |c c x h=>exact .c c x (h.keep hk)
 |pm t g off x hs hg h=>
  refine .pm t g off x hs (X4 hg (ho.gen t)) λhl=>?_;obtain⟨hl',hE⟩:=ho.var t g hg hl
  grind
 |ap t g sz es x h hg ht=>
  refine .ap t g sz es x (h.keep hk) (X4 hg (ho.gen t)) λel s hl=>?_;obtain⟨hl',hE⟩:=ho.tok t g el s hg hl
  grind
 |Q7 f caps vs hf hl _ ih=>exact .Q7 f caps vs hf hl ih
 |rs t g x hs hg h=>
  refine .rs t g x hs (X4 hg (ho.gen t)) λel sz ds D8 he=>?_;obtain⟨⟨ds0,mD,h0⟩,hE⟩:=ho.arr t g el sz ds D8 hg he
  grind
 |aC cs vs hl h ha=>exact .aC cs vs hl (λi c x h1 h2=>(h i c x h1 h2).keep hk ho) ha
 |eF cs vs hl h ha=>exact .eF cs vs hl (λi c x h1 h2=>(h i c x h1 h2).keep hk ho) ha
 |pe t g n off x hg h=>
  refine .pe t g n off x (X4 hg (ho.gen t)) λel sz ds D8 he=>?_;obtain⟨⟨ds0,mD,h0⟩,hE⟩:=ho.arr t g el sz ds D8 hg he
  grind
 |mr t g x hs hg h=>
  refine .mr t g x hs (X4 hg (ho.gen t)) λes he=>?_;obtain⟨⟨es0,h0⟩,hE⟩:=ho.map t g es hg he
  grind
@[reducible] def D9.blk (o:D9) (e:Value) (b:Nat):Prop:=
  match o,e with
  |.var _,.pointer (some a)=>a.block=b
  |.ro _,.pointer (some a)=>a.block=b
  |.tok _ _,.slice (some a) _ _=>a.block=b
  |.varx _,.pointer (some a)=>a.block=b
  |.arr _ _ _ _,.slice (some a) _ _=>a.block=b
  |.map _,.map (some m)=>m=b
  |.lp l _ _,_=>l=b
  |_,_=>False
def Y8(ds:List (List CV))(D8:Option (Nat×List CV))(i:Nat):Option (List CV):=
 match D8 with
 |.none=>ds[i]?
 |some (m,d)=>if i=m then some d else ds[i]?
def GN(ds:List (List CV))(D8:Option (Nat×List CV)):Prop:=
 (∀m d,D8=some (m,d)->m<ds.length)/\∀(i:Nat)(d:List CV),ds[i]?=some d->(∀m d',D8=some (m,d')->i≠m)->nN d=true
theorem Rep.EJ{Z:Zone}{w:World}{c:CV}{x:Value}(h:Rep Z w c x):c.nK=false:=by cases h<;>rfl
theorem fM.closed{Z:Zone}{w:World}{obj:I5}{E:Nat->Value}{c:CV}{x:Value}(h:fM Z w obj E c x)(hc:c.nK=false):Rep Z w c x:=by
 cases h with
 |cl h=>exact h
 |rs=>cases hc
 |pr=>cases hc
 |mr=>cases hc
 |bp=>cases hc
theorem X5.closed{Z:Zone}{w:World}{obj:I5}{E:Nat->Value}{c:CV}{x:Value}(h:X5 Z w obj E c x)(hc:c.nK=false):Rep Z w c x:=by
 cases h with
 |one h=>exact h.closed hc
 |fr=>cases hc
theorem kY:∀{cs:List CV}(_:nN cs=true){j:Nat}{c:CV},cs[j]?=some c->c.nK=false
 |[],_,_,_,hj=>by simp at hj
 |d::r,h,j,c,hj=>by
  simp only[nN]at h;cases hd:d.nK with
  |true=>grind
  |false=>
   rw[hd]at h;cases j with
   |zero=>grind
   |succ j=>exact kY h (by simpa using hj)
theorem KQ:∀{cs:List CV},(∀(j:Nat)(c:CV),cs[j]?=some c->c.nK=false)->nN cs=true
 |[],_=>rfl
 |d::r,h=>by
  simp only[nN,h 0 d rfl,G6];exact KQ λj c hj=>h (j+1) c (by simpa using hj)
def jZ:Obj:=.deferred (some [])
structure Kept(S:Nat->Prop)(w w':World):Prop where
 os:w'.os=w.os
 tape:w'.tape=w.tape
 output:w'.output=w.output
 size:w.heap.size<=w'.heap.size
 block:∀k,S k->w'.heap[k]?=w.heap[k]?
 bG:∀k:Nat,w.heap[k]?=some jZ->w'.heap[k]?=some jZ
theorem aq4(w:World)(g k:Nat)(cs:Array Value)(h:w.heap[k]?=some jZ):(w.setRow g cs).heap[k]?=some jZ:=by
 by_cases hk:k=g
 .subst hk;simp[World.setRow,xH,h,jZ]
 .rw[sS w g k cs hk];exact h
theorem Kept.refl(S:Nat->Prop)(w:World):Kept S w w:=⟨rfl,rfl,rfl,J6 _,λ_ _=>rfl,λ_ h=>h⟩
theorem Kept.trans{S:Nat->Prop}{a b c:World}(h:Kept S a b)(k:Kept S b c):Kept S a c:=
 ⟨k.os.trans h.os,k.tape.trans h.tape,k.output.trans h.output,X4 h.size k.size,λi hi=>(k.block i hi).trans (h.block i hi),λi hi=>k.bG i (h.bG i hi)⟩
theorem Kept.mono{S S':Nat->Prop}{w w':World}(h:Kept S w w')(hs:∀k,S' k->S k):Kept S' w w':=⟨h.os,h.tape,h.output,h.size,λk hk=>h.block k (hs k hk),h.bG⟩
theorem Kept.drew{S:Nat->Prop}{a w:World}(h:Kept S a w):Kept S a w.drew:=⟨h.os,h.tape,h.output,h.size,h.block,h.bG⟩
theorem Kept.alloc{S:Nat->Prop}{a w:World}(h:Kept S a w)(hS:∀k,S k->k<w.heap.size)(o:Obj):Kept S a (w.alloc o):=
 h.trans ⟨rfl,rfl,rfl,by simp,λk hk=>Below.heap_alloc _ _ _ (hS k hk),λk hk=>(Below.heap_alloc _ _ _ (V4.1 hk).1).trans hk⟩
theorem Kept.grown{S:Nat->Prop}{a w w':World}{row:Option Nat}(h:Kept S a w)(hg:w.grownBy w' row)(hS:∀k,S k->k<w.heap.size)(hr:∀k,row=some k->¬S k)(hd:∀k,row=some k->w.heap[k]?≠some jZ):Kept S a w':=
 h.trans ⟨hg.os,hg.tape,hg.output,hg.size,λk hk=>hg.block k (hS k hk) (λe=>hr k e.symm hk),λk hk=>(hg.block k (V4.1 hk).1 (λe=>hd k e.symm hk)).trans hk⟩
theorem Kept.of_below{S:Nat->Prop}{w w':World}(h:Below w.heap.size w w')(hS:∀k,S k->k<w.heap.size):Kept S w w':=⟨h.os,h.tape,h.output,h.size,λk hk=>h.block k (hS k hk),λk hk=>(h.block k (V4.1 hk).1).trans hk⟩
theorem Kept.below{B:Nat}{w w':World}(h:Kept (λk=>k<B) w w'):Below B w w':=⟨h.os,h.tape,h.output,h.size,h.block⟩
def GK(e:Value)(el:Nat)(arr:Array Value)(cs:List CV):Prop:=∀(j T:Nat)(f:Bool),cs[j]?=some (.bp T f)->el=T/\arr[j]?=some (bif f then e else .pointer none)
theorem bB9:∀{cs:List CV}(_:am3 cs=true){j:Nat}{c:CV},cs[j]?=some c->c.EC=false
 |[],_,_,_,hj=>by simp at hj
 |d::r,h,j,c,hj=>by
  simp only[am3]at h;cases hd:d.EC with
  |true=>grind
  |false=>
   rw[hd]at h;cases j with
   |zero=>grind
   |succ j=>exact bB9 h (by simpa using hj)
theorem GK.none{e:Value}{el:Nat}{arr:Array Value}{cs:List CV}(h:∀(j:Nat)(c:CV),cs[j]?=some c->c.EC=false):GK e el arr cs:=λj T f hj=>by have:=h j _ hj;simp[CV.EC]at this
theorem GK.same{e:Value}{el:Nat}{arr:Array Value}{cs cs':List CV}(h:GK e el arr cs)(hs:∀(j T:Nat)(f:Bool),cs'[j]?=some (.bp T f)->cs[j]?=some (.bp T f)):GK e el arr cs':=λj T f hj=>h j T f (hs j T f hj)
theorem Rep.cV9{Z:Zone}{w:World}{c:CV}{x:Value}(h:Rep Z w c x):c.EC=false:=by cases h<;>rfl
structure Born(arr:Array MapEntry)(clock:Nat):Prop where
 lt:∀e∈arr.toList,e.born<clock
 nd:(arr.toList.map (·.born)).Nodup
theorem Born.nil:Born #[] 0:=⟨λ_ h=>by simp at h,by simp⟩
theorem Born.push{arr:Array MapEntry}{c:Nat}(h:Born arr c)(k v:Value):Born (arr.push { key:=k,val:=v,born:=c }) (c+1) where
 lt e he:=by
  simp only[Array.toList_push,iU,xR]at he;rcases he with he|rfl
  .exact Nat.lt_succ_of_lt (h.lt e he)
  .grind
 nd:=by
  simp only[Array.toList_push,List.map_append,kP,List.map_nil];refine List.nodup_append.2 ⟨h.nd,by simp,λa ha b hb=>?_⟩;obtain⟨e,he,rfl⟩:=iV.1 ha;simp at hb;subst hb;exact Nat.ne_of_lt (h.lt e he)
theorem Born.modify{arr:Array MapEntry}{c:Nat}(h:Born arr c)(i:Nat)(f:MapEntry->MapEntry)(hf:∀e,(f e).born=e.born):Born (arr.modify i f) c:=by
 have key:(arr.modify i f).toList.map (·.born)=arr.toList.map (·.born):=by
  apply mY
  grind
 refine⟨λe he=>?_,key▸h.nd⟩;have hm:e.born∈(arr.modify i f).toList.map (·.born):=iV.2 ⟨e,he,rfl⟩;rw[key]at hm;obtain⟨e',h1,h2⟩:=iV.1 hm;exact h2▸h.lt e' h1
def U6(Z:Zone)(w:World)(obj:I5)(E:Nat->Value)(e:Value):D9->Prop
 |.none=>True
 |.spent=>True
 |.var cs=>∃b el arr,e=.pointer (some ⟨b,0,none⟩)/\w.heap[b]?=some (.cells arr el (0,0))/\arr.size=cs.length/\
   (∀(j:Nat)(c:CV),cs[j]?=some c->c.atom=true/\∃x,arr[j]?=some x/\Rep Z w c x)/\∀o,¬Z b o
 |.ro cs=>∃b el arr,e=.pointer (some ⟨b,0,none⟩)/\w.heap[b]?=some (.cells arr el (0,0))/\arr.size=cs.length/\
   (∀(j:Nat)(c:CV),cs[j]?=some c->c.atom=true/\Z b j/\∃x,arr[j]?=some x/\Rep Z w c x)
 |.tok el sz=>∃n xs,0<sz/\w.ownsRow 0 el sz e n xs/\∀g cap,e=.slice (some ⟨g,0,none⟩) n cap->(∀o,n*sz<=o->¬Z g o)
 |.varx cs=>∃b el arr,e=.pointer (some ⟨b,0,none⟩)/\w.heap[b]?=some (.cells arr el (0,0))/\arr.size=cs.length/\
   (∀(j:Nat)(c:CV),cs[j]?=some c->c.atom=true/\∃x,arr[j]?=some x/\X5 Z w obj E c x)/\(∀o,¬Z b o)/\GK e el arr cs
 |.arr el sz ds D8=>∃xs,0<sz/\w.ownsRow 0 el sz e ds.length xs/\GN ds D8/\(∀(i:Nat)(d:List CV),i<ds.length->Y8 ds D8 i=some d->d.length=sz)/\
   (∀(i:Nat)(d:List CV),i<ds.length->Y8 ds D8 i=some d->∀(j:Nat)(c:CV),d[j]?=some c->c.atom=true/\∃u,xs[i*sz+j]?=some u/\X5 Z w obj E c u)/\∀b o,e.ownBlock=some b->¬Z b o
 |.map es=>∃b arr clock,e=.map (some b)/\w.heap[b]?=some (.map arr clock)/\(es.length=arr.size/\Born arr clock)/\
   (∀(i:Nat)(k v:CV)(m:MapEntry),es[i]?=some (k,v)->arr[i]?=some m->Rep Z w k m.key/\Rep Z w v m.val)/\∀o,¬Z b o
 |.lp l R q=>w.heap[l]?=some (.loop (q.put R))/\∀o,¬Z l o
structure Base where
 z:Zone
 obj:I5
 E:Nat->Value
structure xZ(obj:I5)(E:Nat->Value)(E5:I5)(E':Nat->Value):Prop where
 var:∀t,Nat.blt t PIN=false->live E5 t 0->live obj t 0/\E' t=E t
 tok:∀t el s,Nat.blt t PIN=false->E5 t=(0,.tok el s)->obj t=(0,.tok el s)/\E' t=E t
 arr:∀t el sz ds D8,Nat.blt t PIN=false->E5 t=(0,.arr el sz ds D8)->(∃ds0 mD,obj t=(0,.arr el sz ds0 mD))/\E' t=E t
 map:∀t es,Nat.blt t PIN=false->E5 t=(0,.map es)->(∃es0,obj t=(0,.map es0))/\E' t=E t
theorem xZ.refl(obj:I5)(E:Nat->Value):xZ obj E obj E:=⟨λ_ _ h=>⟨h,rfl⟩,λ_ _ _ _ h=>⟨h,rfl⟩,λ_ _ _ _ _ _ h=>⟨⟨_,_,h⟩,rfl⟩,λ_ _ _ h=>⟨⟨_,h⟩,rfl⟩⟩
theorem xZ.step{o0 o o':I5}{E0 E E':Nat->Value}(h:xZ o0 E0 o E)(k:dH o E o' E'):xZ o0 E0 o' E' where
 var t ht hl:=by
  obtain⟨h1,h2⟩:=k.var t 0 (Y3 _) hl;obtain⟨h3,h4⟩:=h.var t ht h1
  grind
 tok t el s ht hl:=by
  obtain⟨h1,h2⟩:=k.tok t 0 el s (Y3 _) hl;obtain⟨h3,h4⟩:=h.tok t el s ht h1
  grind
 arr t el sz ds D8 ht hl:=by
  obtain⟨⟨ds0,f0,h1⟩,h2⟩:=k.arr t 0 el sz ds D8 (Y3 _) hl;obtain⟨h3,h4⟩:=h.arr t el sz ds0 f0 ht h1
  grind
 map t es ht hl:=by
  obtain⟨⟨es0,h1⟩,h2⟩:=k.map t 0 es (Y3 _) hl;obtain⟨h3,h4⟩:=h.map t es0 ht h1
  grind
def kL(B:Nat)(w:World):List Deferred->Prop
 |[]=>True
 |d::ds=>(∃r,d={ target:=.collected r,args:=#[] }/\w.heap[r]?=some jZ/\B<=r/\∀d'∈ds,d'≠{ target:=.collected r,args:=#[] })/\kL B w ds
theorem kL.kept{B:Nat}{w w':World}{S:Nat->Prop}(hk:Kept S w w'):∀{ds:List Deferred},kL B w ds->kL B w' ds
 |[],_=>trivial
 |_::_,⟨⟨r,h1,h2,h3⟩,h⟩=>⟨⟨r,h1,hk.bG r h2,h3⟩,kL.kept hk h⟩
structure Inv(G:World->Prop)(Z0:Base)(w0:World)(S:Nat->Prop)(n:Nat)(Z:Zone)(E:Nat->Value)(st:St)(a:Act)(w:World):Prop where
 gs:∀w',Kept S w0 w'->G w'
 slt:∀k,S k->k<w0.heap.size
 below:Kept S w0 w
 defers:kL w0.heap.size w a.defers
 sz:a.tmps.size=n
 U4:∀b o,Z b o->b<w.heap.size
 keeps:Keeps Z0.z w0 Z w
 pin:xZ Z0.obj Z0.E st.obj E
 fB:∀b o,Z b o->Z0.z b o\/¬S b
 env:∀t,N7 Z w st.obj E (st.env t) (a.tmps.getD t undef)
 obj:∀t,U6 Z w st.obj E (E t) (st.obj t).2
 own:∀t b,(st.obj t).2.blk (E t) b->¬S b
 apart:∀t t' b,t≠t'->(st.obj t).2.blk (E t) b->¬(st.obj t').2.blk (E t') b
theorem Inv.z0{G:World->Prop}{Z0:Base}{w0:World}{S:Nat->Prop}{n:Nat}{Z:Zone}{E:Nat->Value}{st:St}{a:Act}{w:World}(h:Inv G Z0 w0 S n Z E st a w):∀b o,Z0.z b o->Z b o:=λb o hz=>(h.keeps b o hz).1
theorem cA7(a:Act)(d:Option Nat)(x:Value)(t:Nat)(hd:inRange a.tmps.size d=true):
 (a.put d x).tmps.getD t undef=match d with|.none=>a.tmps.getD t undef|some d=>if d=t then x else a.tmps.getD t undef:=by
 cases d with
 |none=>rfl
 |some d=>
  simp only[Act.put];have hlt:d<a.tmps.size:=Nat.lt_of_succ_le (by simpa[inRange,Nat.blt]using hd);by_cases h:d=t
  .subst h;simp[Array.getD,hlt]
  .simp only[F9 h,aT]
   grind
theorem SE(a:Act)(d:Option Nat)(x:Value):(a.put d x).tmps.size=a.tmps.size:=by cases d<;>simp[Act.put]
theorem put_defers(a:Act)(d:Option Nat)(x:Value):(a.put d x).defers=a.defers:=by cases d<;>rfl
section
variable{G:World->Prop}{Z0:Base}{w0:World}{S:Nat->Prop}{n:Nat}{Z Z':Zone}{E E':Nat->Value}{st:St}{a:Act}{w w':World}
theorem cx5{obj:I5}{d:Option Nat}{r:SV}{x:Value}{env:Nat->SV}(hd:inRange a.tmps.size d=true)(h:∀t,N7 Z w obj E (env t) (a.tmps.getD t undef))(hr:N7 Z w obj E r x)(t:Nat):
 N7 Z w obj E (put env d r t) ((a.put d x).tmps.getD t undef):=by
 rw[cA7 a d x t hd];cases d with
 |none=>exact h t
 |some d=>
  simp only[put];by_cases hdt:d=t
  .subst hdt;simpa using hr
  .have:Nat.beq d t=false:=by
    cases hb:Nat.beq d t with
    |false=>rfl
    |true=>exact absurd (F8 hb) hdt
   grind
theorem Inv.step(hI:Inv G Z0 w0 S n Z E st a w){d:Option Nat}{r:SV}{x:Value}{E5:I5}(hd:inRange n d=true)
 (hb:Kept S w w') (hk:Keeps Z w Z' w') (hlt:∀b o,Z' b o->b<w'.heap.size) (hnew:∀b o,Z' b o->Z b o\/¬S b)
 (ho:dH st.obj E E5 E') (jB:∀t,U6 Z' w' E5 E' (E' t) (E5 t).2)
 (hap:∀t t' b,t≠t'->(E5 t).2.blk (E' t) b->¬(E5 t').2.blk (E' t') b) (how:∀t b,(E5 t).2.blk (E' t) b->¬S b) (hr:N7 Z' w' E5 E' r x):
 Inv G Z0 w0 S n Z' E' ⟨put st.env d r,E5⟩ (a.put d x) w':=
 { gs:=hI.gs
   slt:=hI.slt
   below:=hI.below.trans hb
   defers:=by rw[put_defers];exact hI.defers.kept hb
   sz:=by rw[SE];exact hI.sz
   U4:=hlt
   keeps:=hI.keeps.trans hk
   pin:=hI.pin.step ho
   fB:=λb o h=>(hnew b o h).elim (hI.fB b o) .inr
   env:=λt=>cx5 (by rw[hI.sz];exact hd) (λt=>(hI.env t).keep hk ho) hr t
   obj:=jB
   own:=how
   apart:=hap }
theorem Inv.value(hI:Inv G Z0 w0 S n Z E st a w){d:Option Nat}{r:SV}{x:Value}(hd:inRange n d=true)(hr:N7 Z w st.obj E r x):
 Inv G Z0 w0 S n Z E ⟨put st.env d r,st.obj⟩ (a.put d x) w:=
 hI.step hd (Kept.refl _ _) (Keeps.refl _ _) hI.U4 (λ_ _ h=>.inl h) (dH.refl _ _) hI.obj hI.apart hI.own hr
theorem U6.keep{obj E5:I5}{o:D9}{e:Value}(h:U6 Z w obj E e o)(hk:Keeps Z w Z' w')(ho:dH obj E E5 E')(hblk:∀b,o.blk e b->w'.heap[b]?=w.heap[b]?/\∀k,Z' b k->Z b k):U6 Z' w' E5 E' e o:=by
 cases o with
 |none=>trivial
 |spent=>trivial
 |var cs=>
  obtain⟨b,el,arr,he,hh,hs,hc,hz⟩:=h;obtain⟨h1,h2⟩:=hblk b (by rw[he]<;>rfl)
  exact⟨b,el,arr,he,h1.trans hh,hs,λj c hj=>⟨(hc j c hj).1,by obtain⟨_,x,hx,hr⟩:=hc j c hj;exact⟨x,hx,hr.keep hk⟩⟩,λo hz'=>hz o (h2 o hz')⟩
 |ro cs=>
  obtain⟨b,el,arr,he,hh,hs,hc⟩:=h;exact⟨b,el,arr,he,(hblk b (by rw[he]<;>rfl)).1.trans hh,hs,λj c hj=>⟨(hc j c hj).1,(hk _ _ (hc j c hj).2.1).1,by obtain⟨_,_,x,hx,hr⟩:=hc j c hj;exact⟨x,hx,hr.keep hk⟩⟩⟩
 |tok el sz=>
  obtain⟨m,xs,hsz,⟨hl,hown⟩,hz⟩:=h;rcases hown with hnil|⟨g,cap,cur,he,hb,hh,hrest⟩
  .exact⟨m,xs,hsz,⟨hl,.inl hnil⟩,λg cap he=>by rw[hnil.1]at he;simp at he⟩
  .obtain⟨h1,h2⟩:=hblk g (by rw[he]<;>rfl)
   exact⟨m,xs,hsz,⟨hl,.inr ⟨g,cap,cur,he,hb,h1.trans hh,hrest⟩⟩,λg' cap' he' o ho hz'=>by
    have:g'=g:=by grind
    subst this
    exact hz g' cap' he' o ho (h2 o hz')⟩
 |varx cs=>
  obtain⟨b,el,arr,he,hh,hs,hc,hz,hbp⟩:=h;obtain⟨h1,h2⟩:=hblk b (by rw[he]<;>rfl)
  exact⟨b,el,arr,he,h1.trans hh,hs,λj c hj=>⟨(hc j c hj).1,by obtain⟨_,x,hx,hr⟩:=hc j c hj;exact⟨x,hx,hr.keep hk ho⟩⟩,λo hz'=>hz o (h2 o hz'),hbp⟩
 |arr el sz ds D8=>
  obtain⟨xs,hsz,⟨hl,hown⟩,hm,hd,hc,hz⟩:=h;have hcc:∀(i:Nat)(d:List CV),i<ds.length->Y8 ds D8 i=some d->∀(j:Nat)(c:CV),d[j]?=some c->c.atom=true/\∃u,xs[i*sz+j]?=some u/\X5 Z' w' E5 E' c u:=
   λi d hi hcx j c hj=>⟨(hc i d hi hcx j c hj).1,by obtain⟨_,x,hx,hr⟩:=hc i d hi hcx j c hj;exact⟨x,hx,hr.keep hk ho⟩⟩
  rcases hown with hnil|⟨g,cap,cur,he,hb,hh,hrest⟩
  .exact⟨xs,hsz,⟨hl,.inl hnil⟩,hm,hd,hcc,λb o hb=>by rw[hnil.1]at hb;simp[Value.ownBlock]at hb⟩
  .obtain⟨h1,h2⟩:=hblk g (by rw[he]<;>rfl)
   exact⟨xs,hsz,⟨hl,.inr ⟨g,cap,cur,he,hb,h1.trans hh,hrest⟩⟩,hm,hd,hcc,λb o hb' hz'=>by
    have:b=g:=by rw[he]at hb';simp[Value.ownBlock]at hb';exact hb'.symm
    subst this
    exact hz b o hb' (h2 o hz')⟩
 |map es=>
  obtain⟨b,arr,clock,he,hh,hl,hc,hz⟩:=h;obtain⟨h1,h2⟩:=hblk b (by rw[he]<;>rfl)
  exact⟨b,arr,clock,he,h1.trans hh,hl,λi k v m h3 h4=>⟨(hc i k v m h3 h4).1.keep hk,(hc i k v m h3 h4).2.keep hk⟩,λo hz'=>hz o (h2 o hz')⟩
 |lp l R q=>
  obtain⟨hh,hz⟩:=h;obtain⟨h1,h2⟩:=hblk l rfl;exact⟨h1.trans hh,λo hz'=>hz o (h2 o hz')⟩
theorem aY3(x:Value)(el sz:Nat){b:Nat}:(D9.tok el sz).blk x b=(x.ownBlock=some b):=by
 cases x with
 |slice a l c=>cases a<;>simp[D9.blk,Value.ownBlock]
 |_=>simp[D9.blk,Value.ownBlock]
theorem iF(x:Value)(el sz:Nat)(ds:List (List CV))(D8:Option (Nat×List CV)){b:Nat}:(D9.arr el sz ds D8).blk x b=(x.ownBlock=some b):=by
 cases x with
 |slice a l c=>cases a<;>simp[D9.blk,Value.ownBlock]
 |_=>simp[D9.blk,Value.ownBlock]
theorem U6.lt{obj:I5}{o:D9}{e:Value}{b:Nat}(h:U6 Z w obj E e o)(hb:o.blk e b):b<w.heap.size:=by
 cases o with
 |none=>grind
 |spent=>grind
 |var cs=>
  obtain⟨b',el,arr,he,hh,_⟩:=h
  grind
 |ro cs=>
  obtain⟨b',el,arr,he,hh,_⟩:=h
  grind
 |tok el sz=>
  obtain⟨m,xs,hsz,hown,_⟩:=h;rw[aY3]at hb;exact(hown.lt b hb).2
 |varx cs=>
  obtain⟨b',el,arr,he,hh,_⟩:=h
  grind
 |arr el sz ds D8=>
  obtain⟨xs,hsz,hown,_⟩:=h;rw[iF]at hb;exact(hown.lt b hb).2
 |map es=>
  obtain⟨b',arr,clock,he,hh,_⟩:=h
  grind
 |lp l R q=>
  simp[D9.blk]at hb;subst hb;exact(V4.1 h.1).1
theorem bi7{b o:Nat}(h:w'.heap[b]?=w.heap[b]?):w'.cell? ⟨b,o,none⟩=w.cell? ⟨b,o,none⟩:=CB (a:=⟨b,o,none⟩) h
theorem iH{b o:Nat}(h:w'.heap[b]?=w.heap[b]?):w'.cell? ⟨b,o,none⟩=w.cell? ⟨b,o,none⟩/\∀es c,w.heap[b]?=some (.map es c)->w'.heap[b]?=some (.map es c):=⟨bi7 h,λ_ _ he=>h.trans he⟩
theorem Keeps.alloc(hlt:∀b o,Z b o->b<w.heap.size)(o:Obj):Keeps Z w Z (w.alloc o):=
 λb k hz=>⟨hz,iH (uP w o (hlt b k hz))⟩
end
def qR:CV->CV
 |.ow j=>.rs j 0
 |c=>c
def dM(os:List (Nat×Nat×List (List CV)×Option (Nat×List CV)))(j:Nat):Nat×D9:=
 match os[j]? with
 |some (el,sz,ds,.none)=>(0,.arr el sz ds .none)
 |some (el,sz,ds,some (m,cs))=>(0,.arr el sz ds (some (m,cs.map qR)))
 |.none=>(0,.none)
def NU(Z:Zone)(Fr:Nat->Prop)(w:World)(r:CV)(os:List (Nat×Nat×List (List CV)×Option (Nat×List CV)))(x:Value):Prop:=
 ∃Eo:Nat->Value,(∀j,U6 Z w (dM os) Eo (Eo j) (dM os j).2)/\(∀j j' b,j≠j'->(dM os j).2.blk (Eo j) b->¬(dM os j').2.blk (Eo j') b)/\(∀j b,(dM os j).2.blk (Eo j) b->Fr b)/\
  (∀j,j<os.length->∃a l k,Eo j=.slice a l k)/\
  (∀(k el sz:Nat)(ds:List (List CV))(m:Nat)(cs:List CV),os[k]?=some (el,sz,ds,some (m,cs))->nN cs=true/\∀(i j:Nat),cs[i]?=some (.ow j)->j<os.length)/\
  match r with
  |.ow j=>x=Eo j/\j<os.length
  |.agg cs=>∃vs:List Value,nN cs=true/\x=.agg vs.toArray/\cs.length=vs.length/\(∀(i:Nat)(c:CV)(v:Value),cs[i]?=some c->vs[i]?=some v->X5 Z w (dM os) Eo (qR c) v)/\(∀(i:Nat)(c:CV),cs[i]?=some c->c.atom=true)/\
    (∀(i j:Nat),cs[i]?=some (.ow j)->j<os.length)
  |_=>False
def BX(Z:Zone)(Fr:Nat->Prop)(w:World)(r:CV)(x:Value):Prop:=
 match r with
 |.wo r os=>NU Z Fr w r os x
 |r=>Rep Z w r x
theorem NU.fr{Z:Zone}{Fr Fr':Nat->Prop}{w:World}{r:CV}{os:List (Nat×Nat×List (List CV)×Option (Nat×List CV))}{x:Value}(h:NU Z Fr w r os x)(hf:∀b,Fr b->Fr' b):NU Z Fr' w r os x:=by
 obtain⟨Eo,h1,h2,h3,h4⟩:=h;exact⟨Eo,h1,h2,λj b hb=>hf b (h3 j b hb),h4⟩
theorem BX.pure{Z:Zone}{Fr:Nat->Prop}{w:World}{r:CV}{x:Value}(h:BX Z Fr w r x)(hp:r.pure=true):Rep Z w r x:=by
 cases r<;>first|exact h|(simp[CV.pure]at hp)
theorem BX.mk{Z:Zone}{Fr:Nat->Prop}{w:World}{r:CV}{x:Value}(h:Rep Z w r x):BX Z Fr w r x:=by
 cases h<;>(unfold BX;constructor<;>assumption)
def pO(P:Program)(f:FuncId):Prop:=∃fn,P.funcs[f]?=some fn/\(fn.name== "runtime.NumGoroutine")=false/\fn.body.isNone=false
def Holds(P:Program)(G:World->Prop)(f:FuncId)(args:List CV)(r:CV):Prop:=
 pO P f/\∀(Z:Zone)(w:World)(vs:List Value),O8 Z w args vs->(∀b o,Z b o->b<w.heap.size)->(∀w',Below w.heap.size w w'->G w')->
  Calls P f vs.toArray w λe w'=>∃(x:Value) (Z':Zone),e=.returned x/\BX Z' (λb=>w.heap.size<=b) w' r x/\(∀b o,Z b o->Z' b o)/\
   (∀b o,Z' b o->(Z b o\/w.heap.size<=b)/\b<w'.heap.size)/\Below w.heap.size w w'
structure rJ(Z:Zone)(w:World)(os:List (Nat×D9))(Eo:Nat->Value):Prop where
 ok:∀j,U6 Z w (G9 os) Eo (Eo j) (G9 os j).2
 apart:∀j j' b,j≠j'->(G9 os j).2.blk (Eo j) b->¬(G9 os j').2.blk (Eo j') b
def GB(os:List (Nat×D9))(Eo:Nat->Value)(b:Nat):Prop:=∃j,(G9 os j).2.blk (Eo j) b
def SG(w:World)(os:List (Nat×D9))(Eo:Nat->Value)(k:Nat):Prop:=k<w.heap.size/\¬GB os Eo k
structure pK(Z:Zone)(w:World)(os:List (Nat×D9))(Eo:Nat->Value)(Z':Zone)(w':World)(os':List (Nat×D9))(aY:Nat->Value)(r:SV)(x:Value):Prop where
 res:N7 Z' w' (G9 os') aY r x
 grp:rJ Z' w' os' aY
 keeps:Keeps Z w Z' w'
 U4:∀b o,Z' b o->b<w'.heap.size
 fB:∀b o,Z' b o->Z b o\/w.heap.size<=b\/GB os Eo b
 kept:Kept (SG w os Eo) w w'
 own:∀b,GB os' aY b->w.heap.size<=b\/GB os Eo b
 ok:dH (G9 os) Eo (G9 os') aY
def dN(P:Program)(G:World->Prop)(op:Op)(ty:TypeId)(args:List SV)(os:List (Nat×D9))(r:SV)(os':List (Nat×D9)):Prop:=
 ∀(Z:Zone)(w:World)(Eo:Nat->Value)(a:Act)(o:Oper)(next:Act->World->Prop)(Q:Exit->Act->World->Prop),o.op=op->o.type=ty->rJ Z w os Eo->(∀b o,Z b o->b<w.heap.size)->
  args.length=op.operands.size->(∀(i:Nat)(s:SV)(x:Operand),args[i]?=some s->op.operands[i]?=some x->N7 Z w (G9 os) Eo s (a.eval x))->(∀w',Kept (SG w os Eo) w w'->G w')->
  (∀x Z' w' aY,pK Z w os Eo Z' w' os' aY r x->next (a.put o.dst x) w')->Oper.bT P o a w next Q
def fD(P:Program)(G:World->Prop)(f:FuncId)(args:List SV)(os:List (Nat×D9))(r:SV)(os':List (Nat×D9)):Prop:=
 pO P f/\∀(Z:Zone)(w:World)(Eo:Nat->Value)(vs:List Value),rJ Z w os Eo->(∀b o,Z b o->b<w.heap.size)->args.length=vs.length->
  (∀(i:Nat)(s:SV)(x:Value),args[i]?=some s->vs[i]?=some x->N7 Z w (G9 os) Eo s x)->(∀w',Kept (SG w os Eo) w w'->G w')->
  Calls P f vs.toArray w λe w'=>∃x Z' aY,e=.returned x/\pK Z w os Eo Z' w' os' aY r x
def gX(P:Program)(G:World->Prop):iW:=⟨Holds P G,dN P G,fD P G⟩
end Go.F6
namespace Go.F6
open Go Go.RowKit
def VO:TypeDesc->Bool
 |.struct _=>true
 |.array _ _=>true
 |_=>false
def O7(i:TI):Value:=bif i.isAgg then .agg i.zero.toArray else i.zero.headD undef
structure N8(P:Program)(t:Nat)(i:TI):Prop where
 u:P.underlying t=some i.desc
 info:(P.info? t).map (λj=>(j.size,j.bytes))=some (i.size,i.bytes)
 zero:((P.info? t).bind (λj=>j.zero))=some (O7 i)
 agg:i.isAgg=VO i.desc
 one:i.zero.all (λz=>z.oneCell')=true
 len:i.zero.length=i.size
 single:i.isAgg=false->i.size=1
def X9(P:Program)(T:Tab):Prop:=∀t i,T.get t=some i->N8 P t i
section
variable{P:Program}{G:World->Prop}{T:Tab}{Z0:Base}{w0:World}{S:Nat->Prop}{n:Nat}{Z:Zone}{E:Nat->Value}{st:St}{a:Act}{w:World}
theorem N8.eX{t:Nat}{i:TI}(h:N8 P t i):∃j,P.info? t=some j/\j.size=i.size/\j.bytes=i.bytes/\j.zero=some (O7 i):=by
 have h1:=h.info;have h2:=h.zero;cases hj:P.info? t with
 |none=>grind
 |some j=>grind
theorem N8.sizeOf{t:Nat}{i:TI}(h:N8 P t i)(w:World):(Go.sizeOf t).run P w=.ok i.size w:=by
 obtain⟨j,hj,hs,_,_⟩:=h.eX;simp[Go.sizeOf,typeInfo,hj,hs]
theorem N8.DZ{t:Nat}{i:TI}(h:N8 P t i)(w:World):(Go.isAgg t).run P w=.ok i.isAgg w:=by
 rw[h.agg];unfold Go.isAgg;rw[I7,L6 h.u];cases i.desc<;>rfl
theorem bC6{o:Oper}{r:Result Next}(hr:(execOp a.eval o).run P w=r)(h:∀d w',r≠.ok (.defer d) w')(h':∀x w',r≠.halt x w'):∀c,o.op≠.defer c:=by
 intro c hc;obtain⟨dst,op,type,pos,after,guard⟩:=o;simp only at hc;subst hc;simp only[execOp,I7]at hr;cases hq:(resolve a.eval c type).run P w with
 |ok d w'=>
  rw[hq]at hr;simp only[N9,Q5]at hr
  grind
 |halt x w'=>
  rw[hq]at hr;exact h' _ _ hr.symm
theorem aO{o:Oper}{next:Act->World->Prop}{Q:Exit->Act->World->Prop}{x:Value}{w':World}(h:(execOp a.eval o).run P w=.ok (.value x) w')(hn:next (a.put o.dst x) w'):Oper.bT P o a w next Q:=by
 refine MW (bC6 h (λ_ _ h=>nomatch h) (λ_ _ h=>nomatch h)) ?_;unfold Oper.wp;rw[h];exact hn
theorem MZ{o:Oper}{next:Act->World->Prop}{Q:Exit->Act->World->Prop}{w':World}(h:(execOp a.eval o).run P w=.ok .skip w')(hn:next (a.put o.dst undef) w'):Oper.bT P o a w next Q:=by
 refine MW (bC6 h (λ_ _ h=>nomatch h) (λ_ _ h=>nomatch h)) ?_;unfold Oper.wp;rw[h];exact hn
theorem c96(obj:I5)(x:Value):N7 Z w obj E (aB2 x) x:=by
 unfold aB2;split
 .exact .kt
 .exact .kf
 .exact .c _ _ (.nil _ _ _)
 .exact .c _ _ .YG
 .exact .c _ _ (.v _)
theorem Y2(hI:Inv G Z0 w0 S n Z E st a w)(x:Operand):N7 Z w st.obj E (look st x) (a.eval x):=by
 cases x with
 |tmp t=>exact hI.env t
 |const x=>exact c96 _ x
 |global g=>exact .any _
 |func f=>exact .c _ _ (.fn f [] [] rfl (λi c x h=>by simp at h))
theorem lZ{obj:I5}{s:SV}{x:Value}{c:CV}(h:N7 Z w obj E s x)(hc:aQ s=some c):Rep Z w c x:=by
 cases h with
 |any=>simp[aQ]at hc
 |un=>simp[aQ]at hc
 |kt=>simp[aQ]at hc;subst hc;exact .v _
 |kf=>simp[aQ]at hc;subst hc;exact .v _
 |c c' x h=>simp[aQ]at hc;subst hc;exact h
 |pm=>simp[aQ]at hc
 |ap t g sz es x h=>simp[aQ]at hc;subst hc;exact h
 |Q7=>simp[aQ]at hc
 |rs=>simp[aQ]at hc
 |aC=>simp[aQ]at hc
 |eF=>simp[aQ]at hc
 |pe=>simp[aQ]at hc
 |mr=>simp[aQ]at hc
theorem NY{obj:I5}{s:SV}{x:Value}{sz:Nat}{ds:List (List CV)}(h:N7 Z w obj E s x)(hc:eP s=some (sz,ds)):Rep Z w (.sl sz ds) x:=by
 cases h with
 |any=>simp[eP]at hc
 |un=>simp[eP]at hc
 |kt=>simp[eP]at hc
 |kf=>simp[eP]at hc
 |c c' x h=>
  cases c' with
  |sl s d=>simp[eP]at hc;obtain⟨rfl,rfl⟩:=hc;exact h
  |_=>simp[eP]at hc
 |pm=>simp[eP]at hc
 |ap t g s es x h=>simp[eP]at hc;obtain⟨rfl,rfl⟩:=hc;exact h
 |Q7=>simp[eP]at hc
 |rs=>simp[eP]at hc
 |aC=>simp[eP]at hc
 |eF=>simp[eP]at hc
 |pe=>simp[eP]at hc
 |mr=>simp[eP]at hc
theorem mO{x y:Value}(h:Rep Z w (.v x) y):y=x:=by cases h;rfl
theorem kZ{obj:I5}{x y:Value}(h:N7 Z w obj E (.c (.v x)) y):y=x:=by cases h with|c _ _ h=>exact mO h
def iD(P:Program)(G:World->Prop)(T:Tab)(o:Oper):Prop:=
 ∀(Z0:Base)(w0:World)(S:Nat->Prop)(n:Nat)(Z:Zone)(E:Nat->Value)(st:St)(a:Act)(w:World)(K:Z8)(next:Act->World->Prop)(Q:Exit->Act->World->Prop)(F:Z8->Prop),
  Inv G Z0 w0 S n Z E st a w->inRange n o.dst=true->wpOp (gX P G) T (look st) st.obj F o.dst o.op o.type K->(F K->Oper.bT P o a w next Q)->
  (∀r rd u Z' E' x w',K r rd u->Inv G Z0 w0 S n Z' E' ⟨put st.env o.dst r,upd st.obj u⟩ (a.put o.dst x) w'->next (a.put o.dst x) w')->Oper.bT P o a w next Q
theorem aP{o:Oper}{K:Z8}{next:Act->World->Prop}{Q:Exit->Act->World->Prop}(hI:Inv G Z0 w0 S n Z E st a w)(hd:inRange n o.dst=true)
 (hn:∀r rd u Z' E' x w',K r rd u->Inv G Z0 w0 S n Z' E' ⟨put st.env o.dst r,upd st.obj u⟩ (a.put o.dst x) w'->next (a.put o.dst x) w')
 {r:SV} {rd:List Nat} {x:Value} (hk:K r rd []) (hrun:(execOp a.eval o).run P w=.ok (.value x) w) (hr:N7 Z w st.obj E r x):Oper.bT P o a w next Q:=
 aO hrun (hn r rd [] Z E x w hk (hI.value hd hr))
theorem dl9(dst:Option Nat)(x:Operand)(type:TypeId)(pos:String)(after:Array Edge)(guard:Option (Nat×Bool)):iD P G T ⟨dst,.move x,type,pos,after,guard⟩:=by
 intro Z0 w0 S n Z E st a w K next Q F hI hd h hX hn
 exact aP hI hd hn h (by simp[execOp]) (Y2 hI x)
theorem dm1(dst:Option Nat)(c x y:Operand)(type:TypeId)(pos:String)(after:Array Edge)(guard:Option (Nat×Bool)):iD P G T ⟨dst,.pick c x y,type,pos,after,guard⟩:=by
 intro Z0 w0 S n Z E st a w K next Q F hI hd h hX hn
 have hc:=Y2 hI c;have hx:=Y2 hI x;have hy:=Y2 hI y;simp only[wpOp]at h;split at h
 .rename_i he;rw[he]at hc;have hv:a.eval c=.bool true:=by generalize a.eval c=y at*;cases hc;rfl
  exact aP hI hd hn h (by simp[execOp,hv,asBool]) hx
 .rename_i he;rw[he]at hc;have hv:a.eval c=.bool false:=by generalize a.eval c=y at*;cases hc;rfl
  exact aP hI hd hn h (by simp[execOp,hv,asBool]) hy
 .rename_i q he;rw[he]at hc;have hv:a.eval c=.bool q:=kZ hc;split at h
  .rename_i u v h1 h2;have e1:=mO (lZ hx h1);have e2:=mO (lZ hy h2);refine aP hI hd hn h (by simp[execOp,hv,asBool];rfl) (.c _ _ ?_);cases q
   .simp only[Bool.false_eq_true,if_false,e2,G6];exact .v _
   .simp only[if_true,e1,H7];exact .v _
  .cases q with
   |true=>exact aP hI hd hn (h.1 rfl) (by simp[execOp,hv,asBool]) hx
   |false=>exact aP hI hd hn (h.2 rfl) (by simp[execOp,hv,asBool]) hy
 .grind
theorem dm3(dst:Option Nat)(op:UnOp)(t:TypeId)(x:Operand)(type:TypeId)(pos:String)(after:Array Edge)(guard:Option (Nat×Bool)):iD P G T ⟨dst,.unOp op t x,type,pos,after,guard⟩:=by
 intro Z0 w0 S n Z E st a w K next Q F hI hd h hX hn
 have hx:=Y2 hI x;cases op with
 |not=>
  simp only[wpOp]at h;split at h
  .rename_i he;rw[he]at hx;have hv:a.eval x=.bool true:=by generalize a.eval x=y at*;cases hx;rfl
   exact aP hI hd hn h (by simp[execOp,hv,Op.unary]) .kf
  .rename_i he;rw[he]at hx;have hv:a.eval x=.bool false:=by generalize a.eval x=y at*;cases hx;rfl
   exact aP hI hd hn h (by simp[execOp,hv,Op.unary]) .kt
  .rename_i b he;rw[he]at hx;have hv:a.eval x=.bool b:=kZ hx;exact aP hI hd hn h (by simp[execOp,hv,Op.unary]) (.c _ _ (.v _))
  .grind
 |neg=>
  simp only[wpOp]at h;split at h
  .rename_i k m he;rw[he]at hx;have hv:a.eval x=.int k m:=kZ hx;exact aP hI hd hn h (by simp[execOp,hv,Op.unary,Op.intArith]) (.c _ _ (.v _))
  .grind
 |_=>simp only[wpOp]at h;first|exact h.elim|exact hX h
theorem bN8{t:TypeId}(hu:P.underlying t=some .bool)(p q:Bool)(w:World):(Op.equal t (.bool p) (.bool q)).run P w=.ok (p==q) w:=by
 have h:∀d:Nat,(Op.equalIn (d+1) t (.bool p) (.bool q)).run P w=.ok (p==q) w:=λd=>by
  simp only[Op.equalIn,I7,L6 hu,N9];simp
 exact h 9999
theorem bN7{op:BinOp}{ib:Bool}{x y:Value}{K:Value->Prop}{t:TypeId}{ox oy:Operand}(hib:ib=true->P.underlying t=some .bool)(h:iI op ib x y K)(w:World):
 ∃r,K r/\(do eqGuard op t ox oy x y;binOp op t x y:Sem Value).run P w=.ok r w:=by
 unfold iI at h;split at h
 .obtain⟨rfl,hb,hk⟩:=h;exact⟨_,hk,by simp[eqGuard,binOp,Op.intDiv,hb]⟩
 .obtain⟨rfl,hb,hk⟩:=h;exact⟨_,hk,by simp[eqGuard,binOp,Op.intDiv,hb]⟩
 .obtain⟨hb,hk⟩:=h;exact⟨_,hk,by simp[eqGuard,binOp,Op.shift,Int.not_lt.2 hb]⟩
 .obtain⟨hb,hk⟩:=h;exact⟨_,hk,by simp[eqGuard,binOp,Op.shift,Int.not_lt.2 hb]⟩
 .rename_i k i k' j hq1 hq2 hq3 hq4;split at h
  .rename_i r hr;have hkk:k=k':=by grind
   subst hkk;simp only[nG,H7]at h;refine⟨r,h,?_⟩;cases op<;>simp only[qL,reduceCtorEq,Z9]at hr<;>(subst hr;first|(simp[eqGuard,binOp,Op.intBits];done)|simp[eqGuard,binOp,Op.intArith,Op.intCmp])
  .grind
 .rename_i s1 s2;obtain⟨hs,s',rfl,hk⟩:=h;refine⟨_,hk,?_⟩;have hmx:¬(((s1.size+s2.size:Nat):Int)>IntKind.i64.max):=by
   have:IntKind.i64.max=9223372036854775807:=rfl;omega
  simp only[eqGuard,binOp,Op.stringOp,hmx,if_false];simp
 .rename_i s1 s2 hq;split at h
  .rename_i r hr;refine⟨r,h,?_⟩;have hdl:∀x y:ByteArray,(x.data.toList==y.data.toList)=(x.toList==y.toList):=λx y=>by rw[ByteArray.toList_eq,ByteArray.toList_eq]
   have hbl:∀x y:ByteArray,Op.bytesLess x.data.toList y.data.toList=Op.bytesLess x.toList y.toList:=λx y=>by rw[ByteArray.toList_eq,ByteArray.toList_eq]
   cases op<;>simp only[AL,reduceCtorEq,Z9,hdl,hbl]at hr<;>(subst hr;simp[eqGuard,binOp,Op.stringOp])
  .grind
 .rename_i p q;cases ib with
  |false=>grind
  |true=>
   have hu:=hib rfl;simp only[H7]at h;refine⟨_,h,?_⟩;have h1:=bN8 (P:=P) hu p q w;simp only[eqGuard,binOp,I7,h1];simp[h1]
 .rename_i p q;cases ib with
  |false=>grind
  |true=>
   have hu:=hib rfl;simp only[H7]at h;refine⟨_,h,?_⟩;have h1:=bN8 (P:=P) hu p q w;simp only[eqGuard,binOp,I7,h1];simp[h1]
 .grind
theorem dk6(hT:X9 P T)(dst:Option Nat)(op:BinOp)(t:TypeId)(x y:Operand)(t':TypeId)(type:TypeId)(pos:String)(after:Array Edge)(guard:Option (Nat×Bool)):iD P G T ⟨dst,.binOp op t x y t',type,pos,after,guard⟩:=by
 intro Z0 w0 S n Z E st a w K next Q F hI hd h hX hn
 have hx:=Y2 hI x;have hy:=Y2 hI y;simp only[wpOp]at h;split at h
 .rename_i u v h1 h2;have e1:=mO (lZ hx h1);have e2:=mO (lZ hy h2)
  obtain⟨r,hk,hr⟩:=bN7 (P:=P) (t:=t) (ox:=x) (oy:=y) (λhib=>by
   split at hib
   .rename_i hg;exact(hT _ _ hg).u
   .cases hib) h w
  refine aP hI hd hn hk (x:=r) ?_ (.c _ _ (.v _));simp only[execOp,e1,e2,I7]at hr⊢;rw[hr];rfl
 .grind
theorem dl1(hT:X9 P T)(dst:Option Nat)(s t:TypeId)(x:Operand)(type:TypeId)(pos:String)(after:Array Edge)(guard:Option (Nat×Bool)):iD P G T ⟨dst,.convert s t x,type,pos,after,guard⟩:=by
 intro Z0 w0 S n Z E st a w K next Q F hI hd h hX hn
 have hx:=Y2 hI x;simp only[wpOp]at h;split at h
 .rename_i k _ _ _ _ _ k' m _ h1 he h2;rw[he]at hx;have hv:a.eval x=.int k' m:=kZ hx;have hu:=(hT _ _ h1).u;have hs:=(hT _ _ h2).u;refine aP hI hd hn h (x:=.int k (k.wrap m)) ?_ (.c _ _ (.v _));simp only[execOp,convert,hv,I7,L6 hu,L6 hs,N9];simp[Conv.intToInt]
 .rename_i _ _ _ _ _ str _ h1 he h2;rw[he]at hx;have hv:a.eval x=.string str:=kZ hx;have hu:=(hT _ _ h1).u;have hs:=(hT _ _ h2).u;refine aP hI hd hn h (x:=.string str) ?_ (.c _ _ (.v _));simp only[execOp,convert,hv,I7,L6 hu,L6 hs,N9];simp
 .grind
end
end Go.F6
namespace Go.F6
open Go Go.RowKit
theorem as4:∀(m:Nat)(l xs:List CV),takeN m l=some xs->xs.length=m/\∀(j:Nat),j<m->xs[j]?=l[j]?
 |0,l,xs,h=>by simp[takeN]at h;subst h;exact⟨rfl,λj hj=>by omega⟩
 |m+1,[],xs,h=>by simp[takeN]at h
 |m+1,c::r,xs,h=>by
  simp only[takeN]at h;split at h
  .rename_i cs hcs;simp at h;subst h;obtain⟨h1,h2⟩:=as4 m r cs hcs;refine⟨by simp[h1],λj hj=>?_⟩;cases j with
   |zero=>rfl
   |succ j=>grind
  .simp at h
section
variable{P:Program}{G:World->Prop}{T:Tab}{Z0:Base}{w0:World}{S:Nat->Prop}{n:Nat}{Z:Zone}{E:Nat->Value}{st:St}{a:Act}{w:World}
theorem aT5{t:TypeId}{i:TI}(hi:N8 P t i){cs:List CV}{b o off:Nat}{f:Nat->Value}{c:CV}
 (hc:∀(j:Nat)(c:CV),cs[j]?=some c->w.cell? ⟨b,o+j,none⟩=some (f j)/\c.atom=true/\Rep Z w c (f j)) (hp:part i cs off=some c):
 ∃x,(Instr.loadAt t (.pointer (some ⟨b,o+off,none⟩))).run P w=.ok x w/\Rep Z w c x:=by
 unfold part at hp;cases hagg:i.isAgg with
 |false=>
  rw[hagg]at hp;simp only[G6]at hp;obtain⟨h1,_,h3⟩:=hc off c hp;refine⟨f off,?_,h3⟩;have hr:=hi.DZ w;rw[hagg]at hr;simp[Instr.loadAt,Instr.sureAddr,loadVar,hr,Go.load,Sem.run,h1]
 |true=>
  rw[hagg]at hp;simp only[H7]at hp;cases hx:takeN i.size (cs.drop off)with
  |none=>grind
  |some xs=>
   rw[hx]at hp;simp at hp;subst hp;obtain⟨hl,hj⟩:=as4 _ _ _ hx;have hr:=hi.DZ w;rw[hagg]at hr;have hat:∀(j:Nat)(c:CV),xs[j]?=some c->cs[off+j]?=some c:=λj c hjc=>by grind
   let vals:=(List.range i.size).map λj=>f (off+j)
   have hvl:vals.length=i.size:=by simp[vals]
   have hcells:=run_loadCells_list (P:=P) w ⟨b,o+off,none⟩ vals (λj v wL=>by
    have hlt:j<i.size:=by grind
    have hxj:∃c,xs[j]?=some c:=⟨xs[j]'(by omega),I9 (by omega)⟩;obtain⟨c,hxc⟩:=hxj;obtain⟨h1,_,_⟩:=hc _ c (hat j c hxc);have:v=f (off+j):=by grind
    rw[this,gY,Nat.add_assoc]
    exact h1)
   rw[hvl]at hcells;refine⟨.agg vals.toArray,?_,.agg xs vals (by omega) (λj c x hjc hjx=>?_) (λj c hjc=>(hc _ c (hat j c hjc)).2.1)⟩
   .simp[Instr.loadAt,Instr.sureAddr,loadVar,hr,hi.sizeOf w,hcells]
   .grind
theorem BA(hI:Inv G Z0 w0 S n Z E st a w){s g:Nat}{cs:List CV}(h:st.obj s=(g,.var cs)\/st.obj s=(g,.ro cs)){off:Nat}{x:Value}(hx:N7 Z w st.obj E (.pm s g off) x):
 ∃b,E s=.pointer (some ⟨b,0,none⟩)/\x=.pointer (some ⟨b,off,none⟩)/\∃f:Nat->Value,∀(j:Nat)(c:CV),cs[j]?=some c->w.cell? ⟨b,j,none⟩=some (f j)/\c.atom=true/\Rep Z w c (f j):=by
 cases hx with
 |pm _ _ _ _ _ hg hl=>
  obtain⟨b,hE,hxe⟩:=hl ⟨cs,h.imp id .inl⟩;refine⟨b,hE,hxe,?_⟩;have ho:=hI.obj s;rcases h with h|h
  .rw[h]at ho;obtain⟨b',el,arr,he,hh,hs,hc,_⟩:=ho;have:b'=b:=by grind
   subst this;refine⟨λj=>arr.getD j undef,λj c hj=>?_⟩;obtain⟨hat,x',hx',hr⟩:=hc j c hj;have:arr.getD j undef=x':=by rw[aT,hx'];rfl
   simp only[this];exact⟨(jY w b' j arr el (0,0) hh).trans hx',hat,hr⟩
  .rw[h]at ho;obtain⟨b',el,arr,he,hh,hs,hc⟩:=ho;have:b'=b:=by grind
   subst this;refine⟨λj=>arr.getD j undef,λj c hj=>?_⟩;obtain⟨hat,_,x',hx',hr⟩:=hc j c hj;have:arr.getD j undef=x':=by rw[aT,hx'];rfl
   simp only[this];exact⟨(jY w b' j arr el (0,0) hh).trans hx',hat,hr⟩
theorem Q8{b:Bool}{p:Prop}(h:bif b then p else False):b=true/\p:=by grind
theorem dl7(hT:X9 P T)(dst:Option Nat)(t:TypeId)(x:Operand)(type:TypeId)(pos:String)(after:Array Edge)(guard:Option (Nat×Bool)):iD P G T ⟨dst,.load t x,type,pos,after,guard⟩:=by
 intro Z0 w0 S n Z E st a w K next Q F hI hd h hX hn
 have hx:=Y2 hI x;simp only[wpOp]at h;split at h
 .rename_i i hti;have hi:=hT _ _ hti;have fin:∀(b o off:Nat)(cs:List CV)(f:Nat->Value)(c:CV)(rd:List Nat),a.eval x=.pointer (some ⟨b,o+off,none⟩)->
   (∀(j:Nat)(c:CV),cs[j]?=some c->w.cell? ⟨b,o+j,none⟩=some (f j)/\c.atom=true/\Rep Z w c (f j))->part i cs off=some c->K (.c c) rd []->
   Oper.bT P ⟨dst,.load t x,type,pos,after,guard⟩ a w next Q:=by
   intro b o off cs f c rd he hc hp hk;obtain⟨v,hv,hrep⟩:=aT5 hi hc hp;refine aP hI hd hn hk (x:=v) ?_ (.c _ _ hrep);simp only[execOp,he,I7,hv];rfl
  split at h
  .rename_i s g off he;rw[he]at hx;split at h
   .rename_i g' cs ho;replace h:=Q8 h;obtain⟨hgg,h⟩:=h;have:=F8 hgg;subst this;split at h
    .rename_i c hp;obtain⟨b,_,hxe,f,hc⟩:=BA hI (.inl ho) hx;exact fin b 0 off cs f c _ (by rw[hxe,V7]) (λj c hj=>by rw[V7];exact hc j c hj) hp h
    .grind
   .rename_i g' cs ho;replace h:=Q8 h;obtain⟨hgg,h⟩:=h;have:=F8 hgg;subst this;split at h
    .rename_i c hp;obtain⟨b,_,hxe,f,hc⟩:=BA hI (.inr ho) hx;exact fin b 0 off cs f c _ (by rw[hxe,V7]) (λj c hj=>by rw[V7];exact hc j c hj) hp h
    .grind
   .grind
  .rename_i cs off he;rw[he]at hx;split at h
   .rename_i c hp;generalize hax:a.eval x=y at hx;cases hx with
    |c _ _ hr=>
     cases hr with
     |pi _ b o _ f hc hrep=>exact fin b o off cs f c _ hax (λj c hj=>⟨(hc j c hj).2.1,(hc j c hj).2.2,hrep j c hj⟩) hp h
   .grind
  .grind
 .grind
theorem dm0(dst:Option Nat)(x:Operand)(type:TypeId)(pos:String)(after:Array Edge)(guard:Option (Nat×Bool)):iD P G T ⟨dst,.nilCheck x,type,pos,after,guard⟩:=by
 intro Z0 w0 S n Z E st a w K next Q F hI hd h hX hn
 have hx:=Y2 hI x;have fin:∀(b off:Nat)(rd:List Nat),a.eval x=.pointer (some ⟨b,off,none⟩)->K (look st x) rd []->Oper.bT P ⟨dst,.nilCheck x,type,pos,after,guard⟩ a w next Q:=by
  intro b off rd he hk;exact aP hI hd hn hk (x:=a.eval x) (by simp[execOp,he]) hx
 simp only[wpOp]at h;split at h
 .rename_i s g off he;have hx':=hx;rw[he]at hx';split at h
  .rename_i g' cs ho;replace h:=Q8 h;obtain⟨hgg,h⟩:=h;have:=F8 hgg;subst this;obtain⟨b,_,hxe,_⟩:=BA hI (.inl ho) hx'
   grind
  .rename_i g' cs ho;replace h:=Q8 h;obtain⟨hgg,h⟩:=h;have:=F8 hgg;subst this;obtain⟨b,_,hxe,_⟩:=BA hI (.inr ho) hx'
   grind
  .grind
 .rename_i cs off he;have hx':=hx;rw[he]at hx';generalize hax:a.eval x=y at hx';cases hx' with
  |c _ _ hr=>
   cases hr with
   |pi _ b o _ f hc hrep=>grind
 .rename_i f caps he;have hx':=hx;rw[he]at hx';generalize hax:a.eval x=y at hx';cases hx' with
  |c _ _ hr=>
   cases hr with
   |fn _ _ vs hl hrep=>exact aP hI hd hn h (x:=a.eval x) (by simp[execOp,hax]) hx
 .rename_i f caps he;have hx':=hx;rw[he]at hx';generalize hax:a.eval x=y at hx';cases hx' with
  |Q7 f _ vs hf hl hrep=>exact aP hI hd hn h (x:=a.eval x) (by cases f<;>simp[execOp,hax,FV.val]) hx
 .grind
theorem dl4(hT:X9 P T)(dst:Option Nat)(t:TypeId)(x:Operand)(k:Nat)(type:TypeId)(pos:String)(after:Array Edge)(guard:Option (Nat×Bool)):iD P G T ⟨dst,.fieldAddr t x k,type,pos,after,guard⟩:=by
 intro Z0 w0 S n Z E st a w K next Q F hI hd h hX hn
 have hx:=Y2 hI x;simp only[wpOp]at h;split at h
 .rename_i fs _ _ _ _ _ hti;have hi:=hT _ _ hti;split at h
  .rename_i f hf;split at h
   .rename_i i hfi;have aH0:=hT _ _ hfi;cases hz:Nat.beq i.size 0 with
    |true=>grind
    |false=>
     rw[hz]at h;simp only[G6]at h;have hne:i.size≠0:=λe=>by rw[e]at hz;exact Bool.noConfusion hz
     have run:∀b off,(Instr.fieldAt t (.pointer (some ⟨b,off,none⟩)) k).run P w=.ok (.pointer (some ⟨b,off+f.offset,none⟩)) w:=by
      intro b off;have hu:=hi.u;simp only at hu;simp[Instr.fieldAt,L6 hu,hf,Instr.sureAddr,fieldPlace,aH0.sizeOf w,hne,gY]
     split at h
     .rename_i s g off he;have hx':=hx;rw[he]at hx';have go:∀cs,(st.obj s=(g,.var cs)\/st.obj s=(g,.ro cs))->K (.pm s g (off+f.offset)) [s] []->Oper.bT P ⟨dst,.fieldAddr t x k,type,pos,after,guard⟩ a w next Q:=by
       intro cs ho hk;obtain⟨b,hE,hxe,_⟩:=BA hI ho hx';refine aP hI hd hn hk (x:=.pointer (some ⟨b,off+f.offset,none⟩)) ?_ (.pm _ _ _ _ ⟨_,rfl⟩ ?_ λ_=>⟨b,hE,rfl⟩)
       .simp only[execOp,hxe,I7,run];rfl
       .grind
      split at h
      .rename_i g' cs ho;replace h:=Q8 h;obtain⟨hgg,h⟩:=h;have:=F8 hgg
       grind
      .rename_i g' cs ho;replace h:=Q8 h;obtain⟨hgg,h⟩:=h;have:=F8 hgg
       grind
      .grind
     .rename_i cs off he;rw[he]at hx;generalize hax:a.eval x=y at hx;cases hx with
      |c _ _ hr=>
       cases hr with
       |pi _ b o _ f' hc hrep=>
        refine aP hI hd hn h (x:=.pointer (some ⟨b,o+off+f.offset,none⟩)) ?_ (.c _ _ ?_)
        .simp only[execOp,hax,I7,run];rfl
        .rw[Nat.add_assoc];exact .pi cs b o _ f' hc hrep
     .grind
   .grind
  .grind
 .grind
theorem db5{t:TypeId}{i:TI}(hi:N8 P t i){cs:List CV}{vs:List Value}{off:Nat}{c:CV}(hl:cs.length=vs.length)
 (hc:∀(j:Nat)(c:CV)(x:Value),cs[j]?=some c->vs[j]?=some x->Rep Z w c x) (ha:∀(j:Nat)(c:CV),cs[j]?=some c->c.atom=true) (hp:part i cs off=some c):
 ∃x,(Go.part t vs.toArray off).run P w=.ok x w/\Rep Z w c x:=by
 unfold part at hp;have hr:=hi.DZ w;cases hagg:i.isAgg with
 |false=>
  rw[hagg]at hp hr;simp only[G6]at hp;have hlt:off<cs.length:=(O4.1 hp).1;have hv:vs[off]?=some (vs[off]'(by omega)):=I9 (by omega);refine⟨_,?_,hc off c _ hp hv⟩;simp[Go.part,hr,hv]
 |true=>
  rw[hagg]at hp hr;simp only[H7]at hp;cases hx:takeN i.size (cs.drop off)with
  |none=>grind
  |some xs=>
   rw[hx]at hp;simp at hp;subst hp;obtain⟨hxl,hj⟩:=as4 _ _ _ hx;have hat:∀(j:Nat)(c:CV),xs[j]?=some c->cs[off+j]?=some c:=λj c hjc=>by grind
   have hfit:i.size=0\/off+i.size<=cs.length:=by
    rcases Nat.eq_zero_or_pos i.size with h0|h0
    .grind
    .right;have hlast:∃c,xs[i.size-1]?=some c:=⟨xs[i.size-1]'(by omega),I9 (by omega)⟩
     grind
   refine⟨.agg ((vs.drop off).take i.size).toArray,?_,.agg xs _ ?_ (λj c x hjc hjx=>?_) (λj c hjc=>ha _ c (hat j c hjc))⟩
   .simp[Go.part,hr,hi.sizeOf w]
   .grind
   .grind
theorem dl3(hT:X9 P T)(dst:Option Nat)(t:TypeId)(x:Operand)(k:Nat)(type:TypeId)(pos:String)(after:Array Edge)(guard:Option (Nat×Bool)):iD P G T ⟨dst,.field t x k,type,pos,after,guard⟩:=by
 intro Z0 w0 S n Z E st a w K next Q F hI hd h hX hn
 have hx:=Y2 hI x;simp only[wpOp]at h;split at h
 .rename_i fs _ _ _ _ _ cs hti he;have hi:=hT _ _ hti;rw[he]at hx;split at h
  .rename_i f hf;split at h
   .rename_i i hfi;split at h
    .rename_i c hp;generalize hax:a.eval x=y at hx;cases hx with
     |c _ _ hr=>
      cases hr with
      |agg _ vs hl hrep ha=>
       obtain⟨v,hv,hvr⟩:=db5 (hT _ _ hfi) hl hrep ha hp;refine aP hI hd hn h (x:=v) ?_ (.c _ _ hvr);have hu:=hi.u;simp only at hu;simp[execOp,hax,Instr.field,L6 hu,hf,asAgg,hv]
    .grind
   .grind
  .grind
 .grind
theorem dl6(hT:X9 P T)(dst:Option Nat)(t:TypeId)(x i:Operand)(type:TypeId)(pos:String)(after:Array Edge)(guard:Option (Nat×Bool)):iD P G T ⟨dst,.indexAddr t x i,type,pos,after,guard⟩:=by
 intro Z0 w0 S n Z E st a w K next Q F hI hd h hX hn
 have hx:=Y2 hI x;have hi:=Y2 hI i;simp only[wpOp]at h;split at h
 .rename_i e _ _ _ _ _ hti;split at h
  .rename_i te sz ds k m hte hsl he;obtain⟨h0,hszz,d,hdd,hk⟩:=h;have hs:sz=te.size:=hszz.resolve_right (by omega);subst hs;rw[he]at hi;have hiv:a.eval i=.int k m:=kZ hi;have hr:=NY hx hsl;generalize hax:a.eval x=y at hr;cases hr with
   |nil=>simp at hdd
   |sl _ _ b o cap f hcap hsz hc hrep=>
    have hlt:m.toNat<ds.length:=(O4.1 hdd).1;refine aP hI hd hn hk (x:=.pointer (some ⟨b,o+m.toNat*te.size,none⟩)) ?_ (.c _ _ ?_)
    .have hu:=(hT _ _ hti).u;simp only at hu;have hm:0<=m/\m<(ds.length:Int):=⟨h0,by omega⟩;simp only[execOp,hax,hiv,Instr.indexAt,asIntOf,I7,Q5,N9,L6 hu,(hT _ _ hte).sizeOf w,I4 hm,gY]
    .have:=Rep.pi (Z:=Z) (w:=w) d b (o+m.toNat*te.size) 0 (λj=>f m.toNat j) (λj c hj=>hc _ j d c hdd hj) (λj c hj=>hrep _ j d c hdd hj)
     grind
  .grind
 .grind
theorem dl5(hT:X9 P T)(dst:Option Nat)(t:TypeId)(x i:Operand)(type:TypeId)(pos:String)(after:Array Edge)(guard:Option (Nat×Bool)):iD P G T ⟨dst,.index t x i,type,pos,after,guard⟩:=by
 intro Z0 w0 S n Z E st a w K next Q F hI hd h hX hn
 have hx:=Y2 hI x;have hi:=Y2 hI i;simp only[wpOp]at h;split at h
 .rename_i _ _ _ _ _ hti;split at h
  .rename_i s k m h1 h2;obtain⟨h0,b,hb,hk⟩:=h;rw[h1]at hx;rw[h2]at hi;have hxv:a.eval x=.string s:=kZ hx;have hiv:a.eval i=.int k m:=kZ hi;refine aP hI hd hn hk (x:=.int .u8 b.toNat) ?_ (.c _ _ (.v _));have hu:=(hT _ _ hti).u;simp only at hu;simp only[execOp,hxv,hiv,Instr.index,asIntOf,I7,Q5,N9,L6 hu,I4 h0,hb]
  .grind
 .grind
theorem dl2(dst:Option Nat)(x:Operand)(k:Nat)(type:TypeId)(pos:String)(after:Array Edge)(guard:Option (Nat×Bool)):iD P G T ⟨dst,.extract x k,type,pos,after,guard⟩:=by
 intro Z0 w0 S n Z E st a w K next Q F hI hd h hX hn
 have hx:=Y2 hI x;simp only[wpOp]at h;split at h
 .rename_i vs he;rw[he]at hx;split at h
  .rename_i c hc;generalize hax:a.eval x=y at hx;cases hx with
   |c _ _ hr=>
    cases hr with
    |P7 _ us hl hrep=>
     have hlt:k<vs.length:=(O4.1 hc).1;have hu:us[k]?=some (us[k]'(by omega)):=I9 (by omega);refine aP hI hd hn h (x:=us[k]'(by omega)) ?_ (.c _ _ (hrep k c _ hc hu));simp[execOp,hax,Instr.extract,hu]
  .grind
 .grind
theorem dl8(dst:Option Nat)(fn:Fn)(first captured:Array Operand)(type:TypeId)(pos:String)(after:Array Edge)(guard:Option (Nat×Bool)):iD P G T ⟨dst,.makeFunc fn first captured,type,pos,after,guard⟩:=by
 intro Z0 w0 S n Z E st a w K next Q F hI hd h hX hn
 cases fn with
 |func f=>
  simp only[wpOp]at h;split at h
  rotate_left
  .exact hX h
  rename_i he;have hemp:first=#[]:=by grind
  subst hemp;refine aP hI hd hn h (x:=.func (.func f) #[] (captured.map a.eval)) (by simp[execOp,Instr.makeFunc]) ?_
  have:=N7.Q7 (Z:=Z) (w:=w) (obj:=st.obj) (E:=E) (.fn f) (captured.toList.map (look st)) (captured.toList.map a.eval) trivial (by simp) (λi s x h1 h2=>by
   rw[O6]at h1 h2;cases hc:captured.toList[i]? with
   |none=>grind
   |some op=>
    rw[hc]at h1 h2;simp at h1 h2;subst h1;subst h2
    exact Y2 hI op)
  rw[show(captured.map a.eval)=(captured.toList.map a.eval).toArray from by rw[<-Array.toList_map,Array.toArray_toList]];exact this
 |_=>simp only[wpOp]at h;first|exact h.elim|exact hX h
end
end Go.F6
namespace Go.F6
open Go Go.RowKit
def iR(E:Nat->Value)(d:Nat)(x:Value):Nat->Value:=λt=>if t=d then x else E t
theorem sQ(E:Nat->Value)(d:Nat)(x:Value):iR E d x d=x:=by simp[iR]
theorem aU2(E:Nat->Value){d t:Nat}(x:Value)(h:t≠d):iR E d x t=E t:=by simp[iR,h]
theorem tC(obj:I5)(d:Nat)(x:Nat×D9):upd obj [(d,x)] d=x:=by simp[upd]
theorem sZ(obj:I5){d t:Nat}(x:Nat×D9)(h:t≠d):upd obj [(d,x)] t=obj t:=by
 simp only[upd];cases hb:Nat.beq d t with
 |false=>rfl
 |true=>exact absurd (F8 hb).symm h
theorem FQ(obj:I5)(s d:Nat)(x y:Nat×D9):upd obj [(s,x),(d,y)] s=x:=by simp[upd]
theorem av9(obj:I5){s d:Nat}(x y:Nat×D9)(h:s≠d):upd obj [(s,x),(d,y)] d=y:=by
 simp only[upd];cases hb:Nat.beq s d with
 |false=>simp
 |true=>exact absurd (F8 hb) h
theorem av8(obj:I5){s d t:Nat}(x y:Nat×D9)(h:t≠s)(h':t≠d):upd obj [(s,x),(d,y)] t=obj t:=by
 simp only[upd];cases hb:Nat.beq s t with
 |true=>exact absurd (F8 hb).symm h
 |false=>
  cases hb':Nat.beq d t with
  |true=>exact absurd (F8 hb').symm h'
  |false=>rfl
section
variable{P:Program}{G:World->Prop}{T:Tab}{Z0:Base}{w0:World}{S:Nat->Prop}{n:Nat}{Z Z':Zone}{E:Nat->Value}{st:St}{a:Act}{w w':World}
theorem Inv.size_le(hI:Inv G Z0 w0 S n Z E st a w):w0.heap.size<=w.heap.size:=hI.below.size
theorem Inv.vI(hI:Inv G Z0 w0 S n Z E st a w)(k:Nat)(hk:S k):k<w.heap.size:=Z5 (hI.slt k hk) hI.size_le
theorem Inv.fresh(hI:Inv G Z0 w0 S n Z E st a w){k:Nat}(hk:w.heap.size<=k):¬S k:=λh=>Nat.lt_irrefl _ (Z5 (hI.vI k h) hk)
theorem az1(hI:Inv G Z0 w0 S n Z E st a w)(o:Obj):Kept S w (w.alloc o):=(Kept.refl _ _).alloc hI.vI o
def jV(o o':D9):Prop:=
 match o,o' with
 |.var _,.var _|.var _,.varx _|.varx _,.varx _|.varx _,.var _=>True
 |.ro _,.ro _|.var _,.ro _|.varx _,.ro _|.ro _,.var _|.ro _,.varx _=>True
 |.tok el s,.tok dK s'=>el=dK/\s=s'
 |.arr el s _ _,.arr dK s' _ _=>el=dK/\s=s'
 |.map _,.map _=>True
 |_,_=>False
def D9.still(o:D9):Prop:=o=.spent\/∃l R q,o=.lp l R q
theorem bF4{obj E5:I5}{E E':Nat->Value}(ch:Nat->Prop)(hsame:∀t,¬ch t->E5 t=obj t/\E' t=E t)
 (hch:∀t,ch t->(obj t).1<(E5 t).1\/((E5 t).1=(obj t).1/\(D9.still (E5 t).2\/(E' t=E t/\jV (obj t).2 (E5 t).2)))):dH obj E E5 E':=by
 refine⟨λt=>?_,λt g hg hl=>?_,λt g el s hg ht=>?_,λt g el sz ds D8 hg ht=>?_,λt g es hg ht=>?_⟩
 .by_cases h:ch t
  .grind
  .grind
 .by_cases h:ch t
  .obtain⟨cs,hl⟩:=hl;rcases hch t h with h|⟨hgen,h|⟨hE,hk⟩⟩
   .grind
   .rcases hl with hl|hl|hl<;>(rw[hl]at h;simp[D9.still]at h)
   .refine⟨?_,hE⟩;have hg2:(obj t).1=g:=by grind
    cases ho:obj t with
    |mk g0 o=>
     rw[ho]at hk hg2;simp only at hk hg2;subst hg2;rcases hl with hl|hl|hl<;>rw[hl]at hk<;>cases o<;>simp only[jV]at hk<;>first|exact⟨_,.inl ho⟩|exact⟨_,.inr (.inl ho)⟩|exact⟨_,.inr (.inr ho)⟩
  .rw[show live E5 t g=live obj t g from by unfold live;rw[(hsame t h).1]]at hl
   grind
 .by_cases h:ch t
  .rcases hch t h with h|⟨hgen,h|⟨hE,hk⟩⟩
   .grind
   .rw[ht]at h;simp[D9.still]at h
   .refine⟨?_,hE⟩;rw[ht]at hgen hk;cases ho:obj t with
    |mk g0 o=>
     rw[ho]at hk hgen;simp only at hk hgen;subst hgen;cases o<;>simp only[jV]at hk
     grind
  .grind
 .by_cases h:ch t
  .rcases hch t h with h|⟨hgen,h|⟨hE,hk⟩⟩
   .grind
   .rw[ht]at h;simp[D9.still]at h
   .refine⟨?_,hE⟩;rw[ht]at hgen hk;cases ho:obj t with
    |mk g0 o=>
     rw[ho]at hk hgen;simp only at hk hgen;subst hgen;cases o<;>simp only[jV]at hk
     grind
  .grind
 .by_cases h:ch t
  .rcases hch t h with h|⟨hgen,h|⟨hE,hk⟩⟩
   .grind
   .rw[ht]at h;simp[D9.still]at h
   .refine⟨?_,hE⟩;rw[ht]at hgen hk;cases ho:obj t with
    |mk g0 o=>
     rw[ho]at hk hgen;simp only at hk hgen;subst hgen;cases o<;>simp only[jV]at hk
     grind
  .grind
theorem Inv.bL0(hI:Inv G Z0 w0 S n Z E st a w){d:Option Nat}{r:SV}{x:Value}{E5:I5}{E':Nat->Value}(ch:Nat->Prop)(hd:inRange n d=true)
 (hb:Kept S w w') (hk:Keeps Z w Z' w') (hlt:∀b o,Z' b o->b<w'.heap.size) (hnew:∀b o,Z' b o->Z b o\/¬S b)
 (hsame:∀t,¬ch t->E5 t=st.obj t/\E' t=E t)
 (hok:dH st.obj E E5 E')
 (jB:dH st.obj E E5 E'->∀t,ch t->U6 Z' w' E5 E' (E' t) (E5 t).2)
 (hframe:∀t,¬ch t->∀b,(st.obj t).2.blk (E t) b->w'.heap[b]?=w.heap[b]?/\(∀k,Z' b k->Z b k)/\∀s,ch s->¬(E5 s).2.blk (E' s) b)
 (hap:∀t t' b,ch t->ch t'->t≠t'->(E5 t).2.blk (E' t) b->¬(E5 t').2.blk (E' t') b)
 (how:∀t,ch t->∀b,(E5 t).2.blk (E' t) b->¬S b)
 (hr:N7 Z' w' E5 E' r x):Inv G Z0 w0 S n Z' E' ⟨put st.env d r,E5⟩ (a.put d x) w':=by
 refine hI.step hd hb hk hlt hnew hok (λt=>?_) (λt t' b hne h1 h2=>?_) (λt b hb'=>?_) hr
 rotate_right
 .by_cases h:ch t
  .grind
  .rw[(hsame t h).1,(hsame t h).2]at hb';exact hI.own t b hb'
 .by_cases h:ch t
  .grind
  .rw[(hsame t h).1,(hsame t h).2];exact(hI.obj t).keep hk hok λb hb=>⟨(hframe t h b hb).1,(hframe t h b hb).2.1⟩
 .by_cases h:ch t
  .by_cases h':ch t'
   .exact hap t t' b h h' hne h1 h2
   .rw[(hsame t' h').1,(hsame t' h').2]at h2;exact(hframe t' h' b h2).2.2 t h h1
  .rw[(hsame t h).1,(hsame t h).2]at h1;by_cases h':ch t'
   .exact(hframe t h b h1).2.2 t' h' h2
   .rw[(hsame t' h').1,(hsame t' h').2]at h2;exact hI.apart t t' b hne h1 h2
theorem Inv.renew(hI:Inv G Z0 w0 S n Z E st a w){d:Option Nat}{r:SV}{x:Value}{E5:I5}{E':Nat->Value}(ch:Nat->Prop)(hd:inRange n d=true)
 (hb:Kept S w w') (hk:Keeps Z w Z' w') (hlt:∀b o,Z' b o->b<w'.heap.size) (hnew:∀b o,Z' b o->Z b o\/¬S b)
 (hsame:∀t,¬ch t->E5 t=st.obj t/\E' t=E t)
 (hch:∀t,ch t->(st.obj t).1<(E5 t).1\/((E5 t).1=(st.obj t).1/\(D9.still (E5 t).2\/(E' t=E t/\jV (st.obj t).2 (E5 t).2))))
 (jB:dH st.obj E E5 E'->∀t,ch t->U6 Z' w' E5 E' (E' t) (E5 t).2)
 (hframe:∀t,¬ch t->∀b,(st.obj t).2.blk (E t) b->w'.heap[b]?=w.heap[b]?/\(∀k,Z' b k->Z b k)/\∀s,ch s->¬(E5 s).2.blk (E' s) b)
 (hap:∀t t' b,ch t->ch t'->t≠t'->(E5 t).2.blk (E' t) b->¬(E5 t').2.blk (E' t') b)
 (how:∀t,ch t->∀b,(E5 t).2.blk (E' t) b->¬S b)
 (hr:N7 Z' w' E5 E' r x):Inv G Z0 w0 S n Z' E' ⟨put st.env d r,E5⟩ (a.put d x) w':=
 hI.bL0 ch hd hb hk hlt hnew hsame (bF4 ch hsame hch) jB hframe hap how hr
theorem Inv.newVar(hI:Inv G Z0 w0 S n Z E st a w){d:Nat}(hd:inRange n (some d)=true)(cs:List CV)(arr:Array Value)(el:TypeId)(hsz:arr.size=cs.length)
 (hc:∀(j:Nat)(c:CV),cs[j]?=some c->c.atom=true/\∃x,arr[j]?=some x/\Rep Z w c x):
 Inv G Z0 w0 S n Z (iR E d (.pointer (some ⟨w.heap.size,0,none⟩))) ⟨put st.env (some d) (.pm d ((st.obj d).1+1) 0),upd st.obj [(d,((st.obj d).1+1,.var cs))]⟩
  (a.put (some d) (.pointer (some ⟨w.heap.size,0,none⟩))) (w.alloc (.cells arr el)):=by
 have hk:Keeps Z w Z (w.alloc (.cells arr el)):=Keeps.alloc hI.U4 _;have hother:∀t,t≠d->upd st.obj [(d,((st.obj d).1+1,.var cs))] t=st.obj t:=λt h=>sZ _ _ h;have hsame:upd st.obj [(d,((st.obj d).1+1,.var cs))] d=((st.obj d).1+1,.var cs):=tC _ _ _;refine hI.renew (·=d) hd (az1 hI _) hk (λb o h=>by have:=hI.U4 b o h;simp;omega) (λ_ _ h=>.inl h) (λt ht=>⟨hother t ht,aU2 E _ ht⟩) ?_ ?_ ?_ ?_ ?_ ?_
 .grind
 .rintro _ t rfl;rw[hsame,sQ];refine⟨w.heap.size,el,arr,rfl,aW w _,hsz,λj c hj=>?_,λo hz=>Nat.lt_irrefl _ (hI.U4 _ _ hz)⟩;obtain⟨h1,x,h2,h3⟩:=hc j c hj;exact⟨h1,x,h2,h3.keep hk⟩
 .intro t ht b hb;have hlt:=(hI.obj t).lt hb;refine⟨uP w _ hlt,λ_ hz=>hz,?_⟩;rintro s rfl h;rw[hsame,sQ]at h
  grind
 .grind
 .rintro t rfl b hb;rw[hsame,sQ]at hb;simp[D9.blk]at hb;exact hI.fresh (by omega)
 .refine .pm _ _ _ _ ⟨_,rfl⟩ ?_ λ_=>⟨w.heap.size,sQ _ _ _,rfl⟩
  grind
theorem kK{t:Nat}{i:TI}(h:N8 P t i):(O7 i).cells=i.zero.toArray:=by
 unfold O7;cases hagg:i.isAgg with
 |true=>rfl
 |false=>
  have hs:=h.single hagg;have hl:=h.len;rw[hs]at hl
  match hz:i.zero,hl with
  |[z],_=>
   have ho:=h.one;rw[hz]at ho;simp at ho;simp only[G6,List.headD];cases z<;>first|rfl|simp[Value.oneCell']at ho
theorem ax0:∀(zs:List Value)(ks:List Nat),(nX zs ks).length=zs.length
 |[],_=>rfl
 |_::r,ks=>congrArg Nat.succ (ax0 r ks.tail)
theorem cd0:∀(zs:List Value)(ks:List Nat),zs.all (λz=>z.oneCell')=true->∀(j:Nat)(c:CV),(nX zs ks)[j]?=some c->c.atom=true/\∃x,zs[j]?=some x/\Rep Z w c x
 |[],_,_,j,c,h=>by simp[nX]at h
 |z::r,ks,ho,0,c,h=>by
  simp only[List.all_cons,X3]at ho;simp only[nX,List.getElem?_cons_zero,Z9]at h;subst h;refine⟨?_,z,rfl,?_⟩
  .split
   .rfl
   .exact ho.1
  .split
   .exact .nil _ _ _
   .exact .v _
 |z::r,ks,ho,j+1,c,h=>by
  simp only[List.all_cons,X3]at ho;simp only[nX,List.getElem?_cons_succ]at h⊢;exact cd0 r ks.tail ho.2 j c h
theorem ad3{t:Nat}{i:TI}(h:N8 P t i)(j:Nat)(c:CV)(hj:(nX i.zero i.ks)[j]?=some c):c.atom=true/\∃x,i.zero.toArray[j]?=some x/\Rep Z w c x:=by
 obtain⟨h1,x,h2,h3⟩:=cd0 (Z:=Z) (w:=w) i.zero i.ks h.one j c hj
 grind
theorem dj9(hT:X9 P T)(dst:Option Nat)(e:TypeId)(type:TypeId)(pos:String)(after:Array Edge)(guard:Option (Nat×Bool)):iD P G T ⟨dst,.alloc e,type,pos,after,guard⟩:=by
 intro Z0 w0 S n Z E st a w K next Q F hI hd h hX hn
 simp only[wpOp]at h;split at h
 .rename_i i d hti;have hi:=hT _ _ hti;obtain⟨j,hj,hjs,_,hjz⟩:=hi.eX;refine aO ?_ (hn _ _ _ _ _ _ _ h (hI.newVar hd (nX i.zero i.ks) i.zero.toArray e (by simp[ax0]) (λj c hj=>ad3 hi j c hj)));simp[execOp,Instr.alloc,zeroValue,typeInfo,hj,hjz,newVar,newRow,kK hi]
 .grind
theorem OM{c:CV}{x:Value}(h:Rep Z w c x)(hs:c.storable=true):x.cells.size=c.cells.length/\∀(j:Nat)(d:CV),c.cells[j]?=some d->d.atom=true/\∃y,x.cells[j]?=some y/\Rep Z w d y:=by
 have one:∀(c:CV)(x:Value),c.cells=[c]->x.cells=#[x]->c.atom=true->Rep Z w c x->x.cells.size=c.cells.length/\∀(j:Nat)(d:CV),c.cells[j]?=some d->d.atom=true/\∃y,x.cells[j]?=some y/\Rep Z w d y:=by grind
 cases h with
 |agg cs vs hl hr ha=>
  refine⟨by simp[Value.cells,CV.cells,hl],λj d hj=>⟨ha j d hj,?_⟩⟩;simp only[CV.cells]at hj;have hlt:j<cs.length:=(O4.1 hj).1;have hv:vs[j]?=some (vs[j]'(by omega)):=I9 (by omega);exact⟨_,by simp[Value.cells,hv],hr j d _ hj hv⟩
 |P7 vs us hl hr=>simp[CV.storable,CV.atom]at hs
 |v x=>
  have hx:x.oneCell'=true:=hs;exact one _ _ rfl (by cases x<;>first|rfl|simp[Value.oneCell']at hx) hx (.v x)
 |nil sz a cap=>exact one _ _ rfl rfl rfl (.nil _ _ _)
 |sl sz ds b o cap f hcap hsz hc hr=>exact one _ _ rfl rfl rfl (.sl sz ds b o cap f hcap hsz hc hr)
 |pi cs b o off f hc hr=>exact one _ _ rfl rfl rfl (.pi cs b o off f hc hr)
 |fn f caps vs hl hr=>exact one _ _ rfl rfl rfl (.fn f caps vs hl hr)
 |YG=>exact one _ _ rfl rfl rfl .YG
 |mp es b arr clock hz hh hl hk hv=>exact one _ _ rfl rfl rfl (.mp es b arr clock hz hh hl hk hv)
theorem dk7(dst:Option Nat)(e:TypeId)(x:Operand)(type:TypeId)(pos:String)(after:Array Edge)(guard:Option (Nat×Bool)):iD P G T ⟨dst,.box e x,type,pos,after,guard⟩:=by
 intro Z0 w0 S n Z E st a w K next Q F hI hd h hX hn
 have hx:=Y2 hI x;simp only[wpOp]at h;split at h
 .rename_i c d hc;replace h:=Q8 h;obtain⟨hs,h⟩:=h;obtain⟨hsz,hcell⟩:=OM (lZ hx hc) hs;refine aO ?_ (hn _ _ _ _ _ _ _ h (hI.newVar hd c.cells (a.eval x).cells e hsz hcell));simp[execOp,Instr.box,newVar,newRow]
 .grind
theorem SY:∀(cs:List CV)(off:Nat)(xs ys:List CV),setAt cs off xs=some ys->ys.length=cs.length/\(xs=[]\/off+xs.length<=cs.length)/\
 ∀(j:Nat),ys[j]?=if off<=j/\j<off+xs.length then xs[j-off]? else cs[j]?
 |cs,off,[],ys,h=>by
  cases cs<;>simp[setAt]at h<;>subst h<;>exact⟨rfl,.inl rfl,λj=>by rw[F9 (by simp)]⟩
 |[],off,x::xs,ys,h=>by simp[setAt]at h
 |c::r,0,x::xs,ys,h=>by
  simp only[setAt]at h;split at h
  .rename_i zs hz;simp at h;subst h;obtain⟨h1,h2,h3⟩:=SY r 0 xs zs hz;refine⟨by simp[h1],.inr ?_,λj=>?_⟩
   .grind
   .grind
  .simp at h
 |c::r,off+1,x::xs,ys,h=>by
  simp only[setAt]at h;split at h
  .rename_i zs hz;simp at h;subst h;obtain⟨h1,h2,h3⟩:=SY r off (x::xs) zs hz;refine⟨by simp[h1],.inr ?_,λj=>?_⟩
   .grind
   .cases j with
    |zero=>simp
    |succ j=>
     grind
  .simp at h
theorem Inv.setVar(hI:Inv G Z0 w0 S n Z E st a w){d:Option Nat}(hd:inRange n d=true){s g b:Nat}{cs cs':List CV}{arr arr':Array Value}{el:TypeId}(ho:st.obj s=(g,.var cs))
 (hE:E s=.pointer (some ⟨b,0,none⟩)) (hh:w.heap[b]?=some (.cells arr el (0,0))) (hsz:arr'.size=cs'.length) (x:Value)
 (hc:∀(j:Nat)(c:CV),cs'[j]?=some c->c.atom=true/\∃x,arr'[j]?=some x/\Rep Z w c x):
 Inv G Z0 w0 S n Z E ⟨put st.env d .any,upd st.obj [(s,(g,.var cs'))]⟩ (a.put d x) (w.setRow b arr'):=by
 have hos:=hI.obj s;rw[ho]at hos;obtain⟨b',dK,dK0,he,_,_,_,hz⟩:=hos;have hbb:b'=b:=by grind
 subst hbb;have hnS:¬S b':=hI.own s b' (by rw[ho,hE]<;>rfl)
 have hk:Keeps Z w Z (w.setRow b' arr'):=λb o hz'=>⟨hz',iH (sS w b' b arr' (λe=>by subst e;exact hz o hz'))⟩;have hother:∀t,t≠s->upd st.obj [(s,(g,.var cs'))] t=st.obj t:=λt h=>sZ _ _ h;have hsame:upd st.obj [(s,(g,.var cs'))] s=(g,.var cs'):=tC _ _ _;refine hI.renew (·=s) hd ⟨rfl,rfl,rfl,by simp[World.setRow],λk hk=>sS w b' k arr' (λe=>hnS (e▸hk)),λk hk=>aq4 w b' k arr' hk⟩ hk (λb o h=>by have:=hI.U4 b o h;simpa[World.setRow]using this) (λ_ _ h=>.inl h) (λt ht=>⟨hother t ht,rfl⟩) ?_ ?_ ?_ ?_ ?_ (.any _)
 .rintro t rfl;rw[hsame,ho];exact .inr ⟨rfl,.inr ⟨rfl,trivial⟩⟩
 .rintro _ t rfl;rw[hsame];refine⟨b',el,arr',hE,rC w b' arr arr' el (0,0) hh,hsz,λj c hj=>?_,hz⟩;obtain⟨h1,y,h2,h3⟩:=hc j c hj;exact⟨h1,y,h2,h3.keep hk⟩
 .intro t ht b hb;have hne:b≠b':=λe=>by subst e;exact hI.apart t s b ht hb (by rw[ho,hE]<;>rfl)
  refine⟨sS w b' b arr' hne,λ_ hz=>hz,?_⟩
  grind
 .grind
 .grind
theorem cU9{w:World}{obj:I5}{E:Nat->Value}{s:SV}{x:Value}{c:CV}{o:Option TI}(h:N7 Z w obj E s x)(hc:(aQ s).map (aN1 o)=some c):Rep Z w c x:=by
 cases ha:aQ s with
 |none=>grind
 |some d=>
  rw[ha]at hc;obtain rfl:=iE hc;have hr:=lZ h ha;unfold aN1;split
  .cases hr with
   |nil _ a cap=>exact .nil _ a cap
   |sl _ _ b o cap f hcap hsz hc h=>exact .sl _ [] b o cap f hcap (λi d hd=>nomatch hd) (λi j d c hd=>nomatch hd) (λi j d c hd=>nomatch hd)
  .exact hr
theorem dm2(hT:X9 P T)(dst:Option Nat)(t:TypeId)(x y:Operand)(type:TypeId)(pos:String)(after:Array Edge)(guard:Option (Nat×Bool)):iD P G T ⟨dst,.store t x y,type,pos,after,guard⟩:=by
 intro Z0 w0 S n Z E st a w K next Q F hI hd h hX hn
 have hx:=Y2 hI x;have hy:=Y2 hI y;simp only[wpOp]at h;split at h
 .rename_i i s g off c hti hlx hcy;have hi:=hT _ _ hti;rw[hlx]at hx;split at h
  .rename_i g' cs ho;replace h:=Q8 h;obtain⟨hb,h⟩:=h;simp only[X3]at hb;obtain⟨⟨⟨hgg,hlen⟩,hst⟩,hpos⟩:=hb;have:=F8 hgg;subst this;split at h
   .rename_i cs' hset;obtain⟨hys,mG⟩:=OM (cU9 hy hcy) hst;have hcl:c.cells.length=i.size:=F8 hlen;have hip:1<=i.size:=H6 hpos;obtain⟨h1,h2,h3⟩:=SY _ _ _ _ hset;obtain⟨b,hE,hxe,_⟩:=BA hI (.inl ho) hx;have hos:=hI.obj s;rw[ho]at hos;obtain⟨b',el,arr,he,hh,hs,hc,_⟩:=hos;have hbb:b'=b:=by grind
    subst hbb;have hfit:off+(a.eval y).cells.toList.length<=arr.size:=by grind
    have hone:∀v∈(a.eval y).cells.toList,v.oneCell'=true:=λv hv=>by
     obtain⟨j,hj,wL⟩:=dV hv;have hj':j<c.cells.length:=by grind
     have hcj:c.cells[j]?=some (c.cells[j]'hj'):=I9 hj';obtain⟨hat,u,hu,hr⟩:=mG j _ hcj;have:u=v:=by grind
     subst this;exact hr.atom hat
    have hrun:=run_storeCells_at (P:=P) b' off el (a.eval y).cells.toList 0 arr w hh (by simpa using hfit) hone;refine MZ ?_ (hn _ _ _ _ _ _ _ h (hI.setVar (arr':=(arr.toList.take (off+0)++(a.eval y).cells.toList++arr.toList.drop (off+0+(a.eval y).cells.toList.length)).toArray) hd ho hE hh ?_ undef ?_))
    .simp only[execOp,hxe,Instr.storeAt,Instr.sureAddr,storeVar,I7,Q5,N9,hi.sizeOf w];rw[F9 (by rw[hys,hcl];simp)];simp only[Q5,N9,hrun]
    .grind
    .intro j c' hj;have hjl:j<cs.length:=by grind
     rw[h3 j]at hj;have hget:((arr.toList.take (off+0)++(a.eval y).cells.toList++arr.toList.drop (off+0+(a.eval y).cells.toList.length)).toArray)[j]?=
      if off<=j/\j<off+c.cells.length then(a.eval y).cells[j-off]? else arr[j]?:=by
      simp only[oD,List.getElem?_toArray,kM];have hl1:(arr.toList.take off).length=off:=by grind
      by_cases hjo:j<off
      .grind
      .rw[bJ (by omega),hl1];by_cases hjk:j<off+c.cells.length
       .grind
       .grind
     grind
   .grind
  .grind
 .grind
end
end Go.F6
namespace Go.F6
open Go Go.RowKit
section
variable{P:Program}{G:World->Prop}{T:Tab}{Z0:Base}{w0:World}{S:Nat->Prop}{n:Nat}{Z Z':Zone}{E:Nat->Value}{st:St}{a:Act}{w w':World}
theorem Inv.tok(hI:Inv G Z0 w0 S n Z E st a w){d:Nat}(hd:inRange n (some d)=true){x:Value}{sz el s':Nat}{es:List (List CV)}{E5:I5}
 (hod:E5 d=((st.obj d).1+1,.tok el s')) (JY:∀t,t≠d->E5 t=st.obj t\/E5 t=((st.obj t).1,.spent))
 (hb:Kept S w w') (hk:Keeps Z w Z' w') (hlt:∀b o,Z' b o->b<w'.heap.size) (hnew:∀b o,Z' b o->Z b o\/¬S b)
 (hown:U6 Z' w' st.obj E x (.tok el s')) (hrep:Rep Z' w' (.sl sz es) x)
 (hnS:∀b,(D9.tok el s').blk x b->¬S b)
 (XF:∀t,t≠d->E5 t=st.obj t->∀b,(st.obj t).2.blk (E t) b->w'.heap[b]?=w.heap[b]?/\(∀k,Z' b k->Z b k)/\¬(D9.tok el s').blk x b):
 Inv G Z0 w0 S n Z' (iR E d x) ⟨put st.env (some d) (.ap d ((st.obj d).1+1) sz es),E5⟩ (a.put (some d) x) w':=by
 refine hI.renew (λt=>t=d\/E5 t≠st.obj t) hd hb hk hlt hnew ?_ ?_ ?_ ?_ ?_ ?_ ?_
 .intro t ht;have h1:t≠d:=λe=>ht (.inl e);exact⟨Classical.byContradiction λe=>ht (.inr e),aU2 E _ h1⟩
 .intro t ht;by_cases h:t=d
  .grind
  .rcases JY t h with h1|h1
   .grind
   .rw[h1];exact .inr ⟨rfl,.inl (.inl rfl)⟩
 .intro _ t ht;by_cases h:t=d
  .subst h;rw[hod,sQ];exact hown
  .rcases JY t h with h1|h1
   .grind
   .rw[h1];trivial
 .intro t ht b hb;have h1:t≠d:=λe=>ht (.inl e);have h2:E5 t=st.obj t:=Classical.byContradiction λe=>ht (.inr e);obtain⟨g1,g2,g3⟩:=XF t h1 h2 b hb;refine⟨g1,g2,λs hs=>?_⟩;by_cases h:s=d
  .subst h;rw[hod,sQ];exact g3
  .grind
 .intro t t' b ht ht' hne h1 h2;by_cases h:t=d
  .grind
  .grind
 .intro t ht b hb';by_cases h:t=d
  .subst h;rw[hod,sQ]at hb';exact hnS b hb'
  .grind
 .refine .ap _ _ _ _ _ hrep ?_ λ_ _ _=>sQ _ _ _
  grind
theorem dk5(dst:Option Nat)(x:Operand)(type:TypeId)(pos:String)(after:Array Edge)(guard:Option (Nat×Bool)):iD P G T ⟨dst,.assign x,type,pos,after,guard⟩:=by
 intro Z0 w0 S n Z E st a w K next Q F hI hd h hX hn
 simp only[wpOp]at h;cases dst with
 |none=>grind
 |some d=>
  simp only[UL]at h;split at h
  .split at h
   .rename_i e _ _ _ _ _ hty;split at h
    .rename_i i hi;replace h:=Q8 h;obtain⟨h1,h⟩:=h;have h1:1<=i.size:=H6 h1;refine aO (x:=.slice none 0 0) (w':=w) (by simp[execOp,Act.eval]) (hn _ _ _ Z (iR E d (.slice none 0 0)) _ w h ?_);refine hI.tok hd (tC _ _ _) (λt ht=>.inl (sZ _ _ ht)) (Kept.refl _ _) (Keeps.refl _ _) hI.U4 (λ_ _ h=>.inl h) ?_ (.nil _ _ _) (λb hb=>by simp[D9.blk]at hb) ?_
     .exact⟨0,[],h1,World.ownsRow_nil w _ _ _,λg cap he=>by simp at he⟩
     .grind
    .grind
   .grind
  .have hx:=Y2 hI x;have hrun:(execOp a.eval ⟨some d,.assign x,type,pos,after,guard⟩).run P w=.ok (.value (a.eval x)) w:=by simp[execOp]
   split at h
   .rename_i t g sz es he;have hx':=hx;rw[he]at hx';split at h
    .rename_i g' el s' ho;cases hb:(Nat.beq g g'&& !(Nat.beq t d))with
     |false=>
      rw[hb]at h;simp only[G6]at h;exact aP hI hd hn h hrun hx
     |true=>
      rw[hb]at h;simp only[H7]at h;simp only[X3,Bool.not_eq_true']at hb;have hgg:=F8 hb.1;subst hgg;have htd:t≠d:=λe=>by subst e;simp at hb
      cases hx' with
      |ap _ _ _ _ _ hrep hgl hE=>
       have iG:=hE _ _ ho;refine aO hrun (hn _ _ _ Z (iR E d (a.eval x)) _ w h ?_);have hot:=hI.obj t;rw[ho,iG]at hot;refine hI.tok hd (av9 _ _ _ htd) (λs hs=>?_) (Kept.refl _ _) (Keeps.refl _ _) hI.U4 (λ_ _ h=>.inl h) hot hrep (λb hb=>hI.own t b (by rw[ho,iG];exact hb)) ?_
       .by_cases hst:s=t
        .subst hst;right;rw[FQ,ho]
        .left;exact av8 _ _ _ hst hs
       .intro s hs hos b hb';refine⟨rfl,λ_ h=>h,λhx=>?_⟩;have hst:s≠t:=λe=>by subst e;rw[FQ]at hos;rw[ho]at hos;simp at hos
        exact hI.apart s t b hst hb' (by rw[ho,iG];exact hx)
    .refine aP hI hd hn h hrun (.c _ _ ?_);cases hx' with
     |ap _ _ _ _ _ hrep hgl hE=>exact hrep
   .exact aP hI hd hn h hrun hx
theorem flat_get{ds:List (List CV)}{sz:Nat}(hsz:∀(i:Nat)(d:List CV),ds[i]?=some d->d.length=sz)(h0:0<sz){k:Nat}(hk:k<ds.length*sz):
 ∃d c,ds[k/sz]?=some d/\d[k % sz]?=some c:=by
 have h1:k/sz<ds.length:=Nat.div_lt_of_lt_mul (by rw[Nat.mul_comm];exact hk);have h2:ds[k/sz]?=some (ds[k/sz]'h1):=I9 h1;have h3:=hsz _ _ h2;have h4:k % sz<(ds[k/sz]'h1).length:=by rw[h3];exact Nat.mod_lt _ h0
 exact⟨_,_,h2,I9 h4⟩
theorem bf4{base:Nat}{t ty e:TypeId}{i:TypeInfo}{z:Value}{size:Nat}(ht:P.underlying t=some (.slice e))(hi:P.info? e=some i)(hz:i.zero=some z)
 (hsize:i.size=size) (hzs:z.cells.size=size) (hsz:0<size)
 {v:Value} {m0:Nat} {xs:List Value} (hown:w.ownsRow base e size v m0 xs)
 {b:Addr} {m c:Nat} {news:List Value} (hm:0<m) (hl:news.length=m*size) (hnews:∀j u,news[j]?=some u->w.cell? (b.add j)=some u) (h1:∀u∈news,u.oneCell'=true)
 (h63:m0+m<=9223372036854775807) (hbytes:(m0+m)*i.bytes<=140737488355328) (hbase:base<=w.heap.size):
 ∃v' w',(Builtin.append_ #[t,t] ty #[v,.slice (some b) m c]).run P w=.ok v' w'/\w'.ownsRow base e size v' (m0+m) (xs++news)/\w.grownBy w' v.ownBlock/\
  (∀g o,v.ownBlock=some g->o<m0*size->w'.cell? ⟨g,o,none⟩=w.cell? ⟨g,o,none⟩)/\
  (v'.ownBlock=v.ownBlock\/v'.ownBlock=some w.heap.size):=by
 obtain⟨v',w',hr,ho',hg',_⟩:=run_append_own (P:=P) w base t ty e i z size i.bytes ht hi hz hsize rfl hzs hsz v m0 xs hown b m c news hl hnews h1 (by simp only[maxLen];omega) hbytes hbase;refine⟨v',w',hr,ho',hg',?_⟩;subst hsize;rcases hown.2 with⟨rfl,rfl⟩|⟨g,cap,cur,rfl,hbg,hg,hnc,hcm,hcs,htake⟩
 .have hr2:=run_append_nil (P:=P) w t ty e i z ht hi hz b m c news hl hnews hm (by omega) (by simp only[V7]at hbytes;omega);rw[hr2]at hr;injection hr with hv hw
  subst hv;exact⟨λg o hgo=>by simp[Value.ownBlock]at hgo,.inr rfl⟩
 .by_cases hroom:m0+m<=cap
  .have hfit:m0*i.size+news.length<=cur.size:=by rw[hl,hcs,<-pV];exact iJ _ hroom
   have hr2:=run_append_room (P:=P) w t ty e i ht hi g m0 cap cur hg b m c news hl hnews h1 hroom hfit;rw[hr2]at hr;injection hr with hv hw
   subst hv;subst hw;refine⟨λg' o hgo ho=>?_,.inl rfl⟩;simp[Value.ownBlock]at hgo;subst hgo;rw[cell_setRow_same w g o cur _ e (0,0) hg,jY w g o cur e (0,0) hg]
   grind
  .have holds:∀j u,xs[j]?=some u->w.cell? ((⟨g,0,none⟩:Addr).add j)=some u:=hown.cells (g:=g) rfl;have hr2:=run_append_grow (P:=P) w t ty e i z ht hi hz ⟨g,0,none⟩ m0 cap xs hown.1 holds b m c news hl hnews (by omega) (by omega) (growslice_fits (by omega) hbytes);rw[hr2]at hr;injection hr with hv hw
   subst hv;subst hw;refine⟨λg' o hgo ho=>?_,.inr rfl⟩;simp[Value.ownBlock]at hgo;subst hgo;exact bi7 (w:=w.drew) (uP w.drew _ (V4.1 hg).1)
theorem bf2{base:Nat}{t ty e:TypeId}{i:TypeInfo}{size:Nat}(ht:P.underlying t=some (.slice e))(hi:P.info? e=some i)
 {v:Value} {m0:Nat} {xs:List Value} (hown:w.ownsRow base e size v m0 xs) (ya:Option Addr) (yc:Nat):
 (Builtin.append_ #[t,t] ty #[v,.slice ya 0 yc]).run P w=.ok v w:=by
 rcases hown.2 with⟨rfl,rfl⟩|⟨g,cap,cur,rfl,_,_,hnc,_⟩
 .cases ya<;>simp[Builtin.append_,L6 ht,sizeOf,typeInfo,hi,Builtin.lenOf,Builtin.firstCells,loadCells,loadCellsFrom]
 .cases ya<;>simp[Builtin.append_,L6 ht,sizeOf,typeInfo,hi,Builtin.lenOf,Builtin.firstCells,hnc,storeCells,loadCells,loadCellsFrom]
theorem zT(x:Value)(el sz:Nat){b:Nat}:(D9.tok el sz).blk x b=(x.ownBlock=some b):=aY3 x el sz
theorem bG9{el:TypeId}{sz m0:Nat}{xs:List Value}{x:Value}{es:List (List CV)}(hown:w.ownsRow 0 el sz x m0 xs)(hrep:Rep Z w (.sl sz es) x):
 m0=es.length/\(∀(i:Nat)(d:List CV),es[i]?=some d->d.length=sz)/\∀(i j:Nat)(d:List CV)(c:CV),es[i]?=some d->d[j]?=some c->c.atom=true/\∃u,xs[i*sz+j]?=some u/\Rep Z w c u:=by
 cases hrep with
 |nil a b cap=>
  refine⟨?_,λi d h=>by simp at h,λi j d c h=>by simp at h⟩;rcases hown.2 with⟨_,h⟩|⟨g,cap',cur,he,_⟩
  .exact h
  .grind
 |sl _ _ b o cap f hcap hs hc hr=>
  rcases hown.2 with⟨he,_⟩|⟨g,cap',cur,he,hbg,hg,hnc,hcm,hcs,htake⟩
  .simp at he
  .simp only[Value.slice.injEq,Z9,Addr.mk.injEq]at he;obtain⟨⟨rfl,rfl,_⟩,rfl,rfl⟩:=he;refine⟨rfl,hs,λi j d c h1 h2=>?_⟩;obtain⟨_,hcell,hat⟩:=hc i j d c h1 h2;refine⟨hat,f i j,?_,hr i j d c h1 h2⟩;rw[V7,jY w b _ cur el (0,0) hg]at hcell;rw[<-htake,jK,I4 ?_]
   .grind
   .have hi:i<es.length:=(O4.1 h1).1;have hj:j<sz:=by grind
    have h5:(i+1)*sz<=es.length*sz:=iJ _ (by omega)
    grind
theorem YW{el:TypeId}{sz m0:Nat}{xs:List Value}{x:Value}{es:List (List CV)}(hown:w.ownsRow 0 el sz x m0 xs)(hm:m0=es.length)
 (hs:∀(i:Nat)(d:List CV),es[i]?=some d->d.length=sz) (hc:∀(i j:Nat)(d:List CV)(c:CV),es[i]?=some d->d[j]?=some c->c.atom=true/\∃u,xs[i*sz+j]?=some u/\Rep Z w c u)
 (hz:∀b o,x.ownBlock=some b->o<m0*sz->Z b o):Rep Z w (.sl sz es) x:=by
 subst hm;rcases hown.2 with⟨rfl,h0⟩|⟨g,cap,cur,rfl,hbg,hg,hnc,hcm,hcs,htake⟩
 .have:es=[]:=lX h0;subst this;exact .nil _ _ _
 .refine .sl sz es g 0 cap (λi j=>xs.getD (i*sz+j) undef) hnc hs (λi j d c h1 h2=>?_) (λi j d c h1 h2=>?_)
  .obtain⟨hat,u,hu,_⟩:=hc i j d c h1 h2;have hlt:i*sz+j<es.length*sz:=by grind
   rw[V7];refine⟨hz g _ rfl hlt,?_,hat⟩;rw[hown.cellAt _ hlt,NQ,hu];rfl
  .grind
end
end Go.F6
namespace Go.F6
open Go Go.RowKit
section
variable{P:Program}{G:World->Prop}{T:Tab}{Z0:Base}{w0:World}{S:Nat->Prop}{n:Nat}{Z Z':Zone}{E:Nat->Value}{st:St}{a:Act}{w w':World}
theorem CY(dst:Option Nat)(b:Builtin)(args:Array Operand)(argTypes:Array TypeId)(type:TypeId)(pos:String)(after:Array Edge)(guard:Option (Nat×Bool)):
 (execOp a.eval ⟨dst,.call ⟨.builtin b,args,argTypes⟩,type,pos,after,guard⟩).run P w=(builtin b argTypes type (args.map λ|.const _=>true|_=>false) (args.map a.eval)).run P w:=by
 simp only[execOp,resolve,invoke,I7,Q5,N9];rfl
theorem aB4(k sz:Nat):k/sz*sz+k % sz=k:=by rw[Nat.mul_comm];exact Nat.div_add_mod k sz
theorem SB{base el sz m b:Nat}{x:Value}{xs:List Value}(h:w.ownsRow base el sz x m xs)(hb:x.ownBlock=some b):∃cur,w.heap[b]?=some (.cells cur el (0,0)):=by
 rcases h.2 with⟨he,_⟩|⟨g,cap,cur,he,_,hg,_⟩
 .rw[he]at hb;simp[Value.ownBlock]at hb
 .rw[he]at hb;simp[Value.ownBlock]at hb;subst hb;exact⟨cur,hg⟩
theorem bG8{base el sz m b:Nat}{x:Value}{xs:List Value}(h:w.ownsRow base el sz x m xs)(hb:x.ownBlock=some b){p:Prop}:∀es c,w.heap[b]?=some (.map es c)->p:=λes c he=>by
 obtain⟨cur,hc⟩:=SB h hb
 grind
theorem bf3(hI:Inv G Z0 w0 S n Z E st a w){t g e sz:Nat}(ho:st.obj t=(g,.tok e sz)){s b:Nat}(hs:s≠t)(hb:(st.obj s).2.blk (E s) b):(E t).ownBlock≠some b/\b<w.heap.size:=by
 refine⟨λhx=>hI.apart s t b hs hb (by rw[ho,zT];exact hx),(hI.obj s).lt hb⟩
theorem dk4(hT:X9 P T)(dst:Option Nat)(args:Array Operand)(argTypes:Array TypeId)(type:TypeId)(pos:String)(after:Array Edge)(guard:Option (Nat×Bool)):
 iD P G T ⟨dst,.call ⟨.builtin .append,args,argTypes⟩,type,pos,after,guard⟩:=by
 intro Z0 w0 S n Z E st a w K next Q F hI hd h hX hn
 obtain⟨args⟩:=args;obtain⟨argTypes⟩:=argTypes;rcases args with _|⟨x,_|⟨y,_|⟨z,r⟩⟩⟩
 .simp only[wpOp,gJ]at h;exact hX h
 .simp only[wpOp,gJ]at h;exact hX h
 rotate_left
 .simp only[wpOp,gJ]at h;exact hX h
 .simp only[wpOp,gJ]at h;split at h
  .rename_i t g sz es s2 ns d t1 t2 hlx hly;have hx:=Y2 hI x;have hy:=Y2 hI y;rw[hlx]at hx;have hyr:=NY hy hly;split at h
   .rename_i e _ _ _ _ _ ht1;split at h
    .rename_i i hte;replace h:=Q8 h;obtain⟨V6,h⟩:=h;simp only[X3]at V6;obtain⟨⟨⟨⟨⟨aI5,hisz⟩,bq1⟩,hby⟩,hzl⟩,htok⟩:=V6;have:=F8 aI5;subst this;have hisz:=F8 hisz;have bq1:=H6 bq1;have hby:=H6 hby;have ho:st.obj t=(g,.tok e sz):=by
      split at htok
      .rename_i g' el s ho;simp only[X3]at htok;rw[ho,F8 htok.1.1,F8 htok.1.2,F8 htok.2]
      .cases htok
     clear htok;rcases h with h|h
     rotate_left
     .exact hX h
     obtain⟨hns,hlen,es',rfl,h⟩:=h;have hu1:=(hT _ _ ht1).u;simp only at hu1;have hie:=hT _ _ hte;obtain⟨j,hj,hjs,hjb,hjz⟩:=hie.eX;have hzc:(O7 i).cells.size=sz:=by rw[kK hie];simp[hie.len,hisz]
     have iG:E t=a.eval x:=by
      generalize a.eval x=v at hx;cases hx with|ap _ _ _ _ _ _ _ hE=>exact hE _ _ ho
     have hxr:Rep Z w (.sl sz es) (a.eval x):=by
      generalize a.eval x=v at hx;cases hx with|ap _ _ _ _ _ hr _ _=>exact hr
     have hot:=hI.obj t;rw[ho,iG]at hot;obtain⟨m0,xs,kW,hown,hz⟩:=hot;obtain⟨hm0,hes,hec⟩:=bG9 hown hxr;have fin:∀(v':Value)(w':World)(Z':Zone),(Builtin.append_ #[t1,t1] type #[a.eval x,a.eval y]).run P w=.ok v' w'->Kept S w w'->Keeps Z w Z' w'->
      (∀b o,Z' b o->b<w'.heap.size)->(∀b o,Z' b o->Z b o\/¬S b)->U6 Z' w' st.obj E v' (.tok e sz)->Rep Z' w' (.sl sz (es++ns)) v'->(∀b,v'.ownBlock=some b->¬S b)->
      (∀s,s≠t->∀b,(st.obj s).2.blk (E s) b->w'.heap[b]?=w.heap[b]?/\(∀k,Z' b k->Z b k)/\v'.ownBlock≠some b)->
      Oper.bT P ⟨some d,.call ⟨.builtin .append,⟨[x,y]⟩,⟨[t1,t1]⟩⟩,type,pos,after,guard⟩ a w next Q:=by
      intro v' w' Z' hrun hb hk hlt hnew hok hrep hnS hoth;have hrun':(execOp a.eval ⟨some d,.call ⟨.builtin .append,⟨[x,y]⟩,⟨[t1,t1]⟩⟩,type,pos,after,guard⟩).run P w=.ok (.value v') w':=by
       rw[CY];simp only[builtin,I7,List.map_toArray,kP,List.map_nil,hrun];rfl
      cases htd:Nat.beq t d with
      |true=>
       rw[htd]at h;simp only[H7]at h;have:=F8 htd;subst this;have hg:(st.obj t).1=g:=by rw[ho]
       refine aO hrun' (hn _ _ _ Z' (iR E t v') v' w' h ?_);have:=hI.tok (x:=v') (sz:=sz) (es:=es++ns) (E5:=upd st.obj [(t,(g+1,.tok e sz))]) hd (by rw[tC,hg]) (λs hs=>.inl (sZ _ _ hs)) hb hk hlt hnew hok hrep (λb hb=>hnS b (by rw[<-zT];exact hb))
        (λs hs _ b hb'=>by rw[zT];exact hoth s hs b hb')
       grind
      |false=>
       rw[htd]at h;simp only[G6]at h;have XI:t≠d:=λe=>by subst e;simp at htd
       refine aO hrun' (hn _ _ _ Z' (iR E d v') v' w' h ?_);refine hI.tok hd (av9 _ _ _ XI) (λs hs=>?_) hb hk hlt hnew hok hrep (λb hb=>hnS b (by rw[<-zT];exact hb)) (λs hs hos b hb'=>?_)
       .by_cases hst:s=t
        .subst hst;right;rw[FQ,ho]
        .left;exact av8 _ _ _ hst hs
       .rw[zT];have hst:s≠t:=λe=>by subst e;rw[FQ,ho]at hos;simp at hos
        grind
     have empty:ns=[]->∀(ya:Option Addr)(yc:Nat),a.eval y=.slice ya 0 yc->Oper.bT P ⟨some d,.call ⟨.builtin .append,⟨[x,y]⟩,⟨[t1,t1]⟩⟩,type,pos,after,guard⟩ a w next Q:=by
      intro hnil ya yc hye;subst hnil;refine fin (a.eval x) w Z (by rw[hye];exact bf2 hu1 hj hown ya yc) (Kept.refl _ _) (Keeps.refl _ _) hI.U4 (λ_ _ h=>.inl h) ⟨m0,xs,kW,hown,hz⟩ (by simpa using hxr) (λb hb=>hI.own t b (by rw[ho,iG,zT];exact hb)) ?_;intro s hs b hb;have:=bf3 hI ho hs hb
      grind
     generalize hye:a.eval y=yv at hyr;cases hyr with
     |nil _ ya yc=>grind
     |sl _ _ b o cap f hcap hs2 hc hr=>
      by_cases hnil:ns=[]
      .grind
      .have hpos:0<ns.length:=List.length_pos_iff.2 hnil;have aI4:s2=sz:=by
        have hfirst:ns[0]?=some (ns[0]'hpos):=I9 hpos
        grind
       subst aI4
       let news:=(List.range (ns.length*s2)).map λk=>f (k/s2) (k % s2)
       have hnl:news.length=ns.length*s2:=by simp[news]
       have PW:∀k,k<ns.length*s2->news[k]?=some (f (k/s2) (k % s2)):=λk hk=>by grind
       have hnews:∀j u,news[j]?=some u->w.cell? ((⟨b,o,none⟩:Addr).add j)=some u:=λk u hk=>by
        have hlt:k<ns.length*s2:=by grind
        obtain⟨dd,c,h1,h2⟩:=flat_get hs2 kW hlt;obtain⟨_,hcell,_⟩:=hc _ _ dd c h1 h2;rw[PW k hlt]at hk;injection hk with hk
        rw[gY,<-hk];rw[Nat.add_assoc,aB4]at hcell;exact hcell
       have hone:∀u∈news,u.oneCell'=true:=λu hu=>by
        obtain⟨k,hk,hku⟩:=dV hu;have hlt:k<ns.length*s2:=by grind
        obtain⟨dd,c,h1,h2⟩:=flat_get hs2 kW hlt;have hu':u=f (k/s2) (k % s2):=by grind
        rw[hu'];exact(hr _ _ dd c h1 h2).atom (hc _ _ dd c h1 h2).2.2
       have hbytes:(m0+ns.length)*j.bytes<=140737488355328:=by
        rw[hm0,hjb];rcases hlen with hlen|hlen
        .calc (es.length+ns.length)*i.bytes<=4294967296*4096:=Nat.mul_le_mul hlen hby
          _<=140737488355328:=by decide
        .exact hlen.2
       have hlen:es.length+ns.length<=140737488355328:=by
        rcases hlen with hlen|hlen
        .omega
        .exact hlen.1
       obtain⟨v',w',hrun,hown',hgr,hold,hblk⟩:=bf4 (P:=P) (ty:=type) (c:=cap) hu1 hj hjz (hjs.trans hisz) hzc kW hown hpos hnl hnews hone (by omega) hbytes (Y3 _);have hxS:∀k,(a.eval x).ownBlock=some k->¬S k:=λk hk=>hI.own t k (by rw[ho,iG,zT];exact hk)
       have hvb:∀k,v'.ownBlock=some k->¬S k/\k<w'.heap.size:=λk hk=>⟨by
        rcases hblk with hb1|hb1
        .grind
        .rw[hb1]at hk;injection hk with hk;exact hI.fresh (by omega),(hown'.lt k hk).2⟩
       refine fin v' w' (λb o=>Z b o\/(v'.ownBlock=some b/\o<(m0+ns.length)*s2)) (by rw[hye];exact hrun) ?_ ?_ ?_ ?_ ?_ ?_ (λb hb=>(hvb b hb).1) ?_
       .exact(Kept.refl _ _).grown hgr hI.vI hxS (λk hk=>by obtain⟨cur,hc⟩:=SB hown hk;rw[hc];exact λh=>nomatch h)
       .intro b o hzb;refine⟨.inl hzb,?_⟩;by_cases P8:(a.eval x).ownBlock=some b
        .refine⟨hold b o P8 ?_,λes' c' he'=>(bG8 hown P8 es' c' he':_)⟩;rcases eG o (m0*s2)with hlt|hge
         .exact hlt
         .exfalso;rcases hown.2 with⟨he,_⟩|⟨g',cap',cur,he,_⟩
          .rw[he]at P8;simp[Value.ownBlock]at P8
          .rw[he]at P8;simp[Value.ownBlock]at P8
           grind
        .exact iH (hgr.block b (hI.U4 b o hzb) (λe=>P8 e.symm))
       .intro b o hzb;rcases hzb with hzb|⟨hzb,_⟩
        .exact Z5 (hI.U4 b o hzb) hgr.size
        .grind
       .grind
       .refine⟨m0+ns.length,xs++news,kW,hown',λg' cap' he o ho' hzz=>?_⟩;rcases hzz with hzz|⟨_,hlt⟩
        .rcases hblk with hb1|hb1
         .have hgx:(a.eval x).ownBlock=some g':=by rw[<-hb1,he];rfl
          rcases hown.2 with⟨hee,_⟩|⟨g2,cap2,cur,hee,_⟩
          .rw[hee]at hgx;simp[Value.ownBlock]at hgx
          .rw[hee]at hgx;simp[Value.ownBlock]at hgx
           grind
         .have hgx:v'.ownBlock=some g':=by rw[he];rfl
          rw[hb1]at hgx;injection hgx with hgx
          have:=hI.U4 _ _ hzz;omega
        .omega
       .have hkeep:Keeps Z w (λb o=>Z b o\/(v'.ownBlock=some b/\o<(m0+ns.length)*s2)) w':=by
         intro b o hzb;refine⟨.inl hzb,?_⟩;by_cases P8:(a.eval x).ownBlock=some b
         .refine⟨hold b o P8 ?_,λes' c' he'=>(bG8 hown P8 es' c' he':_)⟩;rcases eG o (m0*s2)with hlt|hge
          .exact hlt
          .exfalso;rcases hown.2 with⟨he,_⟩|⟨g',cap',cur,he,_⟩
           .rw[he]at P8;simp[Value.ownBlock]at P8
           .rw[he]at P8;simp[Value.ownBlock]at P8
            grind
         .exact iH (hgr.block b (hI.U4 b o hzb) (λe=>P8 e.symm))
        refine YW hown' (by rw[bQ,hm0]) (λi d hid=>?_) (λi j d c hid hjc=>?_) (λb o hb ho'=>.inr ⟨hb,ho'⟩)
        .grind
        .have hxl:=hown.1;rcases eG i es.length with hlt|hge
         .rw[bV hlt]at hid;obtain⟨hat,u,hu,hru⟩:=hec i j d c hid hjc;refine⟨hat,u,?_,hru.keep hkeep⟩
          grind
         .rw[bJ hge]at hid;obtain⟨_,_,hat⟩:=hc _ j d c hid hjc;have hjl:j<s2:=by grind
          have hil:i-es.length<ns.length:=(O4.1 hid).1;refine⟨hat,f (i-es.length) j,?_,(hr _ j d c hid hjc).keep hkeep⟩;have hidx:i*s2+j=xs.length+((i-es.length)*s2+j):=by
           rw[hxl,hm0,<-Nat.add_assoc,<-pV]
           grind
          rw[hidx,bJ (by omega),Nat.add_sub_cancel_left];have hkl:(i-es.length)*s2+j<ns.length*s2:=by
           have h5:(i-es.length+1)*s2<=ns.length*s2:=iJ _ (by omega)
           grind
          rw[PW _ hkl];congr 2
          .rw[Nat.mul_comm,Nat.mul_add_div kW,Nat.div_eq_of_lt hjl,oD]
          .rw[Nat.mul_comm,Nat.mul_add_mod,Nat.mod_eq_of_lt hjl]
       .intro s hs b hb;have hoth:=bf3 hI ho hs hb;rw[iG]at hoth;have hv':v'.ownBlock≠some b:=by grind
        exact⟨hgr.block b hoth.2 (λe=>hoth.1 e.symm),λk hk=>hk.elim id (λh=>absurd h.1 hv'),hv'⟩
    .grind
   .grind
  .grind
theorem dl0(hT:X9 P T)(dst:Option Nat)(b:Builtin)(args:Array Operand)(argTypes:Array TypeId)(type:TypeId)(pos:String)(after:Array Edge)(guard:Option (Nat×Bool)):
 iD P G T ⟨dst,.call ⟨.builtin b,args,argTypes⟩,type,pos,after,guard⟩:=by
 by_cases hap:b=.append
 .subst hap;exact dk4 hT _ _ _ _ _ _ _
 intro Z0 w0 S n Z E st a w K next Q F hI hd h hX hn
 obtain⟨args⟩:=args;simp only[wpOp,gJ]at h;split at h
 .rename_i x;have hx:=Y2 hI x;have hrun:∀v,(Builtin.len_ argTypes type #[a.eval x]).run P w=.ok v w->(execOp a.eval ⟨dst,.call ⟨.builtin .len,⟨[x]⟩,argTypes⟩,type,pos,after,guard⟩).run P w=.ok (.value v) w:=by
   intro v hv;rw[CY];simp only[builtin,I7,List.map_toArray,kP,List.map_nil,hv];rfl
  split at h
  .rename_i s he;rw[he]at hx;have hxe:a.eval x=.string s:=kZ hx;split at h
   .rename_i _ _ _ _ _ hbt;cases hat:argTypes[0]? with
    |none=>grind
    |some t0=>
     rw[hat]at hbt;have hu:=(hT _ _ hbt).u;simp only at hu;refine aP hI hd hn h (hrun _ ?_) (.c _ _ (.v _));simp[Builtin.len_,hat,L6 hu,hxe,goInt]
   .grind
  .split at h
   .rename_i sz ds e _ _ _ _ _ hsl hbt;cases hat:argTypes[0]? with
    |none=>grind
    |some t0=>
     rw[hat]at hbt;have hu:=(hT _ _ hbt).u;simp only at hu;have hr:=NY hx hsl;have hxe:∃aa cap,a.eval x=.slice aa ds.length cap:=by
      generalize a.eval x=y at hr;cases hr with
      |nil _ aa cap=>exact⟨aa,cap,rfl⟩
      |sl _ _ b o cap=>grind
     obtain⟨aa,cap,hxe⟩:=hxe;refine aP hI hd hn h (hrun _ ?_) (.c _ _ (.v _));simp[Builtin.len_,hat,L6 hu,hxe,goInt]
   .grind
 .rename_i x y;have hx:=Y2 hI x;have hy:=Y2 hI y;split at h
  .rename_i k i1 k2 i2 h1 h2;have e1:=mO (lZ hx h1);have e2:=mO (lZ hy h2);refine aP hI hd hn h (x:=.int k (if i2<i1 then i2 else i1)) ?_ (.c _ _ (.v _));rw[CY];simp[builtin,Builtin.min_,Builtin.min2,e1,e2]
  .grind
 .rename_i x y;have hx:=Y2 hI x;have hy:=Y2 hI y;split at h
  .rename_i k i1 k2 i2 h1 h2;have e1:=mO (lZ hx h1);have e2:=mO (lZ hy h2);refine aP hI hd hn h (x:=.int k (if i1<i2 then i2 else i1)) ?_ (.c _ _ (.v _));rw[CY];simp[builtin,Builtin.max_,Builtin.max2,e1,e2]
  .grind
 .grind
 .grind
end
end Go.F6
namespace Go.F6
open Go Go.RowKit
theorem foldl_set(off:Nat):∀(vs:List Value)(k:Nat)(cells:Array Value),off+k+vs.length<=cells.size->
 ((vs.zipIdx k).foldl (λcs (p:Value×Nat)=>cs.setIfInBounds (off+p.2) p.1) cells).size=cells.size/\
 ∀m,((vs.zipIdx k).foldl (λcs (p:Value×Nat)=>cs.setIfInBounds (off+p.2) p.1) cells)[m]?=if off+k<=m/\m<off+k+vs.length then vs[m-(off+k)]? else cells[m]?
 |[],k,cells,_=>⟨by simp,λm=>by rw[F9 (by simp)];simp⟩
 |v::vs,k,cells,h=>by
  simp only[pR]at h;obtain⟨h1,h2⟩:=foldl_set off vs (k+1) (cells.setIfInBounds (off+k) v) (by simp;omega);simp only[List.zipIdx_cons,List.foldl_cons];refine⟨by rw[h1];simp,λm=>?_⟩;rw[h2 m];by_cases hm:m=off+k
  .grind
  .by_cases hin:off+(k+1)<=m/\m<off+(k+1)+vs.length
   .grind
   .grind
section
variable{P:Program}{G:World->Prop}{T:Tab}{Z0:Base}{w0:World}{S:Nat->Prop}{n:Nat}{Z Z':Zone}{E:Nat->Value}{st:St}{a:Act}{w w':World}
def NT(Z:Zone)(w:World)(zs:List CV)(cells:Array Value):Prop:=cells.size=zs.length/\∀(j:Nat)(c:CV),zs[j]?=some c->c.atom=true/\∃x,cells[j]?=some x/\Rep Z w c x
theorem NT.set{zs ys:List CV}{cells:Array Value}(h:NT Z w zs cells){off:Nat}{c:CV}{x:Value}(hx:Rep Z w c x)(hst:c.storable=true)(hpos:0<c.cells.length)(hs:setAt zs off c.cells=some ys):
 off+x.cells.size<=cells.size/\NT Z w ys (x.cells.zipIdx.foldl (λcs (p:Value×Nat)=>cs.setIfInBounds (off+p.2) p.1) cells):=by
 obtain⟨h1,h2⟩:=OM hx hst;obtain⟨g1,g2,g3⟩:=SY _ _ _ _ hs;have hfit:off+x.cells.size<=cells.size:=by
  rcases g2 with g2|g2
  .grind
  .rw[h1,h.1];exact g2
 refine⟨hfit,?_⟩;have hfold:=foldl_set off x.cells.toList 0 cells (by simpa using hfit);have heq:x.cells.zipIdx.foldl (λcs (p:Value×Nat)=>cs.setIfInBounds (off+p.2) p.1) cells=(x.cells.toList.zipIdx 0).foldl (λcs (p:Value×Nat)=>cs.setIfInBounds (off+p.2) p.1) cells:=by
  rw[<-xG,Array.toList_zipIdx]
 rw[heq];refine⟨by rw[hfold.1,h.1,g1],λj d hj=>?_⟩;rw[hfold.2 j];rw[g3 j]at hj;simp only[oD,iT,h1];by_cases hin:off<=j/\j<off+c.cells.length
 .grind
 .rw[F9 hin]at hj⊢;exact h.2 j d hj
theorem bn7(hT:X9 P T)(hI:Inv G Z0 w0 S n Z E st a w)(fs:Array Field)(places:List (Nat×Nat))(hpl:∀(i:Nat)(f:Field),fs[i]?=some f->∀ti,T.get f.type=some ti->places[i]?=some (f.offset,ti.size)):
 ∀(parts:List (Nat×Operand))(zs ys:List CV)(cells:Array Value),NT Z w zs cells->wE T (look st) fs zs parts=some ys->
  ∃cells',Instr.fill (λi=>places[i]?) cells (parts.map λp=>(p.1,a.eval p.2))=some cells'/\NT Z w ys cells'
 |[],zs,ys,cells,h,hb=>by simp[wE]at hb;subst hb;exact⟨cells,rfl,h⟩
 |(i,x)::r,zs,ys,cells,h,hb=>by
  simp only[wE]at hb;split at hb
  .rename_i f c hf hc;split at hb
   .rename_i ti hti;cases V6:(Nat.beq c.cells.length ti.size&&c.storable&&Nat.ble 1 ti.size)with
    |false=>grind
    |true=>
     rw[V6]at hb;simp only[X3]at V6;simp only[H7]at hb;have hcl:=F8 V6.1.1;split at hb
     .rename_i zs' hset;have hx:=lZ (Y2 hI x) hc;obtain⟨hfit,hrc⟩:=h.set hx V6.1.2 (by rw[hcl];exact H6 V6.2) hset;obtain⟨cells',wK,hr'⟩:=bn7 hT hI fs places hpl r zs' ys _ hrc hb;refine⟨cells',?_,hr'⟩;have hp:=hpl i f hf ti hti;have hsz:(a.eval x).cells.size=ti.size:=by rw[(OM hx V6.1.2).1,hcl]
      simp only[kP,Instr.fill,hp,hsz]
      grind
     .simp at hb
   .simp at hb
  .simp at hb
theorem dk8(hT:X9 P T)(dst:Option Nat)(t:TypeId)(parts:Array (Nat×Operand))(type:TypeId)(pos:String)(after:Array Edge)(guard:Option (Nat×Bool)):iD P G T ⟨dst,.build t parts,type,pos,after,guard⟩:=by
 intro Z0 w0 S n Z E st a w K next Q F hI hd h hX hn
 simp only[wpOp]at h;split at h
 .rename_i fs size bytes z isAgg ks hti;replace h:=Q8 h;obtain⟨hall,h⟩:=h;rw[nZ]at hall;split at h
  .rename_i cs hb;have hi:=hT _ _ hti;obtain⟨j,hj,hjs,hjb,hjz⟩:=hi.eX;have hu:=hi.u;simp only at hu
   let places:=fs.toList.map λf=>(f.offset,match T.get f.type with|some ti=>ti.size|.none=>0)
   have hmap:fs.toList.mapM (λf=>(P.info? f.type).map λi=>(f.offset,i.size))=some places:=by
    have:∀l:List Field,(∀f∈l,(T.get f.type).isSome=true)->l.mapM (λf=>(P.info? f.type).map λi=>(f.offset,i.size))=some (l.map λf=>(f.offset,match T.get f.type with|some ti=>ti.size|.none=>0)):=by
     intro l;induction l with
     |nil=>grind
     |cons f l ih=>
      intro hl;have hf:=hl f (by simp);cases htf:T.get f.type with
      |none=>grind
      |some ti=>
       obtain⟨jf,hjf,cG4,_,_⟩:=(hT _ _ htf).eX
       grind
    grind
   have hz0:NT Z w (nX z ks) (O7 ⟨.struct fs,size,bytes,z,isAgg,ks⟩).cells:=by
    rw[kK hi];exact⟨by simp[ax0],λj c hj=>ad3 hi j c hj⟩
   obtain⟨cells,wK,hrc⟩:=bn7 hT hI fs places (λi f hf ti hti=>by
    have:fs.toList[i]?=some f:=by grind
    simp[places,O6,this,hti]) parts.toList _ _ _ hz0 hb
   have aG7:P.built t (parts.map λ(i,x)=>(i,a.eval x)).toList=some cells:=by
    unfold Program.built;simp only[hj,hu,hjz,hmap];rw[Array.toList_map]
    grind
   refine aP hI hd hn h (x:=.agg cells) ?_ (.c _ _ ?_)
   .simp only[execOp,I7,run_build w t _ cells aG7];rfl
   .have:=Rep.agg (Z:=Z) (w:=w) cs cells.toList (by simpa using hrc.1.symm) (λi c x h1 h2=>by
     obtain⟨_,y,hy,hr⟩:=hrc.2 i c h1;have:x=y:=by grind
     rw[this];exact hr) (λi c h1=>(hrc.2 i c h1).1)
    simpa using this
  .grind
 .grind
end
end Go.F6
namespace Go.F6
open Go Go.RowKit
section
variable{P:Program}{G:World->Prop}{T:Tab}{Z0:Base}{w0:World}{S:Nat->Prop}{n:Nat}{Z Z':Zone}{E:Nat->Value}{st:St}{a:Act}{w w':World}
theorem bn6(hI:Inv G Z0 w0 S n Z E st a w)(sz:Nat)(hsz:0<sz):
 ∀(parts:List (Nat×Operand))(k:Nat)(es:List (List CV))(cells:Array Value),tZ (look st) sz k parts=some es->cells.size=(k+es.length)*sz->
  ∃cells',Instr.fill (λi=>some (i*sz,sz)) cells (parts.map λp=>(p.1,a.eval p.2))=some cells'/\cells'.size=cells.size/\(∀m,m<k*sz->cells'[m]?=cells[m]?)/\
   (∀(i:Nat)(d:List CV),es[i]?=some d->d.length=sz)/\
   ∀(i j:Nat)(d:List CV)(c:CV),es[i]?=some d->d[j]?=some c->c.atom=true/\∃u,cells'[(k+i)*sz+j]?=some u/\Rep Z w c u
 |[],k,es,cells,h,hs=>by
  simp[tZ]at h;subst h;exact⟨cells,rfl,rfl,λ_ _=>rfl,λi d h=>by simp at h,λi j d c h=>by simp at h⟩
 |(i0,x)::r,k,es,cells,h,hs=>by
  simp only[tZ]at h;split at h
  .rename_i c es' hc hes;cases V6:(Nat.beq i0 k&&Nat.beq c.cells.length sz&&c.storable)with
   |false=>grind
   |true=>
    rw[V6]at h;simp only[X3]at V6;simp only[H7,Z9]at h;subst h;have hi0:=F8 V6.1.1;subst hi0;have hcl:=F8 V6.1.2;have hx:=lZ (Y2 hI x) hc;obtain⟨h1,h2⟩:=OM hx V6.2;have hss:cells.size=(i0+1+es'.length)*sz:=by grind
    have hfit:i0*sz+(a.eval x).cells.size<=cells.size:=by grind
    have hfold:=foldl_set (i0*sz) (a.eval x).cells.toList 0 cells (by simpa using hfit);have heq:(a.eval x).cells.zipIdx.foldl (λcs (p:Value×Nat)=>cs.setIfInBounds (i0*sz+p.2) p.1) cells=((a.eval x).cells.toList.zipIdx 0).foldl (λcs (p:Value×Nat)=>cs.setIfInBounds (i0*sz+p.2) p.1) cells:=by
     rw[<-xG,Array.toList_zipIdx]
    obtain⟨cells',wK,hsz',hlow,hlen',hrep⟩:=bn6 hI sz hsz r (i0+1) es' ((a.eval x).cells.zipIdx.foldl (λcs (p:Value×Nat)=>cs.setIfInBounds (i0*sz+p.2) p.1) cells) hes (by rw[heq,hfold.1];exact hss);rw[heq]at hsz' hlow;refine⟨cells',?_,by rw[hsz',hfold.1],λm hm=>?_,λi d hid=>?_,λi j d cc hid hjc=>?_⟩
    .simp only[kP,Instr.fill,h1,hcl]
     grind
    .grind
    .grind
    .cases i with
     |zero=>
      simp at hid;subst hid;obtain⟨hat,u,hu,hr⟩:=h2 j cc hjc;refine⟨hat,u,?_,hr⟩
      grind
     |succ i=>grind
  .simp at h
theorem dk9(hT:X9 P T)(dst:Option Nat)(t:TypeId)(len:Nat)(parts:Array (Nat×Operand))(type:TypeId)(pos:String)(after:Array Edge)(guard:Option (Nat×Bool)):iD P G T ⟨dst,.buildSlice t len parts,type,pos,after,guard⟩:=by
 intro Z0 w0 S n Z E st a w K next Q F hI hd h hX hn
 simp only[wpOp]at h;split at h
 .rename_i e _ _ _ _ _ hti;split at h
  .rename_i i d hte;split at h
   .rename_i es hes;replace h:=Q8 h;obtain⟨V6,h⟩:=h;simp only[X3]at V6;obtain⟨⟨⟨⟨hlen,hl1⟩,h1⟩,h2⟩,hzl⟩:=V6;have hlen:=F8 hlen;subst hlen;have hl1:=H6 hl1;have h1:=H6 h1;have h2:=H6 h2;have hi:=hT _ _ hte;obtain⟨j,hj,hjs,hjb,hjz⟩:=hi.eX;have hu:=(hT _ _ hti).u;simp only at hu
    let zero:Array Value:=if es.length*i.size=0 then #[]else(O7 i).cells
    obtain⟨cells,wK,hcs,_,hdl,hrep⟩:=bn6 hI i.size h1 parts.toList 0 es ((Array.range (es.length*i.size)).map (zero[· % zero.size]!)) hes (by simp);have hcs:cells.size=es.length*i.size:=by grind
    have hlim:¬(es.length*i.size>2^24):=by
     have:es.length*i.size<=4096*256:=Nat.mul_le_mul hl1 h2;omega
    have hrun:(execOp a.eval ⟨some d,.buildSlice t es.length parts,type,pos,after,guard⟩).run P w=.ok (.value (.slice (some ⟨w.heap.size,0,none⟩) es.length es.length)) (w.alloc (.cells cells e)):=by
     have qK:Instr.fill (λi'=>some (i'*i.size,i.size)) ((Array.range (es.length*i.size)).map (zero[· % zero.size]!)) (parts.map λ(i,x)=>(i,a.eval x)).toList=some cells:=by
      rw[Array.toList_map];exact wK
     simp only[execOp,Instr.buildSlice,I7,L6 hu,N9,hi.sizeOf w,F9 hlim,Q5];by_cases h0:es.length*i.size=0
     .have hze:zero=#[]:=by simp[zero,h0]
      rw[hze]at qK;rw[I4 h0];simp only[I7,Q5,N9,qK];rfl
     .have hze:zero=(O7 i).cells:=by simp[zero,h0]
      rw[hze]at qK;have hzv:(zeroValue e).run P w=.ok (O7 i) w:=by simp[zeroValue,typeInfo,hj,hjz]
      simp only[F9 h0,I7,hzv,N9,Q5,qK];rfl
    have hown:=World.ownsRow_lit (base:=0) (e:=e) (size:=i.size) w cells es.length (Y3 _) (by simp only[maxLen];omega) hcs;have hkeep:Keeps Z w (λb o=>Z b o\/(b=w.heap.size/\o<es.length*i.size)) (w.alloc (.cells cells e)):=λb o hz=>⟨.inl hz,(Keeps.alloc hI.U4 _ b o hz).2⟩;refine aO hrun (hn _ _ _ (λb o=>Z b o\/(b=w.heap.size/\o<es.length*i.size)) (iR E d (.slice (some ⟨w.heap.size,0,none⟩) es.length es.length)) _ _ h ?_);refine hI.tok hd (tC _ _ _) (λt ht=>.inl (sZ _ _ ht)) (az1 hI _) hkeep ?_ ?_ ?_ ?_ (λb hb=>by simp[D9.blk]at hb;exact hI.fresh (by omega)) ?_
    .intro b o hz;rcases hz with hz|⟨rfl,_⟩
     .have:=hI.U4 b o hz;simp;omega
     .simp
    .intro b o hz;rcases hz with hz|⟨rfl,_⟩
     .grind
     .exact .inr (hI.fresh (J6 _))
    .refine⟨es.length,cells.toList,h1,hown,λg cap he o ho hz=>?_⟩;simp only[Value.slice.injEq,Z9,Addr.mk.injEq]at he;rcases hz with hz|⟨_,hz⟩
     .have:=hI.U4 g o hz;omega
     .omega
    .refine YW hown rfl hdl (λi' j' d' c' h3 h4=>?_) (λb o hb ho=>.inr ?_)
     .obtain⟨hat,u,hu,hr⟩:=hrep i' j' d' c' h3 h4;exact⟨hat,u,by simpa using hu,hr.keep hkeep⟩
     .simp[Value.ownBlock]at hb
      grind
    .intro t ht _ b hb;have hlt:=(hI.obj t).lt hb;refine⟨uP w _ hlt,λk hk=>hk.elim id (λh=>by omega),?_⟩
     grind
   .grind
  .grind
 .grind
def Zf(Z:Zone)(obj:I5)(E:Nat->Value)(ts:List Nat):Zone:=λb o=>Z b o\/∃s∈ts,(obj s).2.blk (E s) b
theorem ad9(obj:I5)(E:Nat->Value){ts us:List Nat}(h:∀s∈ts,s∈us):Keeps (Zf Z obj E ts) w (Zf Z obj E us) w:=
 λ_ _ hz=>⟨hz.imp id λ⟨s,hs,hb⟩=>⟨s,h s hs,hb⟩,rfl,λ_ _ h=>h⟩
theorem yA(obj:I5)(E:Nat->Value)(ts:List Nat):Keeps Z w (Zf Z obj E ts) w:=λ_ _ hz=>⟨.inl hz,rfl,λ_ _ h=>h⟩
theorem ay6(hI:Inv G Z0 w0 S n Z E st a w){t g el sz:Nat}{ds:List (List CV)}{ts:List Nat}(ho:st.obj t=(g,.arr el sz ds none))(ht:t∈ts){x:Value}(hE:E t=x):Rep (Zf Z st.obj E ts) w (.sl sz ds) x:=by
 have hk:Keeps Z w (Zf Z st.obj E ts) w:=yA _ _ _;have hot:=hI.obj t;rw[ho]at hot;obtain⟨xs,hsz,hown,hfoc,hdl,hcl,hz⟩:=hot;rw[hE]at hown;refine YW hown rfl (λi d hd=>hdl i d (O4.1 hd).1 hd) (λi j d c h1 h2=>?_) (λb o hb _=>.inr ⟨t,ht,by rw[ho,hE,iF];exact hb⟩);obtain⟨hat,u,hu,hr⟩:=hcl i d (O4.1 h1).1 h1 j c h2;exact⟨hat,u,hu,(hr.closed (kY (hfoc.2 i d h1 (λm d' he=>by cases he)) h2)).keep hk⟩
theorem bz9(hI:Inv G Z0 w0 S n Z E st a w){t g:Nat}{es:List (CV×CV)}{ts:List Nat}(ho:st.obj t=(g,.map es))(ht:t∈ts){x:Value}(hE:E t=x):Rep (Zf Z st.obj E ts) w (.mp es) x:=by
 have hk:Keeps Z w (Zf Z st.obj E ts) w:=yA _ _ _;have hot:=hI.obj t;rw[ho,hE]at hot;obtain⟨b,arr,clock,he,hh,hl,hc,hz⟩:=hot;rw[he];exact .mp es b arr clock (.inr ⟨t,ht,by rw[ho,hE,he]<;>rfl⟩) hh hl.1 (λi k v m h1 h2=>(hc i k v m h1 h2).1.keep hk) (λi k v m h1 h2=>(hc i k v m h1 h2).2.keep hk)
theorem cz9(hI:Inv G Z0 w0 S n Z E st a w){c c':CV}{ts us:List Nat}(hf:DL st.obj c=some (c',ts))(hu:∀t∈ts,t∈us){x:Value}(h:fM Z w st.obj E c x):Rep (Zf Z st.obj E us) w c' x:=by
 cases c with
 |pr t g off=>
  simp only[DL]at hf;split at hf
  .rename_i g' cs ho;cases hb:Nat.beq g g' with
   |false=>grind
   |true=>
    rw[hb]at hf;simp at hf;obtain⟨rfl,rfl⟩:=hf;have:=F8 hb;subst this;have hs:N7 Z w st.obj E (.pm t g off) x:=by
     cases h with
     |pr _ _ _ _ hs hg hl=>exact .pm t g off x hs hg hl
     |cl h=>cases h
    obtain⟨b,hE,hx,f,hc⟩:=BA hI (.inl ho) hs;have hk:Keeps Z w (Zf Z st.obj E us) w:=yA _ _ _;have:=Rep.pi (Z:=Zf Z st.obj E us) (w:=w) cs b 0 off f (λj c hj=>⟨.inr ⟨t,hu t (by simp),by rw[ho,hE]<;>rfl⟩,by rw[V7];exact(hc j c hj).1,(hc j c hj).2.1⟩) (λj c hj=>(hc j c hj).2.2.keep hk)
    grind
  .simp at hf
 |_=>simp[DL]at hf
theorem bp5(hI:Inv G Z0 w0 S n Z E st a w):∀{cs cs':List CV}{ts us:List Nat},DN st.obj cs=some (cs',ts)->(∀t∈ts,t∈us)->cs'.length=cs.length/\∀(j:Nat)(c':CV),cs'[j]?=some c'->∃c,cs[j]?=some c/\
 ∀x,fM Z w st.obj E c x->Rep (Zf Z st.obj E us) w c' x
 |[],cs',ts,us,hf,_=>by
  simp[DN]at hf
  grind
 |c::r,cs',ts,us,hf,hu=>by
  simp only[DN]at hf;split at hf
  .rename_i d t1 ds t2 h1 h2;simp at hf;obtain⟨rfl,rfl⟩:=hf;obtain⟨hl,hr⟩:=bp5 hI (us:=us) h2 (λt ht=>hu t (BP _ ht));refine⟨by simp[hl],λj c' hj=>?_⟩;cases j with
   |zero=>
    simp at hj;subst hj;exact⟨c,rfl,λx hx=>cz9 hI h1 (λt ht=>hu t (BO _ ht)) hx⟩
   |succ j=>grind
  .simp at hf
theorem cz7(hI:Inv G Z0 w0 S n Z E st a w){c:CV}{x:Value}(h:X5 Z w st.obj E c x){c':CV}{ts us:List Nat}(hf:qG st.obj c=some (c',ts))(hu:∀t∈ts,t∈us):Rep (Zf Z st.obj E us) w c' x/\(c.atom=true->c'.atom=true):=by
 have closed:∀(c:CV),c.nK=false->X5 Z w st.obj E c x->some (c,([]:List Nat))=some (c',ts)->Rep (Zf Z st.obj E us) w c' x/\(c.atom=true->c'.atom=true):=by
  intro c hc hr he;simp at he;obtain⟨rfl,rfl⟩:=he;exact⟨(hr.closed hc).keep (yA _ _ _),id⟩
 cases h with
 |fr f caps vs hl h=>
  simp only[qG,Option.map_eq_some_iff]at hf;obtain⟨⟨cs,us'⟩,hp,hq⟩:=hf;simp at hq;obtain⟨rfl,rfl⟩:=hq;obtain⟨h1,h2⟩:=bp5 hI hp hu;refine⟨.fn f cs vs (by omega) (λi c x hc hx=>?_),λ_=>rfl⟩
  grind
 |one h1=>
  cases h1 with
  |cl h=>
   have hn:=h.EJ;have hx:X5 Z w st.obj E c x:=.cl h;cases c<;>first|exact closed _ hn hx hf|(simp[CV.nK]at hn)
  |rs t g x hs hg h=>
   simp only[qG]at hf;split at hf
   .rename_i g' el sz ds ho;cases hb:Nat.beq g g' with
    |false=>grind
    |true=>
     rw[hb]at hf;simp at hf;obtain⟨rfl,rfl⟩:=hf;have:=F8 hb;subst this;exact⟨ay6 hI ho (hu t (by simp)) (h _ _ _ _ ho),λ_=>rfl⟩
   .simp at hf
  |pr=>simp[qG]at hf
  |bp=>simp[qG]at hf
  |mr t g x hs hg h=>
   simp only[qG]at hf;split at hf
   .rename_i g' es ho;cases hb:Nat.beq g g' with
    |false=>grind
    |true=>
     rw[hb]at hf;simp at hf;obtain⟨rfl,rfl⟩:=hf;have:=F8 hb;subst this;exact⟨bz9 hI ho (hu t (by simp)) (h _ ho),λ_=>rfl⟩
   .simp at hf
theorem aE7(hI:Inv G Z0 w0 S n Z E st a w):∀{cs cs':List CV}{ts us:List Nat},uJ st.obj cs=some (cs',ts)->(∀t∈ts,t∈us)->cs'.length=cs.length/\∀(j:Nat)(c':CV),cs'[j]?=some c'->∃c,cs[j]?=some c/\(c.atom=true->c'.atom=true)/\
 ∀x,X5 Z w st.obj E c x->Rep (Zf Z st.obj E us) w c' x
 |[],cs',ts,us,hf,_=>by
  simp[uJ]at hf
  grind
 |c::r,cs',ts,us,hf,hu=>by
  simp only[uJ]at hf;split at hf
  .rename_i d t1 ds t2 h1 h2;simp at hf;obtain⟨rfl,rfl⟩:=hf;obtain⟨hl,hr⟩:=aE7 hI (us:=us) h2 (λt ht=>hu t (BP _ ht));refine⟨by simp[hl],λj c' hj=>?_⟩;cases j with
   |zero=>
    simp at hj;subst hj;refine⟨c,rfl,λhat=>?_,λx hx=>(cz7 hI hx h1 (λt ht=>hu t (BO _ ht))).1⟩;have hatom:∀(c:CV)(d:CV)(t1:List Nat),qG st.obj c=some (d,t1)->c.atom=true->d.atom=true:=by
     intro c d t1 hf hat;unfold qG at hf;split at hf
     .split at hf
      .rename_i g _ g' _ _ _ _;cases hb:Nat.beq g g' with
       |false=>grind
       |true=>rw[hb]at hf;simp at hf;rw[<-hf.1];rfl
      .simp at hf
     .split at hf
      .rename_i g _ g' _ _;cases hb:Nat.beq g g' with
       |false=>grind
       |true=>rw[hb]at hf;simp at hf;rw[<-hf.1];rfl
      .simp at hf
     .simp at hf
     .simp only[Option.map_eq_some_iff]at hf;obtain⟨p,_,hq⟩:=hf;simp at hq;rw[<-hq.1];rfl
     .simp at hf
     .grind
    grind
   |succ j=>grind
  .simp at hf
theorem bp2(hI:Inv G Z0 w0 S n Z E st a w){s:SV}{x:Value}(h:N7 Z w st.obj E s x){c:CV}{ts:List Nat}(hf:freeze st.obj s=some (c,ts)):Rep (Zf Z st.obj E ts) w c x:=by
 unfold freeze at hf;split at hf
 .rename_i t g off;split at hf
  .rename_i g' cs ho;cases hb:Nat.beq g g' with
   |false=>grind
   |true=>
    rw[hb]at hf;simp at hf;obtain⟨rfl,rfl⟩:=hf;have:=F8 hb;subst this;obtain⟨b,hE,hx,f,hc⟩:=BA hI (.inl ho) h;have hk:Keeps Z w (Zf Z st.obj E [t]) w:=yA _ _ _;have:=Rep.pi (Z:=Zf Z st.obj E [t]) (w:=w) cs b 0 off f (λj c hj=>⟨.inr ⟨t,by simp,by rw[ho,hE]<;>rfl⟩,by rw[V7];exact(hc j c hj).1,(hc j c hj).2.1⟩) (λj c hj=>(hc j c hj).2.2.keep hk)
    grind
  .rename_i g' cs ho;cases hb:Nat.beq g g' with
   |false=>grind
   |true=>
    rw[hb]at hf;simp only[H7]at hf;have:=F8 hb;subst this;split at hf
    .rename_i cs' us hq;simp at hf;obtain⟨rfl,rfl⟩:=hf;have hot:=hI.obj t;rw[ho]at hot;obtain⟨b,el,arr,hE,hh,hs,hc,hz⟩:=hot;have hx:x=.pointer (some ⟨b,off,none⟩):=by
      cases h with
      |pm _ _ _ _ _ _ hl=>
       obtain⟨b',h1,h2⟩:=hl ⟨cs,.inr (.inr ho)⟩
       grind
     obtain⟨hl,hr⟩:=aE7 hI (us:=t::us) hq (λs hs=>NR _ hs);have:=Rep.pi (Z:=Zf Z st.obj E (t::us)) (w:=w) cs' b 0 off (λj=>arr.getD j undef) (λj c hj=>?_) (λj c hj=>?_)
     .grind
     .obtain⟨c0,h0,hat,_⟩:=hr j c hj;obtain⟨h1,y,hy,_⟩:=hc j c0 h0;refine⟨.inr ⟨t,by simp,by rw[ho,hE]<;>rfl⟩,?_,hat h1⟩
      rw[V7,jY w b j arr el (0,0) hh,aT,hy];rfl
     .obtain⟨c0,h0,_,hrr⟩:=hr j c hj;obtain⟨_,y,hy,hxx⟩:=hc j c0 h0;have:arr.getD j undef=y:=by rw[aT,hy];rfl
      grind
    .simp at hf
  .simp at hf
 .rename_i t g;split at hf
  .rename_i g' es ho;cases hb:Nat.beq g g' with
   |false=>grind
   |true=>
    rw[hb]at hf;simp at hf;obtain⟨rfl,rfl⟩:=hf;have:=F8 hb;subst this;exact bz9 hI ho (by simp) (by cases h with|mr _ _ _ _ _ h=>exact h _ ho)
  .simp at hf
 .rename_i t g;split at hf
  .rename_i g' el sz ds ho;cases hb:Nat.beq g g' with
   |false=>grind
   |true=>
    rw[hb]at hf;simp at hf;obtain⟨rfl,rfl⟩:=hf;have:=F8 hb;subst this;exact ay6 hI ho (by simp) (by cases h with|rs _ _ _ _ _ h=>exact h _ _ _ _ ho)
  .simp at hf
 .cases hc:aQ s with
  |none=>grind
  |some c'=>
   rw[hc]at hf;simp at hf;obtain⟨rfl,rfl⟩:=hf;exact(lZ h hc).keep (yA _ _ _)
theorem bp0(hI:Inv G Z0 w0 S n Z E st a w):∀(ss:List SV)(vs:List Value)(cs:List CV)(ts:List Nat),ss.length=vs.length->(∀(i:Nat)(s:SV)(x:Value),ss[i]?=some s->vs[i]?=some x->N7 Z w st.obj E s x)->
 DI st.obj ss=some (cs,ts)->O8 (Zf Z st.obj E ts) w cs vs
 |[],[],cs,ts,_,_,hf=>by simp[DI]at hf;obtain⟨rfl,rfl⟩:=hf;exact O8.nil _ _
 |[],_::_,_,_,hl,_,_=>by simp at hl
 |_::_,[],_,_,hl,_,_=>by simp at hl
 |s::ss,x::vs,cs,ts,hl,h,hf=>by
  simp only[DI]at hf;split at hf
  .rename_i c t1 cs' t2 h1 h2;simp at hf;obtain⟨rfl,rfl⟩:=hf;have r1:=bp2 hI (h 0 s x rfl rfl) h1;have r2:=bp0 hI ss vs cs' t2 (by simpa using hl) (λi s' x' ha hb=>h (i+1) s' x' (by simpa using ha) (by simpa using hb)) h2;exact O8.cons (r1.keep (ad9 _ _ (λs hs=>BO _ hs))) (r2.keep (ad9 _ _ (λs hs=>BP _ hs)))
  .simp at hf
theorem cz4(hI:Inv G Z0 w0 S n Z E st a w){s:SV}{x:Value}(h:N7 Z w st.obj E s x){c:CV}{ts:List Nat}(hf:PN st.obj s=some (c,ts)):Rep (Zf Z st.obj E ts) w c x:=by
 unfold PN at hf;split at hf
 .rename_i f caps;split at hf
  .rename_i cs ts' hl;simp at hf;obtain⟨rfl,rfl⟩:=hf;cases h with
   |Q7 _ _ vs hf hlen hr=>
    have:=bp0 hI caps vs cs ts' hlen hr hl;exact .fn f cs vs this.1 this.2
  .simp at hf
 .exact bp2 hI h hf
theorem bo8(hI:Inv G Z0 w0 S n Z E st a w):∀(ss:List SV)(vs:List Value)(cs:List CV)(ts:List Nat),ss.length=vs.length->(∀(i:Nat)(s:SV)(x:Value),ss[i]?=some s->vs[i]?=some x->N7 Z w st.obj E s x)->
 wI st.obj ss=some (cs,ts)->O8 (Zf Z st.obj E ts) w cs vs
 |[],[],cs,ts,_,_,hf=>by simp[wI]at hf;obtain⟨rfl,rfl⟩:=hf;exact O8.nil _ _
 |[],_::_,_,_,hl,_,_=>by simp at hl
 |_::_,[],_,_,hl,_,_=>by simp at hl
 |s::ss,x::vs,cs,ts,hl,h,hf=>by
  simp only[wI]at hf;split at hf
  .rename_i c t1 cs' t2 h1 h2;simp at hf;obtain⟨rfl,rfl⟩:=hf;have r1:=cz4 hI (h 0 s x rfl rfl) h1;have r2:=bo8 hI ss vs cs' t2 (by simpa using hl) (λi s' x' ha hb=>h (i+1) s' x' (by simpa using ha) (by simpa using hb)) h2;exact O8.cons (r1.keep (ad9 _ _ (λs hs=>BO _ hs))) (r2.keep (ad9 _ _ (λs hs=>BP _ hs)))
  .simp at hf
theorem cz1{r:CV}{x:Value}(hr:flat r=true)(h:Rep Z w r x)(Z':Zone)(w':World):Rep Z' w' r x:=by
 have P7:∀(cs:List CV)(vs:List Value),(∀c∈cs,∃y,c=.v y)->cs.length=vs.length->(∀(i:Nat)(c:CV)(x:Value),cs[i]?=some c->vs[i]?=some x->Rep Z w c x)->Rep Z' w' (.P7 cs) (.tuple vs.toArray):=by
  intro cs vs hall hl hh;refine .P7 cs vs hl λi c x h1 h2=>?_;obtain⟨y,rfl⟩:=hall c (iC h1);have:=mO (hh i _ x h1 h2);rw[this];exact .v y
 unfold flat at hr;split at hr
 .rw[mO h];exact .v _
 .cases h with|P7 _ vs hl hh=>exact P7 _ _ (by simp) hl hh
 .cases h with|P7 _ vs hl hh=>exact P7 _ _ (by simp) hl hh
 .cases hr
theorem bi2(hI:Inv G Z0 w0 S n Z E st a w){c:Call}{f:FuncId}{args:List SV}{more cs:List CV}{ts:List Nat}(hargs:callArgs (look st) c=some (f,args,more))(hfr:wI st.obj args=some (cs,ts))(hb:pO P f)
 (dst:Option Nat) (type:TypeId) (pos:String) (after:Array Edge) (guard:Option (Nat×Bool)):
 ∃vs:List Value,O8 (Zf Z st.obj E ts) w (cs++more) vs/\(execOp a.eval ⟨dst,.call c,type,pos,after,guard⟩).run P w=.ok (.enter f vs.toArray) w:=by
 have cJ4:∃caps extra:List Value,(∃fo,c.callee=.value fo/\a.eval fo=.func (.func f) #[] (caps++extra).toArray)/\O8 Z w more extra/\args.length=((c.args.toList.map a.eval)++caps).length/\
  ∀(i:Nat)(s:SV)(x:Value),args[i]?=some s->((c.args.toList.map a.eval)++caps)[i]?=some x->N7 Z w st.obj E s x:=by
  have hmap:∀(i:Nat)(s:SV)(x:Value),(c.args.toList.map (look st))[i]?=some s->(c.args.toList.map a.eval)[i]?=some x->N7 Z w st.obj E s x:=by
   intro i s x h1 h2;rw[O6]at h1 h2;cases ho:c.args.toList[i]? with
   |none=>grind
   |some op=>
    rw[ho]at h1 h2;simp at h1 h2;subst h1;subst h2;exact Y2 hI op
  have happ:∀(ss:List SV)(vs:List Value),ss.length=vs.length->(∀(i:Nat)(s:SV)(x:Value),ss[i]?=some s->vs[i]?=some x->N7 Z w st.obj E s x)->
   ∀(i:Nat)(s:SV)(x:Value),(c.args.toList.map (look st)++ss)[i]?=some s->(c.args.toList.map a.eval++vs)[i]?=some x->N7 Z w st.obj E s x:=by
   intro ss vs hl hh i s x h1 h2
   grind
  unfold callArgs at hargs;split at hargs
  .rename_i fo hfo;have hfx:=Y2 hI fo;split at hargs
   .rename_i f' caps hlf;simp at hargs;obtain⟨rfl,rfl,rfl⟩:=hargs;rw[hlf]at hfx;generalize hax:a.eval fo=y at hfx;cases hfx with
    |c _ _ hr=>
     cases hr with
     |fn _ _ vs hl hh=>exact⟨[],vs,⟨fo,hfo,hax⟩,⟨hl,hh⟩,by simp,by simpa using hmap⟩
   .rename_i f' caps hlf;simp at hargs;obtain⟨rfl,rfl,rfl⟩:=hargs;rw[hlf]at hfx;generalize hax:a.eval fo=y at hfx;cases hfx with
    |Q7 _ _ vs _ hl hh=>exact⟨vs,[],⟨fo,hfo,by simpa[FV.val]using hax⟩,O8.nil _ _,by simp[hl],happ _ _ hl hh⟩
   .grind
  .grind
 obtain⟨caps,extra,⟨fo,hfo,hfv⟩,hex,hal,har⟩:=cJ4;obtain⟨fn,hfn,hnm,hbd⟩:=hb;have hrl:=(bo8 hI args _ cs ts hal har hfr).append (hex.keep (yA st.obj E ts));refine⟨_,hrl,?_⟩;have uN:c.args.map a.eval++(caps++extra).toArray=((c.args.toList.map a.eval)++caps++extra).toArray:=by grind
 simp only[execOp,resolve,hfo,Deferred.ofValue,hfv,invoke,callFunc,I7,Q5,N9,Array.empty_append,uN];have hnm':¬(fn.name= "runtime.NumGoroutine"):=by grind
 have uO:¬(fn.body=none):=λe=>by grind
 simp[Go.program,Sem.run,hfn,hnm',uO]
theorem cz0{r:CV}(h:flat r=true):r.pure=true:=by cases r<;>first|rfl|(simp[flat]at h)
theorem bS8(c:Call)(hc:∀b,c.callee≠.builtin b)(dst:Option Nat)(type:TypeId)(pos:String)(after:Array Edge)(guard:Option (Nat×Bool)):iD P G T ⟨dst,.call c,type,pos,after,guard⟩:=by
 intro Z0 w0 S n Z E st a w K next Q F hI hd h hX hn
 have hcall:jH (gX P G) (look st) st.obj F c K:=by
  unfold wpOp at h;cases hcc:c.callee with
  |builtin b=>grind
  |value f=>grind
  |invoke r m=>grind
 clear h;unfold jH at hcall;split at hcall
 .rename_i f args more hargs;split at hcall
  .rename_i cs ts hfr;rcases hcall with hcall|hcall
   rotate_left
   .grind
   obtain⟨r,hholds,hts,hk⟩:=hcall;obtain⟨hbody,yZ⟩:=hholds;obtain⟨vs,hrl,hrun⟩:=bi2 hI hargs hfr hbody dst type pos after guard;refine MW (λ_ h=>nomatch h) ?_;unfold Oper.wp;rw[hrun];simp only[Oper.upon];have aI8:∀b o,Zf Z st.obj E ts b o->b<w.heap.size:=λb o hz=>hz.elim (hI.U4 b o) λ⟨s,_,hb⟩=>(hI.obj s).lt hb;refine(yZ _ w _ hrl aI8 (λw1 hb1=>hI.gs _ (hI.below.trans (.of_below hb1 hI.vI)))).mono ?_;rintro e w' ⟨x,eH,rfl,hrep,hsub,hnew,hbel⟩;have ak4:∀(Z1:Zone),Keeps Z w Z1 w'->(∀b o,b<w.heap.size->Z1 b o->Z b o)->∀t,U6 Z1 w' st.obj E (E t) (st.obj t).2:=λZ1 hk1 hz1 t=>
    (hI.obj t).keep hk1 (dH.refl _ _) λb hb=>⟨hbel.block b ((hI.obj t).lt hb),λk hz=>hz1 b k ((hI.obj t).lt hb) hz⟩
   have hbel0:Kept S w w':=.of_below hbel hI.vI;cases hte:ts.isEmpty with
   |true=>
    rw[hte]at hts;simp only[H7]at hts;have htn:ts=[]:=by grind
    subst htn;have hkeep:Keeps Z w eH w':=λb o hz=>⟨hsub b o (.inl hz),iH (hbel.block b (hI.U4 b o hz))⟩;refine hn _ _ _ eH E x w' hk ?_;refine hI.step hd hbel0 hkeep (λb o hz=>(hnew b o hz).2) (λb o hz=>?_) (dH.refl _ _) (ak4 eH hkeep λb o hb hz=>?_) hI.apart hI.own (.c _ _ (hrep.pure hts))
    .rcases(hnew b o hz).1 with h1|h1
     .rcases h1 with h1|⟨s,hs,_⟩
      .grind
      .simp at hs
     .exact .inr (hI.fresh h1)
    .rcases(hnew b o hz).1 with h1|h1
     .rcases h1 with h1|⟨s,hs,_⟩
      .exact h1
      .simp at hs
     .omega
   |false=>
    rw[hte]at hts;simp only[G6]at hts;have hkeep:Keeps Z w Z w':=λb o hz=>⟨hz,iH (hbel.block b (hI.U4 b o hz))⟩;refine hn _ _ _ Z E x w' hk ?_;exact hI.step hd hbel0 hkeep (λb o hz=>Z5 (hI.U4 b o hz) hbel.size) (λ_ _ hz=>.inl hz) (dH.refl _ _) (ak4 Z hkeep λ_ _ _ hz=>hz) hI.apart hI.own (.c _ _ (cz1 hts (hrep.pure (cz0 hts)) _ _))
  .grind
 .grind
theorem bG1(hT:X9 P T)(o:Oper):iD P G T o:=by
 obtain⟨dst,op,type,pos,after,guard⟩:=o;cases op with
 |move x=>exact dl9 _ _ _ _ _ _
 |assign x=>exact dk5 _ _ _ _ _ _
 |pick c x y=>exact dm1 _ _ _ _ _ _ _ _
 |alloc e=>exact dj9 hT _ _ _ _ _ _
 |box e x=>exact dk7 _ _ _ _ _ _ _
 |build t ps=>exact dk8 hT _ _ _ _ _ _ _
 |buildSlice t len ps=>exact dk9 hT _ _ _ _ _ _ _ _
 |load t x=>exact dl7 hT _ _ _ _ _ _ _
 |store t x y=>exact dm2 hT _ _ _ _ _ _ _ _
 |nilCheck x=>exact dm0 _ _ _ _ _ _
 |binOp op t x y t'=>exact dk6 hT _ _ _ _ _ _ _ _ _ _
 |unOp op t x=>exact dm3 _ _ _ _ _ _ _ _
 |convert s t x=>exact dl1 hT _ _ _ _ _ _ _ _
 |makeFunc fn first captured=>exact dl8 _ _ _ _ _ _ _ _
 |fieldAddr t x k=>exact dl4 hT _ _ _ _ _ _ _ _
 |field t x k=>exact dl3 hT _ _ _ _ _ _ _ _
 |indexAddr t x i=>exact dl6 hT _ _ _ _ _ _ _ _
 |index t x i=>exact dl5 hT _ _ _ _ _ _ _ _
 |extract x k=>exact dl2 _ _ _ _ _ _ _
 |call c=>
  obtain⟨callee,args,argTypes⟩:=c;cases callee with
  |builtin b=>exact dl0 hT _ _ _ _ _ _ _ _
  |value f=>exact bS8 _ (λb h=>by cases h) _ _ _ _ _
  |invoke r m=>exact bS8 _ (λb h=>by cases h) _ _ _ _ _
 |_=>intro Z0 w0 S n Z E st a w K next Q F hI hd h hX hn;exact hX h
end
end Go.F6
