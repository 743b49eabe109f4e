import Derived.WalkKit
import Derived.RangeFuncRecord
import Derived.OrdersIn
import Derived.TacticsIn
set_option linter.unusedVariables false
set_option linter.unusedSimpArgs false
/-
  Abstract values, abstract operations and an abstract weakest precondition over the model's Code (definitions alone).
-/
namespace Go.Abs
open Go Go.RowKit

/-- Closed data: no reference into memory that may still change. -/
inductive CV where
  | v (x : Value)
  | agg (cs : List CV)
  | sl (sz : Nat) (ds : List (List CV))
  | pi (cs : List CV) (off : Nat)
  | fn (f : FuncId) (caps : List CV)
  | tup (vs : List CV)
  /- a slice of the call's own that may be written (site, generation); one among a call's results; a result with such slices: each has its element's type, size, elements, and one element whose cells may be such slices -/
  | rs (t g : Nat)
  | ow (j : Nat)
  /- a pointer to a variable of the call's own; a map of its own; a closure over such things; a map that is written no more -/
  | pr (t g off : Nat)
  | mr (t g : Nat)
  /- what a kind of object of its own shows of itself -/
  | xr (t g : Nat)
  | fr (f : FuncId) (caps : List CV)
  | mp (es : List (CV × CV))
  | wo (r : CV) (os : List (Nat × Nat × List (List CV) × Option (Nat × List CV)))
  /- an error that is not nil -/
  | er
  /- what stands in a variable of type T: nil, or the variable's own address -/
  | bp (T : Nat) (f : Bool)

def CV.cells : CV → List CV
  | .agg cs => cs
  | c => [c]
def CV.atom : CV → Bool
  | .agg _ => false
  | .tup _ => false
  | .wo _ _ => false
  | .v x => x.oneCell'
  | _ => true

def CV.storable : CV → Bool
  | .agg _ => true
  | c => c.atom

/-- What a closure over the call's own things calls: a function; a round of a loop over a function (the loop's record, the activation's slots). -/
inductive FV where
  | fn (f : FuncId)
  | yl (l : Nat) (ts : List Value)
  | bd (f : FuncId)
instance {n : Nat} : OfNat FV n := ⟨.fn n⟩
def FV.val : FV → List Value → Value
  | .fn f, vs => .func (.func f) #[] vs.toArray
  | .yl l _, _ => .func (.yield l) #[] #[]
  | .bd f, vs => .func (.func f) vs.toArray #[]
def FV.ok : FV → List Value → Prop
  | .fn _, _ => True
  | .yl _ ts, vs => vs = ts
  | .bd _, _ => True
/-- A loop's record between two rounds, in a round, behind a round that has said 'no more'. -/
inductive LpS where
  | on
  | busy
  | off (c : Code)
def LpS.put (R : Loop) : LpS → Loop
  | .on => { R with state := .ready, pending := none }
  | .busy => { R with state := .busy, pending := none }
  | .off c => { R with state := .done, pending := some c }
def lpq (b : Bool) (J : Code) : LpS := bif b then .on else .off J

/-- What a slot holds. -/
inductive SV where
  | any
  | un
  | kt
  | kf
  | c (x : CV)
  | pm (t g off : Nat)
  | ap (t g sz : Nat) (es : List (List CV))
  | fnr (f : FV) (caps : List SV)
  | rs (t g : Nat)
  | agx (cs : List CV)
  | pe (t g n off : Nat)
  | mr (t g : Nat)
  | tpx (cs : List CV)
  | xr (t g : Nat)
  | xf (t g : Nat) (f : Value → Value)
  /- what lies behind the first lo elements of a slice of the call's own -/
  | ss (t g lo : Nat)

abbrev Zone := Nat → Nat → Prop
/-- A value of the model reads as closed data; every cell that the reading meets lies in the zone Z. -/
inductive Rep (Z : Zone) (w : World) : CV → Value → Prop
  | v (x : Value) : Rep Z w (.v x) x
  | agg (cs : List CV) (vs : List Value) (hl : cs.length = vs.length) (h : ∀ (i : Nat) (c : CV) (x : Value), cs[i]? = some c → vs[i]? = some x → Rep Z w c x)
      (ha : ∀ (i : Nat) (c : CV), cs[i]? = some c → c.atom = true) : Rep Z w (.agg cs) (.agg vs.toArray)
  | nil (sz : Nat) (a : Option Addr) (cap : Nat) : Rep Z w (.sl sz []) (.slice a 0 cap)
  | sl (sz : Nat) (ds : List (List CV)) (b o cap : Nat) (f : Nat → Nat → Value) (hcap : ds.length ≤ cap) (hsz : ∀ (i : Nat) (d : List CV), ds[i]? = some d → d.length = sz)
      (hc : ∀ (i j : Nat) (d : List CV) (c : CV), ds[i]? = some d → d[j]? = some c → Z b (o + i * sz + j) ∧ w.cell? ⟨b, o + i * sz + j, none⟩ = some (f i j) ∧ c.atom = true)
      (h : ∀ (i j : Nat) (d : List CV) (c : CV), ds[i]? = some d → d[j]? = some c → Rep Z w c (f i j)) : Rep Z w (.sl sz ds) (.slice (some ⟨b, o, none⟩) ds.length cap)
  | pi (cs : List CV) (b o off : Nat) (f : Nat → Value)
      (hc : ∀ (j : Nat) (c : CV), cs[j]? = some c → Z b (o + j) ∧ w.cell? ⟨b, o + j, none⟩ = some (f j) ∧ c.atom = true)
      (h : ∀ (j : Nat) (c : CV), cs[j]? = some c → Rep Z w c (f j)) : Rep Z w (.pi cs off) (.pointer (some ⟨b, o + off, none⟩))
  | fn (f : FuncId) (caps : List CV) (vs : List Value) (hl : caps.length = vs.length) (h : ∀ (i : Nat) (c : CV) (x : Value), caps[i]? = some c → vs[i]? = some x → Rep Z w c x) :
      Rep Z w (.fn f caps) (.func (.func f) #[] vs.toArray)
  | tup (cs : List CV) (vs : List Value) (hl : cs.length = vs.length) (h : ∀ (i : Nat) (c : CV) (x : Value), cs[i]? = some c → vs[i]? = some x → Rep Z w c x) :
      Rep Z w (.tup cs) (.tuple vs.toArray)
  | mpn : Rep Z w (.mp []) (.map none)
  | er (t : TypeId) (v : Value) : Rep Z w .er (.iface t v)
  | mp (es : List (CV × CV)) (b : Nat) (arr : Array MapEntry) (clock : Nat) (hz : Z b 0) (hh : w.heap[b]? = some (.map arr clock)) (hl : es.length = arr.size)
      (hk : ∀ (i : Nat) (k v : CV) (e : MapEntry), es[i]? = some (k, v) → arr[i]? = some e → Rep Z w k e.key)
      (hv : ∀ (i : Nat) (k v : CV) (e : MapEntry), es[i]? = some (k, v) → arr[i]? = some e → Rep Z w v e.val) : Rep Z w (.mp es) (.map (some b))
def Keeps (Z : Zone) (w : World) (Z' : Zone) (w' : World) : Prop := ∀ b o, Z b o → Z' b o ∧ w'.cell? ⟨b, o, none⟩ = w.cell? ⟨b, o, none⟩ ∧ ∀ es c, w.heap[b]? = some (.map es c) → w'.heap[b]? = some (.map es c)
/-- What such an object shows of itself. -/
def face : Value → Value
  | .tuple ⟨v :: _⟩ => v
  | x => x
/-- A kind of object of the call's own that is told by what holds of it: the values that it keeps in its cells, what is known of it, its blocks. -/
structure ExtK where
  ok : Zone → World → List Value → Value → Prop
  blk : Value → Nat → Prop
  cl : Option CV
  keep : ∀ {Z Z' : Zone} {w w' : World} {us : List Value} {e : Value}, ok Z w us e → Keeps Z w Z' w' → (∀ b, blk e b → w'.heap[b]? = w.heap[b]?) → ok Z' w' us e
  cell : ∀ {Z : Zone} {w : World} {us : List Value} {e : Value} {b : Nat}, ok Z w us e → blk e b → ∃ arr el fr, w.heap[b]? = some (.cells arr el fr)
  clat : ∀ {c : CV}, cl = some c → c.atom = true
  close : ∀ {Z Z' : Zone} {w : World} {e : Value} {c : CV}, cl = some c → ok Z w [] e → (∀ b o, blk e b → Z' b o) → Keeps Z w Z' w → Rep Z' w c (face e)

inductive AObj where
  | none
  | var (cs : List CV)
  | ro (cs : List CV)
  | tok (el sz : Nat)
  | spent
  | varx (cs : List CV)
  | arr (el sz : Nat) (ds : List (List CV)) (foc : Option (Nat × List CV))
  | map (es : List (CV × CV))
  | lp (l : Nat) (R : Loop) (q : LpS)
  | ext (K : ExtK) (cs : List CV)

abbrev Objs := Nat → Nat × AObj
structure St where
  env : Nat → SV
  obj : Objs

structure TI where
  desc : TypeDesc
  size : Nat
  bytes : Nat
  zero : List Value
  isAgg : Bool
  /- the size of an element, where the zero is a nil slice -/
  ks : List Nat
abbrev Tab := List (Nat × TI)
def Tab.get : Tab → Nat → Option TI
  | [], _ => .none
  | (k, i) :: r, t => bif Nat.beq k t then some i else Tab.get r t

abbrev Upd := List (Nat × (Nat × AObj))
def upd (obj : Objs) : Upd → Objs
  | [], s => obj s
  | (k, x) :: r, s => bif Nat.beq k s then x else upd obj r s
def put (env : Nat → SV) (d : Option Nat) (r : SV) : Nat → SV :=
  match d with
  | .none => env
  | some d => fun t => bif Nat.beq d t then r else env t

def ofVal : Value → CV
  | .slice .none 0 0 => .sl 0 []
  | x => .v x
def zeroC : List Value → List Nat → List CV
  | [], _ => []
  | x :: r, ks => (match x with
    | .slice .none 0 0 => .sl (ks.headD 0) []
    | x => .v x) :: zeroC r ks.tail
/-- A nil slice that is stored bears the size of its type's elements. -/
def nilC : Option TI → CV → CV
  | some i, .sl 0 [] => .sl (i.ks.headD 0) []
  | _, c => c
def constSV : Value → SV
  | .bool true => .kt
  | .bool false => .kf
  | .slice .none 0 0 => .c (.sl 0 [])
  | .map .none => .c (.mp [])
  | x => .c (.v x)
def look (st : St) : Operand → SV
  | .tmp t => st.env t
  | .const x => constSV x
  | .func f => .c (.fn f [])
  | .global _ => .any

def asC : SV → Option CV
  | .c x => some x
  | .kt => some (.v (.bool true))
  | .kf => some (.v (.bool false))
  | .ap _ _ sz es => some (.sl sz es)
  | _ => .none
def asSl : SV → Option (Nat × List (List CV))
  | .c (.sl sz ds) => some (sz, ds)
  | .ap _ _ sz es => some (sz, es)
  | _ => .none
def asCs (look : Operand → SV) : List Operand → Option (List CV)
  | [] => some []
  | x :: r => match asC (look x), asCs look r with
    | some c, some cs => some (c :: cs)
    | _, _ => .none

/-- Cells of the call's own, closed (the sites that are looked through are told). -/
def frzC1 (obj : Objs) : CV → Option (CV × List Nat)
  | .rs t g => match obj t with
    | (g', .arr _ sz ds .none) => bif Nat.beq g g' then some (.sl sz ds, [t]) else .none
    | _ => .none
  | .mr t g => match obj t with
    | (g', .map es) => bif Nat.beq g g' then some (.mp es, [t]) else .none
    | _ => .none
  | .xr t g => match obj t with
    | (g', .ext K []) => bif Nat.beq g g' then K.cl.map (fun c => (c, [t])) else .none
    | _ => .none
  | .pr _ _ _ => .none
  | .fr _ _ => .none
  | .bp _ _ => .none
  | c => some (c, [])
def frzCs (obj : Objs) : List CV → Option (List CV × List Nat)
  | [] => some ([], [])
  | c :: r => match frzC1 obj c, frzCs obj r with
    | some (c, ts), some (cs, us) => some (c :: cs, ts ++ us)
    | _, _ => .none
def frzCells (obj : Objs) (cs : List CV) : Option (List CV) := (frzCs obj cs).map (·.1)
/-- The value of a slot as closed data; a variable of the call's own is looked through (its sites are told). -/
def freeze (obj : Objs) : SV → Option (CV × List Nat)
  | .pm t g off => match obj t with
    | (g', .var cs) => bif Nat.beq g g' then some (.pi cs off, [t]) else .none
    | (g', .varx cs) => bif Nat.beq g g' then (match frzCs obj cs with
      | some (cs', ts) => some (.pi cs' off, t :: ts)
      | .none => .none) else .none
    | _ => .none
  | .mr t g => match obj t with
    | (g', .map es) => bif Nat.beq g g' then some (.mp es, [t]) else .none
    | _ => .none
  | .rs t g => match obj t with
    | (g', .arr _ sz ds .none) => bif Nat.beq g g' then some (.sl sz ds, [t]) else .none
    | _ => .none
  | .xr t g => match obj t with
    | (g', .ext K []) => bif Nat.beq g g' then K.cl.map (fun c => (c, [t])) else .none
    | _ => .none
  | s => (asC s).map fun c => (c, [])
def freezeL (obj : Objs) : List SV → Option (List CV × List Nat)
  | [] => some ([], [])
  | s :: r => match freeze obj s, freezeL obj r with
    | some (c, ts), some (cs, us) => some (c :: cs, ts ++ us)
    | _, _ => .none
/-- An argument of a call: closed data, or a closure over the call's own variables. -/
def freezeA (obj : Objs) : SV → Option (CV × List Nat)
  | .fnr (.fn f) caps => match freezeL obj caps with
    | some (cs, ts) => some (.fn f cs, ts)
    | .none => .none
  | s => freeze obj s
def freezeAs (obj : Objs) : List SV → Option (List CV × List Nat)
  | [] => some ([], [])
  | s :: r => match freezeA obj s, freezeAs obj r with
    | some (c, ts), some (cs, us) => some (c :: cs, ts ++ us)
    | _, _ => .none

def takeN : Nat → List CV → Option (List CV)
  | 0, _ => some []
  | _ + 1, [] => .none
  | n + 1, c :: r => match takeN n r with
    | some cs => some (c :: cs)
    | .none => .none
/-- n cells at 'off' replaced. -/
def setAt : List CV → Nat → List CV → Option (List CV)
  | cs, _, [] => some cs
  | [], _, _ :: _ => .none
  | _ :: r, 0, x :: xs => match setAt r 0 xs with
    | some cs => some (x :: cs)
    | .none => .none
  | c :: r, n + 1, xs => match setAt r n xs with
    | some cs => some (c :: cs)
    | .none => .none
def part (i : TI) (cs : List CV) (off : Nat) : Option CV :=
  bif i.isAgg then (takeN i.size (cs.drop off)).map CV.agg else cs[off]?

/-- There is room for so many elements. -/
def roomOk (n b : Nat) : Prop := n ≤ 4294967296 ∨ (n ≤ 140737488355328 ∧ n * b ≤ 140737488355328)
def flat : CV → Bool
  | .v _ => true
  | .tup [.v _, .v _] => true
  | .tup [.v _, .v _, .v _] => true
  | _ => false
def CV.pure : CV → Bool
  | .wo _ _ => false
  | _ => true

def intBin : BinOp → IntKind → Int → Int → Option Value
  | .add, k, a, b => some (.int k (k.wrap (a + b)))
  | .sub, k, a, b => some (.int k (k.wrap (a - b)))
  | .mul, k, a, b => some (.int k (k.wrap (a * b)))
  | .eql, _, a, b => some (.bool (a == b))
  | .neq, _, a, b => some (.bool (a != b))
  | .lss, _, a, b => some (.bool (decide (a < b)))
  | .leq, _, a, b => some (.bool (decide (a ≤ b)))
  | .gtr, _, a, b => some (.bool (decide (a > b)))
  | .geq, _, a, b => some (.bool (decide (a ≥ b)))
  | .and, k, a, b => some (.int k (k.wrap (BitVec.ofInt k.bits a &&& BitVec.ofInt k.bits b).toNat))
  | .or, k, a, b => some (.int k (k.wrap (BitVec.ofInt k.bits a ||| BitVec.ofInt k.bits b).toNat))
  | .xor, k, a, b => some (.int k (k.wrap (BitVec.ofInt k.bits a ^^^ BitVec.ofInt k.bits b).toNat))
  | _, _, _, _ => .none
def strBin : BinOp → ByteArray → ByteArray → Option Value
  | .eql, a, b => some (.bool (a.data.toList == b.data.toList))
  | .neq, a, b => some (.bool (!(a.data.toList == b.data.toList)))
  | .lss, a, b => some (.bool (Op.bytesLess a.data.toList b.data.toList))
  | .leq, a, b => some (.bool (Op.bytesLess a.data.toList b.data.toList || a.data.toList == b.data.toList))
  | .gtr, a, b => some (.bool (!(Op.bytesLess a.data.toList b.data.toList || a.data.toList == b.data.toList)))
  | .geq, a, b => some (.bool (!(Op.bytesLess a.data.toList b.data.toList)))
  | _, _, _ => .none
def wpBin (op : BinOp) (isBool : Bool) (x y : Value) (K : Value → Prop) : Prop :=
  match op, x, y with
  | .quo, .int k a, .int k' b => k = k' ∧ b ≠ 0 ∧ K (.int k (k.wrap (a.tdiv b)))
  | .rem, .int k a, .int k' b => k = k' ∧ b ≠ 0 ∧ K (.int k (a.tmod b))
  | .shr, .int k a, .int _ b => 0 ≤ b ∧ K (.int k (a.fdiv (2 ^ (min b.toNat k.bits))))
  | .shl, .int k a, .int _ b => 0 ≤ b ∧ K (.int k (k.wrap (a * 2 ^ (min b.toNat k.bits))))
  | op, .int k a, .int k' b => match intBin op k a b with
    | some r => bif decide (k = k') then K r else False
    | .none => False
  | .add, .string a, .string b => a.size + b.size ≤ 9223372036854775807 ∧ ∃ s, s = a ++ b ∧ K (.string s)
  | op, .string a, .string b => match strBin op a b with
    | some r => K r
    | .none => False
  | .eql, .bool a, .bool b => bif isBool then K (.bool (a == b)) else False
  | .neq, .bool a, .bool b => bif isBool then K (.bool (!(a == b))) else False
  | _, _, _ => False

abbrev KOp := SV → List Nat → Upd → Prop
/-- What is known: of functions (closed data in and out), of operations (with objects of the caller's own). -/
structure Orc where
  fn : FuncId → List CV → CV → Prop
  eff : Op → TypeId → List SV → List (Nat × AObj) → SV → List (Nat × AObj) → Prop
  efn : FuncId → List SV → List (Nat × AObj) → SV → List (Nat × AObj) → Prop

section
variable (H : Orc) (T : Tab) (look : Operand → SV) (obj : Objs) (F : KOp → Prop)

def buildParts (fields : Array Field) (zero : List CV) : List (Nat × Operand) → Option (List CV)
  | [] => some zero
  | (i, x) :: r => match fields[i]?, asC (look x) with
    | some f, some c => match T.get f.type with
      | some i => bif Nat.beq c.cells.length i.size && c.storable && Nat.ble 1 i.size then
          match setAt zero f.offset c.cells with
          | some z => buildParts fields z r
          | .none => .none
        else .none
      | .none => .none
    | _, _ => .none

/-- The elements of a slice literal whose parts stand at 0, 1, .. in order. -/
def buildElems (sz : Nat) : Nat → List (Nat × Operand) → Option (List (List CV))
  | _, [] => some []
  | k, (i, x) :: r => match asC (look x), buildElems sz (k + 1) r with
    | some c, some es => bif Nat.beq i k && Nat.beq c.cells.length sz && c.storable then some (c.cells :: es) else .none
    | _, _ => .none

def gen (d : Nat) : Nat := (obj d).1

def wpAssign (ty : TypeId) (d : Nat) (x : Operand) (K : KOp) : Prop :=
  match x with
  | .const (.slice .none 0 0) => match T.get ty with
    | some { desc := .slice e, .. } => match T.get e with
      | some i => bif Nat.ble 1 i.size then K (.ap d ((obj d).1 + 1) i.size []) [] [(d, ((obj d).1 + 1, .tok e i.size))] else False
      | .none => False
    | _ => False
  | x => match look x with
    | .ap t g sz es => match obj t with
      | (g', .tok el s) => bif Nat.beq g g' && !(Nat.beq t d) then K (.ap d ((obj d).1 + 1) sz es) [t] [(t, (g, .spent)), (d, ((obj d).1 + 1, .tok el s))] else K (look x) [t] []
      | _ => K (.c (.sl sz es)) [t] []
    | s => K s [] []

def callArgs (c : Call) : Option (FuncId × List SV × List CV) :=
  match c.callee with
  | .value f => match look f with
    | .c (.fn f caps) => some (f, c.args.toList.map look, caps)
    | .fnr (.fn f) caps => some (f, c.args.toList.map look ++ caps, [])
    | _ => .none
  | _ => .none
def wpCall (c : Call) (K : KOp) : Prop :=
  match callArgs look c with
  | some (f, args, more) => match freezeAs obj args with
    | some (cs, ts) => (∃ r, H.fn f (cs ++ more) r ∧ (bif ts.isEmpty then r.pure = true else flat r = true) ∧ K (.c r) ts []) ∨ F K
    | .none => F K
  | .none => F K

def wpBuiltin (b : Builtin) (c : Call) (d : Option Nat) (K : KOp) : Prop :=
  match b, c.args.toList with
  | .len, [x] => match look x with
    | .c (.v (.string s)) => (match (c.argTypes[0]?).bind T.get with
      | some { desc := .string, .. } => K (.c (.v (.int .i64 s.size))) [] []
      | _ => False)
    | s => match asSl s, (c.argTypes[0]?).bind T.get with
      | some (_, ds), some { desc := .slice _, .. } => K (.c (.v (.int .i64 ds.length))) [] []
      | _, _ => F K
  | .min, [x, y] => match asC (look x), asC (look y) with
    | some (.v (.int k a)), some (.v (.int _ b)) => K (.c (.v (.int k (if b < a then b else a)))) [] []
    | _, _ => False
  | .max, [x, y] => match asC (look x), asC (look y) with
    | some (.v (.int k a)), some (.v (.int _ b)) => K (.c (.v (.int k (if a < b then b else a)))) [] []
    | _, _ => False
  | .append, [x, y] => match look x, asSl (look y), d, c.argTypes.toList with
    | .ap t g sz es, some (_, ns), some d, [t1, t2] => match T.get t1 with
      | some { desc := .slice e, .. } => match T.get e with
        | some i => bif Nat.beq t1 t2 && Nat.beq i.size sz && Nat.ble 1 sz && Nat.ble i.bytes 4096 && Nat.beq i.zero.length sz && (match obj t with | (g', .tok el s) => Nat.beq g g' && Nat.beq el e && Nat.beq s sz | _ => false) then
            ((∀ n ∈ ns, n.length = sz) ∧ roomOk (es.length + ns.length) i.bytes ∧ ∃ es', es' = es ++ ns ∧
            (bif Nat.beq t d then K (.ap t (g + 1) sz es') [t] [(t, (g + 1, .tok e sz))]
             else K (.ap d ((obj d).1 + 1) sz es') [t] [(t, (g, .spent)), (d, ((obj d).1 + 1, .tok e sz))])) ∨ F K
          else False
        | .none => F K
      | _ => F K
    | _, _, _, _ => F K
  | _, _ => F K

def wpOp (d : Option Nat) (op : Op) (ty : TypeId) (K : KOp) : Prop :=
  match op with
  | .move x => K (look x) [] []
  | .assign x => match d with
    | some d => wpAssign T look obj ty d x K
    | .none => False
  | .pick c a b => match look c with
    | .kt => K (look a) [] []
    | .kf => K (look b) [] []
    | .c (.v (.bool q)) => match asC (look a), asC (look b) with
      | some (.v (.bool x)), some (.v (.bool y)) => K (.c (.v (.bool (bif q then x else y)))) [] []
      | _, _ => (q = true → K (look a) [] []) ∧ (q = false → K (look b) [] [])
    | _ => False
  | .alloc e => match T.get e, d with
    | some i, some d => K (.pm d ((obj d).1 + 1) 0) [] [(d, ((obj d).1 + 1, .var (zeroC i.zero i.ks)))]
    | _, _ => False
  | .box _ x => match asC (look x), d with
    | some c, some d => bif c.storable then K (.pm d ((obj d).1 + 1) 0) [] [(d, ((obj d).1 + 1, .var c.cells))] else False
    | _, _ => False
  | .build t parts => match T.get t with
    | some { desc := .struct fs, zero := z, ks := ks, .. } => bif fs.toList.all (fun f => (T.get f.type).isSome) then (match buildParts T look fs (zeroC z ks) parts.toList with
      | some cs => K (.c (.agg cs)) [] []
      | .none => False) else False
    | _ => False
  | .buildSlice t len parts => match T.get t with
    | some { desc := .slice e, .. } => match T.get e, d with
      | some i, some d => match buildElems look i.size 0 parts.toList with
        | some es => bif Nat.beq es.length len && Nat.ble len 4096 && Nat.ble 1 i.size && Nat.ble i.size 256 && Nat.beq i.zero.length i.size then K (.ap d ((obj d).1 + 1) i.size es) [] [(d, ((obj d).1 + 1, .tok e i.size))] else False
        | .none => F K
      | _, _ => False
    | _ => False
  | .load t x => match T.get t with
    | some i => match look x with
      | .pm s g off => match obj s with
        | (g', .var cs) => bif Nat.beq g g' then (match part i cs off with | some c => K (.c c) [s] [] | .none => False) else False
        | (g', .ro cs) => bif Nat.beq g g' then (match part i cs off with | some c => K (.c c) [s] [] | .none => False) else False
        | _ => F K
      | .c (.pi cs off) => match part i cs off with
        | some c => K (.c c) [] []
        | .none => False
      | _ => F K
    | .none => False
  | .store t x y => match T.get t, look x, (asC (look y)).map (nilC (T.get t)) with
    | some i, .pm s g off, some c => match obj s with
      | (g', .var cs) => bif Nat.beq g g' && Nat.beq c.cells.length i.size && c.storable && Nat.ble 1 i.size then (match setAt cs off c.cells with | some cs' => K .any [s] [(s, (g, .var cs'))] | .none => False) else False
      | _ => F K
    | _, _, _ => F K
  | .nilCheck x => match look x with
    | .pm s g _ => match obj s with
      | (g', .var _) => bif Nat.beq g g' then K (look x) [s] [] else False
      | (g', .ro _) => bif Nat.beq g g' then K (look x) [s] [] else False
      | _ => F K
    | .c (.pi _ _) => K (look x) [] []
    | .c (.fn _ _) => K (look x) [] []
    | .fnr _ _ => K (look x) [] []
    | _ => F K
  | .binOp op t x y _ => match asC (look x), asC (look y) with
    | some (.v a), some (.v b) => wpBin op (match T.get t with | some { desc := .bool, .. } => true | _ => false) a b (fun r => K (.c (.v r)) [] [])
    | _, _ => F K
  | .unOp .not _ x => match look x with
    | .kt => K .kf [] []
    | .kf => K .kt [] []
    | .c (.v (.bool b)) => K (.c (.v (.bool !b))) [] []
    | _ => False
  | .unOp .neg _ x => match look x with
    | .c (.v (.int k n)) => K (.c (.v (.int k (k.wrap (0 - n))))) [] []
    | _ => False
  | .convert s t x => match T.get t, look x, T.get s with
    | some { desc := .int k, .. }, .c (.v (.int _ n)), some _ => K (.c (.v (.int k (k.wrap n)))) [] []
    | some { desc := .string, .. }, .c (.v (.string s)), some _ => K (.c (.v (.string s))) [] []
    | _, _, _ => F K
  | .makeFunc (.func f) first captured => match first.toList with
    | [] => K (.fnr (.fn f) (captured.toList.map look)) [] []
    | _ :: _ => F K
  | .fieldAddr t x k => match T.get t with
    | some { desc := .struct fs, .. } => match fs[k]? with
      | some f => match T.get f.type with
        | some i => bif Nat.beq i.size 0 then False else match look x with
          | .pm s g off => match obj s with
            | (g', .var _) => bif Nat.beq g g' then K (.pm s g (off + f.offset)) [s] [] else False
            | (g', .ro _) => bif Nat.beq g g' then K (.pm s g (off + f.offset)) [s] [] else False
            | _ => F K
          | .c (.pi cs off) => K (.c (.pi cs (off + f.offset))) [] []
          | _ => F K
        | .none => False
      | .none => False
    | _ => False
  | .field t x k => match T.get t, look x with
    | some { desc := .struct fs, .. }, .c (.agg cs) => match fs[k]? with
      | some f => match T.get f.type with
        | some i => match part i cs f.offset with
          | some c => K (.c c) [] []
          | .none => False
        | .none => False
      | .none => False
    | _, _ => False
  | .indexAddr t x i => match T.get t with
    | some { desc := .slice e, .. } => match T.get e, asSl (look x), look i with
      | some ti, some (sz, ds), .c (.v (.int _ n)) => 0 ≤ n ∧ (sz = ti.size ∨ n < 0) ∧ ∃ d, ds[n.toNat]? = some d ∧ K (.c (.pi d 0)) [] []
      | _, _, _ => F K
    | _ => F K
  | .index t x i => match T.get t with
    | some { desc := .string, .. } => match look x, look i with
      | .c (.v (.string s)), .c (.v (.int _ n)) => 0 ≤ n ∧ ∃ b, s[n.toNat]? = some b ∧ K (.c (.v (.int .u8 b.toNat))) [] []
      | _, _ => False
    | _ => False
  | .extract x k => match look x with
    | .c (.tup vs) => match vs[k]? with
      | some c => K (.c c) [] []
      | .none => False
    | _ => F K
  | .call c => match c.callee with
    | .builtin b => wpBuiltin T look obj F b c d K
    | _ => wpCall H look obj F c K
  | _ => F K
end

/-- What a slot gives to be stored: cells, slices of the call's own among them. -/
def cap1 : SV → Option CV
  | .rs t g => some (.rs t g)
  | .pm t g off => some (.pr t g off)
  | .mr t g => some (.mr t g)
  | .xr t g => some (.xr t g)
  | s => asC s
def caps1 : List SV → Option (List CV)
  | [] => some []
  | s :: r => match cap1 s, caps1 r with
    | some c, some cs => some (c :: cs)
    | _, _ => .none
def cellsSV : SV → Option (List CV)
  | .rs t g => some [.rs t g]
  | .pm t g off => some [.pr t g off]
  | .mr t g => some [.mr t g]
  | .xr t g => some [.xr t g]
  | .fnr (.fn f) caps => (caps1 caps).map fun cs => [.fr f cs]
  | .agx cs => some cs
  | s => match asC s with
    | some c => bif c.storable then some c.cells else .none
    | .none => .none
def CV.isRs : CV → Bool
  | .rs _ _ => true
  | .pr _ _ _ => true
  | .mr _ _ => true
  | .xr _ _ => true
  | .fr _ _ => true
  | .bp _ _ => true
  | _ => false
def CV.isBp : CV → Bool
  | .bp _ _ => true
  | _ => false
def noBp : List CV → Bool
  | [] => true
  | c :: r => bif c.isBp then false else noBp r
def noRs : List CV → Bool
  | [] => true
  | c :: r => bif c.isRs then false else noRs r
def sv1 : CV → SV
  | .rs t g => .rs t g
  | .pr t g off => .pm t g off
  | .mr t g => .mr t g
  | .xr t g => .xr t g
  | .bp _ _ => .any
  | c => .c c
def svOf : CV → SV
  | .rs t g => .rs t g
  | .pr t g off => .pm t g off
  | .mr t g => .mr t g
  | .xr t g => .xr t g
  | .fr f caps => .fnr (.fn f) (caps.map sv1)
  | .bp _ _ => .any
  | .agg cs => bif noRs cs then .c (.agg cs) else .agx cs
  | c => .c c
/-- The cells of element n. -/
def cellsAt (ds : List (List CV)) (foc : Option (Nat × List CV)) (n : Nat) (cs : List CV) : Prop :=
  match foc with
  | .none => ds[n]? = some cs
  | some (m, d) => (n = m ∧ cs = d) ∨ (n ≠ m ∧ ds[n]? = some cs)
/-- Element n is laid anew. -/
def setCells (ds : List (List CV)) (foc : Option (Nat × List CV)) (n : Nat) (cs : List CV) (ds' : List (List CV)) (foc' : Option (Nat × List CV)) : Prop :=
  match foc with
  | .none => (noRs cs = true ∧ ds' = ds.set n cs ∧ foc' = .none) ∨ (ds' = ds ∧ foc' = some (n, cs))
  | some (m, d) => (n = m ∧ ds' = ds ∧ foc' = some (n, cs)) ∨ (n ≠ m ∧ noRs cs = true ∧ ds' = ds.set n cs ∧ foc' = some (m, d))
def shiftF (k : Nat) : Option (Nat × List CV) → Option (Nat × List CV)
  | .none => .none
  | some (m, cs) => some (k + m, cs)
def sig (d j : Nat) : Nat := d + 65536 * j
/-- References among a call's results, in the caller's own names. -/
def renC (obj : Objs) (d m : Nat) : CV → CV
  | .ow j => bif Nat.blt j m then .rs (sig d j) ((obj (sig d j)).1 + 1) else .ow j
  | c => c
def renR (obj : Objs) (d m : Nat) : CV → Option SV
  | .ow j => bif Nat.blt j m then some (.rs (sig d j) ((obj (sig d j)).1 + 1)) else .none
  | .agg cs => some (.agx (cs.map (renC obj d m)))
  | _ => .none
def renF (obj : Objs) (d m : Nat) : Option (Nat × List CV) → Option (Nat × List CV)
  | .none => .none
  | some (k, cs) => some (k, cs.map (renC obj d m))
def renO (obj : Objs) (d m : Nat) : Nat → List (Nat × Nat × List (List CV) × Option (Nat × List CV)) → Upd
  | _, [] => []
  | j, (el, sz, ds, foc) :: r => (sig d j, ((obj (sig d j)).1 + 1, .arr el sz ds (renF obj d m foc))) :: renO obj d m (j + 1) r

section
variable (H : Orc) (T : Tab) (look : Operand → SV) (obj : Objs)
def wpXappend (c : Call) (d : Option Nat) (K : KOp) : Prop :=
  match c.args.toList, d, c.argTypes.toList with
  | [x, y], some d, [t1, t2] => match T.get t1 with
    | some { desc := .slice e, .. } => match T.get e with
      | some i => bif Nat.beq t1 t2 && Nat.ble 1 i.size && Nat.ble i.bytes 4096 && Nat.beq i.zero.length i.size then
          match x, look x, look y with
          | .const (.slice .none 0 0), .c _, sy => match asSl sy with
            | some (_, ns) => (∀ n ∈ ns, n.length = i.size) ∧ roomOk ns.length i.bytes ∧ K (.rs d ((obj d).1 + 1)) [] [(d, ((obj d).1 + 1, .arr e i.size ns .none))]
            | .none => False
          | _, .rs t g, .rs s g2 => match obj t, obj s with
            | (g', .arr el sz ds foc), (g2', .arr el2 sz2 ds2 foc2) => bif Nat.beq g g' && Nat.beq g2 g2' && Nat.beq el e && Nat.beq sz i.size && Nat.beq sz2 i.size && !(Nat.beq t s) && !(Nat.beq s d) && !(Nat.beq t d) && foc.isNone then
                ds.length + ds2.length ≤ 4294967296 ∧ ∃ ds', ds' = ds ++ ds2 ∧ K (.rs d ((obj d).1 + 1)) [t, s] [(t, (g, .spent)), (s, (g2, .spent)), (d, ((obj d).1 + 1, .arr e i.size ds' (shiftF ds.length foc2)))]
              else False
            | _, _ => False
          | _, .rs t g, sy => match obj t, asSl sy with
            | (g', .arr el sz ds foc), some (_, ns) => bif Nat.beq g g' && Nat.beq el e && Nat.beq sz i.size then
                (∀ n ∈ ns, n.length = sz) ∧ roomOk (ds.length + ns.length) i.bytes ∧ ∃ ds', ds' = ds ++ ns ∧
                (bif Nat.beq t d then K (.rs t (g + 1)) [t] [(t, (g + 1, .arr e sz ds' foc))]
                 else K (.rs d ((obj d).1 + 1)) [t] [(t, (g, .spent)), (d, ((obj d).1 + 1, .arr e sz ds' foc))])
              else False
            | _, _ => False
          | _, .ap t g sz es, sy => match obj t, asSl sy with
            | (g', .tok el s), some (_, ns) => bif Nat.beq g g' && Nat.beq el e && Nat.beq s sz && Nat.beq sz i.size && !(Nat.beq t d) then
                es = [] ∧ (∀ n ∈ ns, n.length = sz) ∧ ns.length ≤ 4294967296 ∧ K (.rs d ((obj d).1 + 1)) [t] [(t, (g, .spent)), (d, ((obj d).1 + 1, .arr e sz ns .none))]
              else False
            | _, _ => False
          | _, _, _ => False
        else False
      | .none => False
    | _ => False
  | _, _, _ => False
def wpXcall (c : Call) (d : Option Nat) (K : KOp) : Prop :=
  match callArgs look c, d with
  | some (f, args, more), some d => match freezeAs obj args with
    | some (cs, ts) => bif ts.isEmpty then ∃ r os, H.fn f (cs ++ more) (.wo r os) ∧ (match renR obj d os.length r with
        | some s => K s [] (renO obj d os.length 0 os)
        | .none => False) else False
    | .none => False
  | _, _ => False
def wpX (d : Option Nat) (op : Op) (K : KOp) : Prop :=
  match op with
  | .load t x => match T.get t with
    | some i => match look x with
      | .pm s g off => match obj s with
        | (g', .varx cs) => bif Nat.beq g g' then (match part i cs off with | some c => K (svOf c) [s] [] | .none => False) else False
        | _ => False
      | .pe s g n off => match obj s with
        | (g', .arr _ _ ds foc) => bif Nat.beq g g' then (∃ cs, cellsAt ds foc n cs ∧ match part i cs off with | some c => K (svOf c) [s] [] | .none => False) else False
        | _ => False
      | _ => False
    | .none => False
  | .store t x y => match T.get t, cellsSV (look y) with
    | some i, some ys => bif Nat.beq ys.length i.size && Nat.ble 1 i.size && noBp ys then (match look x with
      | .pm s g off => match obj s with
        | (g', .var cs) => bif Nat.beq g g' && (asC (look y)).isNone then (match setAt cs off ys with | some cs' => K .any [s] [(s, (g, .varx cs'))] | .none => False) else False
        | (g', .varx cs) => bif Nat.beq g g' then (match setAt cs off ys with | some cs' => K .any [s] [(s, (g, .varx cs'))] | .none => False) else False
        | _ => False
      | .pe s g n off => match obj s with
        | (g', .arr el sz ds foc) => bif Nat.beq g g' then (∃ cs, cellsAt ds foc n cs ∧ match setAt cs off ys with
            | some cs' => ∃ ds' foc', setCells ds foc n cs' ds' foc' ∧ K .any [s] [(s, (g, .arr el sz ds' foc'))]
            | .none => False) else False
        | _ => False
      | _ => False) else False
    | _, _ => False
  | .nilCheck x => match look x with
    | .pm s g _ => match obj s with
      | (g', .varx _) => bif Nat.beq g g' then K (look x) [s] [] else False
      | _ => False
    | .pe s g _ _ => match obj s with
      | (g', .arr _ _ _ _) => bif Nat.beq g g' then K (look x) [s] [] else False
      | _ => False
    | _ => False
  | .fieldAddr t x k => match T.get t with
    | some { desc := .struct fs, .. } => match fs[k]? with
      | some f => match T.get f.type with
        | some i => bif Nat.beq i.size 0 then False else match look x with
          | .pm s g off => match obj s with
            | (g', .varx _) => bif Nat.beq g g' then K (.pm s g (off + f.offset)) [s] [] else False
            | _ => False
          | .pe s g n off => match obj s with
            | (g', .arr _ _ _ _) => bif Nat.beq g g' then K (.pe s g n (off + f.offset)) [s] [] else False
            | _ => False
          | _ => False
        | .none => False
      | .none => False
    | _ => False
  | .indexAddr t x i => match T.get t with
    | some { desc := .slice e, .. } => match T.get e, look x, look i with
      | some ti, .rs s g, .c (.v (.int _ n)) => match obj s with
        | (g', .arr _ sz ds _) => bif Nat.beq g g' && Nat.beq sz ti.size then 0 ≤ n ∧ n.toNat < ds.length ∧ K (.pe s g n.toNat 0) [s] [] else False
        | _ => False
      | _, _, _ => False
    | _ => False
  | .slice t x lo hi mx => match T.get t, lo, hi, mx with
    | some { desc := .slice e, .. }, some b, .none, .none => match T.get e, look x, look b with
      | some i, .rs s g, .c (.v (.int _ m)) => match obj s with
        | (g', .arr _ sz ds _) => bif Nat.beq g g' && Nat.beq sz i.size then 0 ≤ m ∧ m ≤ (ds.length : Int) ∧ ds ≠ [] ∧ K (.ss s g m.toNat) [s] [] else False
        | _ => False
      | _, _, _ => False
    | _, _, _, _ => False
  | .buildSlice t len parts => match T.get t with
    | some { desc := .slice e, .. } => match T.get e, d, parts.toList with
      | some i, some d, [(0, x)] => match look x with
        | .agx cs => bif Nat.beq len 1 && Nat.beq cs.length i.size && Nat.ble 1 i.size && Nat.ble i.size 256 && Nat.beq i.zero.length i.size then (∃ cs0 : List CV, K (.rs d ((obj d).1 + 1)) [] [(d, ((obj d).1 + 1, .arr e i.size [cs0] (some (0, cs))))]) else False
        | _ => False
      | _, _, _ => False
    | _ => False
  | .call c => match c.callee with
    | .builtin .len => match c.args.toList, (c.argTypes[0]?).bind T.get with
      | [x], some { desc := .slice _, .. } => match look x with
        | .rs s g => match obj s with
          | (g', .arr _ _ ds _) => bif Nat.beq g g' then K (.c (.v (.int .i64 ds.length))) [s] [] else False
          | _ => False
        | _ => False
      | _, _ => False
    | .builtin .append => wpXappend T look obj c d K
    | .builtin _ => False
    | _ => wpXcall H look obj c d K
  | _ => False
end

/-- The place of a site of a generation in a list. -/
def idx2 : List (Nat × Nat) → Nat → Nat → Nat → Option Nat
  | [], _, _, _ => .none
  | (t, g) :: r, s, h, j => bif Nat.beq t s && Nat.beq g h then some j else idx2 r s h (j + 1)
section
variable (τ : List (Nat × Nat)) (γ : Nat → Nat)
/-- References by their places in the list τ. -/
def cTo1 : CV → Option CV
  | .rs t g => (idx2 τ t g 0).map fun j => .rs j (γ j)
  | .pr t g off => (idx2 τ t g 0).map fun j => .pr j (γ j) off
  | .mr t g => (idx2 τ t g 0).map fun j => .mr j (γ j)
  | .xr t g => (idx2 τ t g 0).map fun j => .xr j (γ j)
  | .fr _ _ => .none
  | c => some c
def csTo1 : List CV → Option (List CV)
  | [] => some []
  | c :: r => match cTo1 τ γ c, csTo1 r with
    | some c, some cs => some (c :: cs)
    | _, _ => .none
def cTo : CV → Option CV
  | .fr f caps => (csTo1 τ γ caps).map (CV.fr f)
  | c => cTo1 τ γ c
def csTo : List CV → Option (List CV)
  | [] => some []
  | c :: r => match cTo τ γ c, csTo r with
    | some c, some cs => some (c :: cs)
    | _, _ => .none
def sTo1 : SV → Option SV
  | .rs t g => (idx2 τ t g 0).map fun j => .rs j (γ j)
  | .pm t g off => (idx2 τ t g 0).map fun j => .pm j (γ j) off
  | .mr t g => (idx2 τ t g 0).map fun j => .mr j (γ j)
  | .xr t g => (idx2 τ t g 0).map fun j => .xr j (γ j)
  | .xf t g f => (idx2 τ t g 0).map fun j => .xf j (γ j) f
  | .pe t g n off => (idx2 τ t g 0).map fun j => .pe j (γ j) n off
  | .ss t g lo => (idx2 τ t g 0).map fun j => .ss j (γ j) lo
  | .ap t g sz es => match idx2 τ t g 0 with
    | some j => some (.ap j (γ j) sz es)
    | .none => some (.c (.sl sz es))
  | .agx cs => (csTo τ γ cs).map SV.agx
  | .tpx cs => (csTo τ γ cs).map SV.tpx
  | .fnr _ _ => .none
  | s => some s
def ssTo1 : List SV → Option (List SV)
  | [] => some []
  | s :: r => match sTo1 τ γ s, ssTo1 r with
    | some s, some ss => some (s :: ss)
    | _, _ => .none
def sTo : SV → Option SV
  | .fnr f caps => (ssTo1 τ γ caps).map (SV.fnr f)
  | s => sTo1 τ γ s
def ssTo : List SV → Option (List SV)
  | [] => some []
  | s :: r => match sTo τ γ s, ssTo r with
    | some s, some ss => some (s :: ss)
    | _, _ => .none
def oTo : AObj → Option AObj
  | .varx cs => (csTo τ γ cs).map AObj.varx
  | .ext K cs => (csTo τ γ cs).map (AObj.ext K)
  | .arr el sz ds (some (m, cs)) => (csTo τ γ cs).map fun cs => .arr el sz ds (some (m, cs))
  | o => some o
/-- The objects of a list of sites; all of them of the generations that are told. -/
def osTo (obj : Objs) : Nat → List (Nat × Nat) → Option (List (Nat × AObj))
  | _, [] => some []
  | j, (t, g) :: r => bif Nat.beq (obj t).1 g then (match oTo τ γ (obj t).2, osTo obj (j + 1) r with
    | some o, some os => some ((γ j, o) :: os)
    | _, _ => .none) else .none
end
def objL (os : List (Nat × AObj)) : Objs := fun j => match os[j]? with
  | some o => o
  | .none => (0, .none)
/-- All references lie below n. -/
def cLt1 (n : Nat) : CV → Bool
  | .rs j _ => Nat.blt j n
  | .pr j _ _ => Nat.blt j n
  | .mr j _ => Nat.blt j n
  | .xr j _ => Nat.blt j n
  | _ => true
def cLt (n : Nat) : CV → Bool
  | .fr _ caps => caps.all (cLt1 n)
  | c => cLt1 n c
def sLt1 (n : Nat) : SV → Bool
  | .rs j _ => Nat.blt j n
  | .pm j _ _ => Nat.blt j n
  | .mr j _ => Nat.blt j n
  | .xr j _ => Nat.blt j n
  | .xf j _ _ => Nat.blt j n
  | .pe j _ _ _ => Nat.blt j n
  | .ss j _ _ => Nat.blt j n
  | .ap j _ _ _ => Nat.blt j n
  | .agx cs => cs.all (cLt n)
  | .tpx cs => cs.all (cLt n)
  | .fnr _ _ => false
  | _ => true
def sLt (n : Nat) : SV → Bool
  | .fnr _ caps => caps.all (sLt1 n)
  | s => sLt1 n s
def oLt (n : Nat) : AObj → Bool
  | .varx cs => cs.all (cLt n)
  | .ext _ cs => cs.all (cLt n)
  | .arr _ _ _ (some (_, cs)) => cs.all (cLt n)
  | .none => false
  | _ => true
section
variable (obj : Objs) (d off : Nat) (τ : List (Nat × Nat))
/-- The caller's own names. -/
def bkS (j : Nat) : Nat := match τ[j]? with
  | some (t, _) => t
  | .none => sig d (off + j)
def bkG (j k : Nat) : Nat := match τ[j]? with
  | some (_, g) => g + k
  | .none => (obj (sig d (off + j))).1 + k
def cBk1 : CV → CV
  | .rs j k => .rs (bkS d off τ j) (bkG obj d off τ j k)
  | .pr j k o => .pr (bkS d off τ j) (bkG obj d off τ j k) o
  | .mr j k => .mr (bkS d off τ j) (bkG obj d off τ j k)
  | .xr j k => .xr (bkS d off τ j) (bkG obj d off τ j k)
  | c => c
def cBk : CV → CV
  | .fr f caps => .fr f (caps.map (cBk1 obj d off τ))
  | c => cBk1 obj d off τ c
def sBk1 : SV → SV
  | .rs j k => .rs (bkS d off τ j) (bkG obj d off τ j k)
  | .pm j k o => .pm (bkS d off τ j) (bkG obj d off τ j k) o
  | .mr j k => .mr (bkS d off τ j) (bkG obj d off τ j k)
  | .xr j k => .xr (bkS d off τ j) (bkG obj d off τ j k)
  | .xf j k f => .xf (bkS d off τ j) (bkG obj d off τ j k) f
  | .pe j k n o => .pe (bkS d off τ j) (bkG obj d off τ j k) n o
  | .ss j k lo => .ss (bkS d off τ j) (bkG obj d off τ j k) lo
  | .ap j k sz es => .ap (bkS d off τ j) (bkG obj d off τ j k) sz es
  | .agx cs => .agx (cs.map (cBk obj d off τ))
  | .tpx cs => .tpx (cs.map (cBk obj d off τ))
  | s => s
def sBk : SV → SV
  | .fnr f caps => .fnr f (caps.map (sBk1 obj d off τ))
  | s => sBk1 obj d off τ s
def oBk : AObj → AObj
  | .varx cs => .varx (cs.map (cBk obj d off τ))
  | .ext K cs => .ext K (cs.map (cBk obj d off τ))
  | .arr el sz ds (some (m, cs)) => .arr el sz ds (some (m, cs.map (cBk obj d off τ)))
  | o => o
def uBk : Nat → List (Nat × AObj) → Upd
  | _, [] => []
  | j, (k, o) :: r => (bkS d off τ j, (bkG obj d off τ j k, oBk obj d off τ o)) :: uBk (j + 1) r
end
def nodupS : List Nat → Bool
  | [] => true
  | x :: r => bif r.any (Nat.beq x) then false else nodupS r

section
variable (H : Orc) (T : Tab) (look : Operand → SV) (obj : Objs)
/-- With this offset the objects stay as they are, and are only read. -/
def peekO (off : Nat) (os os' : List (Nat × AObj)) : List (Nat × AObj) := bif Nat.beq off 7777 then os else os'
def peekOk (os : List (Nat × AObj)) : Bool := os.all fun o => match o with
  | (k, .ext _ []) => Nat.beq k 0
  | _ => false
/-- An operation by what is known of it: some objects of the call's own are handed over and come back. -/
def wpEff (d : Option Nat) (op : Op) (ty : TypeId) (K : KOp) : Prop :=
  ∃ (τ : List (Nat × Nat)) (off : Nat) (args : List SV) (os : List (Nat × AObj)) (r : SV) (os' : List (Nat × AObj)),
    ssTo τ (fun _ => 0) (op.operands.toList.map look) = some args ∧ osTo τ (fun _ => 0) obj 0 τ = some os ∧ H.eff op ty args os r (peekO off os os') ∧
    (nodupS ((uBk obj (d.getD 0) off τ 0 (peekO off os os')).map (·.1)) && Nat.ble τ.length (peekO off os os').length && sLt (peekO off os os').length r && (peekO off os os').all (fun o => oLt (peekO off os os').length o.2)) = true ∧
    K (sBk obj (d.getD 0) off τ r) (τ.map (·.1)) (bif Nat.beq off 7777 && peekOk os then [] else uBk obj (d.getD 0) off τ 0 (peekO off os os'))
/-- The rules alone; the rules, or what is known of it. -/
def wpO1 (d : Option Nat) (op : Op) (ty : TypeId) (K : KOp) : Prop := wpOp H T look obj (wpX H T look obj d op) d op ty K
def wpO2 (d : Option Nat) (op : Op) (ty : TypeId) (K : KOp) : Prop := wpO1 H T look obj d op ty K ∨ wpEff H look obj d op ty K
/-- An operation: the plain rules, else those for slices that are written, else what is known of it. -/
def wpO0 (d : Option Nat) (op : Op) (ty : TypeId) (K : KOp) : Prop := wpOp H T look obj (fun K => wpX H T look obj d op K ∨ wpEff H look obj d op ty K) d op ty K
/-- Operations that make memory: the plain rule, or what is known of them. -/
def effFirst : Op → Bool
  | .alloc _ => true
  | .buildSlice _ _ _ => true
  | .assign (.const (.slice _ _ _)) => true
  | .binOp _ _ _ (.const .nilIface) _ => true
  | .index _ _ _ => true
  | .build _ _ => true
  | .box _ _ => true
  | _ => false
def wpO (d : Option Nat) (op : Op) (ty : TypeId) (K : KOp) : Prop := bif effFirst op then (wpO0 H T look obj d op ty K ∨ wpEff H look obj d op ty K) else wpO0 H T look obj d op ty K
end

def inRange (n : Nat) : Option Nat → Bool
  | .none => true
  | some d => Nat.blt d n

/-- A slice held against nil: which question, the type, the slice. -/
def nilCmp : Op → Option (Bool × TypeId × Operand)
  | .binOp .eql t x (.const (.slice .none 0 0)) _ => some (true, t, x)
  | .binOp .neq t x (.const (.slice .none 0 0)) _ => some (false, t, x)
  | _ => .none
def slOf (T : Tab) (look : Operand → SV) (obj : Objs) (t : TypeId) (x : Operand) : Option (List (List CV)) :=
  match T.get t with
  | some { desc := .slice _, .. } => match look x with
    | .rs s g => match obj s with
      | (g', .arr _ _ ds _) => bif Nat.beq g g' then some ds else .none
      | _ => .none
    | s => (asSl s).map (·.2)
  | _ => .none
def wpNil (T : Tab) (st : St) (q : Bool) (t : TypeId) (x : Operand) (K : SV → Prop) : Prop :=
  match slOf T (look st) st.obj t x with
  | some ds => ∀ b : Bool, (b = true → ds = []) → K (bif (b == q) then .kt else .kf)
  | .none => look st x = .c (.v (.slice .none 0 0)) ∧ (match T.get t with | some { desc := .slice _, .. } => True | _ => False) ∧ K (bif q then .kt else .kf)
def isJoin : Code → Bool
  | .cond _ _ _ => true
  | .block _ _ => true
  | _ => false
/-- The slots that the rounds are told of. -/
def envSub (env : Nat → SV) : Nat → List SV → Prop
  | _, [] => True
  | t, s :: r => (s = .any ∨ s = env t) ∧ envSub env (t + 1) r
def jmpK (K : Exit → St → Prop) (J : Code) (st : St) : Prop :=
  match J with
  | .ret => K .ret st
  | .exit id => K (.exit id) st
  | _ => False
/-- A range over a function: the loop's record is laid at s0; the function is called with the round, by its contract. -/
def wpRange (H : Orc) (n : Nat) (g : Operand) (ps : Array Tmp) (assign body : Code) (K : Exit → St → Prop) (st : St) : Prop :=
  ∃ (s0 : Nat) (env : List SV) (f : FuncId) (caps : List SV), (look st g = .fnr (.fn f) caps ∨ ∃ cs : List CV, look st g = .c (.fn f cs) ∧ caps = cs.map SV.c) ∧
    Nat.beq env.length n = true ∧ envSub st.env 0 env ∧ ∀ (l : Nat) (R : Loop), R.params = ps → R.assign = assign → R.body = body → R.tmps.size = n →
      ∃ (τ : List (Nat × Nat)) (off : Nat) (args : List SV) (os : List (Nat × AObj)) (r : SV) (os' : List (Nat × AObj)),
        ssTo τ (fun _ => 0) (.fnr (.yl l R.tmps.toList) env :: caps) = some args ∧ osTo τ (fun _ => 0) (upd st.obj [(s0, ((st.obj s0).1 + 1, .lp l R .on))]) 0 τ = some os ∧ H.efn f args os r os' ∧
        (nodupS ((uBk (upd st.obj [(s0, ((st.obj s0).1 + 1, .lp l R .on))]) 0 off τ 0 os').map (·.1)) && Nat.ble τ.length os'.length && sLt os'.length r && os'.all (fun o => oLt os'.length o.2)) = true ∧
        ∃ (g' : Nat) (b : Bool) (J : Code), upd (upd st.obj [(s0, ((st.obj s0).1 + 1, .lp l R .on))]) (uBk (upd st.obj [(s0, ((st.obj s0).1 + 1, .lp l R .on))]) 0 off τ 0 os') s0 = (g', .lp l R (lpq b J)) ∧
          (b = true → K .normal ⟨st.env, upd (upd (upd st.obj [(s0, ((st.obj s0).1 + 1, .lp l R .on))]) (uBk (upd st.obj [(s0, ((st.obj s0).1 + 1, .lp l R .on))]) 0 off τ 0 os')) [(s0, (g', .spent))]⟩) ∧
          (b = false → jmpK K J ⟨st.env, upd (upd (upd st.obj [(s0, ((st.obj s0).1 + 1, .lp l R .on))]) (uBk (upd st.obj [(s0, ((st.obj s0).1 + 1, .lp l R .on))]) 0 off τ 0 os')) [(s0, (g', .spent))]⟩)

section
variable (H : Orc) (T : Tab) (n : Nat)
def wpOps (all : List Oper) : List Oper → St → (St → Prop) → Prop
  | [], st, K => K st
  | o :: rest, st, K =>
    bif inRange n o.dst then
      match o.guard with
      | .none => match nilCmp o.op with
        | some (q, t, x) => wpNil T st q t x fun r => wpOps all rest ⟨put st.env o.dst r, st.obj⟩ K
        | .none => wpO H T (look st) st.obj o.dst o.op o.type fun r _ u => wpOps all rest ⟨put st.env o.dst r, upd st.obj u⟩ K
      | some (j, want) => match (all[j]?).bind (·.dst) with
        | .none => False
        | some dj => match st.env dj with
          | .kt => bif want then wpO H T (look st) st.obj o.dst o.op o.type fun r _ u => wpOps all rest ⟨put st.env o.dst r, upd st.obj u⟩ K
              else wpOps all rest ⟨put st.env o.dst .un, st.obj⟩ K
          | .kf => bif want then wpOps all rest ⟨put st.env o.dst .un, st.obj⟩ K
              else wpO H T (look st) st.obj o.dst o.op o.type fun r _ u => wpOps all rest ⟨put st.env o.dst r, upd st.obj u⟩ K
          | .c (.v (.bool b)) =>
              (b = true → bif want then wpO H T (look ⟨put st.env (some dj) .kt, st.obj⟩) st.obj o.dst o.op o.type fun r _ u => wpOps all rest ⟨put (put st.env (some dj) .kt) o.dst r, upd st.obj u⟩ K
                else wpOps all rest ⟨put (put st.env (some dj) .kt) o.dst .un, st.obj⟩ K) ∧
              (b = false → bif want then wpOps all rest ⟨put (put st.env (some dj) .kf) o.dst .un, st.obj⟩ K
                else wpO H T (look ⟨put st.env (some dj) .kf, st.obj⟩) st.obj o.dst o.op o.type fun r _ u => wpOps all rest ⟨put (put st.env (some dj) .kf) o.dst r, upd st.obj u⟩ K)
          | .un => wpOps all rest ⟨put st.env o.dst .un, st.obj⟩ K
          | _ => False
    else False

structure Ent where
  r : SV
  rd : List Nat
  wr : Upd
/-- Is operation number i the guard of another one? -/
def isGuard (all : List Oper) (i : Nat) : Bool := all.any fun o => match o.guard with | some (j, _) => Nat.beq j i | .none => false
def Ent.sites (e : Ent) : List Nat := e.wr.map (·.1)
def stepSt (st : St) (o : Oper) (e : Ent) : St := ⟨put st.env o.dst e.r, upd st.obj e.wr⟩
def memN (x : Nat) : List Nat → Bool
  | [] => false
  | y :: r => bif Nat.beq x y then true else memN x r
def disj : List Nat → List Nat → Bool
  | [], _ => true
  | x :: r, l => bif memN x l then false else disj r l
/-- No two operations whose order is open stand in each other's way. -/
def apartE (ops : Array Oper) (oi ok : Oper) (ei ek : Ent) : Bool :=
  oi.apart ops ok && disj ei.sites (ek.rd ++ ek.sites) && disj ek.sites ei.rd
def noConfRow (ops : Array Oper) (mask : Nat) (ok : Oper) (ek : Ent) : Nat → List (Oper × Ent) → Bool
  | _, [] => true
  | i, (oi, ei) :: r => bif Nat.testBit mask i || apartE ops oi ok ei ek then noConfRow ops mask ok ek (i + 1) r else false
def noConfGo (ops : Array Oper) : List Nat → List (Oper × Ent) → List (Oper × Ent) → Bool
  | _, _, [] => true
  | [], _, _ :: _ => false
  | m :: ms, done, (o, e) :: r => bif noConfRow ops m o e 0 done then noConfGo ops ms (done ++ [(o, e)]) r else false
def edgesOk : Nat → List Oper → Bool
  | _, [] => true
  | i, o :: r => bif o.after.all (fun e => !Region.binds .any e || Nat.blt e.on i) then edgesOk (i + 1) r else false
def noConf (ops : List Oper) (tr : List Ent) : Bool := noConfGo ops.toArray (Region.before ops.toArray).toList [] (ops.zip tr) && edgesOk 0 ops

/-- The result of an operation that guards others is parted into its two cases. -/
def refineK (guards : Bool) (r : SV) (K : SV → Prop) : Prop :=
  bif guards then (match r with
    | .c (.v (.bool b)) => (b = true → K .kt) ∧ (b = false → K .kf)
    | r => K r)
  else K r
def wpTr (all : List Oper) : Nat → List Oper → St → List Ent → (List Ent → St → Prop) → Prop
  | _, [], st, tr, K => K tr.reverse st
  | i, o :: rest, st, tr, K =>
    bif inRange n o.dst then
      match o.guard with
      | .none => wpO H T (look st) st.obj o.dst o.op o.type fun r rd u => refineK (isGuard all i) r fun r => wpTr all (i + 1) rest (stepSt st o ⟨r, rd, u⟩) (⟨r, rd, u⟩ :: tr) K
      | some (j, want) => match (all[j]?).bind (·.dst) with
        | .none => False
        | some dj => match st.env dj with
          | .kt => bif want then wpO H T (look st) st.obj o.dst o.op o.type fun r rd u => refineK (isGuard all i) r fun r => wpTr all (i + 1) rest (stepSt st o ⟨r, rd, u⟩) (⟨r, rd, u⟩ :: tr) K
              else wpTr all (i + 1) rest (stepSt st o ⟨.un, [], []⟩) (⟨.un, [], []⟩ :: tr) K
          | .kf => bif want then wpTr all (i + 1) rest (stepSt st o ⟨.un, [], []⟩) (⟨.un, [], []⟩ :: tr) K
              else wpO H T (look st) st.obj o.dst o.op o.type fun r rd u => refineK (isGuard all i) r fun r => wpTr all (i + 1) rest (stepSt st o ⟨r, rd, u⟩) (⟨r, rd, u⟩ :: tr) K
          | .un => wpTr all (i + 1) rest (stepSt st o ⟨.un, [], []⟩) (⟨.un, [], []⟩ :: tr) K
          | _ => False
    else False
def wpDraw (ops : List Oper) (st : St) (K : St → Prop) : Prop :=
  wpTr H T n ops 0 ops st [] fun tr st' => noConf ops tr = true ∧ K st'

/-- What is forgotten at a loop's head: slots become 'any', generations begin anew. -/
def normS1 (obj : Objs) : SV → SV
  | .ap t g sz es => match obj t with
    | (g', .tok _ _) => bif Nat.beq g g' then .ap t 0 sz es else .c (.sl sz es)
    | _ => .c (.sl sz es)
  | .pm t g off => match obj t with
    | (g', .var _) => bif Nat.beq g g' then .pm t 0 off else .any
    | (g', .ro _) => bif Nat.beq g g' then .pm t 0 off else .any
    | (g', .varx _) => bif Nat.beq g g' then .pm t 0 off else .any
    | _ => .any
  | .fnr _ _ => .any
  | .agx _ => .any
  | .tpx _ => .any
  | .ss _ _ _ => .any
  | .rs t g => match obj t with
    | (g', .arr _ _ _ _) => bif Nat.beq g g' then .rs t 0 else .any
    | _ => .any
  | .mr t g => match obj t with
    | (g', .map _) => bif Nat.beq g g' then .mr t 0 else .any
    | _ => .any
  | .xr t g => match obj t with
    | (g', .ext _ _) => bif Nat.beq g g' then .xr t 0 else .any
    | _ => .any
  | .xf _ _ _ => .any
  | .pe t g n off => match obj t with
    | (g', .arr _ _ _ _) => bif Nat.beq g g' then .pe t 0 n off else .any
    | _ => .any
  | .kt => .c (.v (.bool true))
  | .kf => .c (.v (.bool false))
  | s => s
def normSV (obj : Objs) : SV → SV
  | .fnr f caps => .fnr f (caps.map (normS1 obj))
  | s => normS1 obj s
def live1 (obj : Objs) : CV → Bool
  | .rs t g => match obj t with
    | (g', .arr _ _ _ _) => Nat.beq g g'
    | _ => false
  | .pr t g _ => match obj t with
    | (g', .var _) => Nat.beq g g'
    | (g', .ro _) => Nat.beq g g'
    | (g', .varx _) => Nat.beq g g'
    | _ => false
  | .mr t g => match obj t with
    | (g', .map _) => Nat.beq g g'
    | _ => false
  | .xr t g => match obj t with
    | (g', .ext _ _) => Nat.beq g g'
    | _ => false
  | .fr _ _ => false
  | _ => true
def liveF (obj : Objs) : CV → Bool
  | .fr _ caps => caps.all (live1 obj)
  | c => live1 obj c
def liveC (obj : Objs) (cs : List CV) : Bool := cs.all (liveF obj)
def normC1 : CV → CV
  | .rs t _ => .rs t 0
  | .pr t _ off => .pr t 0 off
  | .mr t _ => .mr t 0
  | .xr t _ => .xr t 0
  | c => c
def normCV : CV → CV
  | .fr f caps => .fr f (caps.map normC1)
  | c => normC1 c
def normO (obj : Objs) : AObj → AObj
  | .varx cs => bif liveC obj cs then .varx (cs.map normCV) else .none
  | .ext K cs => bif liveC obj cs then .ext K (cs.map normCV) else .none
  | .arr el sz ds (some (m, cs)) => bif liveC obj cs then .arr el sz ds (some (m, cs.map normCV)) else .none
  | o => o
def PIN : Nat := 4294967296
def normOx (st : St) (s : Nat) : AObj := bif Nat.blt s PIN || Nat.beq (st.obj s).1 0 then normO st.obj (st.obj s).2 else .none
def Weak (st st' : St) : Prop :=
  (∀ t, st'.env t = .any ∨ st'.env t = normSV st.obj (st.env t)) ∧ ∀ s, st'.obj s = (0, .none) ∨ st'.obj s = (0, normOx st s)

def wpA : Code → (Exit → St → Prop) → St → Prop
  | .skip, K, st => K .normal st
  | .region _ ops draw, K, st => bif draw then wpDraw H T n ops.toList st (K .normal) else wpOps H T n ops.toList ops.toList st (K .normal)
  | .seq a b, K, st => bif isJoin a then wpA a (fun e st => match e with | .normal => wpA b K st ∨ ∃ st0, Weak st st0 ∧ wpA b K st0 | e => K e st) st
      else wpA a (fun e st => match e with | .normal => wpA b K st | e => K e st) st
  | .cond c a b, K, st => match look st c with
    | .kt => wpA a K st
    | .kf => wpA b K st
    | .c (.v (.bool q)) => (q = true → wpA a K st) ∧ (q = false → wpA b K st)
    | _ => False
  | .block id body, K, st => wpA body (fun e st => match e with | .exit j => bif Nat.beq j id then K .normal st else K e st | e => K e st) st
  | .loop body, K, st => ∃ I : Nat → St → Prop, (∃ k st0, Weak st st0 ∧ I k st0) ∧
      ∀ k st1, I k st1 → wpA body (fun e st2 => match e with | .normal => ∃ k' st3, k' < k ∧ Weak st2 st3 ∧ I k' st3 | e => K e st2) st1
  | .exit id, K, st => K (.exit id) st
  | .ret, K, st => K .ret st
  | .rangeFunc g ps assign body, K, st => wpRange H n g ps assign body K st
  | _, _, _ => False
end
/-- No range over a function in it. -/
def noRange : Code → Bool
  | .rangeFunc _ _ _ _ => false
  | .seq a b => noRange a && noRange b
  | .cond _ a b => noRange a && noRange b
  | .block _ a => noRange a
  | .loop a => noRange a
  | _ => true

def mkEnv : List (Nat × SV) → Nat → SV
  | [], _ => .any
  | (k, s) :: r, t => bif Nat.beq k t then s else mkEnv r t
def mkObj : List (Nat × AObj) → Objs
  | [], _ => (0, .none)
  | (k, o) :: r, s => bif Nat.beq k s then (0, o) else mkObj r s
def EnvOk (st : St) : List (Nat × SV) → Prop
  | [] => True
  | (t, s) :: r => normSV st.obj (st.env t) = s ∧ EnvOk st r
def ObjsOk (st : St) : List (Nat × AObj) → Prop
  | [] => True
  | (t, o) :: r => normOx st t = o ∧ ObjsOk st r
theorem weak_mk {st : St} {l : List (Nat × SV)} {m : List (Nat × AObj)} (h : EnvOk st l) (h' : ObjsOk st m) : Weak st ⟨mkEnv l, mkObj m⟩ := by
  constructor
  · intro t
    induction l with
    | nil => exact .inl rfl
    | cons p r ih =>
      obtain ⟨k, s⟩ := p
      simp only [mkEnv]
      cases hb : Nat.beq k t with
      | false => exact ih h.2
      | true =>
        have := Nat.eq_of_beq_eq_true hb
        subst this
        exact .inr h.1.symm
  · intro t
    induction m with
    | nil => exact .inl rfl
    | cons p r ih =>
      obtain ⟨k, o⟩ := p
      simp only [mkObj]
      cases hb : Nat.beq k t with
      | false => exact ih h'.2
      | true =>
        have := Nat.eq_of_beq_eq_true hb
        subst this
        exact .inr (by rw [h'.1]; rfl)

def initEnv : List CV → Nat → SV
  | [], _ => .any
  | c :: _, 0 => .c c
  | _ :: r, t + 1 => initEnv r t
def initSt (args : List CV) : St := ⟨initEnv args, fun _ => (0, .none)⟩

def resC (T : Tab) (st : St) : ResultVar → Option CV
  | .tmp t => asC (st.env t)
  | .cell x t => match T.get t, st.env x with
    | some i, .pm s g off => match st.obj s with
      | (g', .var cs) => bif Nat.beq g g' then part i cs off else .none
      | _ => .none
    | _, _ => .none
/-- A result that is a slice which was written, closed. -/
def resX (T : Tab) (st : St) (rv : ResultVar) (c : CV) : Prop :=
  match rv with
  | .tmp t => match st.env t with
    | .rs s g => match st.obj s with
      | (g', .arr _ sz ds foc) => Nat.beq g g' = true ∧ ∃ ds', c = .sl sz ds' ∧ (match foc with
        | .none => ds' = ds
        | some (m, cs) => ∃ cs', frzCells st.obj cs = some cs' ∧ ds' = ds.set m cs')
      | _ => False
    | .agx cs => ∃ cs', frzCells st.obj cs = some cs' ∧ c = .agg cs'
    | .mr s g => match st.obj s with
      | (g', .map es) => Nat.beq g g' = true ∧ c = .mp es
      | _ => False
    | .xr s g => match st.obj s with
      | (g', .ext K []) => Nat.beq g g' = true ∧ K.cl = some c
      | _ => False
    | _ => resC T st rv = some c
  | .cell x t => match T.get t, st.env x with
    | some i, .pm s g off => match st.obj s with
      | (g', .varx cs) => Nat.beq g g' = true ∧ ∃ cs', frzCells st.obj cs = some cs' ∧ part i cs' off = some c
      | _ => resC T st rv = some c
    | _, _ => False
def resXs (T : Tab) (st : St) : List ResultVar → List CV → Prop
  | [], cs => cs = []
  | r :: rs, cs => match cs with
    | [] => False
    | c :: cs => resX T st r c ∧ resXs T st rs cs
def resAll (T : Tab) (st : St) : List ResultVar → Option (List CV)
  | [] => some []
  | r :: rs => match resC T st r, resAll T st rs with
    | some c, some cs => some (c :: cs)
    | _, _ => .none
def resVal (T : Tab) (st : St) (rs : List ResultVar) : Option CV :=
  match rs with
  | [x] => resC T st x
  | rs => (resAll T st rs).map CV.tup
/-- Results with slices of the call's own: τ names them. -/
def backC (τ : List (Nat × Nat)) : CV → Option CV
  | .ow j => match τ[j]? with
    | some (t, g) => some (.rs t g)
    | .none => .none
  | .rs _ _ => .none
  | .pr _ _ _ => .none
  | .mr _ _ => .none
  | .xr _ _ => .none
  | .fr _ _ => .none
  | .bp _ _ => .none
  | c => some c
def backL (τ : List (Nat × Nat)) : List CV → Option (List CV)
  | [] => some []
  | c :: r => match backC τ c, backL τ r with
    | some c, some cs => some (c :: cs)
    | _, _ => .none
def backF (τ : List (Nat × Nat)) : Option (Nat × List CV) → Option (Option (Nat × List CV))
  | .none => some .none
  | some (m, cs) => (backL τ cs).map fun cs => some (m, cs)
def osOk (st : St) (τ : List (Nat × Nat)) : List (Nat × Nat) → List (Nat × Nat × List (List CV) × Option (Nat × List CV)) → Prop
  | [], os => os = []
  | (t, g) :: r, os => match os with
    | [] => False
    | (el, sz, ds, foc) :: os => (match backF τ foc with
      | some f => st.obj t = (g, .arr el sz ds f)
      | .none => False) ∧ osOk st τ r os
def nodupB : List Nat → Bool
  | [] => true
  | x :: r => bif r.any (Nat.beq x) then false else nodupB r
def resW (T : Tab) (st : St) (rs : List ResultVar) (r : CV) (os : List (Nat × Nat × List (List CV) × Option (Nat × List CV))) : Prop :=
  ∃ τ : List (Nat × Nat), nodupB (τ.map (·.1)) = true ∧ osOk st τ τ os ∧ match rs, r with
    | [.tmp t], .ow j => (τ[j]?).map (fun p => SV.rs p.1 p.2) = some (st.env t)
    | [.tmp t], .agg cs => (backL τ cs).map SV.agx = some (st.env t)
    | [.cell x t], .agg cs => (match T.get t, st.env x with
      | some i, .pm s g off => match st.obj s with
        | (g', .varx ys) => Nat.beq g g' = true ∧ ∃ zs, backL τ cs = some zs ∧ part i ys off = some (.agg zs)
        | _ => False
      | _, _ => False)
    | _, _ => False
def resFin (T : Tab) (rs : List ResultVar) (r : CV) (st : St) : Prop :=
  (r.pure = true ∧ resVal T st rs = some r) ∨ (match r with
    | .wo r os => resW T st rs r os
    | .tup cs => resXs T st rs cs ∧ rs.length ≠ 1
    | r => match rs with | [x] => resX T st x r | _ => False)
def resOk (T : Tab) (rs : List ResultVar) (r : CV) (e : Exit) (st : St) : Prop :=
  match e with
  | .ret => resFin T rs r st
  | .normal => resFin T rs r st
  | _ => False
end Go.Abs

/-
  The relation between abstract states and the model's worlds, and how it is carried along.
-/
namespace Go.Abs
open Go Go.RowKit

/-- Frames of functions (none), of a loop's rounds. -/
abbrev FnR (ρ : Option Nat) : Fence := { Fence.wide with round := ρ }
/-- An operation, in whatever frame. -/
def Oper.wpE (P : Program) (o : Oper) (a : Act) (w : World) (next : Act → World → Prop) (Q : Exit → Act → World → Prop) : Prop :=
  ∀ ρ : Option Nat, o.wpIn (FnR ρ) 0 P a w next Q
theorem callsIn_fnR {ρ : Option Nat} {n : Nat} {P : Program} {f : FuncId} {args : Array Value} {w : World} {R : Ending → World → Prop} : CallsIn (FnR ρ) n P f args w R ↔ Calls P f args w R := callsIn_wide
theorem wpE_of_wp {P : Program} {o : Oper} {a : Act} {w : World} {next : Act → World → Prop} {Q : Exit → Act → World → Prop} (hd : ∀ c, o.op ≠ .defer c) (h : o.wp P a w next Q) : Oper.wpE P o a w next Q := by
  intro ρ
  refine ⟨fun _ _ => trivial, ?_⟩
  rw [Oper.semAt_eq _ _ _ hd]
  unfold Oper.wp at h
  generalize (execOp a.eval o).run P w = r at h
  have hn : ∀ m : Nat, ((FnR ρ).depth.isSome = true → 1 ≤ m) := fun m h => by cases h
  cases r with
  | ok x w' =>
    cases x with
    | enter f args => exact ⟨hn _, callsIn_fnR.2 h⟩
    | row row args => exact ⟨hn _, fun c cs _ => by obtain ⟨v, w'', q1, q2⟩ := h c cs; exact ⟨v, w'', q1, stepsIn_wide.2 q2⟩⟩
    | _ => first | exact h | exact h.elim
  | halt x w' => cases x <;> first | exact h | exact h.elim

theorem Keeps.refl (Z : Zone) (w : World) : Keeps Z w Z w := fun _ _ h => ⟨h, rfl, fun _ _ h => h⟩
theorem Keeps.trans {Z Z' Z'' : Zone} {w w' w'' : World} (h : Keeps Z w Z' w') (h' : Keeps Z' w' Z'' w'') : Keeps Z w Z'' w'' :=
  fun b o hz => ⟨(h' b o (h b o hz).1).1, (h' b o (h b o hz).1).2.1.trans (h b o hz).2.1, fun es c he => (h' b o (h b o hz).1).2.2 es c ((h b o hz).2.2 es c he)⟩
theorem Rep.keep {Z Z' : Zone} {w w' : World} (hk : Keeps Z w Z' w') {c : CV} {x : Value} (h : Rep Z w c x) : Rep Z' w' c x := by
  induction h with
  | v x => exact .v x
  | agg cs vs hl _ ha ih => exact .agg cs vs hl ih ha
  | nil sz a cap => exact .nil sz a cap
  | sl sz ds b o cap f hcap hsz hc _ ih =>
    refine .sl sz ds b o cap f hcap hsz (fun i j d c h1 h2 => ?_) ih
    obtain ⟨hz, hcell, hat⟩ := hc i j d c h1 h2
    exact ⟨(hk _ _ hz).1, (hk _ _ hz).2.1.trans hcell, hat⟩
  | pi cs b o off f hc _ ih =>
    refine .pi cs b o off f (fun j c h1 => ?_) ih
    obtain ⟨hz, hcell, hat⟩ := hc j c h1
    exact ⟨(hk _ _ hz).1, (hk _ _ hz).2.1.trans hcell, hat⟩
  | fn f caps vs hl _ ih => exact .fn f caps vs hl ih
  | tup cs vs hl _ ih => exact .tup cs vs hl ih
  | mpn => exact .mpn
  | er t v => exact .er t v
  | mp es b arr clock hz hh hl _ _ ih1 ih2 => exact .mp es b arr clock (hk _ _ hz).1 ((hk _ _ hz).2.2 _ _ hh) hl ih1 ih2

theorem Rep.atom {Z : Zone} {w : World} {c : CV} {x : Value} (h : Rep Z w c x) (ha : c.atom = true) : x.oneCell' = true := by
  cases h <;> first | exact ha | rfl | (simp [CV.atom] at ha)

/-- Lists of values. -/
def RepL (Z : Zone) (w : World) (cs : List CV) (vs : List Value) : Prop := cs.length = vs.length ∧ ∀ (i : Nat) (c : CV) (x : Value), cs[i]? = some c → vs[i]? = some x → Rep Z w c x
theorem RepL.nil (Z : Zone) (w : World) : RepL Z w [] [] := ⟨rfl, fun i c x h => by simp at h⟩
theorem RepL.cons {Z : Zone} {w : World} {c : CV} {x : Value} {cs : List CV} {vs : List Value} (h : Rep Z w c x) (hs : RepL Z w cs vs) : RepL Z w (c :: cs) (x :: vs) := by
  refine ⟨by simp [hs.1], fun i c' x' h1 h2 => ?_⟩
  cases i with
  | zero => simp at h1 h2; subst h1; subst h2; exact h
  | succ i => simp at h1 h2; exact hs.2 i c' x' h1 h2
theorem RepL.head {Z : Zone} {w : World} {c : CV} {x : Value} {cs : List CV} {vs : List Value} (h : RepL Z w (c :: cs) (x :: vs)) : Rep Z w c x := h.2 0 c x rfl rfl
theorem RepL.tail {Z : Zone} {w : World} {c : CV} {x : Value} {cs : List CV} {vs : List Value} (h : RepL Z w (c :: cs) (x :: vs)) : RepL Z w cs vs :=
  ⟨by have := h.1; simpa using this, fun i c' x' h1 h2 => h.2 (i + 1) c' x' (by simpa using h1) (by simpa using h2)⟩
theorem RepL.keep {Z Z' : Zone} {w w' : World} (hk : Keeps Z w Z' w') {cs : List CV} {vs : List Value} (h : RepL Z w cs vs) : RepL Z' w' cs vs := ⟨h.1, fun i c x h1 h2 => (h.2 i c x h1 h2).keep hk⟩
theorem RepL.append {Z : Zone} {w : World} {cs ds : List CV} {vs us : List Value} (h : RepL Z w cs vs) (k : RepL Z w ds us) : RepL Z w (cs ++ ds) (vs ++ us) := by
  induction cs generalizing vs with
  | nil =>
    cases vs with
    | nil => exact k
    | cons x xs => have := h.1; simp at this
  | cons c cs ih =>
    cases vs with
    | nil => have := h.1; simp at this
    | cons x xs => exact RepL.cons h.head (ih h.tail)

def live (obj : Objs) (t g : Nat) : Prop := ∃ cs, obj t = (g, .var cs) ∨ obj t = (g, .ro cs) ∨ obj t = (g, .varx cs)
/-- A cell of the call's own: closed, or a reference to an object of the call's own. -/
inductive RepX1 (Z : Zone) (w : World) (obj : Objs) (E : Nat → Value) : CV → Value → Prop
  | cl {c : CV} {x : Value} (h : Rep Z w c x) : RepX1 Z w obj E c x
  | rs (t g : Nat) (x : Value) (hs : ∃ a l k, x = .slice a l k) (hg : g ≤ (obj t).1) (h : ∀ el sz ds foc, obj t = (g, .arr el sz ds foc) → E t = x) : RepX1 Z w obj E (.rs t g) x
  | pr (t g off : Nat) (x : Value) (hs : ∃ p, x = .pointer p) (hg : g ≤ (obj t).1) (h : live obj t g → ∃ b, E t = .pointer (some ⟨b, 0, none⟩) ∧ x = .pointer (some ⟨b, off, none⟩)) : RepX1 Z w obj E (.pr t g off) x
  | mr (t g : Nat) (x : Value) (hs : ∃ b, x = .map b) (hg : g ≤ (obj t).1) (h : ∀ es, obj t = (g, .map es) → E t = x) : RepX1 Z w obj E (.mr t g) x
  | xr (t g : Nat) (x : Value) (hs : x.oneCell' = true) (hg : g ≤ (obj t).1) (h : ∀ K cs, obj t = (g, .ext K cs) → face (E t) = x) : RepX1 Z w obj E (.xr t g) x
  | bp (T : Nat) (f : Bool) (x : Value) (hs : ∃ p, x = .pointer p) : RepX1 Z w obj E (.bp T f) x
inductive RepX (Z : Zone) (w : World) (obj : Objs) (E : Nat → Value) : CV → Value → Prop
  | one {c : CV} {x : Value} (h : RepX1 Z w obj E c x) : RepX Z w obj E c x
  | fr (f : FuncId) (caps : List CV) (vs : List Value) (hl : caps.length = vs.length) (h : ∀ (i : Nat) (c : CV) (x : Value), caps[i]? = some c → vs[i]? = some x → RepX1 Z w obj E c x) :
      RepX Z w obj E (.fr f caps) (.func (.func f) #[] vs.toArray)
theorem RepX.cl {Z : Zone} {w : World} {obj : Objs} {E : Nat → Value} {c : CV} {x : Value} (h : Rep Z w c x) : RepX Z w obj E c x := .one (.cl h)

inductive RepS (Z : Zone) (w : World) (obj : Objs) (E : Nat → Value) : SV → Value → Prop
  | any (x : Value) : RepS Z w obj E .any x
  | un : RepS Z w obj E .un undef
  | kt : RepS Z w obj E .kt (.bool true)
  | kf : RepS Z w obj E .kf (.bool false)
  | c (c : CV) (x : Value) (h : Rep Z w c x) : RepS Z w obj E (.c c) x
  | pm (t g off : Nat) (x : Value) (hs : ∃ p, x = .pointer p) (hg : g ≤ (obj t).1) (h : live obj t g → ∃ b, E t = .pointer (some ⟨b, 0, none⟩) ∧ x = .pointer (some ⟨b, off, none⟩)) : RepS Z w obj E (.pm t g off) x
  | ap (t g sz : Nat) (es : List (List CV)) (x : Value) (h : Rep Z w (.sl sz es) x) (hg : g ≤ (obj t).1) (ht : ∀ el s, obj t = (g, .tok el s) → E t = x) : RepS Z w obj E (.ap t g sz es) x
  | fnr (f : FV) (caps : List SV) (vs : List Value) (hf : f.ok vs) (hl : caps.length = vs.length) (h : ∀ (i : Nat) (s : SV) (x : Value), caps[i]? = some s → vs[i]? = some x → RepS Z w obj E s x) :
      RepS Z w obj E (.fnr f caps) (f.val vs)
  | rs (t g : Nat) (x : Value) (hs : ∃ a l k, x = .slice a l k) (hg : g ≤ (obj t).1) (h : ∀ el sz ds foc, obj t = (g, .arr el sz ds foc) → E t = x) : RepS Z w obj E (.rs t g) x
  | agx (cs : List CV) (vs : List Value) (hl : cs.length = vs.length) (h : ∀ (i : Nat) (c : CV) (x : Value), cs[i]? = some c → vs[i]? = some x → RepX Z w obj E c x)
      (ha : ∀ (i : Nat) (c : CV), cs[i]? = some c → c.atom = true) : RepS Z w obj E (.agx cs) (.agg vs.toArray)
  | tpx (cs : List CV) (vs : List Value) (hl : cs.length = vs.length) (h : ∀ (i : Nat) (c : CV) (x : Value), cs[i]? = some c → vs[i]? = some x → RepX Z w obj E c x)
      (ha : ∀ (i : Nat) (c : CV), cs[i]? = some c → c.atom = true) : RepS Z w obj E (.tpx cs) (.tuple vs.toArray)
  | pe (t g n off : Nat) (x : Value) (hg : g ≤ (obj t).1) (h : ∀ el sz ds foc, obj t = (g, .arr el sz ds foc) → ∃ b l k, E t = .slice (some ⟨b, 0, none⟩) l k ∧ x = .pointer (some ⟨b, n * sz + off, none⟩)) : RepS Z w obj E (.pe t g n off) x
  | ss (t g lo : Nat) (x : Value) (hg : g ≤ (obj t).1) (h : ∀ el sz ds foc, obj t = (g, .arr el sz ds foc) → ∃ b l k o, E t = .slice (some ⟨b, 0, none⟩) l k ∧ x = .slice (some ⟨b, o, none⟩) (l - lo) (k - lo) ∧ (lo < l → o = lo * sz) ∧ o ≤ k * sz ∧ lo ≤ l) : RepS Z w obj E (.ss t g lo) x
  | mr (t g : Nat) (x : Value) (hs : ∃ b, x = .map b) (hg : g ≤ (obj t).1) (h : ∀ es, obj t = (g, .map es) → E t = x) : RepS Z w obj E (.mr t g) x
  | xr (t g : Nat) (x : Value) (hs : x.oneCell' = true) (hg : g ≤ (obj t).1) (h : ∀ K cs, obj t = (g, .ext K cs) → face (E t) = x) : RepS Z w obj E (.xr t g) x
  | xf (t g : Nat) (f : Value → Value) (x : Value) (hg : g ≤ (obj t).1) (h : ∀ K cs, obj t = (g, .ext K cs) → f (face (E t)) = x) : RepS Z w obj E (.xf t g f) x

/-- What the step from one state of the call's own objects to the next must keep. -/
structure ObjKeep (obj : Objs) (E : Nat → Value) (obj' : Objs) (E' : Nat → Value) : Prop where
  gen : ∀ t, (obj t).1 ≤ (obj' t).1
  var : ∀ t g, g ≤ (obj t).1 → live obj' t g → live obj t g ∧ E' t = E t
  tok : ∀ t g el s, g ≤ (obj t).1 → obj' t = (g, .tok el s) → obj t = (g, .tok el s) ∧ E' t = E t
  arr : ∀ t g el sz ds foc, g ≤ (obj t).1 → obj' t = (g, .arr el sz ds foc) → (∃ ds0 foc0, obj t = (g, .arr el sz ds0 foc0)) ∧ E' t = E t
  map : ∀ t g es, g ≤ (obj t).1 → obj' t = (g, .map es) → (∃ es0, obj t = (g, .map es0)) ∧ E' t = E t
  ext : ∀ t g K cs, g ≤ (obj t).1 → obj' t = (g, .ext K cs) → (∃ K0 cs0, obj t = (g, .ext K0 cs0)) ∧ face (E' t) = face (E t)
theorem ObjKeep.refl (obj : Objs) (E : Nat → Value) : ObjKeep obj E obj E := ⟨fun _ => Nat.le_refl _, fun _ _ _ h => ⟨h, rfl⟩, fun _ _ _ _ _ h => ⟨h, rfl⟩, fun _ _ _ _ _ _ _ h => ⟨⟨_, _, h⟩, rfl⟩, fun _ _ _ _ h => ⟨⟨_, h⟩, rfl⟩, fun _ _ _ _ _ h => ⟨⟨_, _, h⟩, rfl⟩⟩
theorem RepX1.keep {Z Z' : Zone} {w w' : World} {obj obj' : Objs} {E E' : Nat → Value} (hk : Keeps Z w Z' w') (ho : ObjKeep obj E obj' E') {c : CV} {x : Value} (h : RepX1 Z w obj E c x) : RepX1 Z' w' obj' E' c x := by
  cases h with
  | cl h => exact .cl (h.keep hk)
  | rs t g x hs hg h =>
    refine .rs t g x hs (Nat.le_trans hg (ho.gen t)) fun el sz ds foc he => ?_
    obtain ⟨⟨ds0, foc0, h0⟩, hE⟩ := ho.arr t g el sz ds foc hg he
    exact hE.trans (h _ _ _ _ h0)
  | pr t g off x hs hg h =>
    refine .pr t g off x hs (Nat.le_trans hg (ho.gen t)) fun hl => ?_
    obtain ⟨hl', hE⟩ := ho.var t g hg hl
    obtain ⟨b, hb, hx⟩ := h hl'
    exact ⟨b, hE.trans hb, hx⟩
  | mr t g x hs hg h =>
    refine .mr t g x hs (Nat.le_trans hg (ho.gen t)) fun es he => ?_
    obtain ⟨⟨es0, h0⟩, hE⟩ := ho.map t g es hg he
    exact hE.trans (h _ h0)
  | xr t g x hs hg h =>
    refine .xr t g x hs (Nat.le_trans hg (ho.gen t)) fun K cs he => ?_
    obtain ⟨⟨K0, cs0, h0⟩, hE⟩ := ho.ext t g K cs hg he
    exact hE.trans (h _ _ h0)
  | bp T f x hs => exact .bp T f x hs
theorem RepX.keep {Z Z' : Zone} {w w' : World} {obj obj' : Objs} {E E' : Nat → Value} (hk : Keeps Z w Z' w') (ho : ObjKeep obj E obj' E') {c : CV} {x : Value} (h : RepX Z w obj E c x) : RepX Z' w' obj' E' c x := by
  cases h with
  | one h => exact .one (h.keep hk ho)
  | fr f caps vs hl h => exact .fr f caps vs hl fun i c x h1 h2 => (h i c x h1 h2).keep hk ho

theorem RepS.keep {Z Z' : Zone} {w w' : World} {obj obj' : Objs} {E E' : Nat → Value} (hk : Keeps Z w Z' w') (ho : ObjKeep obj E obj' E') {s : SV} {x : Value} (h : RepS Z w obj E s x) : RepS Z' w' obj' E' s x := by
  induction h with
  | any x => exact .any x
  | un => exact .un
  | kt => exact .kt
  | kf => exact .kf
  | c c x h => exact .c c x (h.keep hk)
  | pm t g off x hs hg h =>
    refine .pm t g off x hs (Nat.le_trans hg (ho.gen t)) fun hl => ?_
    obtain ⟨hl', hE⟩ := ho.var t g hg hl
    obtain ⟨b, hb, hx⟩ := h hl'
    exact ⟨b, hE.trans hb, hx⟩
  | ap t g sz es x h hg ht =>
    refine .ap t g sz es x (h.keep hk) (Nat.le_trans hg (ho.gen t)) fun el s hl => ?_
    obtain ⟨hl', hE⟩ := ho.tok t g el s hg hl
    exact hE.trans (ht el s hl')
  | fnr f caps vs hf hl _ ih => exact .fnr f caps vs hf hl ih
  | rs t g x hs hg h =>
    refine .rs t g x hs (Nat.le_trans hg (ho.gen t)) fun el sz ds foc he => ?_
    obtain ⟨⟨ds0, foc0, h0⟩, hE⟩ := ho.arr t g el sz ds foc hg he
    exact hE.trans (h _ _ _ _ h0)
  | agx cs vs hl h ha => exact .agx cs vs hl (fun i c x h1 h2 => (h i c x h1 h2).keep hk ho) ha
  | tpx cs vs hl h ha => exact .tpx cs vs hl (fun i c x h1 h2 => (h i c x h1 h2).keep hk ho) ha
  | pe t g n off x hg h =>
    refine .pe t g n off x (Nat.le_trans hg (ho.gen t)) fun el sz ds foc he => ?_
    obtain ⟨⟨ds0, foc0, h0⟩, hE⟩ := ho.arr t g el sz ds foc hg he
    obtain ⟨b, l, k, h1, h2⟩ := h _ _ _ _ h0
    exact ⟨b, l, k, hE.trans h1, h2⟩
  | ss t g lo x hg h =>
    refine .ss t g lo x (Nat.le_trans hg (ho.gen t)) fun el sz ds foc he => ?_
    obtain ⟨⟨ds0, foc0, h0⟩, hE⟩ := ho.arr t g el sz ds foc hg he
    obtain ⟨b, l, k, o, h1, h2⟩ := h _ _ _ _ h0
    exact ⟨b, l, k, o, hE.trans h1, h2⟩
  | mr t g x hs hg h =>
    refine .mr t g x hs (Nat.le_trans hg (ho.gen t)) fun es he => ?_
    obtain ⟨⟨es0, h0⟩, hE⟩ := ho.map t g es hg he
    exact hE.trans (h _ h0)
  | xr t g x hs hg h =>
    refine .xr t g x hs (Nat.le_trans hg (ho.gen t)) fun K cs he => ?_
    obtain ⟨⟨K0, cs0, h0⟩, hE⟩ := ho.ext t g K cs hg he
    exact hE.trans (h _ _ h0)
  | xf t g f x hg h =>
    refine .xf t g f x (Nat.le_trans hg (ho.gen t)) fun K cs he => ?_
    obtain ⟨⟨K0, cs0, h0⟩, hE⟩ := ho.ext t g K cs hg he
    rw [hE]
    exact h _ _ h0

@[reducible] def AObj.blk (o : AObj) (e : Value) (b : Nat) : Prop :=
  match o, e with
  | .var _, .pointer (some a) => a.block = b
  | .ro _, .pointer (some a) => a.block = b
  | .tok _ _, .slice (some a) _ _ => a.block = b
  | .varx _, .pointer (some a) => a.block = b
  | .arr _ _ _ _, .slice (some a) _ _ => a.block = b
  | .map _, .map (some m) => m = b
  | .lp l _ _, _ => l = b
  | .ext K _, e => K.blk e b
  | _, _ => False
/-- The cell at place j of element i. -/
def cellX (ds : List (List CV)) (foc : Option (Nat × List CV)) (i : Nat) : Option (List CV) :=
  match foc with
  | .none => ds[i]?
  | some (m, d) => if i = m then some d else ds[i]?

def FocOk (ds : List (List CV)) (foc : Option (Nat × List CV)) : Prop :=
  (∀ m d, foc = some (m, d) → m < ds.length) ∧ ∀ (i : Nat) (d : List CV), ds[i]? = some d → (∀ m d', foc = some (m, d') → i ≠ m) → noRs d = true
theorem Rep.notRs {Z : Zone} {w : World} {c : CV} {x : Value} (h : Rep Z w c x) : c.isRs = false := by cases h <;> rfl
theorem RepX1.closed {Z : Zone} {w : World} {obj : Objs} {E : Nat → Value} {c : CV} {x : Value} (h : RepX1 Z w obj E c x) (hc : c.isRs = false) : Rep Z w c x := by
  cases h with
  | cl h => exact h
  | rs => cases hc
  | pr => cases hc
  | mr => cases hc
  | xr => cases hc
  | bp => cases hc
theorem RepX.closed {Z : Zone} {w : World} {obj : Objs} {E : Nat → Value} {c : CV} {x : Value} (h : RepX Z w obj E c x) (hc : c.isRs = false) : Rep Z w c x := by
  cases h with
  | one h => exact h.closed hc
  | fr => cases hc
theorem noRs_get : ∀ {cs : List CV} (_ : noRs cs = true) {j : Nat} {c : CV}, cs[j]? = some c → c.isRs = false
  | [], _, _, _, hj => by simp at hj
  | d :: r, h, j, c, hj => by
    simp only [noRs] at h
    cases hd : d.isRs with
    | true => rw [hd] at h; cases h
    | false =>
      rw [hd] at h
      cases j with
      | zero => simp at hj; subst hj; exact hd
      | succ j => exact noRs_get h (by simpa using hj)
theorem noRs_mk : ∀ {cs : List CV}, (∀ (j : Nat) (c : CV), cs[j]? = some c → c.isRs = false) → noRs cs = true
  | [], _ => rfl
  | d :: r, h => by
    simp only [noRs, h 0 d rfl, cond_false]
    exact noRs_mk fun j c hj => h (j + 1) c (by simpa using hj)
/-- The blocks of S are as they were; the streams too; no block has gone. -/
def dfr0 : Obj := .deferred (some [])
structure Kept (S : Nat → Prop) (w w' : World) : Prop where
  os : w'.os = w.os
  tape : w'.tape = w.tape
  output : w'.output = w.output
  size : w.heap.size ≤ w'.heap.size
  block : ∀ k, S k → w'.heap[k]? = w.heap[k]?
  dfr : ∀ k : Nat, w.heap[k]? = some dfr0 → w'.heap[k]? = some dfr0
theorem setRow_dfr (w : World) (g k : Nat) (cs : Array Value) (h : w.heap[k]? = some dfr0) : (w.setRow g cs).heap[k]? = some dfr0 := by
  by_cases hk : k = g
  · subst hk
    simp [World.setRow, Array.getElem?_modify, h, dfr0]
  · rw [setRow_other w g k cs hk]; exact h
theorem Kept.refl (S : Nat → Prop) (w : World) : Kept S w w := ⟨rfl, rfl, rfl, Nat.le_refl _, fun _ _ => rfl, fun _ h => h⟩
theorem Kept.trans {S : Nat → Prop} {a b c : World} (h : Kept S a b) (k : Kept S b c) : Kept S a c :=
  ⟨k.os.trans h.os, k.tape.trans h.tape, k.output.trans h.output, Nat.le_trans h.size k.size, fun i hi => (k.block i hi).trans (h.block i hi), fun i hi => k.dfr i (h.dfr i hi)⟩
theorem Kept.mono {S S' : Nat → Prop} {w w' : World} (h : Kept S w w') (hs : ∀ k, S' k → S k) : Kept S' w w' := ⟨h.os, h.tape, h.output, h.size, fun k hk => h.block k (hs k hk), h.dfr⟩
theorem Kept.drew {S : Nat → Prop} {a w : World} (h : Kept S a w) : Kept S a w.drew := ⟨h.os, h.tape, h.output, h.size, h.block, h.dfr⟩
theorem Kept.alloc {S : Nat → Prop} {a w : World} (h : Kept S a w) (hS : ∀ k, S k → k < w.heap.size) (o : Obj) : Kept S a (w.alloc o) :=
  h.trans ⟨rfl, rfl, rfl, by simp, fun k hk => Below.heap_alloc _ _ _ (hS k hk), fun k hk => (Below.heap_alloc _ _ _ (Array.getElem?_eq_some_iff.1 hk).1).trans hk⟩
theorem Kept.grown {S : Nat → Prop} {a w w' : World} {row : Option Nat} (h : Kept S a w) (hg : w.grownBy w' row) (hS : ∀ k, S k → k < w.heap.size) (hr : ∀ k, row = some k → ¬ S k) (hd : ∀ k, row = some k → w.heap[k]? ≠ some dfr0) : Kept S a w' :=
  h.trans ⟨hg.os, hg.tape, hg.output, hg.size, fun k hk => hg.block k (hS k hk) (fun e => hr k e.symm hk), fun k hk => (hg.block k (Array.getElem?_eq_some_iff.1 hk).1 (fun e => hd k e.symm hk)).trans hk⟩
theorem Kept.of_below {S : Nat → Prop} {w w' : World} (h : Below w.heap.size w w') (hS : ∀ k, S k → k < w.heap.size) : Kept S w w' := ⟨h.os, h.tape, h.output, h.size, fun k hk => h.block k (hS k hk), fun k hk => (h.block k (Array.getElem?_eq_some_iff.1 hk).1).trans hk⟩
theorem Kept.below {B : Nat} {w w' : World} (h : Kept (fun k => k < B) w w') : Below B w w' := ⟨h.os, h.tape, h.output, h.size, h.block⟩

/-- The cells that hold nil or the variable's own address do so; the variable is of the type that they tell. -/
def BpOk (e : Value) (el : Nat) (arr : Array Value) (cs : List CV) : Prop := ∀ (j T : Nat) (f : Bool), cs[j]? = some (.bp T f) → el = T ∧ arr[j]? = some (bif f then e else .pointer none)
theorem noBp_get : ∀ {cs : List CV} (_ : noBp cs = true) {j : Nat} {c : CV}, cs[j]? = some c → c.isBp = false
  | [], _, _, _, hj => by simp at hj
  | d :: r, h, j, c, hj => by
    simp only [noBp] at h
    cases hd : d.isBp with
    | true => rw [hd] at h; cases h
    | false =>
      rw [hd] at h
      cases j with
      | zero => simp at hj; subst hj; exact hd
      | succ j => exact noBp_get h (by simpa using hj)
theorem BpOk.none {e : Value} {el : Nat} {arr : Array Value} {cs : List CV} (h : ∀ (j : Nat) (c : CV), cs[j]? = some c → c.isBp = false) : BpOk e el arr cs := fun j T f hj => by have := h j _ hj; simp [CV.isBp] at this
theorem BpOk.same {e : Value} {el : Nat} {arr : Array Value} {cs cs' : List CV} (h : BpOk e el arr cs) (hs : ∀ (j T : Nat) (f : Bool), cs'[j]? = some (.bp T f) → cs[j]? = some (.bp T f)) : BpOk e el arr cs' := fun j T f hj => h j T f (hs j T f hj)
theorem Rep.notBp {Z : Zone} {w : World} {c : CV} {x : Value} (h : Rep Z w c x) : c.isBp = false := by cases h <;> rfl
def ObjOk (Z : Zone) (w : World) (obj : Objs) (E : Nat → Value) (e : Value) : AObj → Prop
  | .none => True
  | .spent => True
  | .var cs => ∃ b el arr, e = .pointer (some ⟨b, 0, none⟩) ∧ w.heap[b]? = some (.cells arr el (0, 0)) ∧ arr.size = cs.length ∧
      (∀ (j : Nat) (c : CV), cs[j]? = some c → c.atom = true ∧ ∃ x, arr[j]? = some x ∧ Rep Z w c x) ∧ ∀ o, ¬ Z b o
  | .ro cs => ∃ b el arr, e = .pointer (some ⟨b, 0, none⟩) ∧ w.heap[b]? = some (.cells arr el (0, 0)) ∧ arr.size = cs.length ∧
      (∀ (j : Nat) (c : CV), cs[j]? = some c → c.atom = true ∧ Z b j ∧ ∃ x, arr[j]? = some x ∧ Rep Z w c x)
  | .tok el sz => ∃ n xs, 0 < sz ∧ w.ownsRow 0 el sz e n xs ∧ ∀ g cap, e = .slice (some ⟨g, 0, none⟩) n cap → (∀ o, n * sz ≤ o → ¬ Z g o)
  | .varx cs => ∃ b el arr, e = .pointer (some ⟨b, 0, none⟩) ∧ w.heap[b]? = some (.cells arr el (0, 0)) ∧ arr.size = cs.length ∧
      (∀ (j : Nat) (c : CV), cs[j]? = some c → c.atom = true ∧ ∃ x, arr[j]? = some x ∧ RepX Z w obj E c x) ∧ (∀ o, ¬ Z b o) ∧ BpOk e el arr cs
  | .arr el sz ds foc => ∃ xs, 0 < sz ∧ w.ownsRow 0 el sz e ds.length xs ∧ FocOk ds foc ∧ (∀ (i : Nat) (d : List CV), i < ds.length → cellX ds foc i = some d → d.length = sz) ∧
      (∀ (i : Nat) (d : List CV), i < ds.length → cellX ds foc i = some d → ∀ (j : Nat) (c : CV), d[j]? = some c → c.atom = true ∧ ∃ u, xs[i * sz + j]? = some u ∧ RepX Z w obj E c u) ∧ ∀ b o, e.ownBlock = some b → ¬ Z b o
  | .map es => ∃ b arr clock, e = .map (some b) ∧ w.heap[b]? = some (.map arr clock) ∧ es.length = arr.size ∧
      (∀ (i : Nat) (k v : CV) (m : MapEntry), es[i]? = some (k, v) → arr[i]? = some m → Rep Z w k m.key ∧ Rep Z w v m.val) ∧ ∀ o, ¬ Z b o
  | .lp l R q => w.heap[l]? = some (.loop (q.put R)) ∧ ∀ o, ¬ Z l o
  | .ext K cs => ∃ us, us.length = cs.length ∧ (∀ (j : Nat) (c : CV), cs[j]? = some c → ∃ x, us[j]? = some x ∧ RepX Z w obj E c x) ∧ K.ok Z w us e ∧ ∀ b o, K.blk e b → ¬ Z b o

/-- What stood at the beginning of a call. -/
structure Base where
  z : Zone
  obj : Objs
  E : Nat → Value
/-- Objects at pinned sites stay where they are while their generation is 0. -/
structure PinKeep (obj : Objs) (E : Nat → Value) (obj' : Objs) (E' : Nat → Value) : Prop where
  var : ∀ t, Nat.blt t PIN = false → live obj' t 0 → live obj t 0 ∧ E' t = E t
  tok : ∀ t el s, Nat.blt t PIN = false → obj' t = (0, .tok el s) → obj t = (0, .tok el s) ∧ E' t = E t
  arr : ∀ t el sz ds foc, Nat.blt t PIN = false → obj' t = (0, .arr el sz ds foc) → (∃ ds0 foc0, obj t = (0, .arr el sz ds0 foc0)) ∧ E' t = E t
  map : ∀ t es, Nat.blt t PIN = false → obj' t = (0, .map es) → (∃ es0, obj t = (0, .map es0)) ∧ E' t = E t
  ext : ∀ t K cs, Nat.blt t PIN = false → obj' t = (0, .ext K cs) → (∃ K0 cs0, obj t = (0, .ext K0 cs0)) ∧ face (E' t) = face (E t)
theorem PinKeep.refl (obj : Objs) (E : Nat → Value) : PinKeep obj E obj E := ⟨fun _ _ h => ⟨h, rfl⟩, fun _ _ _ _ h => ⟨h, rfl⟩, fun _ _ _ _ _ _ h => ⟨⟨_, _, h⟩, rfl⟩, fun _ _ _ h => ⟨⟨_, h⟩, rfl⟩, fun _ _ _ _ h => ⟨⟨_, _, h⟩, rfl⟩⟩
theorem PinKeep.step {o0 o o' : Objs} {E0 E E' : Nat → Value} (h : PinKeep o0 E0 o E) (k : ObjKeep o E o' E') : PinKeep o0 E0 o' E' where
  var t ht hl := by
    obtain ⟨h1, h2⟩ := k.var t 0 (Nat.zero_le _) hl
    obtain ⟨h3, h4⟩ := h.var t ht h1
    exact ⟨h3, h2.trans h4⟩
  tok t el s ht hl := by
    obtain ⟨h1, h2⟩ := k.tok t 0 el s (Nat.zero_le _) hl
    obtain ⟨h3, h4⟩ := h.tok t el s ht h1
    exact ⟨h3, h2.trans h4⟩
  arr t el sz ds foc ht hl := by
    obtain ⟨⟨ds0, f0, h1⟩, h2⟩ := k.arr t 0 el sz ds foc (Nat.zero_le _) hl
    obtain ⟨h3, h4⟩ := h.arr t el sz ds0 f0 ht h1
    exact ⟨h3, h2.trans h4⟩
  map t es ht hl := by
    obtain ⟨⟨es0, h1⟩, h2⟩ := k.map t 0 es (Nat.zero_le _) hl
    obtain ⟨h3, h4⟩ := h.map t es0 ht h1
    exact ⟨h3, h2.trans h4⟩
  ext t K cs ht hl := by
    obtain ⟨⟨K0, cs0, h1⟩, h2⟩ := k.ext t 0 K cs (Nat.zero_le _) hl
    obtain ⟨h3, h4⟩ := h.ext t K0 cs0 ht h1
    exact ⟨h3, h2.trans h4⟩

/-- The marks among the deferred calls: the blocks for what rounds defer: all are empty. -/
def DefOk (B : Nat) (w : World) : List Deferred → Prop
  | [] => True
  | d :: ds => (∃ r, d = { target := .collected r, args := #[] } ∧ w.heap[r]? = some dfr0 ∧ B ≤ r ∧ ∀ d' ∈ ds, d' ≠ { target := .collected r, args := #[] }) ∧ DefOk B w ds
theorem DefOk.kept {B : Nat} {w w' : World} {S : Nat → Prop} (hk : Kept S w w') : ∀ {ds : List Deferred}, DefOk B w ds → DefOk B w' ds
  | [], _ => trivial
  | _ :: _, ⟨⟨r, h1, h2, h3⟩, h⟩ => ⟨⟨r, h1, hk.dfr r h2, h3⟩, DefOk.kept hk h⟩
structure Inv (G : World → Prop) (Z0 : Base) (w0 : World) (S : Nat → Prop) (n : Nat) (Z : Zone) (E : Nat → Value) (st : St) (a : Act) (w : World) : Prop where
  gs : ∀ w', Kept S w0 w' → G w'
  slt : ∀ k, S k → k < w0.heap.size
  below : Kept S w0 w
  defers : DefOk w0.heap.size w a.defers
  sz : a.tmps.size = n
  zlt : ∀ b o, Z b o → b < w.heap.size
  keeps : Keeps Z0.z w0 Z w
  pin : PinKeep Z0.obj Z0.E st.obj E
  znew : ∀ b o, Z b o → Z0.z b o ∨ ¬ S b
  env : ∀ t, RepS Z w st.obj E (st.env t) (a.tmps.getD t undef)
  obj : ∀ t, ObjOk Z w st.obj E (E t) (st.obj t).2
  own : ∀ t b, (st.obj t).2.blk (E t) b → ¬ S b
  apart : ∀ t t' b, t ≠ t' → (st.obj t).2.blk (E t) b → ¬ (st.obj t').2.blk (E t') b

theorem Inv.z0 {G : World → Prop} {Z0 : Base} {w0 : World} {S : Nat → Prop} {n : Nat} {Z : Zone} {E : Nat → Value} {st : St} {a : Act} {w : World} (h : Inv G Z0 w0 S n Z E st a w) : ∀ b o, Z0.z b o → Z b o := fun b o hz => (h.keeps b o hz).1
theorem getD_put (a : Act) (d : Option Nat) (x : Value) (t : Nat) (hd : inRange a.tmps.size d = true) :
    (a.put d x).tmps.getD t undef = match d with | .none => a.tmps.getD t undef | some d => if d = t then x else a.tmps.getD t undef := by
  cases d with
  | none => rfl
  | some d =>
    simp only [Act.put]
    have hlt : d < a.tmps.size := Nat.lt_of_succ_le (by simpa [inRange, Nat.blt] using hd)
    by_cases h : d = t
    · subst h
      simp [Array.getD, hlt]
    · simp only [if_neg h, Array.getD_eq_getD_getElem?]
      rw [Array.getElem?_setIfInBounds_ne h]
theorem put_size (a : Act) (d : Option Nat) (x : Value) : (a.put d x).tmps.size = a.tmps.size := by cases d <;> simp [Act.put]
theorem put_defers (a : Act) (d : Option Nat) (x : Value) : (a.put d x).defers = a.defers := by cases d <;> rfl

section
variable {G : World → Prop} {Z0 : Base} {w0 : World} {S : Nat → Prop} {n : Nat} {Z Z' : Zone} {E E' : Nat → Value} {st : St} {a : Act} {w w' : World}
theorem env_put {obj : Objs} {d : Option Nat} {r : SV} {x : Value} {env : Nat → SV} (hd : inRange a.tmps.size d = true) (h : ∀ t, RepS Z w obj E (env t) (a.tmps.getD t undef)) (hr : RepS Z w obj E r x) (t : Nat) :
    RepS Z w obj E (put env d r t) ((a.put d x).tmps.getD t undef) := by
  rw [getD_put a d x t hd]
  cases d with
  | none => exact h t
  | some d =>
    simp only [put]
    by_cases hdt : d = t
    · subst hdt
      simpa using hr
    · have : Nat.beq d t = false := by
        cases hb : Nat.beq d t with
        | false => rfl
        | true => exact absurd (Nat.eq_of_beq_eq_true hb) hdt
      rw [this]
      simpa [hdt] using h t

/-- The general step: a value is put into a slot, memory has been carried on. -/
theorem Inv.step (hI : Inv G Z0 w0 S n Z E st a w) {d : Option Nat} {r : SV} {x : Value} {obj' : Objs} (hd : inRange n d = true)
    (hb : Kept S w w') (hk : Keeps Z w Z' w') (hlt : ∀ b o, Z' b o → b < w'.heap.size) (hnew : ∀ b o, Z' b o → Z b o ∨ ¬ S b)
    (ho : ObjKeep st.obj E obj' E') (hobj : ∀ t, ObjOk Z' w' obj' E' (E' t) (obj' t).2)
    (hap : ∀ t t' b, t ≠ t' → (obj' t).2.blk (E' t) b → ¬ (obj' t').2.blk (E' t') b) (how : ∀ t b, (obj' t).2.blk (E' t) b → ¬ S b) (hr : RepS Z' w' obj' E' r x) :
    Inv G Z0 w0 S n Z' E' ⟨put st.env d r, obj'⟩ (a.put d x) w' :=
  { gs := hI.gs
    slt := hI.slt
    below := hI.below.trans hb
    defers := by rw [put_defers]; exact hI.defers.kept hb
    sz := by rw [put_size]; exact hI.sz
    zlt := hlt
    keeps := hI.keeps.trans hk
    pin := hI.pin.step ho
    znew := fun b o h => (hnew b o h).elim (hI.znew b o) .inr
    env := fun t => env_put (by rw [hI.sz]; exact hd) (fun t => (hI.env t).keep hk ho) hr t
    obj := hobj
    own := how
    apart := hap }
/-- A value and nothing else. -/
theorem Inv.value (hI : Inv G Z0 w0 S n Z E st a w) {d : Option Nat} {r : SV} {x : Value} (hd : inRange n d = true) (hr : RepS Z w st.obj E r x) :
    Inv G Z0 w0 S n Z E ⟨put st.env d r, st.obj⟩ (a.put d x) w :=
  hI.step hd (Kept.refl _ _) (Keeps.refl _ _) hI.zlt (fun _ _ h => .inl h) (ObjKeep.refl _ _) hI.obj hI.apart hI.own hr

theorem ObjOk.keep {obj obj' : Objs} {o : AObj} {e : Value} (h : ObjOk Z w obj E e o) (hk : Keeps Z w Z' w') (ho : ObjKeep obj E obj' E') (hblk : ∀ b, o.blk e b → w'.heap[b]? = w.heap[b]? ∧ ∀ k, Z' b k → Z b k) : ObjOk Z' w' obj' E' e o := by
  cases o with
  | none => trivial
  | spent => trivial
  | var cs =>
    obtain ⟨b, el, arr, he, hh, hs, hc, hz⟩ := h
    obtain ⟨h1, h2⟩ := hblk b (by rw [he] <;> rfl)
    exact ⟨b, el, arr, he, h1.trans hh, hs, fun j c hj => ⟨(hc j c hj).1, by obtain ⟨_, x, hx, hr⟩ := hc j c hj; exact ⟨x, hx, hr.keep hk⟩⟩, fun o hz' => hz o (h2 o hz')⟩
  | ro cs =>
    obtain ⟨b, el, arr, he, hh, hs, hc⟩ := h
    exact ⟨b, el, arr, he, (hblk b (by rw [he] <;> rfl)).1.trans hh, hs, fun j c hj => ⟨(hc j c hj).1, (hk _ _ (hc j c hj).2.1).1, by obtain ⟨_, _, x, hx, hr⟩ := hc j c hj; exact ⟨x, hx, hr.keep hk⟩⟩⟩
  | tok el sz =>
    obtain ⟨m, xs, hsz, ⟨hl, hown⟩, hz⟩ := h
    rcases hown with hnil | ⟨g, cap, cur, he, hb, hh, hrest⟩
    · exact ⟨m, xs, hsz, ⟨hl, .inl hnil⟩, fun g cap he => by rw [hnil.1] at he; simp at he⟩
    · obtain ⟨h1, h2⟩ := hblk g (by rw [he] <;> rfl)
      exact ⟨m, xs, hsz, ⟨hl, .inr ⟨g, cap, cur, he, hb, h1.trans hh, hrest⟩⟩, fun g' cap' he' o ho hz' => by
        have : g' = g := by rw [he] at he'; injection he' with h1; injection h1 with h1; injection h1 with h1; exact h1.symm
        subst this
        exact hz g' cap' he' o ho (h2 o hz')⟩
  | varx cs =>
    obtain ⟨b, el, arr, he, hh, hs, hc, hz, hbp⟩ := h
    obtain ⟨h1, h2⟩ := hblk b (by rw [he] <;> rfl)
    exact ⟨b, el, arr, he, h1.trans hh, hs, fun j c hj => ⟨(hc j c hj).1, by obtain ⟨_, x, hx, hr⟩ := hc j c hj; exact ⟨x, hx, hr.keep hk ho⟩⟩, fun o hz' => hz o (h2 o hz'), hbp⟩
  | arr el sz ds foc =>
    obtain ⟨xs, hsz, ⟨hl, hown⟩, hm, hd, hc, hz⟩ := h
    have hcc : ∀ (i : Nat) (d : List CV), i < ds.length → cellX ds foc i = some d → ∀ (j : Nat) (c : CV), d[j]? = some c → c.atom = true ∧ ∃ u, xs[i * sz + j]? = some u ∧ RepX Z' w' obj' E' c u :=
      fun i d hi hcx j c hj => ⟨(hc i d hi hcx j c hj).1, by obtain ⟨_, x, hx, hr⟩ := hc i d hi hcx j c hj; exact ⟨x, hx, hr.keep hk ho⟩⟩
    rcases hown with hnil | ⟨g, cap, cur, he, hb, hh, hrest⟩
    · exact ⟨xs, hsz, ⟨hl, .inl hnil⟩, hm, hd, hcc, fun b o hb => by rw [hnil.1] at hb; simp [Value.ownBlock] at hb⟩
    · obtain ⟨h1, h2⟩ := hblk g (by rw [he] <;> rfl)
      exact ⟨xs, hsz, ⟨hl, .inr ⟨g, cap, cur, he, hb, h1.trans hh, hrest⟩⟩, hm, hd, hcc, fun b o hb' hz' => by
        have : b = g := by rw [he] at hb'; simp [Value.ownBlock] at hb'; exact hb'.symm
        subst this
        exact hz b o hb' (h2 o hz')⟩
  | map es =>
    obtain ⟨b, arr, clock, he, hh, hl, hc, hz⟩ := h
    obtain ⟨h1, h2⟩ := hblk b (by rw [he] <;> rfl)
    exact ⟨b, arr, clock, he, h1.trans hh, hl, fun i k v m h3 h4 => ⟨(hc i k v m h3 h4).1.keep hk, (hc i k v m h3 h4).2.keep hk⟩, fun o hz' => hz o (h2 o hz')⟩
  | lp l R q =>
    obtain ⟨hh, hz⟩ := h
    obtain ⟨h1, h2⟩ := hblk l rfl
    exact ⟨h1.trans hh, fun o hz' => hz o (h2 o hz')⟩
  | ext K cs =>
    obtain ⟨us, hl, hc, hok, hz⟩ := h
    exact ⟨us, hl, fun j c hj => by obtain ⟨x, hx, hr⟩ := hc j c hj; exact ⟨x, hx, hr.keep hk ho⟩, K.keep hok hk (fun b hb => (hblk b hb).1), fun b o hb hz' => hz b o hb ((hblk b hb).2 o hz')⟩

theorem tok_blk (x : Value) (el sz : Nat) {b : Nat} : (AObj.tok el sz).blk x b = (x.ownBlock = some b) := by
  cases x with
  | slice a l c => cases a <;> simp [AObj.blk, Value.ownBlock]
  | _ => simp [AObj.blk, Value.ownBlock]
theorem arr_blk (x : Value) (el sz : Nat) (ds : List (List CV)) (foc : Option (Nat × List CV)) {b : Nat} : (AObj.arr el sz ds foc).blk x b = (x.ownBlock = some b) := by
  cases x with
  | slice a l c => cases a <;> simp [AObj.blk, Value.ownBlock]
  | _ => simp [AObj.blk, Value.ownBlock]
theorem ObjOk.lt {obj : Objs} {o : AObj} {e : Value} {b : Nat} (h : ObjOk Z w obj E e o) (hb : o.blk e b) : b < w.heap.size := by
  cases o with
  | none => simp [AObj.blk] at hb
  | spent => simp [AObj.blk] at hb
  | var cs =>
    obtain ⟨b', el, arr, he, hh, _⟩ := h
    rw [he] at hb
    simp [AObj.blk] at hb
    subst hb
    exact (Array.getElem?_eq_some_iff.1 hh).1
  | ro cs =>
    obtain ⟨b', el, arr, he, hh, _⟩ := h
    rw [he] at hb
    simp [AObj.blk] at hb
    subst hb
    exact (Array.getElem?_eq_some_iff.1 hh).1
  | tok el sz =>
    obtain ⟨m, xs, hsz, hown, _⟩ := h
    rw [tok_blk] at hb
    exact (hown.lt b hb).2
  | varx cs =>
    obtain ⟨b', el, arr, he, hh, _⟩ := h
    rw [he] at hb
    simp [AObj.blk] at hb
    subst hb
    exact (Array.getElem?_eq_some_iff.1 hh).1
  | arr el sz ds foc =>
    obtain ⟨xs, hsz, hown, _⟩ := h
    rw [arr_blk] at hb
    exact (hown.lt b hb).2
  | map es =>
    obtain ⟨b', arr, clock, he, hh, _⟩ := h
    rw [he] at hb
    simp [AObj.blk] at hb
    subst hb
    exact (Array.getElem?_eq_some_iff.1 hh).1
  | lp l R q =>
    simp [AObj.blk] at hb
    subst hb
    exact (Array.getElem?_eq_some_iff.1 h.1).1
  | ext K cs =>
    obtain ⟨us, _, _, hok, _⟩ := h
    obtain ⟨_, _, _, hh⟩ := K.cell hok hb
    exact (Array.getElem?_eq_some_iff.1 hh).1
theorem cell_heap {b o : Nat} (h : w'.heap[b]? = w.heap[b]?) : w'.cell? ⟨b, o, none⟩ = w.cell? ⟨b, o, none⟩ := World.cell?_of_block (a := ⟨b, o, none⟩) h
theorem keep_heap {b o : Nat} (h : w'.heap[b]? = w.heap[b]?) : w'.cell? ⟨b, o, none⟩ = w.cell? ⟨b, o, none⟩ ∧ ∀ es c, w.heap[b]? = some (.map es c) → w'.heap[b]? = some (.map es c) := ⟨cell_heap h, fun _ _ he => h.trans he⟩
theorem Keeps.alloc (hlt : ∀ b o, Z b o → b < w.heap.size) (o : Obj) : Keeps Z w Z (w.alloc o) :=
  fun b k hz => ⟨hz, keep_heap (heap_alloc_old w o (hlt b k hz))⟩
end

def own0 : CV → CV
  | .ow j => .rs j 0
  | c => c
def obo (os : List (Nat × Nat × List (List CV) × Option (Nat × List CV))) (j : Nat) : Nat × AObj :=
  match os[j]? with
  | some (el, sz, ds, .none) => (0, .arr el sz ds .none)
  | some (el, sz, ds, some (m, cs)) => (0, .arr el sz ds (some (m, cs.map own0)))
  | .none => (0, .none)
/-- What a result reads as; slices of the call's own among it are handed over. -/
def RepW (Z : Zone) (Fr : Nat → Prop) (w : World) (r : CV) (os : List (Nat × Nat × List (List CV) × Option (Nat × List CV))) (x : Value) : Prop :=
  ∃ Eo : Nat → Value, (∀ j, ObjOk Z w (obo os) Eo (Eo j) (obo os j).2) ∧ (∀ j j' b, j ≠ j' → (obo os j).2.blk (Eo j) b → ¬ (obo os j').2.blk (Eo j') b) ∧ (∀ j b, (obo os j).2.blk (Eo j) b → Fr b) ∧
    (∀ j, j < os.length → ∃ a l k, Eo j = .slice a l k) ∧
    (∀ (k el sz : Nat) (ds : List (List CV)) (m : Nat) (cs : List CV), os[k]? = some (el, sz, ds, some (m, cs)) → noRs cs = true ∧ ∀ (i j : Nat), cs[i]? = some (.ow j) → j < os.length) ∧
    match r with
    | .ow j => x = Eo j ∧ j < os.length
    | .agg cs => ∃ vs : List Value, noRs cs = true ∧ x = .agg vs.toArray ∧ cs.length = vs.length ∧ (∀ (i : Nat) (c : CV) (v : Value), cs[i]? = some c → vs[i]? = some v → RepX Z w (obo os) Eo (own0 c) v) ∧ (∀ (i : Nat) (c : CV), cs[i]? = some c → c.atom = true) ∧
        (∀ (i j : Nat), cs[i]? = some (.ow j) → j < os.length)
    | _ => False
def RepR (Z : Zone) (Fr : Nat → Prop) (w : World) (r : CV) (x : Value) : Prop :=
  match r with
  | .wo r os => RepW Z Fr w r os x
  | r => Rep Z w r x
theorem RepW.fr {Z : Zone} {Fr Fr' : Nat → Prop} {w : World} {r : CV} {os : List (Nat × Nat × List (List CV) × Option (Nat × List CV))} {x : Value} (h : RepW Z Fr w r os x) (hf : ∀ b, Fr b → Fr' b) : RepW Z Fr' w r os x := by
  obtain ⟨Eo, h1, h2, h3, h4⟩ := h
  exact ⟨Eo, h1, h2, fun j b hb => hf b (h3 j b hb), h4⟩
theorem RepR.pure {Z : Zone} {Fr : Nat → Prop} {w : World} {r : CV} {x : Value} (h : RepR Z Fr w r x) (hp : r.pure = true) : Rep Z w r x := by
  cases r <;> first | exact h | (simp [CV.pure] at hp)
theorem RepR.mk {Z : Zone} {Fr : Nat → Prop} {w : World} {r : CV} {x : Value} (h : Rep Z w r x) : RepR Z Fr w r x := by
  cases h <;> (unfold RepR; constructor <;> assumption)
/-- The contract of a pure function: closed data in, closed data out; nothing that was there has changed. -/
def HasBody (P : Program) (f : FuncId) : Prop := ∃ fn, P.funcs[f]? = some fn ∧ (fn.name == "runtime.NumGoroutine") = false ∧ fn.body.isNone = false
def Holds (P : Program) (G : World → Prop) (f : FuncId) (args : List CV) (r : CV) : Prop :=
  HasBody P f ∧ ∀ (Z : Zone) (w : World) (vs : List Value), RepL Z w args vs → (∀ b o, Z b o → b < w.heap.size) → (∀ w', Below w.heap.size w w' → G w') →
    Calls P f vs.toArray w fun e w' => ∃ (x : Value) (Z' : Zone), e = .returned x ∧ RepR Z' (fun b => w.heap.size ≤ b) w' r x ∧ (∀ b o, Z b o → Z' b o) ∧
      (∀ b o, Z' b o → (Z b o ∨ w.heap.size ≤ b) ∧ b < w'.heap.size) ∧ Below w.heap.size w w'

/-- Some objects that are handed over: they lie apart. -/
structure Grp (Z : Zone) (w : World) (os : List (Nat × AObj)) (Eo : Nat → Value) : Prop where
  ok : ∀ j, ObjOk Z w (objL os) Eo (Eo j) (objL os j).2
  apart : ∀ j j' b, j ≠ j' → (objL os j).2.blk (Eo j) b → ¬ (objL os j').2.blk (Eo j') b
/-- Their blocks. -/
def GB (os : List (Nat × AObj)) (Eo : Nat → Value) (b : Nat) : Prop := ∃ j, (objL os j).2.blk (Eo j) b
/-- What lay there at the call, without them. -/
def SG (w : World) (os : List (Nat × AObj)) (Eo : Nat → Value) (k : Nat) : Prop := k < w.heap.size ∧ ¬ GB os Eo k
structure EffPost (Z : Zone) (w : World) (os : List (Nat × AObj)) (Eo : Nat → Value) (Z' : Zone) (w' : World) (os' : List (Nat × AObj)) (Eo' : Nat → Value) (r : SV) (x : Value) : Prop where
  res : RepS Z' w' (objL os') Eo' r x
  grp : Grp Z' w' os' Eo'
  keeps : Keeps Z w Z' w'
  zlt : ∀ b o, Z' b o → b < w'.heap.size
  znew : ∀ b o, Z' b o → Z b o ∨ w.heap.size ≤ b ∨ GB os Eo b
  kept : Kept (SG w os Eo) w w'
  own : ∀ b, GB os' Eo' b → w.heap.size ≤ b ∨ GB os Eo b
  ok : ObjKeep (objL os) Eo (objL os') Eo'
/-- What is known of an operation that is handed objects of the caller's own. -/
def EffOp (P : Program) (G : World → Prop) (op : Op) (ty : TypeId) (args : List SV) (os : List (Nat × AObj)) (r : SV) (os' : List (Nat × AObj)) : Prop :=
  ∀ (Z : Zone) (w : World) (Eo : Nat → Value) (a : Act) (o : Oper) (next : Act → World → Prop) (Q : Exit → Act → World → Prop), o.op = op → o.type = ty → Grp Z w os Eo → (∀ b o, Z b o → b < w.heap.size) →
    args.length = op.operands.size → (∀ (i : Nat) (s : SV) (x : Operand), args[i]? = some s → op.operands[i]? = some x → RepS Z w (objL os) Eo s (a.eval x)) → (∀ w', Kept (SG w os Eo) w w' → G w') →
    (∀ x Z' w' Eo', EffPost Z w os Eo Z' w' os' Eo' r x → next (a.put o.dst x) w') → Oper.wpE P o a w next Q
/-- The contract of a function that is handed objects of the caller's own, which come back. -/
def EffFn (P : Program) (G : World → Prop) (f : FuncId) (args : List SV) (os : List (Nat × AObj)) (r : SV) (os' : List (Nat × AObj)) : Prop :=
  HasBody P f ∧ ∀ (Z : Zone) (w : World) (Eo : Nat → Value) (vs : List Value), Grp Z w os Eo → (∀ b o, Z b o → b < w.heap.size) → args.length = vs.length →
    (∀ (i : Nat) (s : SV) (x : Value), args[i]? = some s → vs[i]? = some x → RepS Z w (objL os) Eo s x) → (∀ w', Kept (SG w os Eo) w w' → G w') →
    Calls P f vs.toArray w fun e w' => ∃ x Z' Eo', e = .returned x ∧ EffPost Z w os Eo Z' w' os' Eo' r x
def orc (P : Program) (G : World → Prop) : Orc := ⟨Holds P G, EffOp P G, EffFn P G⟩
end Go.Abs

/-
  Soundness of the abstract operations that neither make nor write memory.
-/
namespace Go.Abs
open Go Go.RowKit

def descAgg : TypeDesc → Bool
  | .struct _ => true
  | .array _ _ => true
  | _ => false
def zeroVal (i : TI) : Value := bif i.isAgg then .agg i.zero.toArray else i.zero.headD undef
structure TOk1 (P : Program) (t : Nat) (i : TI) : Prop where
  u : P.underlying t = some i.desc
  info : (P.info? t).map (fun j => (j.size, j.bytes)) = some (i.size, i.bytes)
  zero : ((P.info? t).bind (fun j => j.zero)) = some (zeroVal i)
  agg : i.isAgg = descAgg i.desc
  one : i.zero.all (fun z => z.oneCell') = true
  len : i.zero.length = i.size
  single : i.isAgg = false → i.size = 1
def TOk (P : Program) (T : Tab) : Prop := ∀ t i, T.get t = some i → TOk1 P t i

section
variable {P : Program} {G : World → Prop} {T : Tab} {Z0 : Base} {w0 : World} {S : Nat → Prop} {n : Nat} {Z : Zone} {E : Nat → Value} {st : St} {a : Act} {w : World}

theorem TOk1.infoE {t : Nat} {i : TI} (h : TOk1 P t i) : ∃ j, P.info? t = some j ∧ j.size = i.size ∧ j.bytes = i.bytes ∧ j.zero = some (zeroVal i) := by
  have h1 := h.info
  have h2 := h.zero
  cases hj : P.info? t with
  | none => rw [hj] at h1; simp at h1
  | some j =>
    rw [hj] at h1 h2
    simp at h1 h2
    exact ⟨j, rfl, h1.1, h1.2, h2⟩
theorem TOk1.sizeOf {t : Nat} {i : TI} (h : TOk1 P t i) (w : World) : (Go.sizeOf t).run P w = .ok i.size w := by
  obtain ⟨j, hj, hs, _, _⟩ := h.infoE
  simp [Go.sizeOf, typeInfo, hj, hs]
theorem TOk1.isAggRun {t : Nat} {i : TI} (h : TOk1 P t i) (w : World) : (Go.isAgg t).run P w = .ok i.isAgg w := by
  rw [h.agg]
  unfold Go.isAgg
  rw [Sem.run_bind, run_underlying h.u]
  cases i.desc <;> rfl

theorem not_defer {o : Oper} {r : Result Next} (hr : (execOp a.eval o).run P w = r) (h : ∀ d w', r ≠ .ok (.defer d) w') (h' : ∀ x w', r ≠ .halt x w') : ∀ c, o.op ≠ .defer c := by
  intro c hc
  obtain ⟨dst, op, type, pos, after, guard⟩ := o
  simp only at hc
  subst hc
  simp only [execOp, Sem.run_bind] at hr
  cases hq : (resolve a.eval c type).run P w with
  | ok d w' =>
    rw [hq] at hr
    simp only [Result.andThen_ok, Sem.run_pure] at hr
    exact h _ _ hr.symm
  | halt x w' =>
    rw [hq] at hr
    exact h' _ _ hr.symm
theorem wp_value {o : Oper} {next : Act → World → Prop} {Q : Exit → Act → World → Prop} {x : Value} {w' : World} (h : (execOp a.eval o).run P w = .ok (.value x) w') (hn : next (a.put o.dst x) w') : Oper.wpE P o a w next Q := by
  refine wpE_of_wp (not_defer h (fun _ _ h => nomatch h) (fun _ _ h => nomatch h)) ?_
  unfold Oper.wp; rw [h]; exact hn
theorem wp_skip' {o : Oper} {next : Act → World → Prop} {Q : Exit → Act → World → Prop} {w' : World} (h : (execOp a.eval o).run P w = .ok .skip w') (hn : next (a.put o.dst undef) w') : Oper.wpE P o a w next Q := by
  refine wpE_of_wp (not_defer h (fun _ _ h => nomatch h) (fun _ _ h => nomatch h)) ?_
  unfold Oper.wp; rw [h]; exact hn

theorem rep_const (obj : Objs) (x : Value) : RepS Z w obj E (constSV x) x := by
  unfold constSV
  split
  · exact .kt
  · exact .kf
  · exact .c _ _ (.nil _ _ _)
  · exact .c _ _ .mpn
  · exact .c _ _ (.v _)
theorem look_rep (hI : Inv G Z0 w0 S n Z E st a w) (x : Operand) : RepS Z w st.obj E (look st x) (a.eval x) := by
  cases x with
  | tmp t => exact hI.env t
  | const x => exact rep_const _ x
  | global g => exact .any _
  | func f => exact .c _ _ (.fn f [] [] rfl (fun i c x h => by simp at h))
theorem asC_rep {obj : Objs} {s : SV} {x : Value} {c : CV} (h : RepS Z w obj E s x) (hc : asC s = some c) : Rep Z w c x := by
  cases h with
  | any => simp [asC] at hc
  | un => simp [asC] at hc
  | kt => simp [asC] at hc; subst hc; exact .v _
  | kf => simp [asC] at hc; subst hc; exact .v _
  | c c' x h => simp [asC] at hc; subst hc; exact h
  | pm => simp [asC] at hc
  | ap t g sz es x h => simp [asC] at hc; subst hc; exact h
  | fnr => simp [asC] at hc
  | rs => simp [asC] at hc
  | agx => simp [asC] at hc
  | tpx => simp [asC] at hc
  | pe => simp [asC] at hc
  | ss => simp [asC] at hc
  | mr => simp [asC] at hc
  | xr => simp [asC] at hc
  | xf => simp [asC] at hc
theorem asSl_rep {obj : Objs} {s : SV} {x : Value} {sz : Nat} {ds : List (List CV)} (h : RepS Z w obj E s x) (hc : asSl s = some (sz, ds)) : Rep Z w (.sl sz ds) x := by
  cases h with
  | any => simp [asSl] at hc
  | un => simp [asSl] at hc
  | kt => simp [asSl] at hc
  | kf => simp [asSl] at hc
  | c c' x h =>
    cases c' with
    | sl s d => simp [asSl] at hc; obtain ⟨rfl, rfl⟩ := hc; exact h
    | _ => simp [asSl] at hc
  | pm => simp [asSl] at hc
  | ap t g s es x h => simp [asSl] at hc; obtain ⟨rfl, rfl⟩ := hc; exact h
  | fnr => simp [asSl] at hc
  | rs => simp [asSl] at hc
  | agx => simp [asSl] at hc
  | tpx => simp [asSl] at hc
  | pe => simp [asSl] at hc
  | ss => simp [asSl] at hc
  | mr => simp [asSl] at hc
  | xr => simp [asSl] at hc
  | xf => simp [asSl] at hc
theorem rep_v {x y : Value} (h : Rep Z w (.v x) y) : y = x := by cases h; rfl
theorem rep_cv {obj : Objs} {x y : Value} (h : RepS Z w obj E (.c (.v x)) y) : y = x := by cases h with | c _ _ h => exact rep_v h

/-- What each operation's lemma says. -/
def OpSound (P : Program) (G : World → Prop) (T : Tab) (o : Oper) : Prop :=
  ∀ (Z0 : Base) (w0 : World) (S : Nat → Prop) (n : Nat) (Z : Zone) (E : Nat → Value) (st : St) (a : Act) (w : World) (K : KOp) (next : Act → World → Prop) (Q : Exit → Act → World → Prop) (F : KOp → Prop),
    Inv G Z0 w0 S n Z E st a w → inRange n o.dst = true → wpOp (orc P G) T (look st) st.obj F o.dst o.op o.type K → (F K → Oper.wpE P o a w next Q) →
    (∀ r rd u Z' E' x w', K r rd u → Inv G Z0 w0 S n Z' E' ⟨put st.env o.dst r, upd st.obj u⟩ (a.put o.dst x) w' → next (a.put o.dst x) w') → Oper.wpE P o a w next Q

/-- A value out of an unchanged world. -/
theorem sound_value {o : Oper} {K : KOp} {next : Act → World → Prop} {Q : Exit → Act → World → Prop} (hI : Inv G Z0 w0 S n Z E st a w) (hd : inRange n o.dst = true)
    (hn : ∀ r rd u Z' E' x w', K r rd u → Inv G Z0 w0 S n Z' E' ⟨put st.env o.dst r, upd st.obj u⟩ (a.put o.dst x) w' → next (a.put o.dst x) w')
    {r : SV} {rd : List Nat} {x : Value} (hk : K r rd []) (hrun : (execOp a.eval o).run P w = .ok (.value x) w) (hr : RepS Z w st.obj E r x) : Oper.wpE P o a w next Q :=
  wp_value hrun (hn r rd [] Z E x w hk (hI.value hd hr))

theorem sound_move (dst : Option Nat) (x : Operand) (type : TypeId) (pos : String) (after : Array Edge) (guard : Option (Nat × Bool)) : OpSound P G T ⟨dst, .move x, type, pos, after, guard⟩ := by
  intro Z0 w0 S n Z E st a w K next Q F hI hd h hX hn
  exact sound_value hI hd hn h (by simp [execOp]) (look_rep hI x)

theorem sound_pick (dst : Option Nat) (c x y : Operand) (type : TypeId) (pos : String) (after : Array Edge) (guard : Option (Nat × Bool)) : OpSound P G T ⟨dst, .pick c x y, type, pos, after, guard⟩ := by
  intro Z0 w0 S n Z E st a w K next Q F hI hd h hX hn
  have hc := look_rep hI c
  have hx := look_rep hI x
  have hy := look_rep hI y
  simp only [wpOp] at h
  split at h
  · rename_i he
    rw [he] at hc
    have hv : a.eval c = .bool true := by generalize a.eval c = y at *; cases hc; rfl
    exact sound_value hI hd hn h (by simp [execOp, hv, asBool]) hx
  · rename_i he
    rw [he] at hc
    have hv : a.eval c = .bool false := by generalize a.eval c = y at *; cases hc; rfl
    exact sound_value hI hd hn h (by simp [execOp, hv, asBool]) hy
  · rename_i q he
    rw [he] at hc
    have hv : a.eval c = .bool q := rep_cv hc
    split at h
    · rename_i u v h1 h2
      have e1 := rep_v (asC_rep hx h1)
      have e2 := rep_v (asC_rep hy h2)
      refine sound_value hI hd hn h (by simp [execOp, hv, asBool]; rfl) (.c _ _ ?_)
      cases q
      · simp only [Bool.false_eq_true, if_false, e2, cond_false]; exact .v _
      · simp only [if_true, e1, cond_true]; exact .v _
    · cases q with
      | true => exact sound_value hI hd hn (h.1 rfl) (by simp [execOp, hv, asBool]) hx
      | false => exact sound_value hI hd hn (h.2 rfl) (by simp [execOp, hv, asBool]) hy
  · first | exact h.elim | exact hX h

theorem sound_unOp (dst : Option Nat) (op : UnOp) (t : TypeId) (x : Operand) (type : TypeId) (pos : String) (after : Array Edge) (guard : Option (Nat × Bool)) : OpSound P G T ⟨dst, .unOp op t x, type, pos, after, guard⟩ := by
  intro Z0 w0 S n Z E st a w K next Q F hI hd h hX hn
  have hx := look_rep hI x
  cases op with
  | not =>
    simp only [wpOp] at h
    split at h
    · rename_i he
      rw [he] at hx
      have hv : a.eval x = .bool true := by generalize a.eval x = y at *; cases hx; rfl
      exact sound_value hI hd hn h (by simp [execOp, hv, Op.unary]) .kf
    · rename_i he
      rw [he] at hx
      have hv : a.eval x = .bool false := by generalize a.eval x = y at *; cases hx; rfl
      exact sound_value hI hd hn h (by simp [execOp, hv, Op.unary]) .kt
    · rename_i b he
      rw [he] at hx
      have hv : a.eval x = .bool b := rep_cv hx
      exact sound_value hI hd hn h (by simp [execOp, hv, Op.unary]) (.c _ _ (.v _))
    · first | exact h.elim | exact hX h
  | neg =>
    simp only [wpOp] at h
    split at h
    · rename_i k m he
      rw [he] at hx
      have hv : a.eval x = .int k m := rep_cv hx
      exact sound_value hI hd hn h (by simp [execOp, hv, Op.unary, Op.intArith]) (.c _ _ (.v _))
    · first | exact h.elim | exact hX h
  | _ => simp only [wpOp] at h; first | exact h.elim | exact hX h

theorem run_eq_bool {t : TypeId} (hu : P.underlying t = some .bool) (p q : Bool) (w : World) : (Op.equal t (.bool p) (.bool q)).run P w = .ok (p == q) w := by
  have h : ∀ d : Nat, (Op.equalIn (d + 1) t (.bool p) (.bool q)).run P w = .ok (p == q) w := fun d => by
    simp only [Op.equalIn, Sem.run_bind, run_underlying hu, Result.andThen_ok]
    simp
  exact h 9999
theorem run_bin {op : BinOp} {ib : Bool} {x y : Value} {K : Value → Prop} {t : TypeId} {ox oy : Operand} (hib : ib = true → P.underlying t = some .bool) (h : wpBin op ib x y K) (w : World) :
    ∃ r, K r ∧ (do eqGuard op t ox oy x y; binOp op t x y : Sem Value).run P w = .ok r w := by
  unfold wpBin at h
  split at h
  · obtain ⟨rfl, hb, hk⟩ := h
    exact ⟨_, hk, by simp [eqGuard, binOp, Op.intDiv, hb]⟩
  · obtain ⟨rfl, hb, hk⟩ := h
    exact ⟨_, hk, by simp [eqGuard, binOp, Op.intDiv, hb]⟩
  · obtain ⟨hb, hk⟩ := h
    exact ⟨_, hk, by simp [eqGuard, binOp, Op.shift, Int.not_lt.2 hb]⟩
  · obtain ⟨hb, hk⟩ := h
    exact ⟨_, hk, by simp [eqGuard, binOp, Op.shift, Int.not_lt.2 hb]⟩
  · rename_i k i k' j hq1 hq2 hq3 hq4
    split at h
    · rename_i r hr
      have hkk : k = k' := by
        cases hd : decide (k = k') with
        | false => rw [hd] at h; first | exact h.elim | exact hX h
        | true => exact of_decide_eq_true hd
      subst hkk
      simp only [decide_true, cond_true] at h
      refine ⟨r, h, ?_⟩
      cases op <;> simp only [intBin, reduceCtorEq, Option.some.injEq] at hr <;> (subst hr; first | (simp [eqGuard, binOp, Op.intBits]; done) | simp [eqGuard, binOp, Op.intArith, Op.intCmp])
    · first | exact h.elim | exact hX h
  · rename_i s1 s2
    obtain ⟨hs, s', rfl, hk⟩ := h
    refine ⟨_, hk, ?_⟩
    have hmx : ¬ (((s1.size + s2.size : Nat) : Int) > IntKind.i64.max) := by
      have : IntKind.i64.max = 9223372036854775807 := rfl
      omega
    simp only [eqGuard, binOp, Op.stringOp, hmx, if_false]
    simp
  · rename_i s1 s2 hq
    split at h
    · rename_i r hr
      refine ⟨r, h, ?_⟩
      have hdl : ∀ x y : ByteArray, (x.data.toList == y.data.toList) = (x.toList == y.toList) := fun x y => by rw [ByteArray.toList_eq, ByteArray.toList_eq]
      have hbl : ∀ x y : ByteArray, Op.bytesLess x.data.toList y.data.toList = Op.bytesLess x.toList y.toList := fun x y => by rw [ByteArray.toList_eq, ByteArray.toList_eq]
      cases op <;> simp only [strBin, reduceCtorEq, Option.some.injEq, hdl, hbl] at hr <;> (subst hr; simp [eqGuard, binOp, Op.stringOp])
    · first | exact h.elim | exact hX h
  · rename_i p q
    cases ib with
    | false => first | exact h.elim | exact hX h
    | true =>
      have hu := hib rfl
      simp only [cond_true] at h
      refine ⟨_, h, ?_⟩
      have h1 := run_eq_bool (P := P) hu p q w
      simp only [eqGuard, binOp, Sem.run_bind, h1]
      simp [h1]
  · rename_i p q
    cases ib with
    | false => first | exact h.elim | exact hX h
    | true =>
      have hu := hib rfl
      simp only [cond_true] at h
      refine ⟨_, h, ?_⟩
      have h1 := run_eq_bool (P := P) hu p q w
      simp only [eqGuard, binOp, Sem.run_bind, h1]
      simp [h1]
  · first | exact h.elim | exact hX h

theorem sound_binOp (hT : TOk P T) (dst : Option Nat) (op : BinOp) (t : TypeId) (x y : Operand) (t' : TypeId) (type : TypeId) (pos : String) (after : Array Edge) (guard : Option (Nat × Bool)) : OpSound P G T ⟨dst, .binOp op t x y t', type, pos, after, guard⟩ := by
  intro Z0 w0 S n Z E st a w K next Q F hI hd h hX hn
  have hx := look_rep hI x
  have hy := look_rep hI y
  simp only [wpOp] at h
  split at h
  · rename_i u v h1 h2
    have e1 := rep_v (asC_rep hx h1)
    have e2 := rep_v (asC_rep hy h2)
    obtain ⟨r, hk, hr⟩ := run_bin (P := P) (t := t) (ox := x) (oy := y) (fun hib => by
      split at hib
      · rename_i hg; exact (hT _ _ hg).u
      · cases hib) h w
    refine sound_value hI hd hn hk (x := r) ?_ (.c _ _ (.v _))
    simp only [execOp, e1, e2, Sem.run_bind] at hr ⊢
    rw [hr]
    rfl
  · first | exact h.elim | exact hX h

theorem sound_convert (hT : TOk P T) (dst : Option Nat) (s t : TypeId) (x : Operand) (type : TypeId) (pos : String) (after : Array Edge) (guard : Option (Nat × Bool)) : OpSound P G T ⟨dst, .convert s t x, type, pos, after, guard⟩ := by
  intro Z0 w0 S n Z E st a w K next Q F hI hd h hX hn
  have hx := look_rep hI x
  simp only [wpOp] at h
  split at h
  · rename_i k _ _ _ _ _ k' m _ h1 he h2
    rw [he] at hx
    have hv : a.eval x = .int k' m := rep_cv hx
    have hu := (hT _ _ h1).u
    have hs := (hT _ _ h2).u
    refine sound_value hI hd hn h (x := .int k (k.wrap m)) ?_ (.c _ _ (.v _))
    simp only [execOp, convert, hv, Sem.run_bind, run_underlying hu, run_underlying hs, Result.andThen_ok]
    simp [Conv.intToInt]
  · rename_i _ _ _ _ _ str _ h1 he h2
    rw [he] at hx
    have hv : a.eval x = .string str := rep_cv hx
    have hu := (hT _ _ h1).u
    have hs := (hT _ _ h2).u
    refine sound_value hI hd hn h (x := .string str) ?_ (.c _ _ (.v _))
    simp only [execOp, convert, hv, Sem.run_bind, run_underlying hu, run_underlying hs, Result.andThen_ok]
    simp
  · first | exact h.elim | exact hX h
end
end Go.Abs

/-
  Soundness of the abstract operations that read memory.
-/
namespace Go.Abs
open Go Go.RowKit

theorem takeN_spec : ∀ (m : Nat) (l xs : List CV), takeN m l = some xs → xs.length = m ∧ ∀ (j : Nat), j < m → xs[j]? = l[j]?
  | 0, l, xs, h => by simp [takeN] at h; subst h; exact ⟨rfl, fun j hj => by omega⟩
  | m + 1, [], xs, h => by simp [takeN] at h
  | m + 1, c :: r, xs, h => by
    simp only [takeN] at h
    split at h
    · rename_i cs hcs
      simp at h
      subst h
      obtain ⟨h1, h2⟩ := takeN_spec m r cs hcs
      refine ⟨by simp [h1], fun j hj => ?_⟩
      cases j with
      | zero => rfl
      | succ j => simpa using h2 j (by omega)
    · simp at h

section
variable {P : Program} {G : World → Prop} {T : Tab} {Z0 : Base} {w0 : World} {S : Nat → Prop} {n : Nat} {Z : Zone} {E : Nat → Value} {st : St} {a : Act} {w : World}

theorem run_part {t : TypeId} {i : TI} (hi : TOk1 P t i) {cs : List CV} {b o off : Nat} {f : Nat → Value} {c : CV}
    (hc : ∀ (j : Nat) (c : CV), cs[j]? = some c → w.cell? ⟨b, o + j, none⟩ = some (f j) ∧ c.atom = true ∧ Rep Z w c (f j)) (hp : part i cs off = some c) :
    ∃ x, (Instr.loadAt t (.pointer (some ⟨b, o + off, none⟩))).run P w = .ok x w ∧ Rep Z w c x := by
  unfold part at hp
  cases hagg : i.isAgg with
  | false =>
    rw [hagg] at hp
    simp only [cond_false] at hp
    obtain ⟨h1, _, h3⟩ := hc off c hp
    refine ⟨f off, ?_, h3⟩
    have hr := hi.isAggRun w
    rw [hagg] at hr
    simp [Instr.loadAt, Instr.sureAddr, loadVar, hr, Go.load, Sem.run, h1]
  | true =>
    rw [hagg] at hp
    simp only [cond_true] at hp
    cases hx : takeN i.size (cs.drop off) with
    | none => rw [hx] at hp; simp at hp
    | some xs =>
      rw [hx] at hp
      simp at hp
      subst hp
      obtain ⟨hl, hj⟩ := takeN_spec _ _ _ hx
      have hr := hi.isAggRun w
      rw [hagg] at hr
      have hat : ∀ (j : Nat) (c : CV), xs[j]? = some c → cs[off + j]? = some c := fun j c hjc => by
        have hlt : j < i.size := by rw [← hl]; exact (List.getElem?_eq_some_iff.1 hjc).1
        rw [hj j hlt, List.getElem?_drop] at hjc
        exact hjc
      let vals := (List.range i.size).map fun j => f (off + j)
      have hvl : vals.length = i.size := by simp [vals]
      have hcells := run_loadCells_list (P := P) w ⟨b, o + off, none⟩ vals (fun j v hjv => by
        have hlt : j < i.size := by rw [← hvl]; exact (List.getElem?_eq_some_iff.1 hjv).1
        have hxj : ∃ c, xs[j]? = some c := ⟨xs[j]'(by omega), List.getElem?_eq_getElem (by omega)⟩
        obtain ⟨c, hxc⟩ := hxj
        obtain ⟨h1, _, _⟩ := hc _ c (hat j c hxc)
        have : v = f (off + j) := by
          simp [vals, List.getElem?_map, List.getElem?_range hlt] at hjv
          exact hjv.symm
        rw [this, Addr.add_lit, Nat.add_assoc]
        exact h1)
      rw [hvl] at hcells
      refine ⟨.agg vals.toArray, ?_, .agg xs vals (by omega) (fun j c x hjc hjx => ?_) (fun j c hjc => (hc _ c (hat j c hjc)).2.1)⟩
      · simp [Instr.loadAt, Instr.sureAddr, loadVar, hr, hi.sizeOf w, hcells]
      · have hlt : j < i.size := by rw [← hl]; exact (List.getElem?_eq_some_iff.1 hjc).1
        have : x = f (off + j) := by
          simp [vals, List.getElem?_map, List.getElem?_range hlt] at hjx
          exact hjx.symm
        rw [this]
        exact (hc _ c (hat j c hjc)).2.2

/-- The cells of a variable of the call's own. -/
theorem var_cells (hI : Inv G Z0 w0 S n Z E st a w) {s g : Nat} {cs : List CV} (h : st.obj s = (g, .var cs) ∨ st.obj s = (g, .ro cs)) {off : Nat} {x : Value} (hx : RepS Z w st.obj E (.pm s g off) x) :
    ∃ b, E s = .pointer (some ⟨b, 0, none⟩) ∧ x = .pointer (some ⟨b, off, none⟩) ∧ ∃ f : Nat → Value, ∀ (j : Nat) (c : CV), cs[j]? = some c → w.cell? ⟨b, j, none⟩ = some (f j) ∧ c.atom = true ∧ Rep Z w c (f j) := by
  cases hx with
  | pm _ _ _ _ _ hg hl =>
    obtain ⟨b, hE, hxe⟩ := hl ⟨cs, h.imp id .inl⟩
    refine ⟨b, hE, hxe, ?_⟩
    have ho := hI.obj s
    rcases h with h | h
    · rw [h] at ho
      obtain ⟨b', el, arr, he, hh, hs, hc, _⟩ := ho
      have : b' = b := by rw [hE] at he; injection he with h1; injection h1 with h1; injection h1 with h1; exact h1.symm
      subst this
      refine ⟨fun j => arr.getD j undef, fun j c hj => ?_⟩
      obtain ⟨hat, x', hx', hr⟩ := hc j c hj
      have : arr.getD j undef = x' := by rw [Array.getD_eq_getD_getElem?, hx']; rfl
      simp only [this]
      exact ⟨(cell_of_row w b' j arr el (0, 0) hh).trans hx', hat, hr⟩
    · rw [h] at ho
      obtain ⟨b', el, arr, he, hh, hs, hc⟩ := ho
      have : b' = b := by rw [hE] at he; injection he with h1; injection h1 with h1; injection h1 with h1; exact h1.symm
      subst this
      refine ⟨fun j => arr.getD j undef, fun j c hj => ?_⟩
      obtain ⟨hat, _, x', hx', hr⟩ := hc j c hj
      have : arr.getD j undef = x' := by rw [Array.getD_eq_getD_getElem?, hx']; rfl
      simp only [this]
      exact ⟨(cell_of_row w b' j arr el (0, 0) hh).trans hx', hat, hr⟩

theorem bif_true {b : Bool} {p : Prop} (h : bif b then p else False) : b = true ∧ p := by cases b <;> simp_all

theorem sound_load (hT : TOk P T) (dst : Option Nat) (t : TypeId) (x : Operand) (type : TypeId) (pos : String) (after : Array Edge) (guard : Option (Nat × Bool)) : OpSound P G T ⟨dst, .load t x, type, pos, after, guard⟩ := by
  intro Z0 w0 S n Z E st a w K next Q F hI hd h hX hn
  have hx := look_rep hI x
  simp only [wpOp] at h
  split at h
  · rename_i i hti
    have hi := hT _ _ hti
    have fin : ∀ (b o off : Nat) (cs : List CV) (f : Nat → Value) (c : CV) (rd : List Nat), a.eval x = .pointer (some ⟨b, o + off, none⟩) →
        (∀ (j : Nat) (c : CV), cs[j]? = some c → w.cell? ⟨b, o + j, none⟩ = some (f j) ∧ c.atom = true ∧ Rep Z w c (f j)) → part i cs off = some c → K (.c c) rd [] →
        Oper.wpE P ⟨dst, .load t x, type, pos, after, guard⟩ a w next Q := by
      intro b o off cs f c rd he hc hp hk
      obtain ⟨v, hv, hrep⟩ := run_part hi hc hp
      refine sound_value hI hd hn hk (x := v) ?_ (.c _ _ hrep)
      simp only [execOp, he, Sem.run_bind, hv]
      rfl
    split at h
    · rename_i s g off he
      rw [he] at hx
      split at h
      · rename_i g' cs ho
        replace h := bif_true h; obtain ⟨hgg, h⟩ := h
        have := Nat.eq_of_beq_eq_true hgg
        subst this
        split at h
        · rename_i c hp
          obtain ⟨b, _, hxe, f, hc⟩ := var_cells hI (.inl ho) hx
          exact fin b 0 off cs f c _ (by rw [hxe, Nat.zero_add]) (fun j c hj => by rw [Nat.zero_add]; exact hc j c hj) hp h
        · first | exact h.elim | exact hX h
      · rename_i g' cs ho
        replace h := bif_true h; obtain ⟨hgg, h⟩ := h
        have := Nat.eq_of_beq_eq_true hgg
        subst this
        split at h
        · rename_i c hp
          obtain ⟨b, _, hxe, f, hc⟩ := var_cells hI (.inr ho) hx
          exact fin b 0 off cs f c _ (by rw [hxe, Nat.zero_add]) (fun j c hj => by rw [Nat.zero_add]; exact hc j c hj) hp h
        · first | exact h.elim | exact hX h
      · first | exact h.elim | exact hX h
    · rename_i cs off he
      rw [he] at hx
      split at h
      · rename_i c hp
        generalize hax : a.eval x = y at hx
        cases hx with
        | c _ _ hr =>
          cases hr with
          | pi _ b o _ f hc hrep => exact fin b o off cs f c _ hax (fun j c hj => ⟨(hc j c hj).2.1, (hc j c hj).2.2, hrep j c hj⟩) hp h
      · first | exact h.elim | exact hX h
    · first | exact h.elim | exact hX h
  · first | exact h.elim | exact hX h

theorem sound_nilCheck (dst : Option Nat) (x : Operand) (type : TypeId) (pos : String) (after : Array Edge) (guard : Option (Nat × Bool)) : OpSound P G T ⟨dst, .nilCheck x, type, pos, after, guard⟩ := by
  intro Z0 w0 S n Z E st a w K next Q F hI hd h hX hn
  have hx := look_rep hI x
  have fin : ∀ (b off : Nat) (rd : List Nat), a.eval x = .pointer (some ⟨b, off, none⟩) → K (look st x) rd [] → Oper.wpE P ⟨dst, .nilCheck x, type, pos, after, guard⟩ a w next Q := by
    intro b off rd he hk
    exact sound_value hI hd hn hk (x := a.eval x) (by simp [execOp, he]) hx
  simp only [wpOp] at h
  split at h
  · rename_i s g off he
    have hx' := hx
    rw [he] at hx'
    split at h
    · rename_i g' cs ho
      replace h := bif_true h; obtain ⟨hgg, h⟩ := h
      have := Nat.eq_of_beq_eq_true hgg
      subst this
      obtain ⟨b, _, hxe, _⟩ := var_cells hI (.inl ho) hx'
      exact fin b off _ hxe h
    · rename_i g' cs ho
      replace h := bif_true h; obtain ⟨hgg, h⟩ := h
      have := Nat.eq_of_beq_eq_true hgg
      subst this
      obtain ⟨b, _, hxe, _⟩ := var_cells hI (.inr ho) hx'
      exact fin b off _ hxe h
    · first | exact h.elim | exact hX h
  · rename_i cs off he
    have hx' := hx
    rw [he] at hx'
    generalize hax : a.eval x = y at hx'
    cases hx' with
    | c _ _ hr =>
      cases hr with
      | pi _ b o _ f hc hrep => exact fin b _ _ hax h
  · rename_i f caps he
    have hx' := hx
    rw [he] at hx'
    generalize hax : a.eval x = y at hx'
    cases hx' with
    | c _ _ hr =>
      cases hr with
      | fn _ _ vs hl hrep => exact sound_value hI hd hn h (x := a.eval x) (by simp [execOp, hax]) hx
  · rename_i f caps he
    have hx' := hx
    rw [he] at hx'
    generalize hax : a.eval x = y at hx'
    cases hx' with
    | fnr f _ vs hf hl hrep => exact sound_value hI hd hn h (x := a.eval x) (by cases f <;> simp [execOp, hax, FV.val]) hx
  · first | exact h.elim | exact hX h

theorem sound_fieldAddr (hT : TOk P T) (dst : Option Nat) (t : TypeId) (x : Operand) (k : Nat) (type : TypeId) (pos : String) (after : Array Edge) (guard : Option (Nat × Bool)) : OpSound P G T ⟨dst, .fieldAddr t x k, type, pos, after, guard⟩ := by
  intro Z0 w0 S n Z E st a w K next Q F hI hd h hX hn
  have hx := look_rep hI x
  simp only [wpOp] at h
  split at h
  · rename_i fs _ _ _ _ _ hti
    have hi := hT _ _ hti
    split at h
    · rename_i f hf
      split at h
      · rename_i i hfi
        have hfi' := hT _ _ hfi
        cases hz : Nat.beq i.size 0 with
        | true => rw [hz] at h; first | exact h.elim | exact hX h
        | false =>
          rw [hz] at h
          simp only [cond_false] at h
          have hne : i.size ≠ 0 := fun e => by rw [e] at hz; exact Bool.noConfusion hz
          have run : ∀ b off, (Instr.fieldAt t (.pointer (some ⟨b, off, none⟩)) k).run P w = .ok (.pointer (some ⟨b, off + f.offset, none⟩)) w := by
            intro b off
            have hu := hi.u
            simp only at hu
            simp [Instr.fieldAt, run_underlying hu, hf, Instr.sureAddr, fieldPlace, hfi'.sizeOf w, hne, Addr.add_lit]
          split at h
          · rename_i s g off he
            have hx' := hx
            rw [he] at hx'
            have go : ∀ cs, (st.obj s = (g, .var cs) ∨ st.obj s = (g, .ro cs)) → K (.pm s g (off + f.offset)) [s] [] → Oper.wpE P ⟨dst, .fieldAddr t x k, type, pos, after, guard⟩ a w next Q := by
              intro cs ho hk
              obtain ⟨b, hE, hxe, _⟩ := var_cells hI ho hx'
              refine sound_value hI hd hn hk (x := .pointer (some ⟨b, off + f.offset, none⟩)) ?_ (.pm _ _ _ _ ⟨_, rfl⟩ ?_ fun _ => ⟨b, hE, rfl⟩)
              · simp only [execOp, hxe, Sem.run_bind, run]; rfl
              · cases hx' with | pm _ _ _ _ _ hg _ => exact hg
            split at h
            · rename_i g' cs ho
              replace h := bif_true h; obtain ⟨hgg, h⟩ := h
              have := Nat.eq_of_beq_eq_true hgg
              subst this
              exact go cs (.inl ho) h
            · rename_i g' cs ho
              replace h := bif_true h; obtain ⟨hgg, h⟩ := h
              have := Nat.eq_of_beq_eq_true hgg
              subst this
              exact go cs (.inr ho) h
            · first | exact h.elim | exact hX h
          · rename_i cs off he
            rw [he] at hx
            generalize hax : a.eval x = y at hx
            cases hx with
            | c _ _ hr =>
              cases hr with
              | pi _ b o _ f' hc hrep =>
                refine sound_value hI hd hn h (x := .pointer (some ⟨b, o + off + f.offset, none⟩)) ?_ (.c _ _ ?_)
                · simp only [execOp, hax, Sem.run_bind, run]; rfl
                · rw [Nat.add_assoc]; exact .pi cs b o _ f' hc hrep
          · first | exact h.elim | exact hX h
      · first | exact h.elim | exact hX h
    · first | exact h.elim | exact hX h
  · first | exact h.elim | exact hX h

theorem run_partAgg {t : TypeId} {i : TI} (hi : TOk1 P t i) {cs : List CV} {vs : List Value} {off : Nat} {c : CV} (hl : cs.length = vs.length)
    (hc : ∀ (j : Nat) (c : CV) (x : Value), cs[j]? = some c → vs[j]? = some x → Rep Z w c x) (ha : ∀ (j : Nat) (c : CV), cs[j]? = some c → c.atom = true) (hp : part i cs off = some c) :
    ∃ x, (Go.part t vs.toArray off).run P w = .ok x w ∧ Rep Z w c x := by
  unfold part at hp
  have hr := hi.isAggRun w
  cases hagg : i.isAgg with
  | false =>
    rw [hagg] at hp hr
    simp only [cond_false] at hp
    have hlt : off < cs.length := (List.getElem?_eq_some_iff.1 hp).1
    have hv : vs[off]? = some (vs[off]'(by omega)) := List.getElem?_eq_getElem (by omega)
    refine ⟨_, ?_, hc off c _ hp hv⟩
    simp [Go.part, hr, hv]
  | true =>
    rw [hagg] at hp hr
    simp only [cond_true] at hp
    cases hx : takeN i.size (cs.drop off) with
    | none => rw [hx] at hp; simp at hp
    | some xs =>
      rw [hx] at hp
      simp at hp
      subst hp
      obtain ⟨hxl, hj⟩ := takeN_spec _ _ _ hx
      have hat : ∀ (j : Nat) (c : CV), xs[j]? = some c → cs[off + j]? = some c := fun j c hjc => by
        have hlt : j < i.size := by rw [← hxl]; exact (List.getElem?_eq_some_iff.1 hjc).1
        rw [hj j hlt, List.getElem?_drop] at hjc
        exact hjc
      have hfit : i.size = 0 ∨ off + i.size ≤ cs.length := by
        rcases Nat.eq_zero_or_pos i.size with h0 | h0
        · exact .inl h0
        · right
          have hlast : ∃ c, xs[i.size - 1]? = some c := ⟨xs[i.size - 1]'(by omega), List.getElem?_eq_getElem (by omega)⟩
          obtain ⟨c, hlast⟩ := hlast
          have := (List.getElem?_eq_some_iff.1 (hat _ c hlast)).1
          omega
      refine ⟨.agg ((vs.drop off).take i.size).toArray, ?_, .agg xs _ ?_ (fun j c x hjc hjx => ?_) (fun j c hjc => ha _ c (hat j c hjc))⟩
      · simp [Go.part, hr, hi.sizeOf w]
      · rcases hfit with h0 | h0
        · simp [hxl, h0]
        · simp [hxl]; omega
      · have hlt : j < i.size := by rw [← hxl]; exact (List.getElem?_eq_some_iff.1 hjc).1
        rw [List.getElem?_take, if_pos hlt, List.getElem?_drop] at hjx
        exact hc _ c x (hat j c hjc) hjx

theorem sound_field (hT : TOk P T) (dst : Option Nat) (t : TypeId) (x : Operand) (k : Nat) (type : TypeId) (pos : String) (after : Array Edge) (guard : Option (Nat × Bool)) : OpSound P G T ⟨dst, .field t x k, type, pos, after, guard⟩ := by
  intro Z0 w0 S n Z E st a w K next Q F hI hd h hX hn
  have hx := look_rep hI x
  simp only [wpOp] at h
  split at h
  · rename_i fs _ _ _ _ _ cs hti he
    have hi := hT _ _ hti
    rw [he] at hx
    split at h
    · rename_i f hf
      split at h
      · rename_i i hfi
        split at h
        · rename_i c hp
          generalize hax : a.eval x = y at hx
          cases hx with
          | c _ _ hr =>
            cases hr with
            | agg _ vs hl hrep ha =>
              obtain ⟨v, hv, hvr⟩ := run_partAgg (hT _ _ hfi) hl hrep ha hp
              refine sound_value hI hd hn h (x := v) ?_ (.c _ _ hvr)
              have hu := hi.u
              simp only at hu
              simp [execOp, hax, Instr.field, run_underlying hu, hf, asAgg, hv]
        · first | exact h.elim | exact hX h
      · first | exact h.elim | exact hX h
    · first | exact h.elim | exact hX h
  · first | exact h.elim | exact hX h

theorem sound_indexAddr (hT : TOk P T) (dst : Option Nat) (t : TypeId) (x i : Operand) (type : TypeId) (pos : String) (after : Array Edge) (guard : Option (Nat × Bool)) : OpSound P G T ⟨dst, .indexAddr t x i, type, pos, after, guard⟩ := by
  intro Z0 w0 S n Z E st a w K next Q F hI hd h hX hn
  have hx := look_rep hI x
  have hi := look_rep hI i
  simp only [wpOp] at h
  split at h
  · rename_i e _ _ _ _ _ hti
    split at h
    · rename_i te sz ds k m hte hsl he
      obtain ⟨h0, hszz, d, hdd, hk⟩ := h
      have hs : sz = te.size := hszz.resolve_right (by omega)
      subst hs
      rw [he] at hi
      have hiv : a.eval i = .int k m := rep_cv hi
      have hr := asSl_rep hx hsl
      generalize hax : a.eval x = y at hr
      cases hr with
      | nil => simp at hdd
      | sl _ _ b o cap f hcap hsz hc hrep =>
        have hlt : m.toNat < ds.length := (List.getElem?_eq_some_iff.1 hdd).1
        refine sound_value hI hd hn hk (x := .pointer (some ⟨b, o + m.toNat * te.size, none⟩)) ?_ (.c _ _ ?_)
        · have hu := (hT _ _ hti).u
          simp only at hu
          have hm : 0 ≤ m ∧ m < (ds.length : Int) := ⟨h0, by omega⟩
          simp only [execOp, hax, hiv, Instr.indexAt, asIntOf, Sem.run_bind, Sem.run_pure, Result.andThen_ok, run_underlying hu, (hT _ _ hte).sizeOf w, if_pos hm, Addr.add_lit]
        · have := Rep.pi (Z := Z) (w := w) d b (o + m.toNat * te.size) 0 (fun j => f m.toNat j) (fun j c hj => hc _ j d c hdd hj) (fun j c hj => hrep _ j d c hdd hj)
          simpa using this
    · first | exact h.elim | exact hX h
  · first | exact h.elim | exact hX h

theorem sound_index (hT : TOk P T) (dst : Option Nat) (t : TypeId) (x i : Operand) (type : TypeId) (pos : String) (after : Array Edge) (guard : Option (Nat × Bool)) : OpSound P G T ⟨dst, .index t x i, type, pos, after, guard⟩ := by
  intro Z0 w0 S n Z E st a w K next Q F hI hd h hX hn
  have hx := look_rep hI x
  have hi := look_rep hI i
  simp only [wpOp] at h
  split at h
  · rename_i _ _ _ _ _ hti
    split at h
    · rename_i s k m h1 h2
      obtain ⟨h0, b, hb, hk⟩ := h
      rw [h1] at hx
      rw [h2] at hi
      have hxv : a.eval x = .string s := rep_cv hx
      have hiv : a.eval i = .int k m := rep_cv hi
      refine sound_value hI hd hn hk (x := .int .u8 b.toNat) ?_ (.c _ _ (.v _))
      have hu := (hT _ _ hti).u
      simp only at hu
      simp only [execOp, hxv, hiv, Instr.index, asIntOf, Sem.run_bind, Sem.run_pure, Result.andThen_ok, run_underlying hu, if_pos h0, hb]
    · first | exact h.elim | exact hX h
  · first | exact h.elim | exact hX h

theorem sound_extract (dst : Option Nat) (x : Operand) (k : Nat) (type : TypeId) (pos : String) (after : Array Edge) (guard : Option (Nat × Bool)) : OpSound P G T ⟨dst, .extract x k, type, pos, after, guard⟩ := by
  intro Z0 w0 S n Z E st a w K next Q F hI hd h hX hn
  have hx := look_rep hI x
  simp only [wpOp] at h
  split at h
  · rename_i vs he
    rw [he] at hx
    split at h
    · rename_i c hc
      generalize hax : a.eval x = y at hx
      cases hx with
      | c _ _ hr =>
        cases hr with
        | tup _ us hl hrep =>
          have hlt : k < vs.length := (List.getElem?_eq_some_iff.1 hc).1
          have hu : us[k]? = some (us[k]'(by omega)) := List.getElem?_eq_getElem (by omega)
          refine sound_value hI hd hn h (x := us[k]'(by omega)) ?_ (.c _ _ (hrep k c _ hc hu))
          simp [execOp, hax, Instr.extract, hu]
    · first | exact h.elim | exact hX h
  · first | exact h.elim | exact hX h

theorem sound_makeFunc (dst : Option Nat) (fn : Fn) (first captured : Array Operand) (type : TypeId) (pos : String) (after : Array Edge) (guard : Option (Nat × Bool)) : OpSound P G T ⟨dst, .makeFunc fn first captured, type, pos, after, guard⟩ := by
  intro Z0 w0 S n Z E st a w K next Q F hI hd h hX hn
  cases fn with
  | func f =>
    simp only [wpOp] at h
    split at h
    rotate_left
    · exact hX h
    rename_i he
    have hemp : first = #[] := by simpa using he
    subst hemp
    refine sound_value hI hd hn h (x := .func (.func f) #[] (captured.map a.eval)) (by simp [execOp, Instr.makeFunc]) ?_
    have := RepS.fnr (Z := Z) (w := w) (obj := st.obj) (E := E) (.fn f) (captured.toList.map (look st)) (captured.toList.map a.eval) trivial (by simp) (fun i s x h1 h2 => by
      rw [List.getElem?_map] at h1 h2
      cases hc : captured.toList[i]? with
      | none => rw [hc] at h1; simp at h1
      | some op =>
        rw [hc] at h1 h2
        simp at h1 h2
        subst h1; subst h2
        exact look_rep hI op)
    rw [show (captured.map a.eval) = (captured.toList.map a.eval).toArray from by rw [← Array.toList_map, Array.toArray_toList]]
    exact this
  | _ => simp only [wpOp] at h; first | exact h.elim | exact hX h
end
end Go.Abs

/-
  Soundness of the abstract operations that make or write memory.
-/
namespace Go.Abs
open Go Go.RowKit

def setE (E : Nat → Value) (d : Nat) (x : Value) : Nat → Value := fun t => if t = d then x else E t
theorem setE_same (E : Nat → Value) (d : Nat) (x : Value) : setE E d x d = x := by simp [setE]
theorem setE_ne (E : Nat → Value) {d t : Nat} (x : Value) (h : t ≠ d) : setE E d x t = E t := by simp [setE, h]
theorem upd_one_same (obj : Objs) (d : Nat) (x : Nat × AObj) : upd obj [(d, x)] d = x := by simp [upd]
theorem upd_one_ne (obj : Objs) {d t : Nat} (x : Nat × AObj) (h : t ≠ d) : upd obj [(d, x)] t = obj t := by
  simp only [upd]
  cases hb : Nat.beq d t with
  | false => rfl
  | true => exact absurd (Nat.eq_of_beq_eq_true hb).symm h
theorem upd_two_fst (obj : Objs) (s d : Nat) (x y : Nat × AObj) : upd obj [(s, x), (d, y)] s = x := by simp [upd]
theorem upd_two_snd (obj : Objs) {s d : Nat} (x y : Nat × AObj) (h : s ≠ d) : upd obj [(s, x), (d, y)] d = y := by
  simp only [upd]
  cases hb : Nat.beq s d with
  | false => simp
  | true => exact absurd (Nat.eq_of_beq_eq_true hb) h
theorem upd_two_ne (obj : Objs) {s d t : Nat} (x y : Nat × AObj) (h : t ≠ s) (h' : t ≠ d) : upd obj [(s, x), (d, y)] t = obj t := by
  simp only [upd]
  cases hb : Nat.beq s t with
  | true => exact absurd (Nat.eq_of_beq_eq_true hb).symm h
  | false =>
    cases hb' : Nat.beq d t with
    | true => exact absurd (Nat.eq_of_beq_eq_true hb').symm h'
    | false => rfl

section
variable {P : Program} {G : World → Prop} {T : Tab} {Z0 : Base} {w0 : World} {S : Nat → Prop} {n : Nat} {Z Z' : Zone} {E : Nat → Value} {st : St} {a : Act} {w w' : World}

theorem Inv.size_le (hI : Inv G Z0 w0 S n Z E st a w) : w0.heap.size ≤ w.heap.size := hI.below.size
theorem Inv.sltw (hI : Inv G Z0 w0 S n Z E st a w) (k : Nat) (hk : S k) : k < w.heap.size := Nat.lt_of_lt_of_le (hI.slt k hk) hI.size_le
theorem Inv.fresh (hI : Inv G Z0 w0 S n Z E st a w) {k : Nat} (hk : w.heap.size ≤ k) : ¬ S k := fun h => Nat.lt_irrefl _ (Nat.lt_of_lt_of_le (hI.sltw k h) hk)
theorem below_alloc (hI : Inv G Z0 w0 S n Z E st a w) (o : Obj) : Kept S w (w.alloc o) := (Kept.refl _ _).alloc hI.sltw o

/-- What may become of an object of the same generation. -/
def SameKind (o o' : AObj) : Prop :=
  match o, o' with
  | .var _, .var _ | .var _, .varx _ | .varx _, .varx _ | .varx _, .var _ => True
  | .ro _, .ro _ | .var _, .ro _ | .varx _, .ro _ | .ro _, .var _ | .ro _, .varx _ => True
  | .tok el s, .tok el' s' => el = el' ∧ s = s'
  | .arr el s _ _, .arr el' s' _ _ => el = el' ∧ s = s'
  | .map _, .map _ => True
  | _, _ => False
/-- Nothing refers to it. -/
def AObj.still (o : AObj) : Prop := o = .spent ∨ ∃ l R q, o = .lp l R q
def ExtKind (o o' : AObj) : Prop := ∃ K cs K' cs', o = .ext K cs ∧ o' = .ext K' cs'
theorem objKeep_mk3 {obj obj' : Objs} {E E' : Nat → Value} (ch : Nat → Prop) (hsame : ∀ t, ¬ ch t → obj' t = obj t ∧ E' t = E t)
    (hch : ∀ t, ch t → (obj t).1 < (obj' t).1 ∨ ((obj' t).1 = (obj t).1 ∧ (AObj.still (obj' t).2 ∨ (E' t = E t ∧ SameKind (obj t).2 (obj' t).2) ∨ (face (E' t) = face (E t) ∧ ExtKind (obj t).2 (obj' t).2)))) : ObjKeep obj E obj' E' := by
  refine ⟨fun t => ?_, fun t g hg hl => ?_, fun t g el s hg ht => ?_, fun t g el sz ds foc hg ht => ?_, fun t g es hg ht => ?_, fun t g K cs hg ht => ?_⟩
  · by_cases h : ch t
    · rcases hch t h with h | h
      · exact Nat.le_of_lt h
      · rw [h.1]; exact Nat.le_refl _
    · rw [(hsame t h).1]; exact Nat.le_refl _
  · by_cases h : ch t
    · obtain ⟨cs, hl⟩ := hl
      rcases hch t h with h | ⟨hgen, h | ⟨hE, hk⟩ | ⟨hE, hk⟩⟩
      · rcases hl with hl | hl | hl <;> (rw [hl] at h; simp only at h; omega)
      · rcases hl with hl | hl | hl <;> (rw [hl] at h; simp [AObj.still] at h)
      · refine ⟨?_, hE⟩
        have hg2 : (obj t).1 = g := by rcases hl with hl | hl | hl <;> (rw [hl] at hgen; exact hgen.symm)
        cases ho : obj t with
        | mk g0 o =>
          rw [ho] at hk hg2
          simp only at hk hg2
          subst hg2
          rcases hl with hl | hl | hl <;> rw [hl] at hk <;> cases o <;> simp only [SameKind] at hk <;> first | exact ⟨_, .inl ho⟩ | exact ⟨_, .inr (.inl ho)⟩ | exact ⟨_, .inr (.inr ho)⟩
      · rcases hl with hl | hl | hl <;> (rw [hl] at hk; exact absurd hk (by rintro ⟨_, _, _, _, _, h⟩; cases h))
    · rw [show live obj' t g = live obj t g from by unfold live; rw [(hsame t h).1]] at hl
      exact ⟨hl, (hsame t h).2⟩
  · by_cases h : ch t
    · rcases hch t h with h | ⟨hgen, h | ⟨hE, hk⟩ | ⟨hE, hk⟩⟩
      · rw [ht] at h; simp only at h; omega
      · rw [ht] at h; simp [AObj.still] at h
      · refine ⟨?_, hE⟩
        rw [ht] at hgen hk
        cases ho : obj t with
        | mk g0 o =>
          rw [ho] at hk hgen
          simp only at hk hgen
          subst hgen
          cases o <;> simp only [SameKind] at hk
          rw [hk.1, hk.2]
      · rw [ht] at hk; exact absurd hk (by rintro ⟨_, _, _, _, _, h⟩; cases h)
    · rw [(hsame t h).1] at ht; exact ⟨ht, (hsame t h).2⟩
  · by_cases h : ch t
    · rcases hch t h with h | ⟨hgen, h | ⟨hE, hk⟩ | ⟨hE, hk⟩⟩
      · rw [ht] at h; simp only at h; omega
      · rw [ht] at h; simp [AObj.still] at h
      · refine ⟨?_, hE⟩
        rw [ht] at hgen hk
        cases ho : obj t with
        | mk g0 o =>
          rw [ho] at hk hgen
          simp only at hk hgen
          subst hgen
          cases o <;> simp only [SameKind] at hk
          exact ⟨_, _, by rw [hk.1, hk.2]⟩
      · rw [ht] at hk; exact absurd hk (by rintro ⟨_, _, _, _, _, h⟩; cases h)
    · rw [(hsame t h).1] at ht; exact ⟨⟨_, _, ht⟩, (hsame t h).2⟩
  · by_cases h : ch t
    · rcases hch t h with h | ⟨hgen, h | ⟨hE, hk⟩ | ⟨hE, hk⟩⟩
      · rw [ht] at h; simp only at h; omega
      · rw [ht] at h; simp [AObj.still] at h
      · refine ⟨?_, hE⟩
        rw [ht] at hgen hk
        cases ho : obj t with
        | mk g0 o =>
          rw [ho] at hk hgen
          simp only at hk hgen
          subst hgen
          cases o <;> simp only [SameKind] at hk
          exact ⟨_, rfl⟩
      · rw [ht] at hk; exact absurd hk (by rintro ⟨_, _, _, _, _, h⟩; cases h)
    · rw [(hsame t h).1] at ht; exact ⟨⟨_, ht⟩, (hsame t h).2⟩
  · by_cases h : ch t
    · rcases hch t h with h | ⟨hgen, h | ⟨hE, hk⟩ | ⟨hE, hk⟩⟩
      · rw [ht] at h; simp only at h; omega
      · rw [ht] at h; simp [AObj.still] at h
      · rw [ht] at hk
        cases ho : obj t with
        | mk g0 o => rw [ho] at hk; cases o <;> simp only [SameKind] at hk
      · refine ⟨?_, hE⟩
        rw [ht] at hgen
        obtain ⟨K0, cs0, _, _, h1, _⟩ := hk
        exact ⟨K0, cs0, Prod.ext hgen.symm h1⟩
    · rw [(hsame t h).1] at ht; exact ⟨⟨_, _, ht⟩, by rw [(hsame t h).2]⟩
theorem objKeep_mk {obj obj' : Objs} {E E' : Nat → Value} (ch : Nat → Prop) (hsame : ∀ t, ¬ ch t → obj' t = obj t ∧ E' t = E t)
    (hch : ∀ t, ch t → (obj t).1 < (obj' t).1 ∨ ((obj' t).1 = (obj t).1 ∧ (AObj.still (obj' t).2 ∨ (E' t = E t ∧ SameKind (obj t).2 (obj' t).2)))) : ObjKeep obj E obj' E' :=
  objKeep_mk3 ch hsame fun t h => (hch t h).imp id fun ⟨a, b⟩ => ⟨a, b.imp id .inl⟩
/-- The general step: some objects are laid anew. -/
theorem Inv.renewK (hI : Inv G Z0 w0 S n Z E st a w) {d : Option Nat} {r : SV} {x : Value} {obj' : Objs} {E' : Nat → Value} (ch : Nat → Prop) (hd : inRange n d = true)
    (hb : Kept S w w') (hk : Keeps Z w Z' w') (hlt : ∀ b o, Z' b o → b < w'.heap.size) (hnew : ∀ b o, Z' b o → Z b o ∨ ¬ S b)
    (hsame : ∀ t, ¬ ch t → obj' t = st.obj t ∧ E' t = E t)
    (hok : ObjKeep st.obj E obj' E')
    (hobj : ObjKeep st.obj E obj' E' → ∀ t, ch t → ObjOk Z' w' obj' E' (E' t) (obj' t).2)
    (hframe : ∀ t, ¬ ch t → ∀ b, (st.obj t).2.blk (E t) b → w'.heap[b]? = w.heap[b]? ∧ (∀ k, Z' b k → Z b k) ∧ ∀ s, ch s → ¬ (obj' s).2.blk (E' s) b)
    (hap : ∀ t t' b, ch t → ch t' → t ≠ t' → (obj' t).2.blk (E' t) b → ¬ (obj' t').2.blk (E' t') b)
    (how : ∀ t, ch t → ∀ b, (obj' t).2.blk (E' t) b → ¬ S b)
    (hr : RepS Z' w' obj' E' r x) : Inv G Z0 w0 S n Z' E' ⟨put st.env d r, obj'⟩ (a.put d x) w' := by
  refine hI.step hd hb hk hlt hnew hok (fun t => ?_) (fun t t' b hne h1 h2 => ?_) (fun t b hb' => ?_) hr
  rotate_right
  · by_cases h : ch t
    · exact how t h b hb'
    · rw [(hsame t h).1, (hsame t h).2] at hb'
      exact hI.own t b hb'
  · by_cases h : ch t
    · exact hobj hok t h
    · rw [(hsame t h).1, (hsame t h).2]
      exact (hI.obj t).keep hk hok fun b hb => ⟨(hframe t h b hb).1, (hframe t h b hb).2.1⟩
  · by_cases h : ch t
    · by_cases h' : ch t'
      · exact hap t t' b h h' hne h1 h2
      · rw [(hsame t' h').1, (hsame t' h').2] at h2
        exact (hframe t' h' b h2).2.2 t h h1
    · rw [(hsame t h).1, (hsame t h).2] at h1
      by_cases h' : ch t'
      · exact (hframe t h b h1).2.2 t' h' h2
      · rw [(hsame t' h').1, (hsame t' h').2] at h2
        exact hI.apart t t' b hne h1 h2
theorem Inv.renew (hI : Inv G Z0 w0 S n Z E st a w) {d : Option Nat} {r : SV} {x : Value} {obj' : Objs} {E' : Nat → Value} (ch : Nat → Prop) (hd : inRange n d = true)
    (hb : Kept S w w') (hk : Keeps Z w Z' w') (hlt : ∀ b o, Z' b o → b < w'.heap.size) (hnew : ∀ b o, Z' b o → Z b o ∨ ¬ S b)
    (hsame : ∀ t, ¬ ch t → obj' t = st.obj t ∧ E' t = E t)
    (hch : ∀ t, ch t → (st.obj t).1 < (obj' t).1 ∨ ((obj' t).1 = (st.obj t).1 ∧ (AObj.still (obj' t).2 ∨ (E' t = E t ∧ SameKind (st.obj t).2 (obj' t).2))))
    (hobj : ObjKeep st.obj E obj' E' → ∀ t, ch t → ObjOk Z' w' obj' E' (E' t) (obj' t).2)
    (hframe : ∀ t, ¬ ch t → ∀ b, (st.obj t).2.blk (E t) b → w'.heap[b]? = w.heap[b]? ∧ (∀ k, Z' b k → Z b k) ∧ ∀ s, ch s → ¬ (obj' s).2.blk (E' s) b)
    (hap : ∀ t t' b, ch t → ch t' → t ≠ t' → (obj' t).2.blk (E' t) b → ¬ (obj' t').2.blk (E' t') b)
    (how : ∀ t, ch t → ∀ b, (obj' t).2.blk (E' t) b → ¬ S b)
    (hr : RepS Z' w' obj' E' r x) : Inv G Z0 w0 S n Z' E' ⟨put st.env d r, obj'⟩ (a.put d x) w' :=
  hI.renewK ch hd hb hk hlt hnew hsame (objKeep_mk ch hsame hch) hobj hframe hap how hr

/-- A new variable of the call's own. -/
theorem Inv.newVar (hI : Inv G Z0 w0 S n Z E st a w) {d : Nat} (hd : inRange n (some d) = true) (cs : List CV) (arr : Array Value) (el : TypeId) (hsz : arr.size = cs.length)
    (hc : ∀ (j : Nat) (c : CV), cs[j]? = some c → c.atom = true ∧ ∃ x, arr[j]? = some x ∧ Rep Z w c x) :
    Inv G Z0 w0 S n Z (setE E d (.pointer (some ⟨w.heap.size, 0, none⟩))) ⟨put st.env (some d) (.pm d ((st.obj d).1 + 1) 0), upd st.obj [(d, ((st.obj d).1 + 1, .var cs))]⟩
      (a.put (some d) (.pointer (some ⟨w.heap.size, 0, none⟩))) (w.alloc (.cells arr el)) := by
  have hk : Keeps Z w Z (w.alloc (.cells arr el)) := Keeps.alloc hI.zlt _
  have hother : ∀ t, t ≠ d → upd st.obj [(d, ((st.obj d).1 + 1, .var cs))] t = st.obj t := fun t h => upd_one_ne _ _ h
  have hsame : upd st.obj [(d, ((st.obj d).1 + 1, .var cs))] d = ((st.obj d).1 + 1, .var cs) := upd_one_same _ _ _
  refine hI.renew (· = d) hd (below_alloc hI _) hk (fun b o h => by have := hI.zlt b o h; simp; omega) (fun _ _ h => .inl h) (fun t ht => ⟨hother t ht, setE_ne E _ ht⟩) ?_ ?_ ?_ ?_ ?_ ?_
  · rintro t rfl; rw [hsame]; exact .inl (Nat.lt_succ_self _)
  · rintro _ t rfl
    rw [hsame, setE_same]
    refine ⟨w.heap.size, el, arr, rfl, heap_alloc_new w _, hsz, fun j c hj => ?_, fun o hz => Nat.lt_irrefl _ (hI.zlt _ _ hz)⟩
    obtain ⟨h1, x, h2, h3⟩ := hc j c hj
    exact ⟨h1, x, h2, h3.keep hk⟩
  · intro t ht b hb
    have hlt := (hI.obj t).lt hb
    refine ⟨heap_alloc_old w _ hlt, fun _ hz => hz, ?_⟩
    rintro s rfl h
    rw [hsame, setE_same] at h
    simp [AObj.blk] at h
    omega
  · rintro t t' b rfl rfl h; exact absurd rfl h
  · rintro t rfl b hb
    rw [hsame, setE_same] at hb
    simp [AObj.blk] at hb
    exact hI.fresh (by omega)
  · refine .pm _ _ _ _ ⟨_, rfl⟩ ?_ fun _ => ⟨w.heap.size, setE_same _ _ _, rfl⟩
    rw [hsame]
    exact Nat.le_refl _

theorem rep_ofVal (x : Value) : Rep Z w (ofVal x) x := by
  unfold ofVal
  split
  · exact .nil _ _ _
  · exact .v _
theorem atom_ofVal {x : Value} (h : x.oneCell' = true) : (ofVal x).atom = true := by
  unfold ofVal
  split
  · rfl
  · exact h
theorem zero_cells {t : Nat} {i : TI} (h : TOk1 P t i) : (zeroVal i).cells = i.zero.toArray := by
  unfold zeroVal
  cases hagg : i.isAgg with
  | true => rfl
  | false =>
    have hs := h.single hagg
    have hl := h.len
    rw [hs] at hl
    match hz : i.zero, hl with
    | [z], _ =>
      have ho := h.one
      rw [hz] at ho
      simp at ho
      simp only [cond_false, List.headD]
      cases z <;> first | rfl | simp [Value.oneCell'] at ho
theorem zeroC_len : ∀ (zs : List Value) (ks : List Nat), (zeroC zs ks).length = zs.length
  | [], _ => rfl
  | _ :: r, ks => congrArg Nat.succ (zeroC_len r ks.tail)
theorem zeroC_get : ∀ (zs : List Value) (ks : List Nat), zs.all (fun z => z.oneCell') = true → ∀ (j : Nat) (c : CV), (zeroC zs ks)[j]? = some c → c.atom = true ∧ ∃ x, zs[j]? = some x ∧ Rep Z w c x
  | [], _, _, j, c, h => by simp [zeroC] at h
  | z :: r, ks, ho, 0, c, h => by
    simp only [List.all_cons, Bool.and_eq_true] at ho
    simp only [zeroC, List.getElem?_cons_zero, Option.some.injEq] at h
    subst h
    refine ⟨?_, z, rfl, ?_⟩
    · split
      · rfl
      · exact ho.1
    · split
      · exact .nil _ _ _
      · exact .v _
  | z :: r, ks, ho, j + 1, c, h => by
    simp only [List.all_cons, Bool.and_eq_true] at ho
    simp only [zeroC, List.getElem?_cons_succ] at h ⊢
    exact zeroC_get r ks.tail ho.2 j c h
theorem zero_rep {t : Nat} {i : TI} (h : TOk1 P t i) (j : Nat) (c : CV) (hj : (zeroC i.zero i.ks)[j]? = some c) : c.atom = true ∧ ∃ x, i.zero.toArray[j]? = some x ∧ Rep Z w c x := by
  obtain ⟨h1, x, h2, h3⟩ := zeroC_get (Z := Z) (w := w) i.zero i.ks h.one j c hj
  exact ⟨h1, x, by simpa using h2, h3⟩

theorem sound_alloc (hT : TOk P T) (dst : Option Nat) (e : TypeId) (type : TypeId) (pos : String) (after : Array Edge) (guard : Option (Nat × Bool)) : OpSound P G T ⟨dst, .alloc e, type, pos, after, guard⟩ := by
  intro Z0 w0 S n Z E st a w K next Q F hI hd h hX hn
  simp only [wpOp] at h
  split at h
  · rename_i i d hti
    have hi := hT _ _ hti
    obtain ⟨j, hj, hjs, _, hjz⟩ := hi.infoE
    refine wp_value ?_ (hn _ _ _ _ _ _ _ h (hI.newVar hd (zeroC i.zero i.ks) i.zero.toArray e (by simp [zeroC_len]) (fun j c hj => zero_rep hi j c hj)))
    simp [execOp, Instr.alloc, zeroValue, typeInfo, hj, hjz, newVar, newRow, zero_cells hi]
  · first | exact h.elim | exact hX h

theorem cells_rep {c : CV} {x : Value} (h : Rep Z w c x) (hs : c.storable = true) : x.cells.size = c.cells.length ∧ ∀ (j : Nat) (d : CV), c.cells[j]? = some d → d.atom = true ∧ ∃ y, x.cells[j]? = some y ∧ Rep Z w d y := by
  have one : ∀ (c : CV) (x : Value), c.cells = [c] → x.cells = #[x] → c.atom = true → Rep Z w c x → x.cells.size = c.cells.length ∧ ∀ (j : Nat) (d : CV), c.cells[j]? = some d → d.atom = true ∧ ∃ y, x.cells[j]? = some y ∧ Rep Z w d y := by
    intro c x h1 h2 h3 h4
    refine ⟨by simp [h1, h2], fun j d hj => ?_⟩
    rw [h1] at hj
    match j, hj with
    | 0, hj => simp at hj; subst hj; exact ⟨h3, x, by simp [h2], h4⟩
    | j + 1, hj => simp at hj
  cases h with
  | agg cs vs hl hr ha =>
    refine ⟨by simp [Value.cells, CV.cells, hl], fun j d hj => ⟨ha j d hj, ?_⟩⟩
    simp only [CV.cells] at hj
    have hlt : j < cs.length := (List.getElem?_eq_some_iff.1 hj).1
    have hv : vs[j]? = some (vs[j]'(by omega)) := List.getElem?_eq_getElem (by omega)
    exact ⟨_, by simp [Value.cells, hv], hr j d _ hj hv⟩
  | tup vs us hl hr => simp [CV.storable, CV.atom] at hs
  | v x =>
    have hx : x.oneCell' = true := hs
    exact one _ _ rfl (by cases x <;> first | rfl | simp [Value.oneCell'] at hx) hx (.v x)
  | nil sz a cap => exact one _ _ rfl rfl rfl (.nil _ _ _)
  | sl sz ds b o cap f hcap hsz hc hr => exact one _ _ rfl rfl rfl (.sl sz ds b o cap f hcap hsz hc hr)
  | pi cs b o off f hc hr => exact one _ _ rfl rfl rfl (.pi cs b o off f hc hr)
  | fn f caps vs hl hr => exact one _ _ rfl rfl rfl (.fn f caps vs hl hr)
  | mpn => exact one _ _ rfl rfl rfl .mpn
  | er t v => exact one _ _ rfl rfl rfl (.er t v)
  | mp es b arr clock hz hh hl hk hv => exact one _ _ rfl rfl rfl (.mp es b arr clock hz hh hl hk hv)

theorem sound_box (dst : Option Nat) (e : TypeId) (x : Operand) (type : TypeId) (pos : String) (after : Array Edge) (guard : Option (Nat × Bool)) : OpSound P G T ⟨dst, .box e x, type, pos, after, guard⟩ := by
  intro Z0 w0 S n Z E st a w K next Q F hI hd h hX hn
  have hx := look_rep hI x
  simp only [wpOp] at h
  split at h
  · rename_i c d hc
    replace h := bif_true h
    obtain ⟨hs, h⟩ := h
    obtain ⟨hsz, hcell⟩ := cells_rep (asC_rep hx hc) hs
    refine wp_value ?_ (hn _ _ _ _ _ _ _ h (hI.newVar hd c.cells (a.eval x).cells e hsz hcell))
    simp [execOp, Instr.box, newVar, newRow]
  · first | exact h.elim | exact hX h

theorem setAt_spec : ∀ (cs : List CV) (off : Nat) (xs ys : List CV), setAt cs off xs = some ys → ys.length = cs.length ∧ (xs = [] ∨ off + xs.length ≤ cs.length) ∧
    ∀ (j : Nat), ys[j]? = if off ≤ j ∧ j < off + xs.length then xs[j - off]? else cs[j]?
  | cs, off, [], ys, h => by
    cases cs <;> simp [setAt] at h <;> subst h <;> exact ⟨rfl, .inl rfl, fun j => by rw [if_neg (by simp)]⟩
  | [], off, x :: xs, ys, h => by simp [setAt] at h
  | c :: r, 0, x :: xs, ys, h => by
    simp only [setAt] at h
    split at h
    · rename_i zs hz
      simp at h
      subst h
      obtain ⟨h1, h2, h3⟩ := setAt_spec r 0 xs zs hz
      refine ⟨by simp [h1], .inr ?_, fun j => ?_⟩
      · rcases h2 with h2 | h2
        · subst h2; simp
        · simp at h2 ⊢; omega
      · cases j with
        | zero => simp
        | succ j =>
          have := h3 j
          simp only [Nat.zero_le, true_and, Nat.zero_add, Nat.sub_zero] at this
          simp only [List.getElem?_cons_succ, this, Nat.zero_le, true_and, Nat.zero_add, Nat.sub_zero, List.length_cons, Nat.add_lt_add_iff_right]
    · simp at h
  | c :: r, off + 1, x :: xs, ys, h => by
    simp only [setAt] at h
    split at h
    · rename_i zs hz
      simp at h
      subst h
      obtain ⟨h1, h2, h3⟩ := setAt_spec r off (x :: xs) zs hz
      refine ⟨by simp [h1], .inr ?_, fun j => ?_⟩
      · rcases h2 with h2 | h2
        · cases h2
        · simp at h2 ⊢; omega
      · cases j with
        | zero => simp
        | succ j =>
          rw [List.getElem?_cons_succ, h3 j]
          simp only [List.length_cons, Nat.add_le_add_iff_right, List.getElem?_cons_succ]
          by_cases hj : off ≤ j ∧ j < off + (xs.length + 1)
          · rw [if_pos hj, if_pos (by omega)]; congr 1; omega
          · rw [if_neg hj, if_neg (by omega)]
    · simp at h

/-- A variable of the call's own is written. -/
theorem Inv.setVar (hI : Inv G Z0 w0 S n Z E st a w) {d : Option Nat} (hd : inRange n d = true) {s g b : Nat} {cs cs' : List CV} {arr arr' : Array Value} {el : TypeId} (ho : st.obj s = (g, .var cs))
    (hE : E s = .pointer (some ⟨b, 0, none⟩)) (hh : w.heap[b]? = some (.cells arr el (0, 0))) (hsz : arr'.size = cs'.length) (x : Value)
    (hc : ∀ (j : Nat) (c : CV), cs'[j]? = some c → c.atom = true ∧ ∃ x, arr'[j]? = some x ∧ Rep Z w c x) :
    Inv G Z0 w0 S n Z E ⟨put st.env d .any, upd st.obj [(s, (g, .var cs'))]⟩ (a.put d x) (w.setRow b arr') := by
  have hos := hI.obj s
  rw [ho] at hos
  obtain ⟨b', el', arr0, he, _, _, _, hz⟩ := hos
  have hbb : b' = b := by rw [hE] at he; injection he with h1; injection h1 with h1; injection h1 with h1; exact h1.symm
  subst hbb
  have hnS : ¬ S b' := hI.own s b' (by rw [ho, hE] <;> rfl)
  have hk : Keeps Z w Z (w.setRow b' arr') := fun b o hz' => ⟨hz', keep_heap (setRow_other w b' b arr' (fun e => by subst e; exact hz o hz'))⟩
  have hother : ∀ t, t ≠ s → upd st.obj [(s, (g, .var cs'))] t = st.obj t := fun t h => upd_one_ne _ _ h
  have hsame : upd st.obj [(s, (g, .var cs'))] s = (g, .var cs') := upd_one_same _ _ _
  refine hI.renew (· = s) hd ⟨rfl, rfl, rfl, by simp [World.setRow], fun k hk => setRow_other w b' k arr' (fun e => hnS (e ▸ hk)), fun k hk => setRow_dfr w b' k arr' hk⟩ hk (fun b o h => by have := hI.zlt b o h; simpa [World.setRow] using this) (fun _ _ h => .inl h) (fun t ht => ⟨hother t ht, rfl⟩) ?_ ?_ ?_ ?_ ?_ (.any _)
  · rintro t rfl; rw [hsame, ho]; exact .inr ⟨rfl, .inr ⟨rfl, trivial⟩⟩
  · rintro _ t rfl
    rw [hsame]
    refine ⟨b', el, arr', hE, setRow_heap w b' arr arr' el (0, 0) hh, hsz, fun j c hj => ?_, hz⟩
    obtain ⟨h1, y, h2, h3⟩ := hc j c hj
    exact ⟨h1, y, h2, h3.keep hk⟩
  · intro t ht b hb
    have hne : b ≠ b' := fun e => by subst e; exact hI.apart t s b ht hb (by rw [ho, hE] <;> rfl)
    refine ⟨setRow_other w b' b arr' hne, fun _ hz => hz, ?_⟩
    rintro s' rfl h
    rw [hsame, hE] at h
    simp [AObj.blk] at h
    exact hne h.symm
  · rintro t t' b rfl rfl h; exact absurd rfl h
  · rintro t rfl b hb
    rw [hsame, hE] at hb
    simp [AObj.blk] at hb
    subst hb
    exact hnS

theorem nilC_rep {w : World} {obj : Objs} {E : Nat → Value} {s : SV} {x : Value} {c : CV} {o : Option TI} (h : RepS Z w obj E s x) (hc : (asC s).map (nilC o) = some c) : Rep Z w c x := by
  cases ha : asC s with
  | none => rw [ha] at hc; exact nomatch hc
  | some d =>
    rw [ha] at hc
    obtain rfl := Option.some.inj hc
    have hr := asC_rep h ha
    unfold nilC
    split
    · cases hr with
      | nil _ a cap => exact .nil _ a cap
      | sl _ _ b o cap f hcap hsz hc h => exact .sl _ [] b o cap f hcap (fun i d hd => nomatch hd) (fun i j d c hd => nomatch hd) (fun i j d c hd => nomatch hd)
    · exact hr
theorem sound_store (hT : TOk P T) (dst : Option Nat) (t : TypeId) (x y : Operand) (type : TypeId) (pos : String) (after : Array Edge) (guard : Option (Nat × Bool)) : OpSound P G T ⟨dst, .store t x y, type, pos, after, guard⟩ := by
  intro Z0 w0 S n Z E st a w K next Q F hI hd h hX hn
  have hx := look_rep hI x
  have hy := look_rep hI y
  simp only [wpOp] at h
  split at h
  · rename_i i s g off c hti hlx hcy
    have hi := hT _ _ hti
    rw [hlx] at hx
    split at h
    · rename_i g' cs ho
      replace h := bif_true h
      obtain ⟨hb, h⟩ := h
      simp only [Bool.and_eq_true] at hb
      obtain ⟨⟨⟨hgg, hlen⟩, hst⟩, hpos⟩ := hb
      have := Nat.eq_of_beq_eq_true hgg
      subst this
      split at h
      · rename_i cs' hset
        obtain ⟨hys, hyc⟩ := cells_rep (nilC_rep hy hcy) hst
        have hcl : c.cells.length = i.size := Nat.eq_of_beq_eq_true hlen
        have hip : 1 ≤ i.size := Nat.le_of_ble_eq_true hpos
        obtain ⟨h1, h2, h3⟩ := setAt_spec _ _ _ _ hset
        obtain ⟨b, hE, hxe, _⟩ := var_cells hI (.inl ho) hx
        have hos := hI.obj s
        rw [ho] at hos
        obtain ⟨b', el, arr, he, hh, hs, hc, _⟩ := hos
        have hbb : b' = b := by rw [hE] at he; injection he with h1; injection h1 with h1; injection h1 with h1; exact h1.symm
        subst hbb
        have hfit : off + (a.eval y).cells.toList.length ≤ arr.size := by
          rcases h2 with h2 | h2
          · rw [h2] at hcl; simp at hcl; omega
          · rw [Array.length_toList, hys, hs]; exact h2
        have hone : ∀ v ∈ (a.eval y).cells.toList, v.oneCell' = true := fun v hv => by
          obtain ⟨j, hj, hjv⟩ := List.getElem_of_mem hv
          have hj' : j < c.cells.length := by rw [← hys]; simpa using hj
          have hcj : c.cells[j]? = some (c.cells[j]'hj') := List.getElem?_eq_getElem hj'
          obtain ⟨hat, u, hu, hr⟩ := hyc j _ hcj
          have : u = v := by
            rw [Array.getElem?_eq_getElem (by simpa using hj)] at hu
            simp at hu hjv
            rw [← hu, ← hjv]
          subst this
          exact hr.atom hat
        have hrun := run_storeCells_at (P := P) b' off el (a.eval y).cells.toList 0 arr w hh (by simpa using hfit) hone
        refine wp_skip' ?_ (hn _ _ _ _ _ _ _ h (hI.setVar (arr' := (arr.toList.take (off + 0) ++ (a.eval y).cells.toList ++ arr.toList.drop (off + 0 + (a.eval y).cells.toList.length)).toArray) hd ho hE hh ?_ undef ?_))
        · simp only [execOp, hxe, Instr.storeAt, Instr.sureAddr, storeVar, Sem.run_bind, Sem.run_pure, Result.andThen_ok, hi.sizeOf w]
          rw [if_neg (by rw [hys, hcl]; simp)]
          simp only [Sem.run_pure, Result.andThen_ok, hrun]
        · simp only [Nat.add_zero, List.size_toArray, List.length_append, List.length_take, List.length_drop, Array.length_toList, h1, ← hs]
          simp only [Array.length_toList] at hfit
          omega
        · intro j c' hj
          have hjl : j < cs.length := by rw [← h1]; exact (List.getElem?_eq_some_iff.1 hj).1
          rw [h3 j] at hj
          have hget : ((arr.toList.take (off + 0) ++ (a.eval y).cells.toList ++ arr.toList.drop (off + 0 + (a.eval y).cells.toList.length)).toArray)[j]? =
              if off ≤ j ∧ j < off + c.cells.length then (a.eval y).cells[j - off]? else arr[j]? := by
            simp only [Nat.add_zero, List.getElem?_toArray, List.append_assoc]
            have hl1 : (arr.toList.take off).length = off := by simp at hfit ⊢; omega
            by_cases hjo : j < off
            · rw [List.getElem?_append_left (by omega), List.getElem?_take, if_pos hjo, if_neg (by omega)]; simp
            · rw [List.getElem?_append_right (by omega), hl1]
              by_cases hjk : j < off + c.cells.length
              · rw [List.getElem?_append_left (by rw [Array.length_toList, hys]; omega), if_pos (by omega)]; simp
              · rw [List.getElem?_append_right (by rw [Array.length_toList, hys]; omega), if_neg (by omega), List.getElem?_drop]
                simp only [Array.length_toList, hys, Array.getElem?_toList]
                congr 1
                omega
          rw [hget]
          by_cases hin : off ≤ j ∧ j < off + c.cells.length
          · rw [if_pos hin] at hj ⊢
            exact hyc _ c' hj
          · rw [if_neg hin] at hj ⊢
            exact hc j c' hj
      · first | exact h.elim | exact hX h
    · first | exact h.elim | exact hX h
  · first | exact h.elim | exact hX h
end
end Go.Abs

/-
  Soundness: slices that are made and appended to.
-/
namespace Go.Abs
open Go Go.RowKit

section
variable {P : Program} {G : World → Prop} {T : Tab} {Z0 : Base} {w0 : World} {S : Nat → Prop} {n : Nat} {Z Z' : Zone} {E : Nat → Value} {st : St} {a : Act} {w w' : World}

/-- A slice that may be appended to is laid into slot d. -/
theorem Inv.tok (hI : Inv G Z0 w0 S n Z E st a w) {d : Nat} (hd : inRange n (some d) = true) {x : Value} {sz el s' : Nat} {es : List (List CV)} {obj' : Objs}
    (hod : obj' d = ((st.obj d).1 + 1, .tok el s')) (hoo : ∀ t, t ≠ d → obj' t = st.obj t ∨ obj' t = ((st.obj t).1, .spent))
    (hb : Kept S w w') (hk : Keeps Z w Z' w') (hlt : ∀ b o, Z' b o → b < w'.heap.size) (hnew : ∀ b o, Z' b o → Z b o ∨ ¬ S b)
    (hown : ObjOk Z' w' st.obj E x (.tok el s')) (hrep : Rep Z' w' (.sl sz es) x)
    (hnS : ∀ b, (AObj.tok el s').blk x b → ¬ S b)
    (hothers : ∀ t, t ≠ d → obj' t = st.obj t → ∀ b, (st.obj t).2.blk (E t) b → w'.heap[b]? = w.heap[b]? ∧ (∀ k, Z' b k → Z b k) ∧ ¬ (AObj.tok el s').blk x b) :
    Inv G Z0 w0 S n Z' (setE E d x) ⟨put st.env (some d) (.ap d ((st.obj d).1 + 1) sz es), obj'⟩ (a.put (some d) x) w' := by
  refine hI.renew (fun t => t = d ∨ obj' t ≠ st.obj t) hd hb hk hlt hnew ?_ ?_ ?_ ?_ ?_ ?_ ?_
  · intro t ht
    have h1 : t ≠ d := fun e => ht (.inl e)
    exact ⟨Classical.byContradiction fun e => ht (.inr e), setE_ne E _ h1⟩
  · intro t ht
    by_cases h : t = d
    · subst h; rw [hod]; exact .inl (Nat.lt_succ_self _)
    · rcases hoo t h with h1 | h1
      · rcases ht with ht | ht
        · exact absurd ht h
        · exact absurd h1 ht
      · rw [h1]; exact .inr ⟨rfl, .inl (.inl rfl)⟩
  · intro _ t ht
    by_cases h : t = d
    · subst h; rw [hod, setE_same]; exact hown
    · rcases hoo t h with h1 | h1
      · rcases ht with ht | ht
        · exact absurd ht h
        · exact absurd h1 ht
      · rw [h1]; trivial
  · intro t ht b hb
    have h1 : t ≠ d := fun e => ht (.inl e)
    have h2 : obj' t = st.obj t := Classical.byContradiction fun e => ht (.inr e)
    obtain ⟨g1, g2, g3⟩ := hothers t h1 h2 b hb
    refine ⟨g1, g2, fun s hs => ?_⟩
    by_cases h : s = d
    · subst h; rw [hod, setE_same]; exact g3
    · rcases hoo s h with h3 | h3
      · rcases hs with hs | hs
        · exact absurd hs h
        · exact absurd h3 hs
      · rw [h3]; simp [AObj.blk]
  · intro t t' b ht ht' hne h1 h2
    by_cases h : t = d
    · have h' : t' ≠ d := fun e => hne (h.trans e.symm)
      rcases hoo t' h' with h3 | h3
      · rcases ht' with ht' | ht'
        · exact absurd ht' h'
        · exact absurd h3 ht'
      · rw [h3] at h2; simp [AObj.blk] at h2
    · rcases hoo t h with h3 | h3
      · rcases ht with ht | ht
        · exact absurd ht h
        · exact absurd h3 ht
      · rw [h3] at h1; simp [AObj.blk] at h1
  · intro t ht b hb'
    by_cases h : t = d
    · subst h; rw [hod, setE_same] at hb'; exact hnS b hb'
    · rcases hoo t h with h1 | h1
      · rcases ht with ht | ht
        · exact absurd ht h
        · exact absurd h1 ht
      · rw [h1] at hb'; simp [AObj.blk] at hb'
  · refine .ap _ _ _ _ _ hrep ?_ fun _ _ _ => setE_same _ _ _
    rw [hod]
    exact Nat.le_refl _

theorem sound_assign (dst : Option Nat) (x : Operand) (type : TypeId) (pos : String) (after : Array Edge) (guard : Option (Nat × Bool)) : OpSound P G T ⟨dst, .assign x, type, pos, after, guard⟩ := by
  intro Z0 w0 S n Z E st a w K next Q F hI hd h hX hn
  simp only [wpOp] at h
  cases dst with
  | none => first | exact h.elim | exact hX h
  | some d =>
    simp only [wpAssign] at h
    split at h
    · split at h
      · rename_i e _ _ _ _ _ hty
        split at h
        · rename_i i hi
          replace h := bif_true h
          obtain ⟨h1, h⟩ := h
          have h1 : 1 ≤ i.size := Nat.le_of_ble_eq_true h1
          refine wp_value (x := .slice none 0 0) (w' := w) (by simp [execOp, Act.eval]) (hn _ _ _ Z (setE E d (.slice none 0 0)) _ w h ?_)
          refine hI.tok hd (upd_one_same _ _ _) (fun t ht => .inl (upd_one_ne _ _ ht)) (Kept.refl _ _) (Keeps.refl _ _) hI.zlt (fun _ _ h => .inl h) ?_ (.nil _ _ _) (fun b hb => by simp [AObj.blk] at hb) ?_
          · exact ⟨0, [], h1, World.ownsRow_nil w _ _ _, fun g cap he => by simp at he⟩
          · exact fun t _ _ b _ => ⟨rfl, fun _ h => h, by simp [AObj.blk]⟩
        · first | exact h.elim | exact hX h
      · first | exact h.elim | exact hX h
    · have hx := look_rep hI x
      have hrun : (execOp a.eval ⟨some d, .assign x, type, pos, after, guard⟩).run P w = .ok (.value (a.eval x)) w := by simp [execOp]
      split at h
      · rename_i t g sz es he
        have hx' := hx
        rw [he] at hx'
        split at h
        · rename_i g' el s' ho
          cases hb : (Nat.beq g g' && !(Nat.beq t d)) with
          | false =>
            rw [hb] at h
            simp only [cond_false] at h
            exact sound_value hI hd hn h hrun hx
          | true =>
            rw [hb] at h
            simp only [cond_true] at h
            simp only [Bool.and_eq_true, Bool.not_eq_true'] at hb
            have hgg := Nat.eq_of_beq_eq_true hb.1
            subst hgg
            have htd : t ≠ d := fun e => by subst e; simp at hb
            cases hx' with
            | ap _ _ _ _ _ hrep hgl hE =>
              have hEt := hE _ _ ho
              refine wp_value hrun (hn _ _ _ Z (setE E d (a.eval x)) _ w h ?_)
              have hot := hI.obj t
              rw [ho, hEt] at hot
              refine hI.tok hd (upd_two_snd _ _ _ htd) (fun s hs => ?_) (Kept.refl _ _) (Keeps.refl _ _) hI.zlt (fun _ _ h => .inl h) hot hrep (fun b hb => hI.own t b (by rw [ho, hEt]; exact hb)) ?_
              · by_cases hst : s = t
                · subst hst; right; rw [upd_two_fst, ho]
                · left; exact upd_two_ne _ _ _ hst hs
              · intro s hs hos b hb'
                refine ⟨rfl, fun _ h => h, fun hx => ?_⟩
                have hst : s ≠ t := fun e => by subst e; rw [upd_two_fst] at hos; rw [ho] at hos; simp at hos
                exact hI.apart s t b hst hb' (by rw [ho, hEt]; exact hx)
        · refine sound_value hI hd hn h hrun (.c _ _ ?_)
          cases hx' with
          | ap _ _ _ _ _ hrep hgl hE => exact hrep
      · exact sound_value hI hd hn h hrun hx

/-- The cells of a list of elements, one behind the other. -/
theorem flat_get {ds : List (List CV)} {sz : Nat} (hsz : ∀ (i : Nat) (d : List CV), ds[i]? = some d → d.length = sz) (h0 : 0 < sz) {k : Nat} (hk : k < ds.length * sz) :
    ∃ d c, ds[k / sz]? = some d ∧ d[k % sz]? = some c := by
  have h1 : k / sz < ds.length := Nat.div_lt_of_lt_mul (by rw [Nat.mul_comm]; exact hk)
  have h2 : ds[k / sz]? = some (ds[k / sz]'h1) := List.getElem?_eq_getElem h1
  have h3 := hsz _ _ h2
  have h4 : k % sz < (ds[k / sz]'h1).length := by rw [h3]; exact Nat.mod_lt _ h0
  exact ⟨_, _, h2, List.getElem?_eq_getElem h4⟩

theorem append_run {base : Nat} {t ty e : TypeId} {i : TypeInfo} {z : Value} {size : Nat} (ht : P.underlying t = some (.slice e)) (hi : P.info? e = some i) (hz : i.zero = some z)
    (hsize : i.size = size) (hzs : z.cells.size = size) (hsz : 0 < size)
    {v : Value} {m0 : Nat} {xs : List Value} (hown : w.ownsRow base e size v m0 xs)
    {b : Addr} {m c : Nat} {news : List Value} (hm : 0 < m) (hl : news.length = m * size) (hnews : ∀ j u, news[j]? = some u → w.cell? (b.add j) = some u) (h1 : ∀ u ∈ news, u.oneCell' = true)
    (h63 : m0 + m ≤ 9223372036854775807) (hbytes : (m0 + m) * i.bytes ≤ 140737488355328) (hbase : base ≤ w.heap.size) :
    ∃ v' w', (Builtin.append_ #[t, t] ty #[v, .slice (some b) m c]).run P w = .ok v' w' ∧ w'.ownsRow base e size v' (m0 + m) (xs ++ news) ∧ w.grownBy w' v.ownBlock ∧
      (∀ g o, v.ownBlock = some g → o < m0 * size → w'.cell? ⟨g, o, none⟩ = w.cell? ⟨g, o, none⟩) ∧
      (v'.ownBlock = v.ownBlock ∨ v'.ownBlock = some w.heap.size) := by
  obtain ⟨v', w', hr, ho', hg', _⟩ := run_append_own (P := P) w base t ty e i z size i.bytes ht hi hz hsize rfl hzs hsz v m0 xs hown b m c news hl hnews h1 (by simp only [maxLen]; omega) hbytes hbase
  refine ⟨v', w', hr, ho', hg', ?_⟩
  subst hsize
  rcases hown.2 with ⟨rfl, rfl⟩ | ⟨g, cap, cur, rfl, hbg, hg, hnc, hcm, hcs, htake⟩
  · have hr2 := run_append_nil (P := P) w t ty e i z ht hi hz b m c news hl hnews hm (by omega) (by simp only [Nat.zero_add] at hbytes; omega)
    rw [hr2] at hr
    injection hr with hv hw
    subst hv
    exact ⟨fun g o hgo => by simp [Value.ownBlock] at hgo, .inr rfl⟩
  · by_cases hroom : m0 + m ≤ cap
    · have hfit : m0 * i.size + news.length ≤ cur.size := by rw [hl, hcs, ← Nat.add_mul]; exact Nat.mul_le_mul_right _ hroom
      have hr2 := run_append_room (P := P) w t ty e i ht hi g m0 cap cur hg b m c news hl hnews h1 hroom hfit
      rw [hr2] at hr
      injection hr with hv hw
      subst hv; subst hw
      refine ⟨fun g' o hgo ho => ?_, .inl rfl⟩
      simp [Value.ownBlock] at hgo
      subst hgo
      rw [cell_setRow_same w g o cur _ e (0, 0) hg, cell_of_row w g o cur e (0, 0) hg]
      simp only [List.getElem?_toArray, List.append_assoc]
      rw [List.getElem?_append_left (by simp; omega), List.getElem?_take, if_pos ho]
      simp
    · have holds : ∀ j u, xs[j]? = some u → w.cell? ((⟨g, 0, none⟩ : Addr).add j) = some u := hown.cells (g := g) rfl
      have hr2 := run_append_grow (P := P) w t ty e i z ht hi hz ⟨g, 0, none⟩ m0 cap xs hown.1 holds b m c news hl hnews (by omega) (by omega) (growslice_fits (by omega) hbytes)
      rw [hr2] at hr
      injection hr with hv hw
      subst hv; subst hw
      refine ⟨fun g' o hgo ho => ?_, .inr rfl⟩
      simp [Value.ownBlock] at hgo
      subst hgo
      exact cell_heap (w := w.drew) (heap_alloc_old w.drew _ (Array.getElem?_eq_some_iff.1 hg).1)

theorem append_none {base : Nat} {t ty e : TypeId} {i : TypeInfo} {size : Nat} (ht : P.underlying t = some (.slice e)) (hi : P.info? e = some i)
    {v : Value} {m0 : Nat} {xs : List Value} (hown : w.ownsRow base e size v m0 xs) (ya : Option Addr) (yc : Nat) :
    (Builtin.append_ #[t, t] ty #[v, .slice ya 0 yc]).run P w = .ok v w := by
  rcases hown.2 with ⟨rfl, rfl⟩ | ⟨g, cap, cur, rfl, _, _, hnc, _⟩
  · cases ya <;> simp [Builtin.append_, run_underlying ht, sizeOf, typeInfo, hi, Builtin.lenOf, Builtin.firstCells, loadCells, loadCellsFrom]
  · cases ya <;> simp [Builtin.append_, run_underlying ht, sizeOf, typeInfo, hi, Builtin.lenOf, Builtin.firstCells, hnc, storeCells, loadCells, loadCellsFrom]

theorem own_blk (x : Value) (el sz : Nat) {b : Nat} : (AObj.tok el sz).blk x b = (x.ownBlock = some b) := tok_blk x el sz

/-- What a token's slice reads as, cell by cell. -/
theorem own_rep {el : TypeId} {sz m0 : Nat} {xs : List Value} {x : Value} {es : List (List CV)} (hown : w.ownsRow 0 el sz x m0 xs) (hrep : Rep Z w (.sl sz es) x) :
    m0 = es.length ∧ (∀ (i : Nat) (d : List CV), es[i]? = some d → d.length = sz) ∧ ∀ (i j : Nat) (d : List CV) (c : CV), es[i]? = some d → d[j]? = some c → c.atom = true ∧ ∃ u, xs[i * sz + j]? = some u ∧ Rep Z w c u := by
  cases hrep with
  | nil a b cap =>
    refine ⟨?_, fun i d h => by simp at h, fun i j d c h => by simp at h⟩
    rcases hown.2 with ⟨_, h⟩ | ⟨g, cap', cur, he, _⟩
    · exact h
    · injection he with _ h; exact h.symm
  | sl _ _ b o cap f hcap hs hc hr =>
    rcases hown.2 with ⟨he, _⟩ | ⟨g, cap', cur, he, hbg, hg, hnc, hcm, hcs, htake⟩
    · simp at he
    · simp only [Value.slice.injEq, Option.some.injEq, Addr.mk.injEq] at he
      obtain ⟨⟨rfl, rfl, _⟩, rfl, rfl⟩ := he
      refine ⟨rfl, hs, fun i j d c h1 h2 => ?_⟩
      obtain ⟨_, hcell, hat⟩ := hc i j d c h1 h2
      refine ⟨hat, f i j, ?_, hr i j d c h1 h2⟩
      rw [Nat.zero_add, cell_of_row w b _ cur el (0, 0) hg] at hcell
      rw [← htake, List.getElem?_take, if_pos ?_]
      · simpa using hcell
      · have hi : i < es.length := (List.getElem?_eq_some_iff.1 h1).1
        have hj : j < sz := by rw [← hs i d h1]; exact (List.getElem?_eq_some_iff.1 h2).1
        have h5 : (i + 1) * sz ≤ es.length * sz := Nat.mul_le_mul_right _ (by omega)
        rw [Nat.add_mul, Nat.one_mul] at h5
        omega

/-- The reading of an owned row. -/
theorem rep_own {el : TypeId} {sz m0 : Nat} {xs : List Value} {x : Value} {es : List (List CV)} (hown : w.ownsRow 0 el sz x m0 xs) (hm : m0 = es.length)
    (hs : ∀ (i : Nat) (d : List CV), es[i]? = some d → d.length = sz) (hc : ∀ (i j : Nat) (d : List CV) (c : CV), es[i]? = some d → d[j]? = some c → c.atom = true ∧ ∃ u, xs[i * sz + j]? = some u ∧ Rep Z w c u)
    (hz : ∀ b o, x.ownBlock = some b → o < m0 * sz → Z b o) : Rep Z w (.sl sz es) x := by
  subst hm
  rcases hown.2 with ⟨rfl, h0⟩ | ⟨g, cap, cur, rfl, hbg, hg, hnc, hcm, hcs, htake⟩
  · have : es = [] := List.eq_nil_of_length_eq_zero h0
    subst this
    exact .nil _ _ _
  · refine .sl sz es g 0 cap (fun i j => xs.getD (i * sz + j) undef) hnc hs (fun i j d c h1 h2 => ?_) (fun i j d c h1 h2 => ?_)
    · obtain ⟨hat, u, hu, _⟩ := hc i j d c h1 h2
      have hlt : i * sz + j < es.length * sz := by rw [← hown.1]; exact (List.getElem?_eq_some_iff.1 hu).1
      rw [Nat.zero_add]
      refine ⟨hz g _ rfl hlt, ?_, hat⟩
      rw [hown.cellAt _ hlt, List.getD_eq_getElem?_getD, hu]
      rfl
    · obtain ⟨hat, u, hu, hr⟩ := hc i j d c h1 h2
      have : xs.getD (i * sz + j) undef = u := by rw [List.getD_eq_getElem?_getD, hu]; rfl
      simp only [this]
      exact hr
end
end Go.Abs

/-
  Soundness: builtins, slice literals, struct literals, calls.
-/
namespace Go.Abs
open Go Go.RowKit

section
variable {P : Program} {G : World → Prop} {T : Tab} {Z0 : Base} {w0 : World} {S : Nat → Prop} {n : Nat} {Z Z' : Zone} {E : Nat → Value} {st : St} {a : Act} {w w' : World}

theorem exec_builtin (dst : Option Nat) (b : Builtin) (args : Array Operand) (argTypes : Array TypeId) (type : TypeId) (pos : String) (after : Array Edge) (guard : Option (Nat × Bool)) :
    (execOp a.eval ⟨dst, .call ⟨.builtin b, args, argTypes⟩, type, pos, after, guard⟩).run P w = (builtin b argTypes type (args.map fun | .const _ => true | _ => false) (args.map a.eval)).run P w := by
  simp only [execOp, resolve, invoke, Sem.run_bind, Sem.run_pure, Result.andThen_ok]
  rfl

theorem div_mul_add (k sz : Nat) : k / sz * sz + k % sz = k := by rw [Nat.mul_comm]; exact Nat.div_add_mod k sz

theorem own_cells {base el sz m b : Nat} {x : Value} {xs : List Value} (h : w.ownsRow base el sz x m xs) (hb : x.ownBlock = some b) : ∃ cur, w.heap[b]? = some (.cells cur el (0, 0)) := by
  rcases h.2 with ⟨he, _⟩ | ⟨g, cap, cur, he, _, hg, _⟩
  · rw [he] at hb; simp [Value.ownBlock] at hb
  · rw [he] at hb; simp [Value.ownBlock] at hb; subst hb; exact ⟨cur, hg⟩
theorem own_nomap {base el sz m b : Nat} {x : Value} {xs : List Value} (h : w.ownsRow base el sz x m xs) (hb : x.ownBlock = some b) {p : Prop} : ∀ es c, w.heap[b]? = some (.map es c) → p := fun es c he => by
  obtain ⟨cur, hc⟩ := own_cells h hb
  rw [hc] at he; cases he
theorem append_others (hI : Inv G Z0 w0 S n Z E st a w) {t g e sz : Nat} (ho : st.obj t = (g, .tok e sz)) {s b : Nat} (hs : s ≠ t) (hb : (st.obj s).2.blk (E s) b) : (E t).ownBlock ≠ some b ∧ b < w.heap.size := by
  refine ⟨fun hx => hI.apart s t b hs hb (by rw [ho, own_blk]; exact hx), (hI.obj s).lt hb⟩

theorem sound_append (hT : TOk P T) (dst : Option Nat) (args : Array Operand) (argTypes : Array TypeId) (type : TypeId) (pos : String) (after : Array Edge) (guard : Option (Nat × Bool)) :
    OpSound P G T ⟨dst, .call ⟨.builtin .append, args, argTypes⟩, type, pos, after, guard⟩ := by
  intro Z0 w0 S n Z E st a w K next Q F hI hd h hX hn
  obtain ⟨args⟩ := args
  obtain ⟨argTypes⟩ := argTypes
  rcases args with _ | ⟨x, _ | ⟨y, _ | ⟨z, r⟩⟩⟩
  · simp only [wpOp, wpBuiltin] at h; exact hX h
  · simp only [wpOp, wpBuiltin] at h; exact hX h
  rotate_left
  · simp only [wpOp, wpBuiltin] at h; exact hX h
  · simp only [wpOp, wpBuiltin] at h
    split at h
    · rename_i t g sz es s2 ns d t1 t2 hlx hly
      have hx := look_rep hI x
      have hy := look_rep hI y
      rw [hlx] at hx
      have hyr := asSl_rep hy hly
      split at h
      · rename_i e _ _ _ _ _ ht1
        split at h
        · rename_i i hte
          replace h := bif_true h
          obtain ⟨hchk, h⟩ := h
          simp only [Bool.and_eq_true] at hchk
          obtain ⟨⟨⟨⟨⟨ht12, hisz⟩, h1sz⟩, hby⟩, hzl⟩, htok⟩ := hchk
          have := Nat.eq_of_beq_eq_true ht12
          subst this
          have hisz := Nat.eq_of_beq_eq_true hisz
          have h1sz := Nat.le_of_ble_eq_true h1sz
          have hby := Nat.le_of_ble_eq_true hby
          have ho : st.obj t = (g, .tok e sz) := by
            split at htok
            · rename_i g' el s ho
              simp only [Bool.and_eq_true] at htok
              rw [ho, Nat.eq_of_beq_eq_true htok.1.1, Nat.eq_of_beq_eq_true htok.1.2, Nat.eq_of_beq_eq_true htok.2]
            · cases htok
          clear htok
          rcases h with h | h
          rotate_left
          · exact hX h
          obtain ⟨hns, hlen, es', rfl, h⟩ := h
          have hu1 := (hT _ _ ht1).u
          simp only at hu1
          have hie := hT _ _ hte
          obtain ⟨j, hj, hjs, hjb, hjz⟩ := hie.infoE
          have hzc : (zeroVal i).cells.size = sz := by rw [zero_cells hie]; simp [hie.len, hisz]
          -- the token
          have hEt : E t = a.eval x := by
            generalize a.eval x = v at hx
            cases hx with | ap _ _ _ _ _ _ _ hE => exact hE _ _ ho
          have hxr : Rep Z w (.sl sz es) (a.eval x) := by
            generalize a.eval x = v at hx
            cases hx with | ap _ _ _ _ _ hr _ _ => exact hr
          have hot := hI.obj t
          rw [ho, hEt] at hot
          obtain ⟨m0, xs, hszp, hown, hz⟩ := hot
          obtain ⟨hm0, hes, hec⟩ := own_rep hown hxr
          -- the end, whatever world
          have fin : ∀ (v' : Value) (w' : World) (Z' : Zone), (Builtin.append_ #[t1, t1] type #[a.eval x, a.eval y]).run P w = .ok v' w' → Kept S w w' → Keeps Z w Z' w' →
              (∀ b o, Z' b o → b < w'.heap.size) → (∀ b o, Z' b o → Z b o ∨ ¬ S b) → ObjOk Z' w' st.obj E v' (.tok e sz) → Rep Z' w' (.sl sz (es ++ ns)) v' → (∀ b, v'.ownBlock = some b → ¬ S b) →
              (∀ s, s ≠ t → ∀ b, (st.obj s).2.blk (E s) b → w'.heap[b]? = w.heap[b]? ∧ (∀ k, Z' b k → Z b k) ∧ v'.ownBlock ≠ some b) →
              Oper.wpE P ⟨some d, .call ⟨.builtin .append, ⟨[x, y]⟩, ⟨[t1, t1]⟩⟩, type, pos, after, guard⟩ a w next Q := by
            intro v' w' Z' hrun hb hk hlt hnew hok hrep hnS hoth
            have hrun' : (execOp a.eval ⟨some d, .call ⟨.builtin .append, ⟨[x, y]⟩, ⟨[t1, t1]⟩⟩, type, pos, after, guard⟩).run P w = .ok (.value v') w' := by
              rw [exec_builtin]
              simp only [builtin, Sem.run_bind, List.map_toArray, List.map_cons, List.map_nil, hrun]
              rfl
            cases htd : Nat.beq t d with
            | true =>
              rw [htd] at h
              simp only [cond_true] at h
              have := Nat.eq_of_beq_eq_true htd
              subst this
              have hg : (st.obj t).1 = g := by rw [ho]
              refine wp_value hrun' (hn _ _ _ Z' (setE E t v') v' w' h ?_)
              have := hI.tok (x := v') (sz := sz) (es := es ++ ns) (obj' := upd st.obj [(t, (g + 1, .tok e sz))]) hd (by rw [upd_one_same, hg]) (fun s hs => .inl (upd_one_ne _ _ hs)) hb hk hlt hnew hok hrep (fun b hb => hnS b (by rw [← own_blk]; exact hb))
                (fun s hs _ b hb' => by rw [own_blk]; exact hoth s hs b hb')
              rw [hg] at this
              exact this
            | false =>
              rw [htd] at h
              simp only [cond_false] at h
              have htd' : t ≠ d := fun e => by subst e; simp at htd
              refine wp_value hrun' (hn _ _ _ Z' (setE E d v') v' w' h ?_)
              refine hI.tok hd (upd_two_snd _ _ _ htd') (fun s hs => ?_) hb hk hlt hnew hok hrep (fun b hb => hnS b (by rw [← own_blk]; exact hb)) (fun s hs hos b hb' => ?_)
              · by_cases hst : s = t
                · subst hst; right; rw [upd_two_fst, ho]
                · left; exact upd_two_ne _ _ _ hst hs
              · rw [own_blk]
                have hst : s ≠ t := fun e => by subst e; rw [upd_two_fst, ho] at hos; simp at hos
                exact hoth s hst b hb'
          have empty : ns = [] → ∀ (ya : Option Addr) (yc : Nat), a.eval y = .slice ya 0 yc → Oper.wpE P ⟨some d, .call ⟨.builtin .append, ⟨[x, y]⟩, ⟨[t1, t1]⟩⟩, type, pos, after, guard⟩ a w next Q := by
            intro hnil ya yc hye
            subst hnil
            refine fin (a.eval x) w Z (by rw [hye]; exact append_none hu1 hj hown ya yc) (Kept.refl _ _) (Keeps.refl _ _) hI.zlt (fun _ _ h => .inl h) ⟨m0, xs, hszp, hown, hz⟩ (by simpa using hxr) (fun b hb => hI.own t b (by rw [ho, hEt, own_blk]; exact hb)) ?_
            intro s hs b hb
            have := append_others hI ho hs hb
            rw [hEt] at this
            exact ⟨rfl, fun _ h => h, this.1⟩
          generalize hye : a.eval y = yv at hyr
          cases hyr with
          | nil _ ya yc => exact empty rfl ya yc hye
          | sl _ _ b o cap f hcap hs2 hc hr =>
            by_cases hnil : ns = []
            · subst hnil; exact empty rfl _ _ hye
            · have hpos : 0 < ns.length := List.length_pos_iff.2 hnil
              have hs2z : s2 = sz := by
                have hfirst : ns[0]? = some (ns[0]'hpos) := List.getElem?_eq_getElem hpos
                rw [← hs2 0 _ hfirst]
                exact hns _ (List.getElem_mem hpos)
              subst hs2z
              let news := (List.range (ns.length * s2)).map fun k => f (k / s2) (k % s2)
              have hnl : news.length = ns.length * s2 := by simp [news]
              have hnget : ∀ k, k < ns.length * s2 → news[k]? = some (f (k / s2) (k % s2)) := fun k hk => by simp [news, List.getElem?_map, List.getElem?_range hk]
              have hnews : ∀ j u, news[j]? = some u → w.cell? ((⟨b, o, none⟩ : Addr).add j) = some u := fun k u hk => by
                have hlt : k < ns.length * s2 := by rw [← hnl]; exact (List.getElem?_eq_some_iff.1 hk).1
                obtain ⟨dd, c, h1, h2⟩ := flat_get hs2 hszp hlt
                obtain ⟨_, hcell, _⟩ := hc _ _ dd c h1 h2
                rw [hnget k hlt] at hk
                injection hk with hk
                rw [Addr.add_lit, ← hk]
                rw [Nat.add_assoc, div_mul_add] at hcell
                exact hcell
              have hone : ∀ u ∈ news, u.oneCell' = true := fun u hu => by
                obtain ⟨k, hk, hku⟩ := List.getElem_of_mem hu
                have hlt : k < ns.length * s2 := by rw [← hnl]; exact hk
                obtain ⟨dd, c, h1, h2⟩ := flat_get hs2 hszp hlt
                have hu' : u = f (k / s2) (k % s2) := by
                  have h3 := hnget k hlt
                  rw [List.getElem?_eq_getElem hk] at h3
                  injection h3 with h3
                  rw [← hku, h3]
                rw [hu']
                exact (hr _ _ dd c h1 h2).atom (hc _ _ dd c h1 h2).2.2
              have hbytes : (m0 + ns.length) * j.bytes ≤ 140737488355328 := by
                rw [hm0, hjb]
                rcases hlen with hlen | hlen
                · calc (es.length + ns.length) * i.bytes ≤ 4294967296 * 4096 := Nat.mul_le_mul hlen hby
                    _ ≤ 140737488355328 := by decide
                · exact hlen.2
              have hlen : es.length + ns.length ≤ 140737488355328 := by
                rcases hlen with hlen | hlen
                · omega
                · exact hlen.1
              obtain ⟨v', w', hrun, hown', hgr, hold, hblk⟩ := append_run (P := P) (ty := type) (c := cap) hu1 hj hjz (hjs.trans hisz) hzc hszp hown hpos hnl hnews hone (by omega) hbytes (Nat.zero_le _)
              have hxS : ∀ k, (a.eval x).ownBlock = some k → ¬ S k := fun k hk => hI.own t k (by rw [ho, hEt, own_blk]; exact hk)
              have hvb : ∀ k, v'.ownBlock = some k → ¬ S k ∧ k < w'.heap.size := fun k hk => ⟨by
                rcases hblk with hb1 | hb1
                · exact hxS k (by rw [← hb1]; exact hk)
                · rw [hb1] at hk; injection hk with hk; exact hI.fresh (by omega), (hown'.lt k hk).2⟩
              refine fin v' w' (fun b o => Z b o ∨ (v'.ownBlock = some b ∧ o < (m0 + ns.length) * s2)) (by rw [hye]; exact hrun) ?_ ?_ ?_ ?_ ?_ ?_ (fun b hb => (hvb b hb).1) ?_
              · exact (Kept.refl _ _).grown hgr hI.sltw hxS (fun k hk => by obtain ⟨cur, hc⟩ := own_cells hown hk; rw [hc]; exact fun h => nomatch h)
              · intro b o hzb
                refine ⟨.inl hzb, ?_⟩
                by_cases hbo : (a.eval x).ownBlock = some b
                · refine ⟨hold b o hbo ?_, fun es' c' he' => (own_nomap hown hbo es' c' he' : _)⟩
                  rcases Nat.lt_or_ge o (m0 * s2) with hlt | hge
                  · exact hlt
                  · exfalso
                    rcases hown.2 with ⟨he, _⟩ | ⟨g', cap', cur, he, _⟩
                    · rw [he] at hbo; simp [Value.ownBlock] at hbo
                    · rw [he] at hbo
                      simp [Value.ownBlock] at hbo
                      subst hbo
                      exact hz g' cap' he o hge hzb
                · exact keep_heap (hgr.block b (hI.zlt b o hzb) (fun e => hbo e.symm))
              · intro b o hzb
                rcases hzb with hzb | ⟨hzb, _⟩
                · exact Nat.lt_of_lt_of_le (hI.zlt b o hzb) hgr.size
                · exact (hvb b hzb).2
              · intro b o hzb
                rcases hzb with hzb | ⟨hzb, _⟩
                · exact .inl hzb
                · exact .inr (hvb b hzb).1
              · refine ⟨m0 + ns.length, xs ++ news, hszp, hown', fun g' cap' he o ho' hzz => ?_⟩
                rcases hzz with hzz | ⟨_, hlt⟩
                · rcases hblk with hb1 | hb1
                  · have hgx : (a.eval x).ownBlock = some g' := by rw [← hb1, he]; rfl
                    rcases hown.2 with ⟨hee, _⟩ | ⟨g2, cap2, cur, hee, _⟩
                    · rw [hee] at hgx; simp [Value.ownBlock] at hgx
                    · rw [hee] at hgx
                      simp [Value.ownBlock] at hgx
                      subst hgx
                      refine hz g2 cap2 hee o ?_ hzz
                      have : m0 * s2 ≤ (m0 + ns.length) * s2 := Nat.mul_le_mul_right _ (by omega)
                      omega
                  · have hgx : v'.ownBlock = some g' := by rw [he]; rfl
                    rw [hb1] at hgx
                    injection hgx with hgx
                    have := hI.zlt _ _ hzz
                    omega
                · omega
              · have hkeep : Keeps Z w (fun b o => Z b o ∨ (v'.ownBlock = some b ∧ o < (m0 + ns.length) * s2)) w' := by
                  intro b o hzb
                  refine ⟨.inl hzb, ?_⟩
                  by_cases hbo : (a.eval x).ownBlock = some b
                  · refine ⟨hold b o hbo ?_, fun es' c' he' => (own_nomap hown hbo es' c' he' : _)⟩
                    rcases Nat.lt_or_ge o (m0 * s2) with hlt | hge
                    · exact hlt
                    · exfalso
                      rcases hown.2 with ⟨he, _⟩ | ⟨g', cap', cur, he, _⟩
                      · rw [he] at hbo; simp [Value.ownBlock] at hbo
                      · rw [he] at hbo
                        simp [Value.ownBlock] at hbo
                        subst hbo
                        exact hz g' cap' he o hge hzb
                  · exact keep_heap (hgr.block b (hI.zlt b o hzb) (fun e => hbo e.symm))
                refine rep_own hown' (by rw [List.length_append, hm0]) (fun i d hid => ?_) (fun i j d c hid hjc => ?_) (fun b o hb ho' => .inr ⟨hb, ho'⟩)
                · rcases Nat.lt_or_ge i es.length with hlt | hge
                  · rw [List.getElem?_append_left hlt] at hid; exact hes i d hid
                  · rw [List.getElem?_append_right hge] at hid; exact hs2 _ d hid
                · have hxl := hown.1
                  rcases Nat.lt_or_ge i es.length with hlt | hge
                  · rw [List.getElem?_append_left hlt] at hid
                    obtain ⟨hat, u, hu, hru⟩ := hec i j d c hid hjc
                    refine ⟨hat, u, ?_, hru.keep hkeep⟩
                    rw [List.getElem?_append_left (List.getElem?_eq_some_iff.1 hu).1]
                    exact hu
                  · rw [List.getElem?_append_right hge] at hid
                    obtain ⟨_, _, hat⟩ := hc _ j d c hid hjc
                    have hjl : j < s2 := by rw [← hs2 _ d hid]; exact (List.getElem?_eq_some_iff.1 hjc).1
                    have hil : i - es.length < ns.length := (List.getElem?_eq_some_iff.1 hid).1
                    refine ⟨hat, f (i - es.length) j, ?_, (hr _ j d c hid hjc).keep hkeep⟩
                    have hidx : i * s2 + j = xs.length + ((i - es.length) * s2 + j) := by
                      rw [hxl, hm0, ← Nat.add_assoc, ← Nat.add_mul]
                      congr 2
                      omega
                    rw [hidx, List.getElem?_append_right (by omega), Nat.add_sub_cancel_left]
                    have hkl : (i - es.length) * s2 + j < ns.length * s2 := by
                      have h5 : (i - es.length + 1) * s2 ≤ ns.length * s2 := Nat.mul_le_mul_right _ (by omega)
                      rw [Nat.add_mul, Nat.one_mul] at h5
                      omega
                    rw [hnget _ hkl]
                    congr 2
                    · rw [Nat.mul_comm, Nat.mul_add_div hszp, Nat.div_eq_of_lt hjl, Nat.add_zero]
                    · rw [Nat.mul_comm, Nat.mul_add_mod, Nat.mod_eq_of_lt hjl]
              · intro s hs b hb
                have hoth := append_others hI ho hs hb
                rw [hEt] at hoth
                have hv' : v'.ownBlock ≠ some b := by
                  rcases hblk with hb1 | hb1
                  · rw [hb1]; exact hoth.1
                  · rw [hb1]; intro e; injection e with e; omega
                exact ⟨hgr.block b hoth.2 (fun e => hoth.1 e.symm), fun k hk => hk.elim id (fun h => absurd h.1 hv'), hv'⟩
        · first | exact h.elim | exact hX h
      · first | exact h.elim | exact hX h
    · first | exact h.elim | exact hX h

theorem sound_builtin (hT : TOk P T) (dst : Option Nat) (b : Builtin) (args : Array Operand) (argTypes : Array TypeId) (type : TypeId) (pos : String) (after : Array Edge) (guard : Option (Nat × Bool)) :
    OpSound P G T ⟨dst, .call ⟨.builtin b, args, argTypes⟩, type, pos, after, guard⟩ := by
  by_cases hap : b = .append
  · subst hap; exact sound_append hT _ _ _ _ _ _ _
  intro Z0 w0 S n Z E st a w K next Q F hI hd h hX hn
  obtain ⟨args⟩ := args
  simp only [wpOp, wpBuiltin] at h
  split at h
  · rename_i x
    have hx := look_rep hI x
    have hrun : ∀ v, (Builtin.len_ argTypes type #[a.eval x]).run P w = .ok v w → (execOp a.eval ⟨dst, .call ⟨.builtin .len, ⟨[x]⟩, argTypes⟩, type, pos, after, guard⟩).run P w = .ok (.value v) w := by
      intro v hv
      rw [exec_builtin]
      simp only [builtin, Sem.run_bind, List.map_toArray, List.map_cons, List.map_nil, hv]
      rfl
    split at h
    · rename_i s he
      rw [he] at hx
      have hxe : a.eval x = .string s := rep_cv hx
      split at h
      · rename_i _ _ _ _ _ hbt
        cases hat : argTypes[0]? with
        | none => rw [hat] at hbt; cases hbt
        | some t0 =>
          rw [hat] at hbt
          have hu := (hT _ _ hbt).u
          simp only at hu
          refine sound_value hI hd hn h (hrun _ ?_) (.c _ _ (.v _))
          simp [Builtin.len_, hat, run_underlying hu, hxe, goInt]
      · first | exact h.elim | exact hX h
    · split at h
      · rename_i sz ds e _ _ _ _ _ hsl hbt
        cases hat : argTypes[0]? with
        | none => rw [hat] at hbt; cases hbt
        | some t0 =>
          rw [hat] at hbt
          have hu := (hT _ _ hbt).u
          simp only at hu
          have hr := asSl_rep hx hsl
          have hxe : ∃ aa cap, a.eval x = .slice aa ds.length cap := by
            generalize a.eval x = y at hr
            cases hr with
            | nil _ aa cap => exact ⟨aa, cap, rfl⟩
            | sl _ _ b o cap => exact ⟨_, cap, rfl⟩
          obtain ⟨aa, cap, hxe⟩ := hxe
          refine sound_value hI hd hn h (hrun _ ?_) (.c _ _ (.v _))
          simp [Builtin.len_, hat, run_underlying hu, hxe, goInt]
      · first | exact h.elim | exact hX h
  · rename_i x y
    have hx := look_rep hI x
    have hy := look_rep hI y
    split at h
    · rename_i k i1 k2 i2 h1 h2
      have e1 := rep_v (asC_rep hx h1)
      have e2 := rep_v (asC_rep hy h2)
      refine sound_value hI hd hn h (x := .int k (if i2 < i1 then i2 else i1)) ?_ (.c _ _ (.v _))
      rw [exec_builtin]
      simp [builtin, Builtin.min_, Builtin.min2, e1, e2]
    · first | exact h.elim | exact hX h
  · rename_i x y
    have hx := look_rep hI x
    have hy := look_rep hI y
    split at h
    · rename_i k i1 k2 i2 h1 h2
      have e1 := rep_v (asC_rep hx h1)
      have e2 := rep_v (asC_rep hy h2)
      refine sound_value hI hd hn h (x := .int k (if i1 < i2 then i2 else i1)) ?_ (.c _ _ (.v _))
      rw [exec_builtin]
      simp [builtin, Builtin.max_, Builtin.max2, e1, e2]
    · first | exact h.elim | exact hX h
  · exact absurd rfl hap
  · first | exact h.elim | exact hX h
end
end Go.Abs

/-
  Soundness: struct literals, slice literals, calls of functions.
-/
namespace Go.Abs
open Go Go.RowKit

theorem foldl_set (off : Nat) : ∀ (vs : List Value) (k : Nat) (cells : Array Value), off + k + vs.length ≤ cells.size →
    ((vs.zipIdx k).foldl (fun cs (p : Value × Nat) => cs.setIfInBounds (off + p.2) p.1) cells).size = cells.size ∧
    ∀ m, ((vs.zipIdx k).foldl (fun cs (p : Value × Nat) => cs.setIfInBounds (off + p.2) p.1) cells)[m]? = if off + k ≤ m ∧ m < off + k + vs.length then vs[m - (off + k)]? else cells[m]?
  | [], k, cells, _ => ⟨by simp, fun m => by rw [if_neg (by simp)]; simp⟩
  | v :: vs, k, cells, h => by
    simp only [List.length_cons] at h
    obtain ⟨h1, h2⟩ := foldl_set off vs (k + 1) (cells.setIfInBounds (off + k) v) (by simp; omega)
    simp only [List.zipIdx_cons, List.foldl_cons]
    refine ⟨by rw [h1]; simp, fun m => ?_⟩
    rw [h2 m]
    by_cases hm : m = off + k
    · subst hm
      have hlt : off + k < cells.size := by omega
      rw [if_neg (by omega), if_pos (by simp)]
      simp [hlt]
    · by_cases hin : off + (k + 1) ≤ m ∧ m < off + (k + 1) + vs.length
      · rw [if_pos hin, if_pos (by simp; omega)]
        rw [show m - (off + k) = (m - (off + (k + 1))) + 1 from by omega]
        simp
      · rw [if_neg hin, if_neg (by simp; omega)]
        rw [Array.getElem?_setIfInBounds_ne (by omega)]

section
variable {P : Program} {G : World → Prop} {T : Tab} {Z0 : Base} {w0 : World} {S : Nat → Prop} {n : Nat} {Z Z' : Zone} {E : Nat → Value} {st : St} {a : Act} {w w' : World}

def RepCells (Z : Zone) (w : World) (zs : List CV) (cells : Array Value) : Prop := cells.size = zs.length ∧ ∀ (j : Nat) (c : CV), zs[j]? = some c → c.atom = true ∧ ∃ x, cells[j]? = some x ∧ Rep Z w c x

theorem RepCells.set {zs ys : List CV} {cells : Array Value} (h : RepCells Z w zs cells) {off : Nat} {c : CV} {x : Value} (hx : Rep Z w c x) (hst : c.storable = true) (hpos : 0 < c.cells.length) (hs : setAt zs off c.cells = some ys) :
    off + x.cells.size ≤ cells.size ∧ RepCells Z w ys (x.cells.zipIdx.foldl (fun cs (p : Value × Nat) => cs.setIfInBounds (off + p.2) p.1) cells) := by
  obtain ⟨h1, h2⟩ := cells_rep hx hst
  obtain ⟨g1, g2, g3⟩ := setAt_spec _ _ _ _ hs
  have hfit : off + x.cells.size ≤ cells.size := by
    rcases g2 with g2 | g2
    · rw [g2] at hpos; simp at hpos
    · rw [h1, h.1]; exact g2
  refine ⟨hfit, ?_⟩
  have hfold := foldl_set off x.cells.toList 0 cells (by simpa using hfit)
  have heq : x.cells.zipIdx.foldl (fun cs (p : Value × Nat) => cs.setIfInBounds (off + p.2) p.1) cells = (x.cells.toList.zipIdx 0).foldl (fun cs (p : Value × Nat) => cs.setIfInBounds (off + p.2) p.1) cells := by
    rw [← Array.foldl_toList, Array.toList_zipIdx]
  rw [heq]
  refine ⟨by rw [hfold.1, h.1, g1], fun j d hj => ?_⟩
  rw [hfold.2 j]
  rw [g3 j] at hj
  simp only [Nat.add_zero, Array.length_toList, h1]
  by_cases hin : off ≤ j ∧ j < off + c.cells.length
  · rw [if_pos hin] at hj ⊢
    obtain ⟨hat, y, hy, hr⟩ := h2 _ d hj
    exact ⟨hat, y, by simpa using hy, hr⟩
  · rw [if_neg hin] at hj ⊢
    exact h.2 j d hj

theorem fill_parts (hT : TOk P T) (hI : Inv G Z0 w0 S n Z E st a w) (fs : Array Field) (places : List (Nat × Nat)) (hpl : ∀ (i : Nat) (f : Field), fs[i]? = some f → ∀ ti, T.get f.type = some ti → places[i]? = some (f.offset, ti.size)) :
    ∀ (parts : List (Nat × Operand)) (zs ys : List CV) (cells : Array Value), RepCells Z w zs cells → buildParts T (look st) fs zs parts = some ys →
      ∃ cells', Instr.fill (fun i => places[i]?) cells (parts.map fun p => (p.1, a.eval p.2)) = some cells' ∧ RepCells Z w ys cells'
  | [], zs, ys, cells, h, hb => by simp [buildParts] at hb; subst hb; exact ⟨cells, rfl, h⟩
  | (i, x) :: r, zs, ys, cells, h, hb => by
    simp only [buildParts] at hb
    split at hb
    · rename_i f c hf hc
      split at hb
      · rename_i ti hti
        cases hchk : (Nat.beq c.cells.length ti.size && c.storable && Nat.ble 1 ti.size) with
        | false => rw [hchk] at hb; simp at hb
        | true =>
          rw [hchk] at hb
          simp only [Bool.and_eq_true] at hchk
          simp only [cond_true] at hb
          have hcl := Nat.eq_of_beq_eq_true hchk.1.1
          split at hb
          · rename_i zs' hset
            have hx := asC_rep (look_rep hI x) hc
            obtain ⟨hfit, hrc⟩ := h.set hx hchk.1.2 (by rw [hcl]; exact Nat.le_of_ble_eq_true hchk.2) hset
            obtain ⟨cells', hfill, hr'⟩ := fill_parts hT hI fs places hpl r zs' ys _ hrc hb
            refine ⟨cells', ?_, hr'⟩
            have hp := hpl i f hf ti hti
            have hsz : (a.eval x).cells.size = ti.size := by rw [(cells_rep hx hchk.1.2).1, hcl]
            simp only [List.map_cons, Instr.fill, hp, hsz]
            rw [if_neg (by simp; rw [hsz] at hfit; omega)]
            exact hfill
          · simp at hb
      · simp at hb
    · simp at hb

theorem sound_build (hT : TOk P T) (dst : Option Nat) (t : TypeId) (parts : Array (Nat × Operand)) (type : TypeId) (pos : String) (after : Array Edge) (guard : Option (Nat × Bool)) : OpSound P G T ⟨dst, .build t parts, type, pos, after, guard⟩ := by
  intro Z0 w0 S n Z E st a w K next Q F hI hd h hX hn
  simp only [wpOp] at h
  split at h
  · rename_i fs size bytes z isAgg ks hti
    replace h := bif_true h
    obtain ⟨hall, h⟩ := h
    rw [List.all_eq_true] at hall
    split at h
    · rename_i cs hb
      have hi := hT _ _ hti
      obtain ⟨j, hj, hjs, hjb, hjz⟩ := hi.infoE
      have hu := hi.u
      simp only at hu
      let places := fs.toList.map fun f => (f.offset, match T.get f.type with | some ti => ti.size | .none => 0)
      have hmap : fs.toList.mapM (fun f => (P.info? f.type).map fun i => (f.offset, i.size)) = some places := by
        have : ∀ l : List Field, (∀ f ∈ l, (T.get f.type).isSome = true) → l.mapM (fun f => (P.info? f.type).map fun i => (f.offset, i.size)) = some (l.map fun f => (f.offset, match T.get f.type with | some ti => ti.size | .none => 0)) := by
          intro l
          induction l with
          | nil => intro _; simp
          | cons f l ih =>
            intro hl
            have hf := hl f (by simp)
            cases htf : T.get f.type with
            | none => rw [htf] at hf; simp at hf
            | some ti =>
              obtain ⟨jf, hjf, hjfs, _, _⟩ := (hT _ _ htf).infoE
              simp [List.mapM_cons, hjf, hjfs, ih (fun f hf => hl f (by simp [hf])), htf]
        exact this fs.toList hall
      have hz0 : RepCells Z w (zeroC z ks) (zeroVal ⟨.struct fs, size, bytes, z, isAgg, ks⟩).cells := by
        rw [zero_cells hi]
        exact ⟨by simp [zeroC_len], fun j c hj => zero_rep hi j c hj⟩
      obtain ⟨cells, hfill, hrc⟩ := fill_parts hT hI fs places (fun i f hf ti hti => by
        have : fs.toList[i]? = some f := by simpa using hf
        simp [places, List.getElem?_map, this, hti]) parts.toList _ _ _ hz0 hb
      have hbuilt : P.built t (parts.map fun (i, x) => (i, a.eval x)).toList = some cells := by
        unfold Program.built
        simp only [hj, hu, hjz, hmap]
        rw [Array.toList_map]
        simp only [List.getElem?_toArray]
        exact hfill
      refine sound_value hI hd hn h (x := .agg cells) ?_ (.c _ _ ?_)
      · simp only [execOp, Sem.run_bind, run_build w t _ cells hbuilt]
        rfl
      · have := Rep.agg (Z := Z) (w := w) cs cells.toList (by simpa using hrc.1.symm) (fun i c x h1 h2 => by
          obtain ⟨_, y, hy, hr⟩ := hrc.2 i c h1
          have : x = y := by
            rw [Array.getElem?_toList] at h2
            rw [h2] at hy
            injection hy
          rw [this]; exact hr) (fun i c h1 => (hrc.2 i c h1).1)
        simpa using this
    · first | exact h.elim | exact hX h
  · first | exact h.elim | exact hX h
end
end Go.Abs

/-
  Soundness: slice literals and calls; then whole regions, whole code, whole functions.
-/
namespace Go.Abs
open Go Go.RowKit

section
variable {P : Program} {G : World → Prop} {T : Tab} {Z0 : Base} {w0 : World} {S : Nat → Prop} {n : Nat} {Z Z' : Zone} {E : Nat → Value} {st : St} {a : Act} {w w' : World}

theorem fill_elems (hI : Inv G Z0 w0 S n Z E st a w) (sz : Nat) (hsz : 0 < sz) :
    ∀ (parts : List (Nat × Operand)) (k : Nat) (es : List (List CV)) (cells : Array Value), buildElems (look st) sz k parts = some es → cells.size = (k + es.length) * sz →
      ∃ cells', Instr.fill (fun i => some (i * sz, sz)) cells (parts.map fun p => (p.1, a.eval p.2)) = some cells' ∧ cells'.size = cells.size ∧ (∀ m, m < k * sz → cells'[m]? = cells[m]?) ∧
        (∀ (i : Nat) (d : List CV), es[i]? = some d → d.length = sz) ∧
        ∀ (i j : Nat) (d : List CV) (c : CV), es[i]? = some d → d[j]? = some c → c.atom = true ∧ ∃ u, cells'[(k + i) * sz + j]? = some u ∧ Rep Z w c u
  | [], k, es, cells, h, hs => by
    simp [buildElems] at h
    subst h
    exact ⟨cells, rfl, rfl, fun _ _ => rfl, fun i d h => by simp at h, fun i j d c h => by simp at h⟩
  | (i0, x) :: r, k, es, cells, h, hs => by
    simp only [buildElems] at h
    split at h
    · rename_i c es' hc hes
      cases hchk : (Nat.beq i0 k && Nat.beq c.cells.length sz && c.storable) with
      | false => rw [hchk] at h; simp at h
      | true =>
        rw [hchk] at h
        simp only [Bool.and_eq_true] at hchk
        simp only [cond_true, Option.some.injEq] at h
        subst h
        have hi0 := Nat.eq_of_beq_eq_true hchk.1.1
        subst hi0
        have hcl := Nat.eq_of_beq_eq_true hchk.1.2
        have hx := asC_rep (look_rep hI x) hc
        obtain ⟨h1, h2⟩ := cells_rep hx hchk.2
        have hss : cells.size = (i0 + 1 + es'.length) * sz := by rw [hs]; congr 1; simp; omega
        have hfit : i0 * sz + (a.eval x).cells.size ≤ cells.size := by
          rw [h1, hcl, hss, Nat.add_mul, Nat.add_mul, Nat.one_mul]
          omega
        have hfold := foldl_set (i0 * sz) (a.eval x).cells.toList 0 cells (by simpa using hfit)
        have heq : (a.eval x).cells.zipIdx.foldl (fun cs (p : Value × Nat) => cs.setIfInBounds (i0 * sz + p.2) p.1) cells = ((a.eval x).cells.toList.zipIdx 0).foldl (fun cs (p : Value × Nat) => cs.setIfInBounds (i0 * sz + p.2) p.1) cells := by
          rw [← Array.foldl_toList, Array.toList_zipIdx]
        obtain ⟨cells', hfill, hsz', hlow, hlen', hrep⟩ := fill_elems hI sz hsz r (i0 + 1) es' ((a.eval x).cells.zipIdx.foldl (fun cs (p : Value × Nat) => cs.setIfInBounds (i0 * sz + p.2) p.1) cells) hes (by rw [heq, hfold.1]; exact hss)
        rw [heq] at hsz' hlow
        refine ⟨cells', ?_, by rw [hsz', hfold.1], fun m hm => ?_, fun i d hid => ?_, fun i j d cc hid hjc => ?_⟩
        · simp only [List.map_cons, Instr.fill, h1, hcl]
          rw [if_neg (by simp; rw [h1, hcl] at hfit; exact hfit)]
          exact hfill
        · rw [hlow m (by rw [Nat.add_mul, Nat.one_mul]; omega), hfold.2 m, if_neg (by omega)]
        · cases i with
          | zero => simp at hid; subst hid; exact hcl
          | succ i => exact hlen' i d (by simpa using hid)
        · cases i with
          | zero =>
            simp at hid
            subst hid
            obtain ⟨hat, u, hu, hr⟩ := h2 j cc hjc
            refine ⟨hat, u, ?_, hr⟩
            have hj : j < sz := by rw [← hcl]; exact (List.getElem?_eq_some_iff.1 hjc).1
            rw [Nat.add_zero, hlow _ (by rw [Nat.add_mul, Nat.one_mul]; omega), hfold.2 _, if_pos (by simp [h1, hcl]; omega)]
            rw [show i0 * sz + j - (i0 * sz + 0) = j from by omega]
            simpa using hu
          | succ i =>
            obtain ⟨hat, u, hu, hr⟩ := hrep i j d cc (by simpa using hid) hjc
            refine ⟨hat, u, ?_, hr⟩
            rw [show i0 + (i + 1) = i0 + 1 + i from by omega]
            exact hu
    · simp at h

theorem sound_buildSlice (hT : TOk P T) (dst : Option Nat) (t : TypeId) (len : Nat) (parts : Array (Nat × Operand)) (type : TypeId) (pos : String) (after : Array Edge) (guard : Option (Nat × Bool)) : OpSound P G T ⟨dst, .buildSlice t len parts, type, pos, after, guard⟩ := by
  intro Z0 w0 S n Z E st a w K next Q F hI hd h hX hn
  simp only [wpOp] at h
  split at h
  · rename_i e _ _ _ _ _ hti
    split at h
    · rename_i i d hte
      split at h
      · rename_i es hes
        replace h := bif_true h
        obtain ⟨hchk, h⟩ := h
        simp only [Bool.and_eq_true] at hchk
        obtain ⟨⟨⟨⟨hlen, hl1⟩, h1⟩, h2⟩, hzl⟩ := hchk
        have hlen := Nat.eq_of_beq_eq_true hlen
        subst hlen
        have hl1 := Nat.le_of_ble_eq_true hl1
        have h1 := Nat.le_of_ble_eq_true h1
        have h2 := Nat.le_of_ble_eq_true h2
        have hi := hT _ _ hte
        obtain ⟨j, hj, hjs, hjb, hjz⟩ := hi.infoE
        have hu := (hT _ _ hti).u
        simp only at hu
        let zero : Array Value := if es.length * i.size = 0 then #[] else (zeroVal i).cells
        obtain ⟨cells, hfill, hcs, _, hdl, hrep⟩ := fill_elems hI i.size h1 parts.toList 0 es ((Array.range (es.length * i.size)).map (zero[· % zero.size]!)) hes (by simp)
        have hcs : cells.size = es.length * i.size := by rw [hcs]; simp
        have hlim : ¬ (es.length * i.size > 2 ^ 24) := by
          have : es.length * i.size ≤ 4096 * 256 := Nat.mul_le_mul hl1 h2
          omega
        have hrun : (execOp a.eval ⟨some d, .buildSlice t es.length parts, type, pos, after, guard⟩).run P w = .ok (.value (.slice (some ⟨w.heap.size, 0, none⟩) es.length es.length)) (w.alloc (.cells cells e)) := by
          have hfill' : Instr.fill (fun i' => some (i' * i.size, i.size)) ((Array.range (es.length * i.size)).map (zero[· % zero.size]!)) (parts.map fun (i, x) => (i, a.eval x)).toList = some cells := by
            rw [Array.toList_map]; exact hfill
          simp only [execOp, Instr.buildSlice, Sem.run_bind, run_underlying hu, Result.andThen_ok, hi.sizeOf w, if_neg hlim, Sem.run_pure]
          by_cases h0 : es.length * i.size = 0
          · have hze : zero = #[] := by simp [zero, h0]
            rw [hze] at hfill'
            rw [if_pos h0]
            simp only [Sem.run_bind, Sem.run_pure, Result.andThen_ok, hfill']
            rfl
          · have hze : zero = (zeroVal i).cells := by simp [zero, h0]
            rw [hze] at hfill'
            have hzv : (zeroValue e).run P w = .ok (zeroVal i) w := by simp [zeroValue, typeInfo, hj, hjz]
            simp only [if_neg h0, Sem.run_bind, hzv, Result.andThen_ok, Sem.run_pure, hfill']
            rfl
        have hown := World.ownsRow_lit (base := 0) (e := e) (size := i.size) w cells es.length (Nat.zero_le _) (by simp only [maxLen]; omega) hcs
        have hkeep : Keeps Z w (fun b o => Z b o ∨ (b = w.heap.size ∧ o < es.length * i.size)) (w.alloc (.cells cells e)) := fun b o hz => ⟨.inl hz, (Keeps.alloc hI.zlt _ b o hz).2⟩
        refine wp_value hrun (hn _ _ _ (fun b o => Z b o ∨ (b = w.heap.size ∧ o < es.length * i.size)) (setE E d (.slice (some ⟨w.heap.size, 0, none⟩) es.length es.length)) _ _ h ?_)
        refine hI.tok hd (upd_one_same _ _ _) (fun t ht => .inl (upd_one_ne _ _ ht)) (below_alloc hI _) hkeep ?_ ?_ ?_ ?_ (fun b hb => by simp [AObj.blk] at hb; exact hI.fresh (by omega)) ?_
        · intro b o hz
          rcases hz with hz | ⟨rfl, _⟩
          · have := hI.zlt b o hz; simp; omega
          · simp
        · intro b o hz
          rcases hz with hz | ⟨rfl, _⟩
          · exact .inl hz
          · exact .inr (hI.fresh (Nat.le_refl _))
        · refine ⟨es.length, cells.toList, h1, hown, fun g cap he o ho hz => ?_⟩
          simp only [Value.slice.injEq, Option.some.injEq, Addr.mk.injEq] at he
          rcases hz with hz | ⟨_, hz⟩
          · have := hI.zlt g o hz; omega
          · omega
        · refine rep_own hown rfl hdl (fun i' j' d' c' h3 h4 => ?_) (fun b o hb ho => .inr ?_)
          · obtain ⟨hat, u, hu, hr⟩ := hrep i' j' d' c' h3 h4
            exact ⟨hat, u, by simpa using hu, hr.keep hkeep⟩
          · simp [Value.ownBlock] at hb
            exact ⟨hb.symm, ho⟩
        · intro t ht _ b hb
          have hlt := (hI.obj t).lt hb
          refine ⟨heap_alloc_old w _ hlt, fun k hk => hk.elim id (fun h => by omega), ?_⟩
          rw [own_blk]
          simp [Value.ownBlock]
          omega
      · first | exact h.elim | exact hX h
    · first | exact h.elim | exact hX h
  · first | exact h.elim | exact hX h

def Zf (Z : Zone) (obj : Objs) (E : Nat → Value) (ts : List Nat) : Zone := fun b o => Z b o ∨ ∃ s ∈ ts, (obj s).2.blk (E s) b
theorem Zf_keeps (obj : Objs) (E : Nat → Value) {ts us : List Nat} (h : ∀ s ∈ ts, s ∈ us) : Keeps (Zf Z obj E ts) w (Zf Z obj E us) w :=
  fun _ _ hz => ⟨hz.imp id fun ⟨s, hs, hb⟩ => ⟨s, h s hs, hb⟩, rfl, fun _ _ h => h⟩
theorem Zf_of (obj : Objs) (E : Nat → Value) (ts : List Nat) : Keeps Z w (Zf Z obj E ts) w := fun _ _ hz => ⟨.inl hz, rfl, fun _ _ h => h⟩

theorem arr_rep (hI : Inv G Z0 w0 S n Z E st a w) {t g el sz : Nat} {ds : List (List CV)} {ts : List Nat} (ho : st.obj t = (g, .arr el sz ds none)) (ht : t ∈ ts) {x : Value} (hE : E t = x) : Rep (Zf Z st.obj E ts) w (.sl sz ds) x := by
  have hk : Keeps Z w (Zf Z st.obj E ts) w := Zf_of _ _ _
  have hot := hI.obj t
  rw [ho] at hot
  obtain ⟨xs, hsz, hown, hfoc, hdl, hcl, hz⟩ := hot
  rw [hE] at hown
  refine rep_own hown rfl (fun i d hd => hdl i d (List.getElem?_eq_some_iff.1 hd).1 hd) (fun i j d c h1 h2 => ?_) (fun b o hb _ => .inr ⟨t, ht, by rw [ho, hE, arr_blk]; exact hb⟩)
  obtain ⟨hat, u, hu, hr⟩ := hcl i d (List.getElem?_eq_some_iff.1 h1).1 h1 j c h2
  exact ⟨hat, u, hu, (hr.closed (noRs_get (hfoc.2 i d h1 (fun m d' he => by cases he)) h2)).keep hk⟩
theorem map_rep (hI : Inv G Z0 w0 S n Z E st a w) {t g : Nat} {es : List (CV × CV)} {ts : List Nat} (ho : st.obj t = (g, .map es)) (ht : t ∈ ts) {x : Value} (hE : E t = x) : Rep (Zf Z st.obj E ts) w (.mp es) x := by
  have hk : Keeps Z w (Zf Z st.obj E ts) w := Zf_of _ _ _
  have hot := hI.obj t
  rw [ho, hE] at hot
  obtain ⟨b, arr, clock, he, hh, hl, hc, hz⟩ := hot
  rw [he]
  exact .mp es b arr clock (.inr ⟨t, ht, by rw [ho, hE, he] <;> rfl⟩) hh hl (fun i k v m h1 h2 => (hc i k v m h1 h2).1.keep hk) (fun i k v m h1 h2 => (hc i k v m h1 h2).2.keep hk)
theorem ext_rep (hI : Inv G Z0 w0 S n Z E st a w) {t g : Nat} {K : ExtK} {c : CV} {ts : List Nat} (ho : st.obj t = (g, .ext K [])) (ht : t ∈ ts) (hc : K.cl = some c) {x : Value} (hE : face (E t) = x) : Rep (Zf Z st.obj E ts) w c x := by
  have hot := hI.obj t
  rw [ho] at hot
  obtain ⟨us, hu, _, hok, _⟩ := hot
  have hu0 : us = [] := List.eq_nil_of_length_eq_zero hu
  subst hu0
  rw [← hE]
  exact K.close hc hok (fun b o hb => .inr ⟨t, ht, by rw [ho]; exact hb⟩) (Zf_of _ _ _)
theorem frzC1_rep (hI : Inv G Z0 w0 S n Z E st a w) {c : CV} {x : Value} (h : RepX Z w st.obj E c x) {c' : CV} {ts us : List Nat} (hf : frzC1 st.obj c = some (c', ts)) (hu : ∀ t ∈ ts, t ∈ us) : Rep (Zf Z st.obj E us) w c' x ∧ (c.atom = true → c'.atom = true) := by
  have closed : ∀ (c : CV), c.isRs = false → RepX Z w st.obj E c x → some (c, ([] : List Nat)) = some (c', ts) → Rep (Zf Z st.obj E us) w c' x ∧ (c.atom = true → c'.atom = true) := by
    intro c hc hr he
    simp at he
    obtain ⟨rfl, rfl⟩ := he
    exact ⟨(hr.closed hc).keep (Zf_of _ _ _), id⟩
  cases h with
  | fr => simp [frzC1] at hf
  | one h1 =>
    cases h1 with
    | cl h =>
      have hn := h.notRs
      have hx : RepX Z w st.obj E c x := .cl h
      cases c <;> first | exact closed _ hn hx hf | (simp [CV.isRs] at hn)
    | rs t g x hs hg h =>
      simp only [frzC1] at hf
      split at hf
      · rename_i g' el sz ds ho
        cases hb : Nat.beq g g' with
        | false => rw [hb] at hf; simp at hf
        | true =>
          rw [hb] at hf
          simp at hf
          obtain ⟨rfl, rfl⟩ := hf
          have := Nat.eq_of_beq_eq_true hb
          subst this
          exact ⟨arr_rep hI ho (hu t (by simp)) (h _ _ _ _ ho), fun _ => rfl⟩
      · simp at hf
    | pr => simp [frzC1] at hf
    | bp => simp [frzC1] at hf
    | xr t g x hs hg h =>
      simp only [frzC1] at hf
      split at hf
      · rename_i g' K ho
        cases hb : Nat.beq g g' with
        | false => rw [hb] at hf; simp at hf
        | true =>
          rw [hb] at hf
          simp at hf
          obtain ⟨c0, hc0, rfl, rfl⟩ := hf
          have := Nat.eq_of_beq_eq_true hb
          subst this
          exact ⟨ext_rep hI ho (hu t (by simp)) hc0 (h _ _ ho), fun _ => K.clat hc0⟩
      · simp at hf
    | mr t g x hs hg h =>
      simp only [frzC1] at hf
      split at hf
      · rename_i g' es ho
        cases hb : Nat.beq g g' with
        | false => rw [hb] at hf; simp at hf
        | true =>
          rw [hb] at hf
          simp at hf
          obtain ⟨rfl, rfl⟩ := hf
          have := Nat.eq_of_beq_eq_true hb
          subst this
          exact ⟨map_rep hI ho (hu t (by simp)) (h _ ho), fun _ => rfl⟩
      · simp at hf
theorem frzCs_rep (hI : Inv G Z0 w0 S n Z E st a w) : ∀ {cs cs' : List CV} {ts us : List Nat}, frzCs st.obj cs = some (cs', ts) → (∀ t ∈ ts, t ∈ us) → cs'.length = cs.length ∧ ∀ (j : Nat) (c' : CV), cs'[j]? = some c' → ∃ c, cs[j]? = some c ∧ (c.atom = true → c'.atom = true) ∧
    ∀ x, RepX Z w st.obj E c x → Rep (Zf Z st.obj E us) w c' x
  | [], cs', ts, us, hf, _ => by
    simp [frzCs] at hf
    obtain ⟨rfl, rfl⟩ := hf
    exact ⟨rfl, fun j c' h => by simp at h⟩
  | c :: r, cs', ts, us, hf, hu => by
    simp only [frzCs] at hf
    split at hf
    · rename_i d t1 ds t2 h1 h2
      simp at hf
      obtain ⟨rfl, rfl⟩ := hf
      obtain ⟨hl, hr⟩ := frzCs_rep hI (us := us) h2 (fun t ht => hu t (List.mem_append_right _ ht))
      refine ⟨by simp [hl], fun j c' hj => ?_⟩
      cases j with
      | zero =>
        simp at hj
        subst hj
        refine ⟨c, rfl, fun hat => ?_, fun x hx => (frzC1_rep hI hx h1 (fun t ht => hu t (List.mem_append_left _ ht))).1⟩
        have hatom : ∀ (c : CV) (d : CV) (t1 : List Nat), frzC1 st.obj c = some (d, t1) → c.atom = true → d.atom = true := by
          intro c d t1 hf hat
          unfold frzC1 at hf
          split at hf
          · split at hf
            · rename_i g _ g' _ _ _ _
              cases hb : Nat.beq g g' with
              | false => rw [hb] at hf; simp at hf
              | true => rw [hb] at hf; simp at hf; rw [← hf.1]; rfl
            · simp at hf
          · split at hf
            · rename_i g _ g' _ _
              cases hb : Nat.beq g g' with
              | false => rw [hb] at hf; simp at hf
              | true => rw [hb] at hf; simp at hf; rw [← hf.1]; rfl
            · simp at hf
          · split at hf
            · rename_i g _ g' K _
              cases hb : Nat.beq g g' with
              | false => rw [hb] at hf; simp at hf
              | true => rw [hb] at hf; simp at hf; obtain ⟨c0, hc0, rfl, _⟩ := hf; exact K.clat hc0
            · simp at hf
          · simp at hf
          · simp at hf
          · simp at hf
          · simp at hf; rw [← hf.1]; exact hat
        exact hatom c d t1 h1 hat
      | succ j => exact hr j c' (by simpa using hj)
    · simp at hf
theorem freeze_rep (hI : Inv G Z0 w0 S n Z E st a w) {s : SV} {x : Value} (h : RepS Z w st.obj E s x) {c : CV} {ts : List Nat} (hf : freeze st.obj s = some (c, ts)) : Rep (Zf Z st.obj E ts) w c x := by
  unfold freeze at hf
  split at hf
  · rename_i t g off
    split at hf
    · rename_i g' cs ho
      cases hb : Nat.beq g g' with
      | false => rw [hb] at hf; simp at hf
      | true =>
        rw [hb] at hf
        simp at hf
        obtain ⟨rfl, rfl⟩ := hf
        have := Nat.eq_of_beq_eq_true hb
        subst this
        obtain ⟨b, hE, hx, f, hc⟩ := var_cells hI (.inl ho) h
        have hk : Keeps Z w (Zf Z st.obj E [t]) w := Zf_of _ _ _
        have := Rep.pi (Z := Zf Z st.obj E [t]) (w := w) cs b 0 off f (fun j c hj => ⟨.inr ⟨t, by simp, by rw [ho, hE] <;> rfl⟩, by rw [Nat.zero_add]; exact (hc j c hj).1, (hc j c hj).2.1⟩) (fun j c hj => (hc j c hj).2.2.keep hk)
        rw [Nat.zero_add] at this
        rw [hx]
        exact this
    · rename_i g' cs ho
      cases hb : Nat.beq g g' with
      | false => rw [hb] at hf; simp at hf
      | true =>
        rw [hb] at hf
        simp only [cond_true] at hf
        have := Nat.eq_of_beq_eq_true hb
        subst this
        split at hf
        · rename_i cs' us hq
          simp at hf
          obtain ⟨rfl, rfl⟩ := hf
          have hot := hI.obj t
          rw [ho] at hot
          obtain ⟨b, el, arr, hE, hh, hs, hc, hz⟩ := hot
          have hx : x = .pointer (some ⟨b, off, none⟩) := by
            cases h with
            | pm _ _ _ _ _ _ hl =>
              obtain ⟨b', h1, h2⟩ := hl ⟨cs, .inr (.inr ho)⟩
              rw [hE] at h1
              injection h1 with h1; injection h1 with h1; injection h1 with h1
              subst h1
              exact h2
          obtain ⟨hl, hr⟩ := frzCs_rep hI (us := t :: us) hq (fun s hs => List.mem_cons_of_mem _ hs)
          have := Rep.pi (Z := Zf Z st.obj E (t :: us)) (w := w) cs' b 0 off (fun j => arr.getD j undef) (fun j c hj => ?_) (fun j c hj => ?_)
          · rw [Nat.zero_add] at this
            rw [hx]
            exact this
          · obtain ⟨c0, h0, hat, _⟩ := hr j c hj
            obtain ⟨h1, y, hy, _⟩ := hc j c0 h0
            refine ⟨.inr ⟨t, by simp, by rw [ho, hE] <;> rfl⟩, ?_, hat h1⟩
            rw [Nat.zero_add, cell_of_row w b j arr el (0, 0) hh, Array.getD_eq_getD_getElem?, hy]; rfl
          · obtain ⟨c0, h0, _, hrr⟩ := hr j c hj
            obtain ⟨_, y, hy, hxx⟩ := hc j c0 h0
            have : arr.getD j undef = y := by rw [Array.getD_eq_getD_getElem?, hy]; rfl
            rw [this]
            exact hrr y hxx
        · simp at hf
    · simp at hf
  · rename_i t g
    split at hf
    · rename_i g' es ho
      cases hb : Nat.beq g g' with
      | false => rw [hb] at hf; simp at hf
      | true =>
        rw [hb] at hf
        simp at hf
        obtain ⟨rfl, rfl⟩ := hf
        have := Nat.eq_of_beq_eq_true hb
        subst this
        exact map_rep hI ho (by simp) (by cases h with | mr _ _ _ _ _ h => exact h _ ho)
    · simp at hf
  · rename_i t g
    split at hf
    · rename_i g' el sz ds ho
      cases hb : Nat.beq g g' with
      | false => rw [hb] at hf; simp at hf
      | true =>
        rw [hb] at hf
        simp at hf
        obtain ⟨rfl, rfl⟩ := hf
        have := Nat.eq_of_beq_eq_true hb
        subst this
        exact arr_rep hI ho (by simp) (by cases h with | rs _ _ _ _ _ h => exact h _ _ _ _ ho)
    · simp at hf
  · rename_i t g
    split at hf
    · rename_i g' K ho
      cases hb : Nat.beq g g' with
      | false => rw [hb] at hf; simp at hf
      | true =>
        rw [hb] at hf
        simp at hf
        obtain ⟨c0, hc0, rfl, rfl⟩ := hf
        have := Nat.eq_of_beq_eq_true hb
        subst this
        exact ext_rep hI ho (by simp) hc0 (by cases h with | xr _ _ _ _ _ h => exact h _ _ ho)
    · simp at hf
  · cases hc : asC s with
    | none => rw [hc] at hf; simp at hf
    | some c' =>
      rw [hc] at hf
      simp at hf
      obtain ⟨rfl, rfl⟩ := hf
      exact (asC_rep h hc).keep (Zf_of _ _ _)

theorem freezeL_rep (hI : Inv G Z0 w0 S n Z E st a w) : ∀ (ss : List SV) (vs : List Value) (cs : List CV) (ts : List Nat), ss.length = vs.length → (∀ (i : Nat) (s : SV) (x : Value), ss[i]? = some s → vs[i]? = some x → RepS Z w st.obj E s x) →
    freezeL st.obj ss = some (cs, ts) → RepL (Zf Z st.obj E ts) w cs vs
  | [], [], cs, ts, _, _, hf => by simp [freezeL] at hf; obtain ⟨rfl, rfl⟩ := hf; exact RepL.nil _ _
  | [], _ :: _, _, _, hl, _, _ => by simp at hl
  | _ :: _, [], _, _, hl, _, _ => by simp at hl
  | s :: ss, x :: vs, cs, ts, hl, h, hf => by
    simp only [freezeL] at hf
    split at hf
    · rename_i c t1 cs' t2 h1 h2
      simp at hf
      obtain ⟨rfl, rfl⟩ := hf
      have r1 := freeze_rep hI (h 0 s x rfl rfl) h1
      have r2 := freezeL_rep hI ss vs cs' t2 (by simpa using hl) (fun i s' x' ha hb => h (i + 1) s' x' (by simpa using ha) (by simpa using hb)) h2
      exact RepL.cons (r1.keep (Zf_keeps _ _ (fun s hs => List.mem_append_left _ hs))) (r2.keep (Zf_keeps _ _ (fun s hs => List.mem_append_right _ hs)))
    · simp at hf

theorem freezeA_rep (hI : Inv G Z0 w0 S n Z E st a w) {s : SV} {x : Value} (h : RepS Z w st.obj E s x) {c : CV} {ts : List Nat} (hf : freezeA st.obj s = some (c, ts)) : Rep (Zf Z st.obj E ts) w c x := by
  unfold freezeA at hf
  split at hf
  · rename_i f caps
    split at hf
    · rename_i cs ts' hl
      simp at hf
      obtain ⟨rfl, rfl⟩ := hf
      cases h with
      | fnr _ _ vs hf hlen hr =>
        have := freezeL_rep hI caps vs cs ts' hlen hr hl
        exact .fn f cs vs this.1 this.2
    · simp at hf
  · exact freeze_rep hI h hf

theorem freezeAs_rep (hI : Inv G Z0 w0 S n Z E st a w) : ∀ (ss : List SV) (vs : List Value) (cs : List CV) (ts : List Nat), ss.length = vs.length → (∀ (i : Nat) (s : SV) (x : Value), ss[i]? = some s → vs[i]? = some x → RepS Z w st.obj E s x) →
    freezeAs st.obj ss = some (cs, ts) → RepL (Zf Z st.obj E ts) w cs vs
  | [], [], cs, ts, _, _, hf => by simp [freezeAs] at hf; obtain ⟨rfl, rfl⟩ := hf; exact RepL.nil _ _
  | [], _ :: _, _, _, hl, _, _ => by simp at hl
  | _ :: _, [], _, _, hl, _, _ => by simp at hl
  | s :: ss, x :: vs, cs, ts, hl, h, hf => by
    simp only [freezeAs] at hf
    split at hf
    · rename_i c t1 cs' t2 h1 h2
      simp at hf
      obtain ⟨rfl, rfl⟩ := hf
      have r1 := freezeA_rep hI (h 0 s x rfl rfl) h1
      have r2 := freezeAs_rep hI ss vs cs' t2 (by simpa using hl) (fun i s' x' ha hb => h (i + 1) s' x' (by simpa using ha) (by simpa using hb)) h2
      exact RepL.cons (r1.keep (Zf_keeps _ _ (fun s hs => List.mem_append_left _ hs))) (r2.keep (Zf_keeps _ _ (fun s hs => List.mem_append_right _ hs)))
    · simp at hf

theorem flat_rep {r : CV} {x : Value} (hr : flat r = true) (h : Rep Z w r x) (Z' : Zone) (w' : World) : Rep Z' w' r x := by
  have tup : ∀ (cs : List CV) (vs : List Value), (∀ c ∈ cs, ∃ y, c = .v y) → cs.length = vs.length → (∀ (i : Nat) (c : CV) (x : Value), cs[i]? = some c → vs[i]? = some x → Rep Z w c x) → Rep Z' w' (.tup cs) (.tuple vs.toArray) := by
    intro cs vs hall hl hh
    refine .tup cs vs hl fun i c x h1 h2 => ?_
    obtain ⟨y, rfl⟩ := hall c (List.mem_of_getElem? h1)
    have := rep_v (hh i _ x h1 h2)
    rw [this]
    exact .v y
  unfold flat at hr
  split at hr
  · rw [rep_v h]; exact .v _
  · cases h with | tup _ vs hl hh => exact tup _ _ (by simp) hl hh
  · cases h with | tup _ vs hl hh => exact tup _ _ (by simp) hl hh
  · cases hr

theorem call_prep (hI : Inv G Z0 w0 S n Z E st a w) {c : Call} {f : FuncId} {args : List SV} {more cs : List CV} {ts : List Nat} (hargs : callArgs (look st) c = some (f, args, more)) (hfr : freezeAs st.obj args = some (cs, ts)) (hb : HasBody P f)
    (dst : Option Nat) (type : TypeId) (pos : String) (after : Array Edge) (guard : Option (Nat × Bool)) :
    ∃ vs : List Value, RepL (Zf Z st.obj E ts) w (cs ++ more) vs ∧ (execOp a.eval ⟨dst, .call c, type, pos, after, guard⟩).run P w = .ok (.enter f vs.toArray) w := by
  have hvals : ∃ caps extra : List Value, (∃ fo, c.callee = .value fo ∧ a.eval fo = .func (.func f) #[] (caps ++ extra).toArray) ∧ RepL Z w more extra ∧ args.length = ((c.args.toList.map a.eval) ++ caps).length ∧
      ∀ (i : Nat) (s : SV) (x : Value), args[i]? = some s → ((c.args.toList.map a.eval) ++ caps)[i]? = some x → RepS Z w st.obj E s x := by
    have hmap : ∀ (i : Nat) (s : SV) (x : Value), (c.args.toList.map (look st))[i]? = some s → (c.args.toList.map a.eval)[i]? = some x → RepS Z w st.obj E s x := by
      intro i s x h1 h2
      rw [List.getElem?_map] at h1 h2
      cases ho : c.args.toList[i]? with
      | none => rw [ho] at h1; simp at h1
      | some op =>
        rw [ho] at h1 h2
        simp at h1 h2
        subst h1; subst h2
        exact look_rep hI op
    have happ : ∀ (ss : List SV) (vs : List Value), ss.length = vs.length → (∀ (i : Nat) (s : SV) (x : Value), ss[i]? = some s → vs[i]? = some x → RepS Z w st.obj E s x) →
        ∀ (i : Nat) (s : SV) (x : Value), (c.args.toList.map (look st) ++ ss)[i]? = some s → (c.args.toList.map a.eval ++ vs)[i]? = some x → RepS Z w st.obj E s x := by
      intro ss vs hl hh i s x h1 h2
      rcases Nat.lt_or_ge i c.args.toList.length with hlt | hge
      · rw [List.getElem?_append_left (by simpa using hlt)] at h1 h2
        exact hmap i s x h1 h2
      · rw [List.getElem?_append_right (by simpa using hge)] at h1 h2
        simp only [List.length_map] at h1 h2
        exact hh _ s x h1 h2
    unfold callArgs at hargs
    split at hargs
    · rename_i fo hfo
      have hfx := look_rep hI fo
      split at hargs
      · rename_i f' caps hlf
        simp at hargs
        obtain ⟨rfl, rfl, rfl⟩ := hargs
        rw [hlf] at hfx
        generalize hax : a.eval fo = y at hfx
        cases hfx with
        | c _ _ hr =>
          cases hr with
          | fn _ _ vs hl hh => exact ⟨[], vs, ⟨fo, hfo, hax⟩, ⟨hl, hh⟩, by simp, by simpa using hmap⟩
      · rename_i f' caps hlf
        simp at hargs
        obtain ⟨rfl, rfl, rfl⟩ := hargs
        rw [hlf] at hfx
        generalize hax : a.eval fo = y at hfx
        cases hfx with
        | fnr _ _ vs _ hl hh => exact ⟨vs, [], ⟨fo, hfo, by simpa [FV.val] using hax⟩, RepL.nil _ _, by simp [hl], happ _ _ hl hh⟩
      · simp at hargs
    · simp at hargs
  obtain ⟨caps, extra, ⟨fo, hfo, hfv⟩, hex, hal, har⟩ := hvals
  obtain ⟨fn, hfn, hnm, hbd⟩ := hb
  have hrl := (freezeAs_rep hI args _ cs ts hal har hfr).append (hex.keep (Zf_of st.obj E ts))
  refine ⟨_, hrl, ?_⟩
  have hargsE : c.args.map a.eval ++ (caps ++ extra).toArray = ((c.args.toList.map a.eval) ++ caps ++ extra).toArray := by
    apply Array.ext'
    simp
  simp only [execOp, resolve, hfo, Deferred.ofValue, hfv, invoke, callFunc, Sem.run_bind, Sem.run_pure, Result.andThen_ok, Array.empty_append, hargsE]
  have hnm' : ¬ (fn.name = "runtime.NumGoroutine") := by simpa using hnm
  have hbd' : ¬ (fn.body = none) := fun e => by rw [e] at hbd; cases hbd
  simp [Go.program, Sem.run, hfn, hnm', hbd']

theorem flat_pure {r : CV} (h : flat r = true) : r.pure = true := by cases r <;> first | rfl | (simp [flat] at h)

theorem sound_call (c : Call) (hc : ∀ b, c.callee ≠ .builtin b) (dst : Option Nat) (type : TypeId) (pos : String) (after : Array Edge) (guard : Option (Nat × Bool)) : OpSound P G T ⟨dst, .call c, type, pos, after, guard⟩ := by
  intro Z0 w0 S n Z E st a w K next Q F hI hd h hX hn
  have hcall : wpCall (orc P G) (look st) st.obj F c K := by
    unfold wpOp at h
    cases hcc : c.callee with
    | builtin b => exact absurd hcc (hc b)
    | value f => simp only [hcc] at h; exact h
    | invoke r m => simp only [hcc] at h; exact h
  clear h
  unfold wpCall at hcall
  split at hcall
  · rename_i f args more hargs
    split at hcall
    · rename_i cs ts hfr
      rcases hcall with hcall | hcall
      rotate_left
      · exact hX hcall
      obtain ⟨r, hholds, hts, hk⟩ := hcall
      obtain ⟨hbody, hcalls⟩ := hholds
      obtain ⟨vs, hrl, hrun⟩ := call_prep hI hargs hfr hbody dst type pos after guard
      refine wpE_of_wp (fun _ h => nomatch h) ?_
      unfold Oper.wp
      rw [hrun]
      simp only [Oper.upon]
      have hzlt : ∀ b o, Zf Z st.obj E ts b o → b < w.heap.size := fun b o hz => hz.elim (hI.zlt b o) fun ⟨s, _, hb⟩ => (hI.obj s).lt hb
      refine (hcalls _ w _ hrl hzlt (fun w1 hb1 => hI.gs _ (hI.below.trans (.of_below hb1 hI.sltw)))).mono ?_
      rintro e w' ⟨x, Z'', rfl, hrep, hsub, hnew, hbel⟩
      have hobjk : ∀ (Z1 : Zone), Keeps Z w Z1 w' → (∀ b o, b < w.heap.size → Z1 b o → Z b o) → ∀ t, ObjOk Z1 w' st.obj E (E t) (st.obj t).2 := fun Z1 hk1 hz1 t =>
        (hI.obj t).keep hk1 (ObjKeep.refl _ _) fun b hb => ⟨hbel.block b ((hI.obj t).lt hb), fun k hz => hz1 b k ((hI.obj t).lt hb) hz⟩
      have hbel0 : Kept S w w' := .of_below hbel hI.sltw
      cases hte : ts.isEmpty with
      | true =>
        rw [hte] at hts
        simp only [cond_true] at hts
        have htn : ts = [] := by simpa using hte
        subst htn
        have hkeep : Keeps Z w Z'' w' := fun b o hz => ⟨hsub b o (.inl hz), keep_heap (hbel.block b (hI.zlt b o hz))⟩
        refine hn _ _ _ Z'' E x w' hk ?_
        refine hI.step hd hbel0 hkeep (fun b o hz => (hnew b o hz).2) (fun b o hz => ?_) (ObjKeep.refl _ _) (hobjk Z'' hkeep fun b o hb hz => ?_) hI.apart hI.own (.c _ _ (hrep.pure hts))
        · rcases (hnew b o hz).1 with h1 | h1
          · rcases h1 with h1 | ⟨s, hs, _⟩
            · exact .inl h1
            · simp at hs
          · exact .inr (hI.fresh h1)
        · rcases (hnew b o hz).1 with h1 | h1
          · rcases h1 with h1 | ⟨s, hs, _⟩
            · exact h1
            · simp at hs
          · omega
      | false =>
        rw [hte] at hts
        simp only [cond_false] at hts
        have hkeep : Keeps Z w Z w' := fun b o hz => ⟨hz, keep_heap (hbel.block b (hI.zlt b o hz))⟩
        refine hn _ _ _ Z E x w' hk ?_
        exact hI.step hd hbel0 hkeep (fun b o hz => Nat.lt_of_lt_of_le (hI.zlt b o hz) hbel.size) (fun _ _ hz => .inl hz) (ObjKeep.refl _ _) (hobjk Z hkeep fun _ _ _ hz => hz) hI.apart hI.own (.c _ _ (flat_rep hts (hrep.pure (flat_pure hts)) _ _))
    · exact hX hcall
  · exact hX hcall

theorem op_sound (hT : TOk P T) (o : Oper) : OpSound P G T o := by
  obtain ⟨dst, op, type, pos, after, guard⟩ := o
  cases op with
  | move x => exact sound_move _ _ _ _ _ _
  | assign x => exact sound_assign _ _ _ _ _ _
  | pick c x y => exact sound_pick _ _ _ _ _ _ _ _
  | alloc e => exact sound_alloc hT _ _ _ _ _ _
  | box e x => exact sound_box _ _ _ _ _ _ _
  | build t ps => exact sound_build hT _ _ _ _ _ _ _
  | buildSlice t len ps => exact sound_buildSlice hT _ _ _ _ _ _ _ _
  | load t x => exact sound_load hT _ _ _ _ _ _ _
  | store t x y => exact sound_store hT _ _ _ _ _ _ _ _
  | nilCheck x => exact sound_nilCheck _ _ _ _ _ _
  | binOp op t x y t' => exact sound_binOp hT _ _ _ _ _ _ _ _ _ _
  | unOp op t x => exact sound_unOp _ _ _ _ _ _ _ _
  | convert s t x => exact sound_convert hT _ _ _ _ _ _ _ _
  | makeFunc fn first captured => exact sound_makeFunc _ _ _ _ _ _ _ _
  | fieldAddr t x k => exact sound_fieldAddr hT _ _ _ _ _ _ _ _
  | field t x k => exact sound_field hT _ _ _ _ _ _ _ _
  | indexAddr t x i => exact sound_indexAddr hT _ _ _ _ _ _ _ _
  | index t x i => exact sound_index hT _ _ _ _ _ _ _ _
  | extract x k => exact sound_extract _ _ _ _ _ _ _
  | call c =>
    obtain ⟨callee, args, argTypes⟩ := c
    cases callee with
    | builtin b => exact sound_builtin hT _ _ _ _ _ _ _ _
    | value f => exact sound_call _ (fun b h => by cases h) _ _ _ _ _
    | invoke r m => exact sound_call _ (fun b h => by cases h) _ _ _ _ _
  | _ => intro Z0 w0 S n Z E st a w K next Q F hI hd h hX hn; exact hX h
end
end Go.Abs
