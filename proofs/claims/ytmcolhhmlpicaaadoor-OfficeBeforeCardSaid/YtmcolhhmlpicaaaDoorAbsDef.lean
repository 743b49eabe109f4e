/-
  Abstract values, abstract operations and an abstract weakest precondition over the model's Code (definitions alone).
-/
import Derived.WalkKit
namespace Go.Abs
open Go Go.RowKit

/-- Closed data: no reference into memory that may still change. -/
inductive CV where
  | v (x : Value)
  | agg (cs : List CV)
  | sl (sz : Nat) (ds : List (List CV))
  | pi (cs : List CV) (off : Nat)
  | fn (f : FuncId) (caps : List CV)
  | tup (vs : List CV)
  /- a slice of the call's own that may be written (site, generation); one among a call's results; a result with such slices: each has its element's type, size, elements, and one element whose cells may be such slices -/
  | rs (t g : Nat)
  | ow (j : Nat)
  /- a pointer to a variable of the call's own; a map of its own; a closure over such things; a map that is written no more -/
  | pr (t g off : Nat)
  | mr (t g : Nat)
  | fr (f : FuncId) (caps : List CV)
  | mp (es : List (CV × CV))
  | wo (r : CV) (os : List (Nat × Nat × List (List CV) × Option (Nat × List CV)))

def CV.cells : CV → List CV
  | .agg cs => cs
  | c => [c]
def CV.atom : CV → Bool
  | .agg _ => false
  | .tup _ => false
  | .wo _ _ => false
  | .v x => x.oneCell'
  | _ => true

def CV.storable : CV → Bool
  | .agg _ => true
  | c => c.atom

/-- What a slot holds. -/
inductive SV where
  | any
  | un
  | kt
  | kf
  | c (x : CV)
  | pm (t g off : Nat)
  | ap (t g sz : Nat) (es : List (List CV))
  | fnr (f : FuncId) (caps : List SV)
  | rs (t g : Nat)
  | agx (cs : List CV)
  | pe (t g n off : Nat)
  | mr (t g : Nat)

inductive AObj where
  | none
  | var (cs : List CV)
  | ro (cs : List CV)
  | tok (el sz : Nat)
  | spent
  | varx (cs : List CV)
  | arr (el sz : Nat) (ds : List (List CV)) (foc : Option (Nat × List CV))
  | map (es : List (CV × CV))

abbrev Objs := Nat → Nat × AObj
structure St where
  env : Nat → SV
  obj : Objs

structure TI where
  desc : TypeDesc
  size : Nat
  bytes : Nat
  zero : List Value
  isAgg : Bool
  /- the size of an element, where the zero is a nil slice -/
  ks : List Nat
abbrev Tab := List (Nat × TI)
def Tab.get : Tab → Nat → Option TI
  | [], _ => .none
  | (k, i) :: r, t => bif Nat.beq k t then some i else Tab.get r t

abbrev Upd := List (Nat × (Nat × AObj))
def upd (obj : Objs) : Upd → Objs
  | [], s => obj s
  | (k, x) :: r, s => bif Nat.beq k s then x else upd obj r s
def put (env : Nat → SV) (d : Option Nat) (r : SV) : Nat → SV :=
  match d with
  | .none => env
  | some d => fun t => bif Nat.beq d t then r else env t

def ofVal : Value → CV
  | .slice .none 0 0 => .sl 0 []
  | x => .v x
def zeroC : List Value → List Nat → List CV
  | [], _ => []
  | x :: r, ks => (match x with
    | .slice .none 0 0 => .sl (ks.headD 0) []
    | x => .v x) :: zeroC r ks.tail
def constSV : Value → SV
  | .bool true => .kt
  | .bool false => .kf
  | .slice .none 0 0 => .c (.sl 0 [])
  | .map .none => .c (.mp [])
  | x => .c (.v x)
def look (st : St) : Operand → SV
  | .tmp t => st.env t
  | .const x => constSV x
  | .func f => .c (.fn f [])
  | .global _ => .any

def asC : SV → Option CV
  | .c x => some x
  | .kt => some (.v (.bool true))
  | .kf => some (.v (.bool false))
  | .ap _ _ sz es => some (.sl sz es)
  | _ => .none
def asSl : SV → Option (Nat × List (List CV))
  | .c (.sl sz ds) => some (sz, ds)
  | .ap _ _ sz es => some (sz, es)
  | _ => .none
def asCs (look : Operand → SV) : List Operand → Option (List CV)
  | [] => some []
  | x :: r => match asC (look x), asCs look r with
    | some c, some cs => some (c :: cs)
    | _, _ => .none

/-- Cells of the call's own, closed (the sites that are looked through are told). -/
def frzC1 (obj : Objs) : CV → Option (CV × List Nat)
  | .rs t g => match obj t with
    | (g', .arr _ sz ds .none) => bif Nat.beq g g' then some (.sl sz ds, [t]) else .none
    | _ => .none
  | .mr t g => match obj t with
    | (g', .map es) => bif Nat.beq g g' then some (.mp es, [t]) else .none
    | _ => .none
  | .pr _ _ _ => .none
  | .fr _ _ => .none
  | c => some (c, [])
def frzCs (obj : Objs) : List CV → Option (List CV × List Nat)
  | [] => some ([], [])
  | c :: r => match frzC1 obj c, frzCs obj r with
    | some (c, ts), some (cs, us) => some (c :: cs, ts ++ us)
    | _, _ => .none
def frzCells (obj : Objs) (cs : List CV) : Option (List CV) := (frzCs obj cs).map (·.1)
/-- The value of a slot as closed data; a variable of the call's own is looked through (its sites are told). -/
def freeze (obj : Objs) : SV → Option (CV × List Nat)
  | .pm t g off => match obj t with
    | (g', .var cs) => bif Nat.beq g g' then some (.pi cs off, [t]) else .none
    | (g', .varx cs) => bif Nat.beq g g' then (match frzCs obj cs with
      | some (cs', ts) => some (.pi cs' off, t :: ts)
      | .none => .none) else .none
    | _ => .none
  | .mr t g => match obj t with
    | (g', .map es) => bif Nat.beq g g' then some (.mp es, [t]) else .none
    | _ => .none
  | .rs t g => match obj t with
    | (g', .arr _ sz ds .none) => bif Nat.beq g g' then some (.sl sz ds, [t]) else .none
    | _ => .none
  | s => (asC s).map fun c => (c, [])
def freezeL (obj : Objs) : List SV → Option (List CV × List Nat)
  | [] => some ([], [])
  | s :: r => match freeze obj s, freezeL obj r with
    | some (c, ts), some (cs, us) => some (c :: cs, ts ++ us)
    | _, _ => .none
/-- An argument of a call: closed data, or a closure over the call's own variables. -/
def freezeA (obj : Objs) : SV → Option (CV × List Nat)
  | .fnr f caps => match freezeL obj caps with
    | some (cs, ts) => some (.fn f cs, ts)
    | .none => .none
  | s => freeze obj s
def freezeAs (obj : Objs) : List SV → Option (List CV × List Nat)
  | [] => some ([], [])
  | s :: r => match freezeA obj s, freezeAs obj r with
    | some (c, ts), some (cs, us) => some (c :: cs, ts ++ us)
    | _, _ => .none

def takeN : Nat → List CV → Option (List CV)
  | 0, _ => some []
  | _ + 1, [] => .none
  | n + 1, c :: r => match takeN n r with
    | some cs => some (c :: cs)
    | .none => .none
/-- n cells at 'off' replaced. -/
def setAt : List CV → Nat → List CV → Option (List CV)
  | cs, _, [] => some cs
  | [], _, _ :: _ => .none
  | _ :: r, 0, x :: xs => match setAt r 0 xs with
    | some cs => some (x :: cs)
    | .none => .none
  | c :: r, n + 1, xs => match setAt r n xs with
    | some cs => some (c :: cs)
    | .none => .none
def part (i : TI) (cs : List CV) (off : Nat) : Option CV :=
  bif i.isAgg then (takeN i.size (cs.drop off)).map CV.agg else cs[off]?

def flat : CV → Bool
  | .v _ => true
  | .tup [.v _, .v _] => true
  | .tup [.v _, .v _, .v _] => true
  | _ => false
def CV.pure : CV → Bool
  | .wo _ _ => false
  | _ => true

def intBin : BinOp → IntKind → Int → Int → Option Value
  | .add, k, a, b => some (.int k (k.wrap (a + b)))
  | .sub, k, a, b => some (.int k (k.wrap (a - b)))
  | .mul, k, a, b => some (.int k (k.wrap (a * b)))
  | .eql, _, a, b => some (.bool (a == b))
  | .neq, _, a, b => some (.bool (a != b))
  | .lss, _, a, b => some (.bool (decide (a < b)))
  | .leq, _, a, b => some (.bool (decide (a ≤ b)))
  | .gtr, _, a, b => some (.bool (decide (a > b)))
  | .geq, _, a, b => some (.bool (decide (a ≥ b)))
  | .and, k, a, b => some (.int k (k.wrap (BitVec.ofInt k.bits a &&& BitVec.ofInt k.bits b).toNat))
  | .or, k, a, b => some (.int k (k.wrap (BitVec.ofInt k.bits a ||| BitVec.ofInt k.bits b).toNat))
  | .xor, k, a, b => some (.int k (k.wrap (BitVec.ofInt k.bits a ^^^ BitVec.ofInt k.bits b).toNat))
  | _, _, _, _ => .none
def strBin : BinOp → ByteArray → ByteArray → Option Value
  | .eql, a, b => some (.bool (a.data.toList == b.data.toList))
  | .neq, a, b => some (.bool (!(a.data.toList == b.data.toList)))
  | .lss, a, b => some (.bool (Op.bytesLess a.data.toList b.data.toList))
  | .leq, a, b => some (.bool (Op.bytesLess a.data.toList b.data.toList || a.data.toList == b.data.toList))
  | .gtr, a, b => some (.bool (!(Op.bytesLess a.data.toList b.data.toList || a.data.toList == b.data.toList)))
  | .geq, a, b => some (.bool (!(Op.bytesLess a.data.toList b.data.toList)))
  | _, _, _ => .none
def wpBin (op : BinOp) (isBool : Bool) (x y : Value) (K : Value → Prop) : Prop :=
  match op, x, y with
  | .quo, .int k a, .int k' b => k = k' ∧ b ≠ 0 ∧ K (.int k (k.wrap (a.tdiv b)))
  | .rem, .int k a, .int k' b => k = k' ∧ b ≠ 0 ∧ K (.int k (a.tmod b))
  | .shr, .int k a, .int _ b => 0 ≤ b ∧ K (.int k (a.fdiv (2 ^ (min b.toNat k.bits))))
  | .shl, .int k a, .int _ b => 0 ≤ b ∧ K (.int k (k.wrap (a * 2 ^ (min b.toNat k.bits))))
  | op, .int k a, .int k' b => match intBin op k a b with
    | some r => bif decide (k = k') then K r else False
    | .none => False
  | .add, .string a, .string b => a.size + b.size ≤ 9223372036854775807 ∧ ∃ s, s = a ++ b ∧ K (.string s)
  | op, .string a, .string b => match strBin op a b with
    | some r => K r
    | .none => False
  | .eql, .bool a, .bool b => bif isBool then K (.bool (a == b)) else False
  | .neq, .bool a, .bool b => bif isBool then K (.bool (!(a == b))) else False
  | _, _, _ => False

abbrev KOp := SV → List Nat → Upd → Prop
/-- What is known: of functions (closed data in and out), of operations (with objects of the caller's own). -/
structure Orc where
  fn : FuncId → List CV → CV → Prop
  eff : Op → TypeId → List SV → List (Nat × AObj) → SV → List (Nat × AObj) → Prop

section
variable (H : Orc) (T : Tab) (look : Operand → SV) (obj : Objs) (F : KOp → Prop)

def buildParts (fields : Array Field) (zero : List CV) : List (Nat × Operand) → Option (List CV)
  | [] => some zero
  | (i, x) :: r => match fields[i]?, asC (look x) with
    | some f, some c => match T.get f.type with
      | some i => bif Nat.beq c.cells.length i.size && c.storable && Nat.ble 1 i.size then
          match setAt zero f.offset c.cells with
          | some z => buildParts fields z r
          | .none => .none
        else .none
      | .none => .none
    | _, _ => .none

/-- The elements of a slice literal whose parts stand at 0, 1, .. in order. -/
def buildElems (sz : Nat) : Nat → List (Nat × Operand) → Option (List (List CV))
  | _, [] => some []
  | k, (i, x) :: r => match asC (look x), buildElems sz (k + 1) r with
    | some c, some es => bif Nat.beq i k && Nat.beq c.cells.length sz && c.storable then some (c.cells :: es) else .none
    | _, _ => .none

def gen (d : Nat) : Nat := (obj d).1

def wpAssign (ty : TypeId) (d : Nat) (x : Operand) (K : KOp) : Prop :=
  match x with
  | .const (.slice .none 0 0) => match T.get ty with
    | some { desc := .slice e, .. } => match T.get e with
      | some i => bif Nat.ble 1 i.size then K (.ap d ((obj d).1 + 1) i.size []) [] [(d, ((obj d).1 + 1, .tok e i.size))] else False
      | .none => False
    | _ => False
  | x => match look x with
    | .ap t g sz es => match obj t with
      | (g', .tok el s) => bif Nat.beq g g' && !(Nat.beq t d) then K (.ap d ((obj d).1 + 1) sz es) [t] [(t, (g, .spent)), (d, ((obj d).1 + 1, .tok el s))] else K (look x) [t] []
      | _ => K (.c (.sl sz es)) [t] []
    | s => K s [] []

def callArgs (c : Call) : Option (FuncId × List SV × List CV) :=
  match c.callee with
  | .value f => match look f with
    | .c (.fn f caps) => some (f, c.args.toList.map look, caps)
    | .fnr f caps => some (f, c.args.toList.map look ++ caps, [])
    | _ => .none
  | _ => .none
def wpCall (c : Call) (K : KOp) : Prop :=
  match callArgs look c with
  | some (f, args, more) => match freezeAs obj args with
    | some (cs, ts) => (∃ r, H.fn f (cs ++ more) r ∧ (bif ts.isEmpty then r.pure = true else flat r = true) ∧ K (.c r) ts []) ∨ F K
    | .none => F K
  | .none => F K

def wpBuiltin (b : Builtin) (c : Call) (d : Option Nat) (K : KOp) : Prop :=
  match b, c.args.toList with
  | .len, [x] => match look x with
    | .c (.v (.string s)) => (match (c.argTypes[0]?).bind T.get with
      | some { desc := .string, .. } => K (.c (.v (.int .i64 s.size))) [] []
      | _ => False)
    | s => match asSl s, (c.argTypes[0]?).bind T.get with
      | some (_, ds), some { desc := .slice _, .. } => K (.c (.v (.int .i64 ds.length))) [] []
      | _, _ => F K
  | .min, [x, y] => match asC (look x), asC (look y) with
    | some (.v (.int k a)), some (.v (.int _ b)) => K (.c (.v (.int k (if b < a then b else a)))) [] []
    | _, _ => False
  | .max, [x, y] => match asC (look x), asC (look y) with
    | some (.v (.int k a)), some (.v (.int _ b)) => K (.c (.v (.int k (if a < b then b else a)))) [] []
    | _, _ => False
  | .append, [x, y] => match look x, asSl (look y), d, c.argTypes.toList with
    | .ap t g sz es, some (_, ns), some d, [t1, t2] => match T.get t1 with
      | some { desc := .slice e, .. } => match T.get e with
        | some i => bif Nat.beq t1 t2 && Nat.beq i.size sz && Nat.ble 1 sz && Nat.ble i.bytes 4096 && Nat.beq i.zero.length sz && (match obj t with | (g', .tok el s) => Nat.beq g g' && Nat.beq el e && Nat.beq s sz | _ => false) then
            ((∀ n ∈ ns, n.length = sz) ∧ es.length + ns.length ≤ 4294967296 ∧ ∃ es', es' = es ++ ns ∧
            (bif Nat.beq t d then K (.ap t (g + 1) sz es') [t] [(t, (g + 1, .tok e sz))]
             else K (.ap d ((obj d).1 + 1) sz es') [t] [(t, (g, .spent)), (d, ((obj d).1 + 1, .tok e sz))])) ∨ F K
          else False
        | .none => F K
      | _ => F K
    | _, _, _, _ => F K
  | _, _ => F K

def wpOp (d : Option Nat) (op : Op) (ty : TypeId) (K : KOp) : Prop :=
  match op with
  | .move x => K (look x) [] []
  | .assign x => match d with
    | some d => wpAssign T look obj ty d x K
    | .none => False
  | .pick c a b => match look c with
    | .kt => K (look a) [] []
    | .kf => K (look b) [] []
    | .c (.v (.bool q)) => match asC (look a), asC (look b) with
      | some (.v (.bool x)), some (.v (.bool y)) => K (.c (.v (.bool (bif q then x else y)))) [] []
      | _, _ => (q = true → K (look a) [] []) ∧ (q = false → K (look b) [] [])
    | _ => False
  | .alloc e => match T.get e, d with
    | some i, some d => K (.pm d ((obj d).1 + 1) 0) [] [(d, ((obj d).1 + 1, .var (zeroC i.zero i.ks)))]
    | _, _ => False
  | .box _ x => match asC (look x), d with
    | some c, some d => bif c.storable then K (.pm d ((obj d).1 + 1) 0) [] [(d, ((obj d).1 + 1, .var c.cells))] else False
    | _, _ => False
  | .build t parts => match T.get t with
    | some { desc := .struct fs, zero := z, ks := ks, .. } => bif fs.toList.all (fun f => (T.get f.type).isSome) then (match buildParts T look fs (zeroC z ks) parts.toList with
      | some cs => K (.c (.agg cs)) [] []
      | .none => False) else False
    | _ => False
  | .buildSlice t len parts => match T.get t with
    | some { desc := .slice e, .. } => match T.get e, d with
      | some i, some d => match buildElems look i.size 0 parts.toList with
        | some es => bif Nat.beq es.length len && Nat.ble len 4096 && Nat.ble 1 i.size && Nat.ble i.size 256 && Nat.beq i.zero.length i.size then K (.ap d ((obj d).1 + 1) i.size es) [] [(d, ((obj d).1 + 1, .tok e i.size))] else False
        | .none => F K
      | _, _ => False
    | _ => False
  | .load t x => match T.get t with
    | some i => match look x with
      | .pm s g off => match obj s with
        | (g', .var cs) => bif Nat.beq g g' then (match part i cs off with | some c => K (.c c) [s] [] | .none => False) else False
        | (g', .ro cs) => bif Nat.beq g g' then (match part i cs off with | some c => K (.c c) [s] [] | .none => False) else False
        | _ => F K
      | .c (.pi cs off) => match part i cs off with
        | some c => K (.c c) [] []
        | .none => False
      | _ => F K
    | .none => False
  | .store t x y => match T.get t, look x, asC (look y) with
    | some i, .pm s g off, some c => match obj s with
      | (g', .var cs) => bif Nat.beq g g' && Nat.beq c.cells.length i.size && c.storable && Nat.ble 1 i.size then (match setAt cs off c.cells with | some cs' => K .any [s] [(s, (g, .var cs'))] | .none => False) else False
      | _ => F K
    | _, _, _ => F K
  | .nilCheck x => match look x with
    | .pm s g _ => match obj s with
      | (g', .var _) => bif Nat.beq g g' then K (look x) [s] [] else False
      | (g', .ro _) => bif Nat.beq g g' then K (look x) [s] [] else False
      | _ => F K
    | .c (.pi _ _) => K (look x) [] []
    | .c (.fn _ _) => K (look x) [] []
    | .fnr _ _ => K (look x) [] []
    | _ => F K
  | .binOp op t x y _ => match asC (look x), asC (look y) with
    | some (.v a), some (.v b) => wpBin op (match T.get t with | some { desc := .bool, .. } => true | _ => false) a b (fun r => K (.c (.v r)) [] [])
    | _, _ => F K
  | .unOp .not _ x => match look x with
    | .kt => K .kf [] []
    | .kf => K .kt [] []
    | .c (.v (.bool b)) => K (.c (.v (.bool !b))) [] []
    | _ => False
  | .unOp .neg _ x => match look x with
    | .c (.v (.int k n)) => K (.c (.v (.int k (k.wrap (0 - n))))) [] []
    | _ => False
  | .convert s t x => match T.get t, look x, T.get s with
    | some { desc := .int k, .. }, .c (.v (.int _ n)), some _ => K (.c (.v (.int k (k.wrap n)))) [] []
    | some { desc := .string, .. }, .c (.v (.string s)), some _ => K (.c (.v (.string s))) [] []
    | _, _, _ => F K
  | .makeFunc (.func f) first captured => bif first.isEmpty then K (.fnr f (captured.toList.map look)) [] [] else False
  | .fieldAddr t x k => match T.get t with
    | some { desc := .struct fs, .. } => match fs[k]? with
      | some f => match T.get f.type with
        | some i => bif Nat.beq i.size 0 then False else match look x with
          | .pm s g off => match obj s with
            | (g', .var _) => bif Nat.beq g g' then K (.pm s g (off + f.offset)) [s] [] else False
            | (g', .ro _) => bif Nat.beq g g' then K (.pm s g (off + f.offset)) [s] [] else False
            | _ => F K
          | .c (.pi cs off) => K (.c (.pi cs (off + f.offset))) [] []
          | _ => F K
        | .none => False
      | .none => False
    | _ => False
  | .field t x k => match T.get t, look x with
    | some { desc := .struct fs, .. }, .c (.agg cs) => match fs[k]? with
      | some f => match T.get f.type with
        | some i => match part i cs f.offset with
          | some c => K (.c c) [] []
          | .none => False
        | .none => False
      | .none => False
    | _, _ => False
  | .indexAddr t x i => match T.get t with
    | some { desc := .slice e, .. } => match T.get e, asSl (look x), look i with
      | some ti, some (sz, ds), .c (.v (.int _ n)) => 0 ≤ n ∧ (sz = ti.size ∨ n < 0) ∧ ∃ d, ds[n.toNat]? = some d ∧ K (.c (.pi d 0)) [] []
      | _, _, _ => F K
    | _ => F K
  | .index t x i => match T.get t with
    | some { desc := .string, .. } => match look x, look i with
      | .c (.v (.string s)), .c (.v (.int _ n)) => 0 ≤ n ∧ ∃ b, s[n.toNat]? = some b ∧ K (.c (.v (.int .u8 b.toNat))) [] []
      | _, _ => False
    | _ => False
  | .extract x k => match look x with
    | .c (.tup vs) => match vs[k]? with
      | some c => K (.c c) [] []
      | .none => False
    | _ => False
  | .call c => match c.callee with
    | .builtin b => wpBuiltin T look obj F b c d K
    | _ => wpCall H look obj F c K
  | _ => F K
end

/-- What a slot gives to be stored: cells, slices of the call's own among them. -/
def cap1 : SV → Option CV
  | .rs t g => some (.rs t g)
  | .pm t g off => some (.pr t g off)
  | .mr t g => some (.mr t g)
  | s => asC s
def caps1 : List SV → Option (List CV)
  | [] => some []
  | s :: r => match cap1 s, caps1 r with
    | some c, some cs => some (c :: cs)
    | _, _ => .none
def cellsSV : SV → Option (List CV)
  | .rs t g => some [.rs t g]
  | .pm t g off => some [.pr t g off]
  | .mr t g => some [.mr t g]
  | .fnr f caps => (caps1 caps).map fun cs => [.fr f cs]
  | .agx cs => some cs
  | s => match asC s with
    | some c => bif c.storable then some c.cells else .none
    | .none => .none
def CV.isRs : CV → Bool
  | .rs _ _ => true
  | .pr _ _ _ => true
  | .mr _ _ => true
  | .fr _ _ => true
  | _ => false
def noRs : List CV → Bool
  | [] => true
  | c :: r => bif c.isRs then false else noRs r
def sv1 : CV → SV
  | .rs t g => .rs t g
  | .pr t g off => .pm t g off
  | .mr t g => .mr t g
  | c => .c c
def svOf : CV → SV
  | .rs t g => .rs t g
  | .pr t g off => .pm t g off
  | .mr t g => .mr t g
  | .fr f caps => .fnr f (caps.map sv1)
  | .agg cs => bif noRs cs then .c (.agg cs) else .agx cs
  | c => .c c
/-- The cells of element n. -/
def cellsAt (ds : List (List CV)) (foc : Option (Nat × List CV)) (n : Nat) (cs : List CV) : Prop :=
  match foc with
  | .none => ds[n]? = some cs
  | some (m, d) => (n = m ∧ cs = d) ∨ (n ≠ m ∧ ds[n]? = some cs)
/-- Element n is laid anew. -/
def setCells (ds : List (List CV)) (foc : Option (Nat × List CV)) (n : Nat) (cs : List CV) (ds' : List (List CV)) (foc' : Option (Nat × List CV)) : Prop :=
  match foc with
  | .none => (noRs cs = true ∧ ds' = ds.set n cs ∧ foc' = .none) ∨ (ds' = ds ∧ foc' = some (n, cs))
  | some (m, d) => (n = m ∧ ds' = ds ∧ foc' = some (n, cs)) ∨ (n ≠ m ∧ noRs cs = true ∧ ds' = ds.set n cs ∧ foc' = some (m, d))
def shiftF (k : Nat) : Option (Nat × List CV) → Option (Nat × List CV)
  | .none => .none
  | some (m, cs) => some (k + m, cs)
def sig (d j : Nat) : Nat := d + 65536 * j
/-- References among a call's results, in the caller's own names. -/
def renC (obj : Objs) (d m : Nat) : CV → CV
  | .ow j => bif Nat.blt j m then .rs (sig d j) ((obj (sig d j)).1 + 1) else .ow j
  | c => c
def renR (obj : Objs) (d m : Nat) : CV → Option SV
  | .ow j => bif Nat.blt j m then some (.rs (sig d j) ((obj (sig d j)).1 + 1)) else .none
  | .agg cs => some (.agx (cs.map (renC obj d m)))
  | _ => .none
def renF (obj : Objs) (d m : Nat) : Option (Nat × List CV) → Option (Nat × List CV)
  | .none => .none
  | some (k, cs) => some (k, cs.map (renC obj d m))
def renO (obj : Objs) (d m : Nat) : Nat → List (Nat × Nat × List (List CV) × Option (Nat × List CV)) → Upd
  | _, [] => []
  | j, (el, sz, ds, foc) :: r => (sig d j, ((obj (sig d j)).1 + 1, .arr el sz ds (renF obj d m foc))) :: renO obj d m (j + 1) r

section
variable (H : Orc) (T : Tab) (look : Operand → SV) (obj : Objs)
def wpXappend (c : Call) (d : Option Nat) (K : KOp) : Prop :=
  match c.args.toList, d, c.argTypes.toList with
  | [x, y], some d, [t1, t2] => match T.get t1 with
    | some { desc := .slice e, .. } => match T.get e with
      | some i => bif Nat.beq t1 t2 && Nat.ble 1 i.size && Nat.ble i.bytes 4096 && Nat.beq i.zero.length i.size then
          match x, look x, look y with
          | .const (.slice .none 0 0), .c _, sy => match asSl sy with
            | some (_, ns) => (∀ n ∈ ns, n.length = i.size) ∧ ns.length ≤ 4294967296 ∧ K (.rs d ((obj d).1 + 1)) [] [(d, ((obj d).1 + 1, .arr e i.size ns .none))]
            | .none => False
          | _, .rs t g, .rs s g2 => match obj t, obj s with
            | (g', .arr el sz ds foc), (g2', .arr el2 sz2 ds2 foc2) => bif Nat.beq g g' && Nat.beq g2 g2' && Nat.beq el e && Nat.beq sz i.size && Nat.beq sz2 i.size && !(Nat.beq t s) && !(Nat.beq s d) && !(Nat.beq t d) && foc.isNone then
                ds.length + ds2.length ≤ 4294967296 ∧ ∃ ds', ds' = ds ++ ds2 ∧ K (.rs d ((obj d).1 + 1)) [t, s] [(t, (g, .spent)), (s, (g2, .spent)), (d, ((obj d).1 + 1, .arr e i.size ds' (shiftF ds.length foc2)))]
              else False
            | _, _ => False
          | _, .rs t g, sy => match obj t, asSl sy with
            | (g', .arr el sz ds foc), some (_, ns) => bif Nat.beq g g' && Nat.beq el e && Nat.beq sz i.size then
                (∀ n ∈ ns, n.length = sz) ∧ ds.length + ns.length ≤ 4294967296 ∧ ∃ ds', ds' = ds ++ ns ∧
                (bif Nat.beq t d then K (.rs t (g + 1)) [t] [(t, (g + 1, .arr e sz ds' foc))]
                 else K (.rs d ((obj d).1 + 1)) [t] [(t, (g, .spent)), (d, ((obj d).1 + 1, .arr e sz ds' foc))])
              else False
            | _, _ => False
          | _, .ap t g sz es, sy => match obj t, asSl sy with
            | (g', .tok el s), some (_, ns) => bif Nat.beq g g' && Nat.beq el e && Nat.beq s sz && Nat.beq sz i.size && !(Nat.beq t d) then
                es = [] ∧ (∀ n ∈ ns, n.length = sz) ∧ ns.length ≤ 4294967296 ∧ K (.rs d ((obj d).1 + 1)) [t] [(t, (g, .spent)), (d, ((obj d).1 + 1, .arr e sz ns .none))]
              else False
            | _, _ => False
          | _, _, _ => False
        else False
      | .none => False
    | _ => False
  | _, _, _ => False
def wpXcall (c : Call) (d : Option Nat) (K : KOp) : Prop :=
  match callArgs look c, d with
  | some (f, args, more), some d => match freezeAs obj args with
    | some (cs, ts) => bif ts.isEmpty then ∃ r os, H.fn f (cs ++ more) (.wo r os) ∧ (match renR obj d os.length r with
        | some s => K s [] (renO obj d os.length 0 os)
        | .none => False) else False
    | .none => False
  | _, _ => False
def wpX (d : Option Nat) (op : Op) (K : KOp) : Prop :=
  match op with
  | .load t x => match T.get t with
    | some i => match look x with
      | .pm s g off => match obj s with
        | (g', .varx cs) => bif Nat.beq g g' then (match part i cs off with | some c => K (svOf c) [s] [] | .none => False) else False
        | _ => False
      | .pe s g n off => match obj s with
        | (g', .arr _ _ ds foc) => bif Nat.beq g g' then (∃ cs, cellsAt ds foc n cs ∧ match part i cs off with | some c => K (svOf c) [s] [] | .none => False) else False
        | _ => False
      | _ => False
    | .none => False
  | .store t x y => match T.get t, cellsSV (look y) with
    | some i, some ys => bif Nat.beq ys.length i.size && Nat.ble 1 i.size then (match look x with
      | .pm s g off => match obj s with
        | (g', .var cs) => bif Nat.beq g g' && (asC (look y)).isNone then (match setAt cs off ys with | some cs' => K .any [s] [(s, (g, .varx cs'))] | .none => False) else False
        | (g', .varx cs) => bif Nat.beq g g' then (match setAt cs off ys with | some cs' => K .any [s] [(s, (g, .varx cs'))] | .none => False) else False
        | _ => False
      | .pe s g n off => match obj s with
        | (g', .arr el sz ds foc) => bif Nat.beq g g' then (∃ cs, cellsAt ds foc n cs ∧ match setAt cs off ys with
            | some cs' => ∃ ds' foc', setCells ds foc n cs' ds' foc' ∧ K .any [s] [(s, (g, .arr el sz ds' foc'))]
            | .none => False) else False
        | _ => False
      | _ => False) else False
    | _, _ => False
  | .nilCheck x => match look x with
    | .pm s g _ => match obj s with
      | (g', .varx _) => bif Nat.beq g g' then K (look x) [s] [] else False
      | _ => False
    | .pe s g _ _ => match obj s with
      | (g', .arr _ _ _ _) => bif Nat.beq g g' then K (look x) [s] [] else False
      | _ => False
    | _ => False
  | .fieldAddr t x k => match T.get t with
    | some { desc := .struct fs, .. } => match fs[k]? with
      | some f => match T.get f.type with
        | some i => bif Nat.beq i.size 0 then False else match look x with
          | .pm s g off => match obj s with
            | (g', .varx _) => bif Nat.beq g g' then K (.pm s g (off + f.offset)) [s] [] else False
            | _ => False
          | .pe s g n off => match obj s with
            | (g', .arr _ _ _ _) => bif Nat.beq g g' then K (.pe s g n (off + f.offset)) [s] [] else False
            | _ => False
          | _ => False
        | .none => False
      | .none => False
    | _ => False
  | .indexAddr t x i => match T.get t with
    | some { desc := .slice e, .. } => match T.get e, look x, look i with
      | some ti, .rs s g, .c (.v (.int _ n)) => match obj s with
        | (g', .arr _ sz ds _) => bif Nat.beq g g' && Nat.beq sz ti.size then 0 ≤ n ∧ n.toNat < ds.length ∧ K (.pe s g n.toNat 0) [s] [] else False
        | _ => False
      | _, _, _ => False
    | _ => False
  | .buildSlice t len parts => match T.get t with
    | some { desc := .slice e, .. } => match T.get e, d, parts.toList with
      | some i, some d, [(0, x)] => match look x with
        | .agx cs => bif Nat.beq len 1 && Nat.beq cs.length i.size && Nat.ble 1 i.size && Nat.ble i.size 256 && Nat.beq i.zero.length i.size then K (.rs d ((obj d).1 + 1)) [] [(d, ((obj d).1 + 1, .arr e i.size [cs] (some (0, cs))))] else False
        | _ => False
      | _, _, _ => False
    | _ => False
  | .call c => match c.callee with
    | .builtin .len => match c.args.toList, (c.argTypes[0]?).bind T.get with
      | [x], some { desc := .slice _, .. } => match look x with
        | .rs s g => match obj s with
          | (g', .arr _ _ ds _) => bif Nat.beq g g' then K (.c (.v (.int .i64 ds.length))) [s] [] else False
          | _ => False
        | _ => False
      | _, _ => False
    | .builtin .append => wpXappend T look obj c d K
    | .builtin _ => False
    | _ => wpXcall H look obj c d K
  | _ => False
end

/-- The place of a site of a generation in a list. -/
def idx2 : List (Nat × Nat) → Nat → Nat → Nat → Option Nat
  | [], _, _, _ => .none
  | (t, g) :: r, s, h, j => bif Nat.beq t s && Nat.beq g h then some j else idx2 r s h (j + 1)
section
variable (τ : List (Nat × Nat)) (γ : Nat → Nat)
/-- References by their places in the list τ. -/
def cTo1 : CV → Option CV
  | .rs t g => (idx2 τ t g 0).map fun j => .rs j (γ j)
  | .pr t g off => (idx2 τ t g 0).map fun j => .pr j (γ j) off
  | .mr t g => (idx2 τ t g 0).map fun j => .mr j (γ j)
  | .fr _ _ => .none
  | c => some c
def csTo1 : List CV → Option (List CV)
  | [] => some []
  | c :: r => match cTo1 τ γ c, csTo1 r with
    | some c, some cs => some (c :: cs)
    | _, _ => .none
def cTo : CV → Option CV
  | .fr f caps => (csTo1 τ γ caps).map (CV.fr f)
  | c => cTo1 τ γ c
def csTo : List CV → Option (List CV)
  | [] => some []
  | c :: r => match cTo τ γ c, csTo r with
    | some c, some cs => some (c :: cs)
    | _, _ => .none
def sTo1 : SV → Option SV
  | .rs t g => (idx2 τ t g 0).map fun j => .rs j (γ j)
  | .pm t g off => (idx2 τ t g 0).map fun j => .pm j (γ j) off
  | .mr t g => (idx2 τ t g 0).map fun j => .mr j (γ j)
  | .pe t g n off => (idx2 τ t g 0).map fun j => .pe j (γ j) n off
  | .ap t g sz es => match idx2 τ t g 0 with
    | some j => some (.ap j (γ j) sz es)
    | .none => some (.c (.sl sz es))
  | .agx cs => (csTo τ γ cs).map SV.agx
  | .fnr _ _ => .none
  | s => some s
def ssTo1 : List SV → Option (List SV)
  | [] => some []
  | s :: r => match sTo1 τ γ s, ssTo1 r with
    | some s, some ss => some (s :: ss)
    | _, _ => .none
def sTo : SV → Option SV
  | .fnr f caps => (ssTo1 τ γ caps).map (SV.fnr f)
  | s => sTo1 τ γ s
def ssTo : List SV → Option (List SV)
  | [] => some []
  | s :: r => match sTo τ γ s, ssTo r with
    | some s, some ss => some (s :: ss)
    | _, _ => .none
def oTo : AObj → Option AObj
  | .varx cs => (csTo τ γ cs).map AObj.varx
  | .arr el sz ds (some (m, cs)) => (csTo τ γ cs).map fun cs => .arr el sz ds (some (m, cs))
  | o => some o
/-- The objects of a list of sites; all of them of the generations that are told. -/
def osTo (obj : Objs) : Nat → List (Nat × Nat) → Option (List (Nat × AObj))
  | _, [] => some []
  | j, (t, g) :: r => bif Nat.beq (obj t).1 g then (match oTo τ γ (obj t).2, osTo obj (j + 1) r with
    | some o, some os => some ((γ j, o) :: os)
    | _, _ => .none) else .none
end
def objL (os : List (Nat × AObj)) : Objs := fun j => match os[j]? with
  | some o => o
  | .none => (0, .none)
/-- All references lie below n. -/
def cLt1 (n : Nat) : CV → Bool
  | .rs j _ => Nat.blt j n
  | .pr j _ _ => Nat.blt j n
  | .mr j _ => Nat.blt j n
  | _ => true
def cLt (n : Nat) : CV → Bool
  | .fr _ caps => caps.all (cLt1 n)
  | c => cLt1 n c
def sLt1 (n : Nat) : SV → Bool
  | .rs j _ => Nat.blt j n
  | .pm j _ _ => Nat.blt j n
  | .mr j _ => Nat.blt j n
  | .pe j _ _ _ => Nat.blt j n
  | .ap j _ _ _ => Nat.blt j n
  | .agx cs => cs.all (cLt n)
  | .fnr _ _ => false
  | _ => true
def sLt (n : Nat) : SV → Bool
  | .fnr _ caps => caps.all (sLt1 n)
  | s => sLt1 n s
def oLt (n : Nat) : AObj → Bool
  | .varx cs => cs.all (cLt n)
  | .arr _ _ _ (some (_, cs)) => cs.all (cLt n)
  | .none => false
  | _ => true
section
variable (obj : Objs) (d off : Nat) (τ : List (Nat × Nat))
/-- The caller's own names. -/
def bkS (j : Nat) : Nat := match τ[j]? with
  | some (t, _) => t
  | .none => sig d (off + j)
def bkG (j k : Nat) : Nat := match τ[j]? with
  | some (_, g) => g + k
  | .none => (obj (sig d (off + j))).1 + k
def cBk1 : CV → CV
  | .rs j k => .rs (bkS d off τ j) (bkG obj d off τ j k)
  | .pr j k o => .pr (bkS d off τ j) (bkG obj d off τ j k) o
  | .mr j k => .mr (bkS d off τ j) (bkG obj d off τ j k)
  | c => c
def cBk : CV → CV
  | .fr f caps => .fr f (caps.map (cBk1 obj d off τ))
  | c => cBk1 obj d off τ c
def sBk1 : SV → SV
  | .rs j k => .rs (bkS d off τ j) (bkG obj d off τ j k)
  | .pm j k o => .pm (bkS d off τ j) (bkG obj d off τ j k) o
  | .mr j k => .mr (bkS d off τ j) (bkG obj d off τ j k)
  | .pe j k n o => .pe (bkS d off τ j) (bkG obj d off τ j k) n o
  | .ap j k sz es => .ap (bkS d off τ j) (bkG obj d off τ j k) sz es
  | .agx cs => .agx (cs.map (cBk obj d off τ))
  | s => s
def sBk : SV → SV
  | .fnr f caps => .fnr f (caps.map (sBk1 obj d off τ))
  | s => sBk1 obj d off τ s
def oBk : AObj → AObj
  | .varx cs => .varx (cs.map (cBk obj d off τ))
  | .arr el sz ds (some (m, cs)) => .arr el sz ds (some (m, cs.map (cBk obj d off τ)))
  | o => o
def uBk : Nat → List (Nat × AObj) → Upd
  | _, [] => []
  | j, (k, o) :: r => (bkS d off τ j, (bkG obj d off τ j k, oBk obj d off τ o)) :: uBk (j + 1) r
end
def nodupS : List Nat → Bool
  | [] => true
  | x :: r => bif r.any (Nat.beq x) then false else nodupS r

section
variable (H : Orc) (T : Tab) (look : Operand → SV) (obj : Objs)
/-- An operation by what is known of it: some objects of the call's own are handed over and come back. -/
def wpEff (d : Option Nat) (op : Op) (ty : TypeId) (K : KOp) : Prop :=
  ∃ (τ : List (Nat × Nat)) (off : Nat) (args : List SV) (os : List (Nat × AObj)) (r : SV) (os' : List (Nat × AObj)),
    ssTo τ (fun _ => 0) (op.operands.toList.map look) = some args ∧ osTo τ (fun _ => 0) obj 0 τ = some os ∧ H.eff op ty args os r os' ∧
    (nodupS ((uBk obj (d.getD 0) off τ 0 os').map (·.1)) && Nat.ble τ.length os'.length && sLt os'.length r && os'.all (fun o => oLt os'.length o.2)) = true ∧
    K (sBk obj (d.getD 0) off τ r) (τ.map (·.1)) (uBk obj (d.getD 0) off τ 0 os')
/-- The rules alone; the rules, or what is known of it. -/
def wpO1 (d : Option Nat) (op : Op) (ty : TypeId) (K : KOp) : Prop := wpOp H T look obj (wpX H T look obj d op) d op ty K
def wpO2 (d : Option Nat) (op : Op) (ty : TypeId) (K : KOp) : Prop := wpO1 H T look obj d op ty K ∨ wpEff H look obj d op ty K
/-- An operation: the plain rules, else those for slices that are written, else what is known of it. -/
def wpO0 (d : Option Nat) (op : Op) (ty : TypeId) (K : KOp) : Prop := wpOp H T look obj (fun K => wpX H T look obj d op K ∨ wpEff H look obj d op ty K) d op ty K
/-- Operations that make memory: the plain rule, or what is known of them. -/
def effFirst : Op → Bool
  | .alloc _ => true
  | .buildSlice _ _ _ => true
  | .assign (.const (.slice _ _ _)) => true
  | _ => false
def wpO (d : Option Nat) (op : Op) (ty : TypeId) (K : KOp) : Prop := bif effFirst op then (wpO0 H T look obj d op ty K ∨ wpEff H look obj d op ty K) else wpO0 H T look obj d op ty K
end

def inRange (n : Nat) : Option Nat → Bool
  | .none => true
  | some d => Nat.blt d n

/-- A slice held against nil: which question, the type, the slice. -/
def nilCmp : Op → Option (Bool × TypeId × Operand)
  | .binOp .eql t x (.const (.slice .none 0 0)) _ => some (true, t, x)
  | .binOp .neq t x (.const (.slice .none 0 0)) _ => some (false, t, x)
  | _ => .none
def slOf (T : Tab) (look : Operand → SV) (obj : Objs) (t : TypeId) (x : Operand) : Option (List (List CV)) :=
  match T.get t with
  | some { desc := .slice _, .. } => match look x with
    | .rs s g => match obj s with
      | (g', .arr _ _ ds _) => bif Nat.beq g g' then some ds else .none
      | _ => .none
    | s => (asSl s).map (·.2)
  | _ => .none
def wpNil (T : Tab) (st : St) (q : Bool) (t : TypeId) (x : Operand) (K : SV → Prop) : Prop :=
  match slOf T (look st) st.obj t x with
  | some ds => ∀ b : Bool, (b = true → ds = []) → K (bif (b == q) then .kt else .kf)
  | .none => False
def isJoin : Code → Bool
  | .cond _ _ _ => true
  | .block _ _ => true
  | _ => false
section
variable (H : Orc) (T : Tab) (n : Nat)
def wpOps (all : List Oper) : List Oper → St → (St → Prop) → Prop
  | [], st, K => K st
  | o :: rest, st, K =>
    bif inRange n o.dst then
      match o.guard with
      | .none => match nilCmp o.op with
        | some (q, t, x) => wpNil T st q t x fun r => wpOps all rest ⟨put st.env o.dst r, st.obj⟩ K
        | .none => wpO H T (look st) st.obj o.dst o.op o.type fun r _ u => wpOps all rest ⟨put st.env o.dst r, upd st.obj u⟩ K
      | some (j, want) => match (all[j]?).bind (·.dst) with
        | .none => False
        | some dj => match st.env dj with
          | .kt => bif want then wpO H T (look st) st.obj o.dst o.op o.type fun r _ u => wpOps all rest ⟨put st.env o.dst r, upd st.obj u⟩ K
              else wpOps all rest ⟨put st.env o.dst .un, st.obj⟩ K
          | .kf => bif want then wpOps all rest ⟨put st.env o.dst .un, st.obj⟩ K
              else wpO H T (look st) st.obj o.dst o.op o.type fun r _ u => wpOps all rest ⟨put st.env o.dst r, upd st.obj u⟩ K
          | .c (.v (.bool b)) =>
              (b = true → bif want then wpO H T (look ⟨put st.env (some dj) .kt, st.obj⟩) st.obj o.dst o.op o.type fun r _ u => wpOps all rest ⟨put (put st.env (some dj) .kt) o.dst r, upd st.obj u⟩ K
                else wpOps all rest ⟨put (put st.env (some dj) .kt) o.dst .un, st.obj⟩ K) ∧
              (b = false → bif want then wpOps all rest ⟨put (put st.env (some dj) .kf) o.dst .un, st.obj⟩ K
                else wpO H T (look ⟨put st.env (some dj) .kf, st.obj⟩) st.obj o.dst o.op o.type fun r _ u => wpOps all rest ⟨put (put st.env (some dj) .kf) o.dst r, upd st.obj u⟩ K)
          | .un => wpOps all rest ⟨put st.env o.dst .un, st.obj⟩ K
          | _ => False
    else False

structure Ent where
  r : SV
  rd : List Nat
  wr : Upd
/-- Is operation number i the guard of another one? -/
def isGuard (all : List Oper) (i : Nat) : Bool := all.any fun o => match o.guard with | some (j, _) => Nat.beq j i | .none => false
def Ent.sites (e : Ent) : List Nat := e.wr.map (·.1)
def stepSt (st : St) (o : Oper) (e : Ent) : St := ⟨put st.env o.dst e.r, upd st.obj e.wr⟩
def memN (x : Nat) : List Nat → Bool
  | [] => false
  | y :: r => bif Nat.beq x y then true else memN x r
def disj : List Nat → List Nat → Bool
  | [], _ => true
  | x :: r, l => bif memN x l then false else disj r l
/-- No two operations whose order is open stand in each other's way. -/
def apartE (ops : Array Oper) (oi ok : Oper) (ei ek : Ent) : Bool :=
  oi.apart ops ok && disj ei.sites (ek.rd ++ ek.sites) && disj ek.sites ei.rd
def noConfRow (ops : Array Oper) (mask : Nat) (ok : Oper) (ek : Ent) : Nat → List (Oper × Ent) → Bool
  | _, [] => true
  | i, (oi, ei) :: r => bif Nat.testBit mask i || apartE ops oi ok ei ek then noConfRow ops mask ok ek (i + 1) r else false
def noConfGo (ops : Array Oper) : List Nat → List (Oper × Ent) → List (Oper × Ent) → Bool
  | _, _, [] => true
  | [], _, _ :: _ => false
  | m :: ms, done, (o, e) :: r => bif noConfRow ops m o e 0 done then noConfGo ops ms (done ++ [(o, e)]) r else false
def edgesOk : Nat → List Oper → Bool
  | _, [] => true
  | i, o :: r => bif o.after.all (fun e => !Region.binds .any e || Nat.blt e.on i) then edgesOk (i + 1) r else false
def noConf (ops : List Oper) (tr : List Ent) : Bool := noConfGo ops.toArray (Region.before ops.toArray).toList [] (ops.zip tr) && edgesOk 0 ops

/-- The result of an operation that guards others is parted into its two cases. -/
def refineK (guards : Bool) (r : SV) (K : SV → Prop) : Prop :=
  bif guards then (match r with
    | .c (.v (.bool b)) => (b = true → K .kt) ∧ (b = false → K .kf)
    | r => K r)
  else K r
def wpTr (all : List Oper) : Nat → List Oper → St → List Ent → (List Ent → St → Prop) → Prop
  | _, [], st, tr, K => K tr.reverse st
  | i, o :: rest, st, tr, K =>
    bif inRange n o.dst then
      match o.guard with
      | .none => wpO H T (look st) st.obj o.dst o.op o.type fun r rd u => refineK (isGuard all i) r fun r => wpTr all (i + 1) rest (stepSt st o ⟨r, rd, u⟩) (⟨r, rd, u⟩ :: tr) K
      | some (j, want) => match (all[j]?).bind (·.dst) with
        | .none => False
        | some dj => match st.env dj with
          | .kt => bif want then wpO H T (look st) st.obj o.dst o.op o.type fun r rd u => refineK (isGuard all i) r fun r => wpTr all (i + 1) rest (stepSt st o ⟨r, rd, u⟩) (⟨r, rd, u⟩ :: tr) K
              else wpTr all (i + 1) rest (stepSt st o ⟨.un, [], []⟩) (⟨.un, [], []⟩ :: tr) K
          | .kf => bif want then wpTr all (i + 1) rest (stepSt st o ⟨.un, [], []⟩) (⟨.un, [], []⟩ :: tr) K
              else wpO H T (look st) st.obj o.dst o.op o.type fun r rd u => refineK (isGuard all i) r fun r => wpTr all (i + 1) rest (stepSt st o ⟨r, rd, u⟩) (⟨r, rd, u⟩ :: tr) K
          | .un => wpTr all (i + 1) rest (stepSt st o ⟨.un, [], []⟩) (⟨.un, [], []⟩ :: tr) K
          | _ => False
    else False
def wpDraw (ops : List Oper) (st : St) (K : St → Prop) : Prop :=
  wpTr H T n ops 0 ops st [] fun tr st' => noConf ops tr = true ∧ K st'

/-- What is forgotten at a loop's head: slots become 'any', generations begin anew. -/
def normS1 (obj : Objs) : SV → SV
  | .ap t g sz es => match obj t with
    | (g', .tok _ _) => bif Nat.beq g g' then .ap t 0 sz es else .c (.sl sz es)
    | _ => .c (.sl sz es)
  | .pm t g off => match obj t with
    | (g', .var _) => bif Nat.beq g g' then .pm t 0 off else .any
    | (g', .ro _) => bif Nat.beq g g' then .pm t 0 off else .any
    | (g', .varx _) => bif Nat.beq g g' then .pm t 0 off else .any
    | _ => .any
  | .fnr _ _ => .any
  | .agx _ => .any
  | .rs t g => match obj t with
    | (g', .arr _ _ _ _) => bif Nat.beq g g' then .rs t 0 else .any
    | _ => .any
  | .mr t g => match obj t with
    | (g', .map _) => bif Nat.beq g g' then .mr t 0 else .any
    | _ => .any
  | .pe t g n off => match obj t with
    | (g', .arr _ _ _ _) => bif Nat.beq g g' then .pe t 0 n off else .any
    | _ => .any
  | .kt => .c (.v (.bool true))
  | .kf => .c (.v (.bool false))
  | s => s
def normSV (obj : Objs) : SV → SV
  | .fnr f caps => .fnr f (caps.map (normS1 obj))
  | s => normS1 obj s
def live1 (obj : Objs) : CV → Bool
  | .rs t g => match obj t with
    | (g', .arr _ _ _ _) => Nat.beq g g'
    | _ => false
  | .pr t g _ => match obj t with
    | (g', .var _) => Nat.beq g g'
    | (g', .ro _) => Nat.beq g g'
    | (g', .varx _) => Nat.beq g g'
    | _ => false
  | .mr t g => match obj t with
    | (g', .map _) => Nat.beq g g'
    | _ => false
  | .fr _ _ => false
  | _ => true
def liveF (obj : Objs) : CV → Bool
  | .fr _ caps => caps.all (live1 obj)
  | c => live1 obj c
def liveC (obj : Objs) (cs : List CV) : Bool := cs.all (liveF obj)
def normC1 : CV → CV
  | .rs t _ => .rs t 0
  | .pr t _ off => .pr t 0 off
  | .mr t _ => .mr t 0
  | c => c
def normCV : CV → CV
  | .fr f caps => .fr f (caps.map normC1)
  | c => normC1 c
def normO (obj : Objs) : AObj → AObj
  | .varx cs => bif liveC obj cs then .varx (cs.map normCV) else .none
  | .arr el sz ds (some (m, cs)) => bif liveC obj cs then .arr el sz ds (some (m, cs.map normCV)) else .none
  | o => o
def PIN : Nat := 4294967296
def normOx (st : St) (s : Nat) : AObj := bif Nat.blt s PIN || Nat.beq (st.obj s).1 0 then normO st.obj (st.obj s).2 else .none
def Weak (st st' : St) : Prop :=
  (∀ t, st'.env t = .any ∨ st'.env t = normSV st.obj (st.env t)) ∧ ∀ s, st'.obj s = (0, .none) ∨ st'.obj s = (0, normOx st s)

def wpA : Code → (Exit → St → Prop) → St → Prop
  | .skip, K, st => K .normal st
  | .region _ ops draw, K, st => bif draw then wpDraw H T n ops.toList st (K .normal) else wpOps H T n ops.toList ops.toList st (K .normal)
  | .seq a b, K, st => bif isJoin a then wpA a (fun e st => match e with | .normal => wpA b K st ∨ ∃ st0, Weak st st0 ∧ wpA b K st0 | e => K e st) st
      else wpA a (fun e st => match e with | .normal => wpA b K st | e => K e st) st
  | .cond c a b, K, st => match look st c with
    | .kt => wpA a K st
    | .kf => wpA b K st
    | .c (.v (.bool q)) => (q = true → wpA a K st) ∧ (q = false → wpA b K st)
    | _ => False
  | .block id body, K, st => wpA body (fun e st => match e with | .exit j => bif Nat.beq j id then K .normal st else K e st | e => K e st) st
  | .loop body, K, st => ∃ I : Nat → St → Prop, (∃ k st0, Weak st st0 ∧ I k st0) ∧
      ∀ k st1, I k st1 → wpA body (fun e st2 => match e with | .normal => ∃ k' st3, k' < k ∧ Weak st2 st3 ∧ I k' st3 | e => K e st2) st1
  | .exit id, K, st => K (.exit id) st
  | .ret, K, st => K .ret st
  | _, _, _ => False
end

def mkEnv : List (Nat × SV) → Nat → SV
  | [], _ => .any
  | (k, s) :: r, t => bif Nat.beq k t then s else mkEnv r t
def mkObj : List (Nat × AObj) → Objs
  | [], _ => (0, .none)
  | (k, o) :: r, s => bif Nat.beq k s then (0, o) else mkObj r s
def EnvOk (st : St) : List (Nat × SV) → Prop
  | [] => True
  | (t, s) :: r => normSV st.obj (st.env t) = s ∧ EnvOk st r
def ObjsOk (st : St) : List (Nat × AObj) → Prop
  | [] => True
  | (t, o) :: r => normOx st t = o ∧ ObjsOk st r
theorem weak_mk {st : St} {l : List (Nat × SV)} {m : List (Nat × AObj)} (h : EnvOk st l) (h' : ObjsOk st m) : Weak st ⟨mkEnv l, mkObj m⟩ := by
  constructor
  · intro t
    induction l with
    | nil => exact .inl rfl
    | cons p r ih =>
      obtain ⟨k, s⟩ := p
      simp only [mkEnv]
      cases hb : Nat.beq k t with
      | false => exact ih h.2
      | true =>
        have := Nat.eq_of_beq_eq_true hb
        subst this
        exact .inr h.1.symm
  · intro t
    induction m with
    | nil => exact .inl rfl
    | cons p r ih =>
      obtain ⟨k, o⟩ := p
      simp only [mkObj]
      cases hb : Nat.beq k t with
      | false => exact ih h'.2
      | true =>
        have := Nat.eq_of_beq_eq_true hb
        subst this
        exact .inr (by rw [h'.1]; rfl)

def initEnv : List CV → Nat → SV
  | [], _ => .any
  | c :: _, 0 => .c c
  | _ :: r, t + 1 => initEnv r t
def initSt (args : List CV) : St := ⟨initEnv args, fun _ => (0, .none)⟩

def resC (T : Tab) (st : St) : ResultVar → Option CV
  | .tmp t => asC (st.env t)
  | .cell x t => match T.get t, st.env x with
    | some i, .pm s g off => match st.obj s with
      | (g', .var cs) => bif Nat.beq g g' then part i cs off else .none
      | _ => .none
    | _, _ => .none
/-- A result that is a slice which was written, closed. -/
def resX (T : Tab) (st : St) (rv : ResultVar) (c : CV) : Prop :=
  match rv with
  | .tmp t => match st.env t with
    | .rs s g => match st.obj s with
      | (g', .arr _ sz ds foc) => Nat.beq g g' = true ∧ ∃ ds', c = .sl sz ds' ∧ (match foc with
        | .none => ds' = ds
        | some (m, cs) => ∃ cs', frzCells st.obj cs = some cs' ∧ ds' = ds.set m cs')
      | _ => False
    | .agx cs => ∃ cs', frzCells st.obj cs = some cs' ∧ c = .agg cs'
    | .mr s g => match st.obj s with
      | (g', .map es) => Nat.beq g g' = true ∧ c = .mp es
      | _ => False
    | _ => resC T st rv = some c
  | .cell x t => match T.get t, st.env x with
    | some i, .pm s g off => match st.obj s with
      | (g', .varx cs) => Nat.beq g g' = true ∧ ∃ cs', frzCells st.obj cs = some cs' ∧ part i cs' off = some c
      | _ => resC T st rv = some c
    | _, _ => False
def resXs (T : Tab) (st : St) : List ResultVar → List CV → Prop
  | [], cs => cs = []
  | r :: rs, cs => match cs with
    | [] => False
    | c :: cs => resX T st r c ∧ resXs T st rs cs
def resAll (T : Tab) (st : St) : List ResultVar → Option (List CV)
  | [] => some []
  | r :: rs => match resC T st r, resAll T st rs with
    | some c, some cs => some (c :: cs)
    | _, _ => .none
def resVal (T : Tab) (st : St) (rs : List ResultVar) : Option CV :=
  match rs with
  | [x] => resC T st x
  | rs => (resAll T st rs).map CV.tup
/-- Results with slices of the call's own: τ names them. -/
def backC (τ : List (Nat × Nat)) : CV → Option CV
  | .ow j => match τ[j]? with
    | some (t, g) => some (.rs t g)
    | .none => .none
  | .rs _ _ => .none
  | .pr _ _ _ => .none
  | .mr _ _ => .none
  | .fr _ _ => .none
  | c => some c
def backL (τ : List (Nat × Nat)) : List CV → Option (List CV)
  | [] => some []
  | c :: r => match backC τ c, backL τ r with
    | some c, some cs => some (c :: cs)
    | _, _ => .none
def backF (τ : List (Nat × Nat)) : Option (Nat × List CV) → Option (Option (Nat × List CV))
  | .none => some .none
  | some (m, cs) => (backL τ cs).map fun cs => some (m, cs)
def osOk (st : St) (τ : List (Nat × Nat)) : List (Nat × Nat) → List (Nat × Nat × List (List CV) × Option (Nat × List CV)) → Prop
  | [], os => os = []
  | (t, g) :: r, os => match os with
    | [] => False
    | (el, sz, ds, foc) :: os => (match backF τ foc with
      | some f => st.obj t = (g, .arr el sz ds f)
      | .none => False) ∧ osOk st τ r os
def nodupB : List Nat → Bool
  | [] => true
  | x :: r => bif r.any (Nat.beq x) then false else nodupB r
def resW (T : Tab) (st : St) (rs : List ResultVar) (r : CV) (os : List (Nat × Nat × List (List CV) × Option (Nat × List CV))) : Prop :=
  ∃ τ : List (Nat × Nat), nodupB (τ.map (·.1)) = true ∧ osOk st τ τ os ∧ match rs, r with
    | [.tmp t], .ow j => (τ[j]?).map (fun p => SV.rs p.1 p.2) = some (st.env t)
    | [.tmp t], .agg cs => (backL τ cs).map SV.agx = some (st.env t)
    | [.cell x t], .agg cs => (match T.get t, st.env x with
      | some i, .pm s g off => match st.obj s with
        | (g', .varx ys) => Nat.beq g g' = true ∧ ∃ zs, backL τ cs = some zs ∧ part i ys off = some (.agg zs)
        | _ => False
      | _, _ => False)
    | _, _ => False
def resFin (T : Tab) (rs : List ResultVar) (r : CV) (st : St) : Prop :=
  (r.pure = true ∧ resVal T st rs = some r) ∨ (match r with
    | .wo r os => resW T st rs r os
    | .tup cs => resXs T st rs cs ∧ rs.length ≠ 1
    | r => match rs with | [x] => resX T st x r | _ => False)
def resOk (T : Tab) (rs : List ResultVar) (r : CV) (e : Exit) (st : St) : Prop :=
  match e with
  | .ret => resFin T rs r st
  | .normal => resFin T rs r st
  | _ => False
end Go.Abs
