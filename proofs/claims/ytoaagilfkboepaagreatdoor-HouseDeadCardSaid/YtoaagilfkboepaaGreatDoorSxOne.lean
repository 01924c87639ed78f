/-
  SX, part 1: an abstract interpreter over the model's own code: abstract values, an abstract heap, the operations, regions, code, calls. Definitions alone.
-/
import GoSem.Core.Code
import GoSem.Core.View
import GoSem.Core.Region
import GoSem.Op.String
import Derived.Laws.Sem
import Derived.Laws.World
set_option linter.unusedSimpArgs false
set_option linter.unusedVariables false
namespace Go.Sx

/-! ### Values -/

/-- A scalar that is written down: a text, an integer. -/
inductive Scal where
  | str (s : List UInt8)
  | int (k : IntKind) (n : Int)
  deriving Inhabited

def Scal.same : Scal → Scal → Bool
  | .str a, .str b => a == b
  | .int k a, .int l b => k == l && a == b
  | _, _ => false

/-- What may be asked of a scalar: its length, an operator with a constant ('left': the scalar stands at the left), is it short? -/
inductive SQ where
  | len
  | short
  | pred (k : Nat)
  | drop (k : Nat)
  | bin (op : BinOp) (left : Bool) (c : Scal)

def SQ.same : SQ → SQ → Bool
  | .len, .len => true
  | .short, .short => true
  | .pred j, .pred k => j == k
  | .drop j, .drop k => j == k
  | .bin o a c, .bin p b d => o == p && a == b && c.same d
  | _, _ => false

mutual
/-- A scalar that the kernel need not look into: of it some answers are known. The tag is for whoever wants to know it again. -/
inductive Sym where
  | mk (val : Scal) (tag : Nat) (fs : SFacts)
inductive SFacts where
  | nil
  | cons (q : SQ) (r : SRes) (rest : SFacts)
inductive SRes where
  | bool (b : Bool)
  | int (k : IntKind) (n : Int)
  | sym (s : Sym)
end

instance : Inhabited Sym := ⟨.mk (.str []) 0 .nil⟩

def Sym.val : Sym → Scal
  | .mk v _ _ => v
def Sym.tag : Sym → Nat
  | .mk _ t _ => t

def SFacts.ask (q : SQ) : SFacts → Option SRes
  | .nil => none
  | .cons p r rest => if p.same q then some r else rest.ask q

def Sym.ask : Sym → SQ → Option SRes
  | .mk _ _ fs, q => fs.ask q

/-- An abstract value: blocks go by abstract numbers; of a slice's capacity a lower bound is known ('ex': it is just that). -/
inductive AVal where
  | bool (b : Bool)
  | int (k : IntKind) (n : Int)
  | str (s : List UInt8)
  | nilptr
  | ptr (b off : Nat)
  | nilslice
  | slice (b off len cap sz : Nat) (ex : Bool)
  | nilmap
  | map (b : Nat)
  | func (fn : FuncId) (first captured : List AVal)
  | nilFunc
  | iface (t : TypeId) (v : AVal)
  | nilIface
  | agg (cs : List AVal)
  | tuple (cs : List AVal)
  | sym (s : Sym)
  deriving Inhabited

def Scal.toAVal : Scal → AVal
  | .str s => .str s
  | .int k n => .int k n

def AVal.scal : AVal → Option Scal
  | .str s => some (.str s)
  | .int k n => some (.int k n)
  | _ => none

def SRes.toAVal : SRes → AVal
  | .bool b => .bool b
  | .int k n => .int k n
  | .sym s => .sym s

/-- What a value is, written down. -/
def AVal.conc : AVal → AVal
  | .sym s => s.val.toAVal
  | v => v

def AVal.cells : AVal → List AVal
  | .agg cs => cs
  | v => [v]

/-- Of one cell. -/
def AVal.one : AVal → Bool
  | .agg _ | .tuple _ => false
  | _ => true

/-- The values of constants: of one cell. -/
def ofScalar : Value → Option AVal
  | .bool b => some (.bool b)
  | .int k n => some (.int k n)
  | .string s => some (.str s.data.toList)
  | .pointer none => some .nilptr
  | .slice none 0 0 => some .nilslice
  | .map none => some .nilmap
  | .nilFunc => some .nilFunc
  | .nilIface => some .nilIface
  | .tuple vs => if vs.toList.isEmpty then some (.tuple []) else none
  | _ => none

def ofScalars : List Value → Option (List AVal)
  | [] => some []
  | v :: vs => match ofScalar v, ofScalars vs with
    | some a, some l => some (a :: l)
    | _, _ => none

def ofConst : Value → Option AVal
  | .agg cs => match ofScalars cs.toList with
    | some l => if l.all AVal.one then some (.agg l) else none
    | none => none
  | v => ofScalar v

mutual
def AVal.same : AVal → AVal → Bool
  | .bool a, .bool b => a == b
  | .int k a, .int l b => k == l && a == b
  | .str a, .str b => a == b
  | .nilptr, .nilptr => true
  | .ptr a i, .ptr b j => a == b && i == j
  | .nilslice, .nilslice => true
  | .slice a i n c z e, .slice b j m d y f => a == b && i == j && n == m && c == d && z == y && e == f
  | .nilmap, .nilmap => true
  | .map a, .map b => a == b
  | .func f a b, .func g c d => f == g && AVal.sames a c && AVal.sames b d
  | .nilFunc, .nilFunc => true
  | .iface t v, .iface u w => t == u && AVal.same v w
  | .nilIface, .nilIface => true
  | .agg a, .agg b => AVal.sames a b
  | .tuple a, .tuple b => AVal.sames a b
  | _, _ => false
def AVal.sames : List AVal → List AVal → Bool
  | [], [] => true
  | a :: l, b :: m => AVal.same a b && AVal.sames l m
  | _, _ => false
end

/-! ### The heap -/

structure AEntry where
  key : AVal
  val : AVal
  born : Nat
  deriving Inhabited

/-- What a block is: a row of cells ('ro': only to be read; 'ty': where it is known, the type that the model holds it as, and whether these are all of the block's cells), a map, something that is never looked into. -/
inductive AObj where
  | cells (vs : List AVal) (ro : Bool) (ty : Option (TypeId × Bool))
  | map (es : List AEntry) (clock : Nat)
  | opaque_
  deriving Inhabited

/-- A tree over numbers: 0 at the top, odd ones at the left, even ones at the right. -/
inductive Tr (α : Type) where
  | leaf
  | node (l : Tr α) (v : Option α) (r : Tr α)

def Tr.get {α : Type} : Tr α → Nat → Option α
  | .leaf, _ => none
  | .node l v r, n => if n = 0 then v else if n % 2 = 1 then l.get (n / 2) else r.get (n / 2 - 1)

def Tr.setF {α : Type} (x : Option α) : Nat → Tr α → Nat → Tr α
  | 0, t, _ => t
  | _ + 1, .leaf, 0 => .node .leaf x .leaf
  | _ + 1, .node l _ r, 0 => .node l x r
  | f + 1, .leaf, n + 1 => if (n + 1) % 2 = 1 then .node (Tr.setF x f .leaf ((n + 1) / 2)) none .leaf else .node .leaf none (Tr.setF x f .leaf ((n + 1) / 2 - 1))
  | f + 1, .node l v r, n + 1 => if (n + 1) % 2 = 1 then .node (Tr.setF x f l ((n + 1) / 2)) v r else .node l v (Tr.setF x f r ((n + 1) / 2 - 1))

def Tr.set {α : Type} (t : Tr α) (n : Nat) (x : Option α) : Tr α := Tr.setF x (n + 1) t n

/-- An abstract heap: blocks, and the least number that no block has had. -/
structure AHeap where
  t : Tr AObj
  next : Nat

def AHeap.get (H : AHeap) (b : Nat) : Option AObj := H.t.get b
def AHeap.set (H : AHeap) (b : Nat) (o : AObj) : AHeap := { H with t := H.t.set b (some o) }
def AHeap.kill (H : AHeap) (b : Nat) : AHeap := { H with t := H.t.set b none }
def AHeap.bump (H : AHeap) (n : Nat) : AHeap := { H with next := H.next + n }

/-! ### Types and functions, as the interpreter sees them -/

/-- What is asked of a type. -/
structure TInfo where
  desc : TypeDesc
  size : Nat
  bytes : Nat
  zero : AVal
  plain : Bool
  methods : List (String × FuncId × Bool)

def TInfo.isAgg (i : TInfo) : Bool := match i.desc with
  | .struct _ | .array _ _ => true
  | _ => false

abbrev CallFn := FuncId → List AVal → AHeap → Option (AVal × AHeap)

/-- The tables: types, functions with bodies, functions that are answered by a Lean function. -/
structure Cfg where
  types : TypeId → Option TInfo
  funcs : FuncId → Option Func
  prims : FuncId → Option (List AVal → AHeap → Option (AVal × AHeap))

/-! ### Operands -/

abbrev AFrame := List AVal

def AFrame.get (fr : AFrame) : Operand → Option AVal
  | .tmp t => fr[t]?
  | .const v => ofConst v
  | .global _ => none
  | .func f => some (.func f [] [])

def getAll (fr : AFrame) : List Operand → Option (List AVal)
  | [] => some []
  | x :: xs => match fr.get x, getAll fr xs with
    | some v, some vs => some (v :: vs)
    | _, _ => none

/-! ### Cells -/

def readCells (vs : List AVal) (off n : Nat) : Option (List AVal) :=
  let l := (vs.drop off).take n
  if l.length = n then some l else none

/-- Cells laid over others, from a place on; all of them must be there. -/
def writeCells (vs : List AVal) (off : Nat) (new : List AVal) : Option (List AVal) :=
  if off + new.length ≤ vs.length then some (vs.take off ++ (new ++ vs.drop (off + new.length))) else none

def partOf (i : TInfo) (vs : List AVal) (off : Nat) : Option AVal :=
  if i.isAgg then (readCells vs off i.size).map .agg else vs[off]?

/-! ### Operators -/

/-- Are two scalars the same? Only of one kind. -/
def scalarEq : AVal → AVal → Option Bool
  | .bool a, .bool b => some (a == b)
  | .int k a, .int l b => if k = l then some (a == b) else none
  | .str a, .str b => some (a == b)
  | _, _ => none

/-- A type whose values are compared cell by cell: a bool, an integer, a string. -/
def scalarDesc : TypeDesc → Bool
  | .bool | .int _ | .string => true
  | _ => false

/-- '==' at a type that is no struct: scalars; something that may be nil against the nil of its kind. -/
def aEql : TypeDesc → AVal → AVal → Option Bool
  | .bool, .bool a, .bool b => some (a == b)
  | .int _, .int k a, .int l b => if k = l then some (a == b) else none
  | .string, .str a, .str b => some (a == b)
  | .pointer _, .nilptr, .nilptr => some true
  | .pointer _, .nilptr, .ptr _ _ => some false
  | .pointer _, .ptr _ _, .nilptr => some false
  | .slice _, .nilslice, .nilslice => some true
  | .slice _, .nilslice, .slice _ _ _ _ _ _ => some false
  | .slice _, .slice _ _ _ _ _ _, .nilslice => some false
  | .map _ _, .nilmap, .nilmap => some true
  | .map _ _, .nilmap, .map _ => some false
  | .map _ _, .map _, .nilmap => some false
  | .func _ _ _, .nilFunc, .nilFunc => some true
  | .func _ _ _, .nilFunc, .func _ _ _ => some false
  | .func _ _ _, .func _ _ _, .nilFunc => some false
  | .interface _, .iface _ _, .nilIface => some false
  | .interface _, .nilIface, .iface _ _ => some false
  | .interface _, .nilIface, .nilIface => some true
  | _, _, _ => none

/-- The fields of two structs, field by field: scalars, one cell each. -/
def aEqlFields (types : TypeId → Option TInfo) : List Field → Nat → List AVal → List AVal → Option Bool
  | [], _, [], [] => some true
  | f :: fs, n, a :: l, b :: m => if f.offset = n ∧ f.name ≠ "_" then
      match types f.type with
      | some i => if scalarDesc i.desc then
          match aEql i.desc a b with
          | some true => aEqlFields types fs (n + 1) l m
          | some false => some false
          | none => none
        else none
      | none => none
    else none
  | _, _, _, _ => none

/-- '==' at a type ('plain': structs and arrays of it may be held against each other), of values that are written down. -/
def aEqualC (types : TypeId → Option TInfo) (i : TInfo) (x y : AVal) : Option Bool :=
  match x, y with
  | .agg a, .agg b => if i.plain then match i.desc with
    | .struct fs => aEqlFields types fs.toList 0 a b
    | _ => none
    else none
  | x, y => aEql i.desc x y

def askBool (s : Sym) (q : SQ) : Option Bool :=
  match s.ask q with
  | some (.bool b) => some b
  | _ => none

/-- '==' at a type. -/
def aEqual (types : TypeId → Option TInfo) (i : TInfo) (x y : AVal) : Option Bool :=
  match x, y with
  | .sym _, .sym _ => none
  | .sym s, .str c => match i.desc with
    | .string => askBool s (.bin .eql true (.str c))
    | _ => none
  | .sym s, .int k n => match i.desc with
    | .int _ => askBool s (.bin .eql true (.int k n))
    | _ => none
  | .str c, .sym s => match i.desc with
    | .string => askBool s (.bin .eql false (.str c))
    | _ => none
  | .int k n, .sym s => match i.desc with
    | .int _ => askBool s (.bin .eql false (.int k n))
    | _ => none
  | .sym _, _ => none
  | _, .sym _ => none
  | x, y => aEqualC types i x y

def bytesLt : List UInt8 → List UInt8 → Bool := Go.Op.bytesLess

/-- Operators but '==' and '!=', on values that are written down. -/
def aBinC (op : BinOp) (x y : AVal) : Option AVal :=
  match x, y with
  | .int k a, .int l b =>
    if k = l then match op with
      | .add => some (.int k (k.wrap (a + b)))
      | .sub => some (.int k (k.wrap (a - b)))
      | .mul => some (.int k (k.wrap (a * b)))
      | .quo => if b = 0 then none else some (.int k (k.wrap (a.tdiv b)))
      | .rem => if b = 0 then none else some (.int k (a.tmod b))
      | .and => some (.int k (k.wrap (BitVec.ofInt k.bits a &&& BitVec.ofInt k.bits b).toNat))
      | .or => some (.int k (k.wrap (BitVec.ofInt k.bits a ||| BitVec.ofInt k.bits b).toNat))
      | .andNot => some (.int k (k.wrap (BitVec.ofInt k.bits a &&& ~~~(BitVec.ofInt k.bits b)).toNat))
      | .lss => some (.bool (decide (a < b)))
      | .leq => some (.bool (decide (a ≤ b)))
      | .gtr => some (.bool (decide (a > b)))
      | .geq => some (.bool (decide (a ≥ b)))
      | _ => none
    else none
  | .str a, .str b => match op with
    | .add => if a.length + b.length ≤ 2 ^ 40 then some (.str (a ++ b)) else none
    | .lss => some (.bool (bytesLt a b))
    | .leq => some (.bool (bytesLt a b || a == b))
    | .gtr => some (.bool !(bytesLt a b || a == b))
    | .geq => some (.bool !(bytesLt a b))
    | _ => none
  | _, _ => none

/-- Operators but '==' and '!='. -/
def aBinS (op : BinOp) (x y : AVal) : Option AVal :=
  match x, y with
  | .sym _, .sym _ => none
  | .sym s, y => match y.scal with
    | some c => (s.ask (.bin op true c)).map SRes.toAVal
    | none => none
  | x, .sym s => match x.scal with
    | some c => (s.ask (.bin op false c)).map SRes.toAVal
    | none => none
  | x, y => aBinC op x y

/-- May this be a user's name? Small letters, one to twelve. -/
def nameB (l : List UInt8) : Bool := l.all (fun c => decide (97 ≤ c.toNat) && decide (c.toNat ≤ 122)) && (decide (1 ≤ l.length) && decide (l.length ≤ 12))

/-- The answer to a question. -/
def qEval : SQ → Scal → Option AVal
  | .len, .str s => some (.int .i64 s.length)
  | .short, .str s => some (.bool (decide (s.length ≤ 1000)))
  | .pred 0, .str s => some (.bool (nameB s))
  | .pred 1, .str s => some (.bool (s.all fun c => c != 32))
  | .pred 2, .str s => some (.bool (s.head? == some 33))
  | .pred 3, .str s => some (.bool (s.take 2 == [33, 32]))
  | .drop k, .str s => some (.str (s.drop k))
  | .bin .eql true c, v => match v, c with
    | .str a, .str b => some (.bool (a == b))
    | .int k a, .int l b => if k = l then some (.bool (a == b)) else none
    | _, _ => none
  | .bin .eql false c, v => match c, v with
    | .str a, .str b => some (.bool (a == b))
    | .int k a, .int l b => if k = l then some (.bool (a == b)) else none
    | _, _ => none
  | .bin op true c, v => aBinC op v.toAVal c.toAVal
  | .bin op false c, v => aBinC op c.toAVal v.toAVal
  | _, _ => none

mutual
/-- All that is said of a scalar is true. -/
def Sym.Ok : Sym → Prop
  | .mk v _ fs => fs.Ok v
def SFacts.Ok (v : Scal) : SFacts → Prop
  | .nil => True
  | .cons q r rest => qEval q v = some r.toAVal.conc ∧ r.Ok ∧ rest.Ok v
def SRes.Ok : SRes → Prop
  | .bool _ => True
  | .int _ _ => True
  | .sym s => s.Ok
end

def aBin (types : TypeId → Option TInfo) (op : BinOp) (t : TypeId) (x y : AVal) : Option AVal :=
  match op with
  | .eql => match types t with
    | some i => match aEqual types i x y with
      | some b => some (.bool b)
      | none => none
    | none => none
  | .neq => match types t with
    | some i => match aEqual types i x y with
      | some b => some (.bool !b)
      | none => none
    | none => none
  | _ => aBinS op x y

def aUn (op : UnOp) (x : AVal) : Option AVal :=
  match op, x with
  | .neg, .int k n => some (.int k (k.wrap (0 - n)))
  | .not, .bool b => some (.bool !b)
  | _, _ => none

/-- A bound of a slice expression: from 0 to a limit. -/
def aBound (x : AVal) (most : Nat) : Option Nat :=
  match x with
  | .int _ i => if 0 ≤ i ∧ i ≤ most then some i.toNat else none
  | _ => none

/-- The three bounds of a slice expression over something of a length and a capacity: low, high, max. -/
def aBounds (len cap : Nat) (lo hi mx : Option AVal) : Option (Nat × Nat × Nat) :=
  match (match mx with | some v => aBound v cap | none => some cap) with
  | none => none
  | some m =>
    match (match hi, mx with
      | some v, some _ => aBound v m
      | some v, none => aBound v m
      | none, none => some len
      | none, some _ => none) with
    | none => none
    | some h =>
      match (match lo with | some v => aBound v h | none => some 0) with
      | none => none
      | some l => some (l, h, m)

def aSlice (types : TypeId → Option TInfo) (t : TypeId) (x : AVal) (lo hi mx : Option AVal) : Option AVal :=
  match types t with
  | none => none
  | some i => match i.desc, x with
    | .string, .str s => if mx.isSome then none else
      match aBounds s.length s.length lo hi none with
      | some (l, h, _) => some (.str ((s.drop l).take (h - l)))
      | none => none
    | .slice e, .slice b off len cap sz ex => match types e with
      | none => none
      | some ei => if ei.size = sz then
          match aBounds len cap lo hi mx with
          | some (l, h, m) => some (.slice b (off + l * sz) (h - l) (m - l) sz (ex || mx.isSome))
          | none => none
        else none
    | .slice e, .nilslice => match types e, aBounds 0 0 lo hi mx with
      | some _, some _ => some .nilslice
      | _, _ => none
    | _, _ => none

/-! ### Operations without calls -/

/-- Parts laid into cells. -/
def aFill (place : Nat → Option (Nat × Nat)) (cells : List AVal) : List (Nat × AVal) → Option (List AVal)
  | [] => some cells
  | (i, v) :: rest => match place i with
    | none => none
    | some (off, size) => if v.cells.length = size then
        match writeCells cells off v.cells with
        | some cells' => aFill place cells' rest
        | none => none
      else none

def getParts (fr : AFrame) : List (Nat × Operand) → Option (List (Nat × AVal))
  | [] => some []
  | (i, x) :: xs => match fr.get x, getParts fr xs with
    | some v, some vs => some ((i, v) :: vs)
    | _, _ => none

def fieldPlaces (types : TypeId → Option TInfo) (fs : List Field) (i : Nat) : Option (Nat × Nat) :=
  match fs[i]? with
  | none => none
  | some f => match types f.type with
    | some j => some (f.offset, j.size)
    | none => none

def aBuild (types : TypeId → Option TInfo) (t : TypeId) (parts : List (Nat × AVal)) : Option AVal :=
  match types t with
  | none => none
  | some i => match i.desc with
    | .struct fs => if fs.toList.all (fun f => (types f.type).isSome) then match aFill (fieldPlaces types fs.toList) i.zero.cells parts with
        | some l => if l.all AVal.one then some (.agg l) else none
        | none => none
      else none
    | .array _ e => match types e with
      | some ei => match aFill (fun k => some (k * ei.size, ei.size)) i.zero.cells parts with
        | some l => if l.all AVal.one then some (.agg l) else none
        | none => none
      | none => none
    | _ => none

/-- n elements of a zero value's cells. -/
def zeros (zero : List AVal) : Nat → List AVal
  | 0 => []
  | n + 1 => zero ++ zeros zero n

/-- Two nil interface values are held against each other only where one of them is the literal nil. -/
def nilsOk (x y : Operand) (a b : AVal) : Bool :=
  match a, b with
  | .nilIface, .nilIface => match x, y with
    | .const _, _ => true
    | _, .const _ => true
    | _, _ => false
  | _, _ => true

/-- Operations that look at no block: pure functions of the frame. -/
def aPure (types : TypeId → Option TInfo) (fr : AFrame) : Op → Option AVal
  | .move x | .assign x => fr.get x
  | .pick c a b => match fr.get c with
    | some (.bool true) => fr.get a
    | some (.bool false) => fr.get b
    | _ => none
  | .nilCheck x => match fr.get x with
    | some (.ptr b o) => some (.ptr b o)
    | some (.iface t v) => some (.iface t v)
    | some (.func f a c) => some (.func f a c)
    | _ => none
  | .binOp op t x y _ => match fr.get x, fr.get y with
    | some a, some b => if nilsOk x y a b then aBin types op t a b else none
    | _, _ => none
  | .unOp op _ x => match fr.get x with
    | some a => aUn op a
    | none => none
  | .convert src dst x => match types src, types dst, fr.get x with
    | some si, some di, some (.int _ n) => match si.desc, di.desc with
      | .int _, .int k => some (.int k (k.wrap n))
      | _, _ => none
    | some si, some di, some (.str s) => match si.desc, di.desc with
      | .string, .string => some (.str s)
      | _, _ => none
    | _, _, _ => none
  | .makeInterface t x => match types t, fr.get x with
    | some i, some v => match i.desc with
      | .interface _ => none
      | _ => some (.iface t v)
    | _, _ => none
  | .makeFunc (.func f) first captured => match getAll fr first.toList, getAll fr captured.toList with
    | some a, some b => some (.func f a b)
    | _, _ => none
  | .slice t x lo hi mx => match fr.get x with
    | none => none
    | some v =>
      match (match lo with | none => some none | some o => (fr.get o).map some), (match hi with | none => some none | some o => (fr.get o).map some), (match mx with | none => some none | some o => (fr.get o).map some) with
      | some l, some h, some m => aSlice types t v l h m
      | _, _, _ => none
  | .fieldAddr s x f => match types s, fr.get x with
    | some i, some (.ptr b off) => match i.desc with
      | .struct fs => match fs[f]? with
        | some fd => match types fd.type with
          | some fi => if fi.size = 0 then none else some (.ptr b (off + fd.offset))
          | none => none
        | none => none
      | _ => none
    | _, _ => none
  | .field t x f => match types t, fr.get x with
    | some i, some (.agg cs) => match i.desc with
      | .struct fs => match fs[f]? with
        | some fd => match types fd.type with
          | some fi => partOf fi cs fd.offset
          | none => none
        | none => none
      | _ => none
    | _, _ => none
  | .indexAddr t x ix => match types t, fr.get x, fr.get ix with
    | some i, some (.slice b off len _ sz _), some (.int _ n) => match i.desc with
      | .slice e => match types e with
        | some ei => if ei.size = sz ∧ 0 ≤ n ∧ n < len then some (.ptr b (off + n.toNat * sz)) else none
        | none => none
      | _ => none
    | some i, some (.ptr b off), some (.int _ n) => match i.desc with
      | .array len e => match types e with
        | some ei => if 0 ≤ n ∧ n < len then some (.ptr b (off + n.toNat * ei.size)) else none
        | none => none
      | _ => none
    | _, _, _ => none
  | .index t x ix => match types t, fr.get x, fr.get ix with
    | some i, some (.str s), some (.int _ n) => match i.desc with
      | .string => if 0 ≤ n then match s[n.toNat]? with
          | some c => some (.int .u8 c.toNat)
          | none => none
        else none
      | _ => none
    | some i, some (.agg cs), some (.int _ n) => match i.desc with
      | .array len e => match types e with
        | some ei => if 0 ≤ n ∧ n < len then partOf ei cs (n.toNat * ei.size) else none
        | none => none
      | _ => none
    | _, _, _ => none
  | .extract t i => match fr.get t with
    | some (.tuple cs) => cs[i]?
    | _ => none
  | .build t ps => match getParts fr ps.toList with
    | some l => aBuild types t l
    | none => none
  | .typeAssert x _ a ok => match types a, fr.get x with
    | some i, some (.iface t v) => match i.desc with
      | .interface _ => none
      | _ => if t = a then some (if ok then .tuple [v, .bool true] else v) else none
    | _, _ => none
  | .call { callee := .builtin .len, args, argTypes } => match args.toList, argTypes[0]? with
    | [x], some t => match types t, fr.get x with
      | some i, some (.str s) => match i.desc with
        | .string => some (.int .i64 s.length)
        | _ => none
      | some i, some (.sym s) => match i.desc with
        | .string => (s.ask .len).map SRes.toAVal
        | _ => none
      | some i, some (.slice _ _ n _ _ _) => match i.desc with
        | .slice _ => some (.int .i64 n)
        | _ => none
      | some i, some .nilslice => match i.desc with
        | .slice _ => some (.int .i64 0)
        | _ => none
      | some i, some .nilmap => match i.desc with
        | .map _ _ => some (.int .i64 0)
        | _ => none
      | _, _ => none
    | _, _ => none
  | .call { callee := .builtin .min, args, .. } => match getAll fr args.toList with
    | some [.int k a, .int l b] => if k = l then some (.int k (if b < a then b else a)) else none
    | _ => none
  | .call { callee := .builtin .max, args, .. } => match getAll fr args.toList with
    | some [.int k a, .int l b] => if k = l then some (.int k (if b > a then b else a)) else none
    | _ => none
  | .call { callee := .builtin .cap, args, argTypes } => match args.toList, argTypes[0]? with
    | [x], some t => match types t, fr.get x with
      | some i, some (.slice _ _ _ c _ true) => match i.desc with
        | .slice _ => some (.int .i64 c)
        | _ => none
      | some i, some .nilslice => match i.desc with
        | .slice _ => some (.int .i64 0)
        | _ => none
      | _, _ => none
    | _, _ => none
  | _ => none

/-- The bytes of cells; only of such cells. -/
def bytesOf : List AVal → Option (List UInt8)
  | [] => some []
  | .int .u8 n :: l => match bytesOf l with
    | some r => some (UInt8.ofNat n.toNat :: r)
    | none => none
  | _ :: _ => none

/-- Which entry has a key? -/
def aFind (types : TypeId → Option TInfo) (ki : TInfo) (k : AVal) : List AEntry → Nat → Option (Option (Nat × AVal))
  | [], _ => some none
  | e :: es, i => match aEqual types ki k e.key with
    | some true => some (some (i, e.val))
    | some false => aFind types ki k es (i + 1)
    | none => none

/-- May a value be a key of a type? An integer, a string; a struct or an array of scalars. -/
def keyOkC (types : TypeId → Option TInfo) (ki : TInfo) (k : AVal) : Bool :=
  match ki.desc with
  | .int _ | .string | .struct _ => (aEqualC types ki k k).isSome
  | _ => false

def keyOk (types : TypeId → Option TInfo) (ki : TInfo) (k : AVal) : Bool :=
  match k with
  | .sym s => match ki.desc, s.ask .short with
    | .string, some _ => true
    | _, _ => false
  | k => keyOkC types ki k

/-- What stands under a key in a map, or in the nil map. -/
def aFound (types : TypeId → Option TInfo) (ki : TInfo) (k : AVal) (H : AHeap) : AVal → Option (Option AVal)
  | .nilmap => some none
  | .map b => match H.get b with
    | some (.map es _) => match aFind types ki k es 0 with
      | some (some (_, v)) => some (some v)
      | some none => some none
      | none => none
    | _ => none
  | _ => none

/-- Operations that read blocks and change none. -/
def aRead (types : TypeId → Option TInfo) (fr : AFrame) (H : AHeap) : Op → Option AVal
  | .load t a => match types t, fr.get a with
    | some i, some (.ptr b off) => match H.get b with
      | some (.cells vs _ _) => partOf i vs off
      | _ => none
    | _, _ => none
  | .lookup t m k ok => match types t, fr.get m, fr.get k with
    | some i, some mv, some kv => match i.desc with
      | .map kt et => match types kt, types et with
        | some ki, some ei => if keyOk types ki kv then
            match aFound types ki kv H mv with
            | some (some v) => some (if ok then .tuple [v, .bool true] else v)
            | some none => some (if ok then .tuple [ei.zero, .bool false] else ei.zero)
            | none => none
          else none
        | _, _ => none
      | _ => none
    | _, _, _ => none
  | .convert src dst x => match types src, types dst, fr.get x with
    | some si, some di, some v => match si.desc, di.desc with
      | .slice e, .string => match types e with
        | some ei => match ei.desc, v with
          | .int .u8, .nilslice => some (.str [])
          | .int .u8, .slice b off len _ _ _ => match H.get b with
            | some (.cells vs _ _) => match readCells vs off len with
              | some l => (bytesOf l).map .str
              | none => none
            | _ => none
          | _, _ => none
        | none => none
      | _, _ => none
    | _, _, _ => none
  | .call { callee := .builtin .len, args, argTypes } => match args.toList, argTypes[0]? with
    | [x], some t => match types t, fr.get x with
      | some i, some (.map b) => match i.desc, H.get b with
        | .map _ _, some (.map es _) => some (.int .i64 es.length)
        | _, _ => none
      | _, _ => none
    | _, _ => none
  | _ => none

/-- Operations that only make a block: what it is, and what is answered, its number given. -/
def aAlloc (types : TypeId → Option TInfo) (fr : AFrame) : Op → Option (AObj × (Nat → AVal))
  | .alloc t => match types t with
    | some i => if i.zero.cells.all AVal.one then some (.cells i.zero.cells false (some (t, true)), fun b => .ptr b 0) else none
    | none => none
  | .box t x => match fr.get x with
    | some v => if v.cells.all AVal.one then some (.cells v.cells false (some (t, true)), fun b => .ptr b 0) else none
    | none => none
  | .buildSlice t len ps => match types t, getParts fr ps.toList with
    | some i, some parts => match i.desc with
      | .slice e => match types e with
        | some ei => if len * ei.size ≤ 2 ^ 24 then
            match aFill (fun k => some (k * ei.size, ei.size)) (zeros ei.zero.cells len) parts with
            | some cells => if cells.all AVal.one then some (.cells cells false none, fun b => .slice b 0 len len ei.size true) else none
            | none => none
          else none
        | none => none
      | _ => none
    | _, _ => none
  | .makeMap _ none => some (.map [] 0, fun b => .map b)
  | .makeSlice t l c => match types t, fr.get l, fr.get c with
    | some i, some (.int .i64 n), some (.int .i64 m) => match i.desc with
      | .slice e => match types e with
        | some ei => if 0 ≤ n ∧ n ≤ m ∧ ei.bytes * m ≤ 2 ^ 40 ∧ m ≤ 2 ^ 40 ∧ ei.zero.cells.all AVal.one = true then
            some (.cells (zeros ei.zero.cells m.toNat) false none, fun b => .slice b 0 n.toNat m.toNat ei.size true)
          else none
        | none => none
      | _ => none
    | _, _, _ => none
  | _ => none

end Go.Sx

/-
  SX, part 2: the abstract interpreter: operations that write, calls, regions, code.
-/
namespace Go.Sx

/-! ### Operations that write -/

/-- The elements that an append lays behind: cells of a slice, bytes of a string. -/
def appended (H : AHeap) (sz : Nat) : AVal → Option (Nat × List AVal)
  | .nilslice => some (0, [])
  | .slice b off len _ z _ => if z = sz then match H.get b with
      | some (.cells vs _ _) => match readCells vs off (len * sz) with
        | some l => some (len, l)
        | none => none
      | _ => none
    else none
  | .str s => if sz = 1 then some (s.length, s.map fun c => .int .u8 c.toNat) else none
  | _ => none

/-- The type of the row behind an append that grows, or may: the slice's element's. -/
def grownTy (e : TypeId) (off : Nat) : Option (TypeId × Bool) → Option (TypeId × Bool)
  | some (t, _) => if t = e ∧ off = 0 then some (e, false) else none
  | none => none

def aAppend (e : TypeId) (sz bytes : Nat) (H : AHeap) (s x : AVal) : Option (AVal × AHeap) :=
  match appended H sz x with
  | none => none
  | some (n, new) =>
    match s with
    | .nilslice => if n = 0 then some (.nilslice, H) else
      if n * bytes ≤ 2 ^ 40 ∧ n ≤ 2 ^ 40 then some (.slice H.next 0 n n sz false, (H.bump 1).set H.next (.cells new false (some (e, false)))) else none
    | .slice b off len cap z ex => if z = sz then
        match H.get b with
        | some (.cells vs ro ty) =>
          if len + n ≤ cap then
            if ro then (if n = 0 then some (s, H) else none) else
            match writeCells vs (off + len * sz) new with
            | some vs' => some (.slice b off (len + n) cap sz ex, H.set b (.cells vs' false ty))
            | none => none
          else if (len + n) * bytes ≤ 2 ^ 40 ∧ len + n ≤ 2 ^ 40 then
            match readCells vs off (len * sz) with
            | some old =>
              if ex then some (.slice H.next 0 (len + n) (len + n) sz false, (H.bump 1).set H.next (.cells (old ++ new) false (some (e, false))))
              else if ro then none
              else some (.slice H.next 0 (len + n) (len + n) sz false, ((H.bump 1).set H.next (.cells (old ++ new) false (grownTy e off ty))).kill b)
            | none => none
          else none
        | _ => none
      else none
    | _ => none

def aCopy (sz : Nat) (H : AHeap) (d x : AVal) : Option (AVal × AHeap) :=
  match d with
  | .nilslice => match x with
    | .nilslice | .slice _ _ _ _ _ _ | .str _ => some (.int .i64 0, H)
    | _ => none
  | .slice b off len _ z _ => if z = sz then
      match appended H sz x with
      | none => none
      | some (n, new) =>
        let m := Nat.min n len
        match H.get b with
        | some (.cells vs false ty) => match writeCells vs off (new.take (m * sz)) with
          | some vs' => some (.int .i64 m, H.set b (.cells vs' false ty))
          | none => none
        | _ => none
    else none
  | _ => none

def setAt (es : List AEntry) (i : Nat) (k v : AVal) : List AEntry :=
  match es[i]? with
  | some e => es.set i { e with key := k, val := v }
  | none => es

/-- Operations that write, but calls of functions. -/
def aWrite (types : TypeId → Option TInfo) (fr : AFrame) (H : AHeap) : Op → Option (AVal × AHeap)
  | .store t a x => match types t, fr.get a, fr.get x with
    | some i, some (.ptr b off), some v => match H.get b with
      | some (.cells vs false ty) => if v.cells.length = i.size ∧ v.cells.all AVal.one = true then
          match writeCells vs off v.cells with
          | some vs' => some (.tuple [], H.set b (.cells vs' false ty))
          | none => none
        else none
      | _ => none
    | _, _, _ => none
  | .mapUpdate t m k x | .insert t m k x => match types t, fr.get m, fr.get k, fr.get x with
    | some i, some (.map b), some kv, some v => match i.desc, H.get b with
      | .map kt _, some (.map es clock) => match types kt with
        | some ki => if keyOk types ki kv then
            match aFind types ki kv es 0 with
            | some (some (j, _)) => some (.tuple [], H.set b (.map (setAt es j kv v) clock))
            | some none => some (.tuple [], H.set b (.map (es ++ [⟨kv, v, clock⟩]) (clock + 1)))
            | none => none
          else none
        | none => none
      | _, _ => none
    | _, _, _, _ => none
  | .mapEntry t m k => match types t, fr.get m, fr.get k with
    | some i, some (.map b), some kv => match i.desc, H.get b with
      | .map kt et, some (.map es clock) => match types kt, types et with
        | some ki, some ei => if keyOk types ki kv then
            match aFind types ki kv es 0 with
            | some (some (j, v)) => match es[j]? with
              | some e => some (.tuple [v, .int .i64 e.born], H.set b (.map (setAt es j kv v) clock))
              | none => none
            | some none => some (.tuple [ei.zero, .int .i64 clock], H.set b (.map (es ++ [⟨kv, ei.zero, clock⟩]) (clock + 1)))
            | none => none
          else none
        | _, _ => none
      | _, _ => none
    | _, _, _ => none
  | .entryStore _ m s x => match fr.get m, fr.get s, fr.get x with
    | some (.map b), some (.int _ n), some v => match H.get b with
      | some (.map es clock) => match es.findIdx? (fun e => (e.born : Int) == n) with
        | some j => match es[j]? with
          | some e => some (.tuple [], H.set b (.map (es.set j { e with val := v }) clock))
          | none => none
        | none => none
      | _ => none
    | _, _, _ => none
  | .call { callee := .builtin .append, args, argTypes } => match args.toList, argTypes[0]?, argTypes[1]? with
    | [s, x], some st, some xt => match types st, types xt, fr.get s, fr.get x with
      | some i, some xi, some sv, some xv => match i.desc, xi.desc with
        | _, .int _ => none
        | .slice e, _ => match types e with
          | some ei => aAppend e ei.size ei.bytes H sv xv
          | none => none
        | _, _ => none
      | _, _, _, _ => none
    | _, _, _ => none
  | .call { callee := .builtin .copy, args, argTypes } => match args.toList, argTypes[0]? with
    | [d, x], some dt => match types dt, fr.get d, fr.get x with
      | some i, some dv, some xv => match i.desc with
        | .slice e => match types e with
          | some ei => aCopy ei.size H dv xv
          | none => none
        | _ => none
      | _, _, _ => none
    | _, _ => none
  | .call { callee := .builtin .delete, args, argTypes } => match args.toList, argTypes[0]? with
    | [m, k], some t => match types t, fr.get m, fr.get k with
      | some i, some mv, some kv => match i.desc with
        | .map kt _ => match types kt with
          | some ki => if keyOk types ki kv then
              match mv with
              | .nilmap => some (.tuple [], H)
              | .map b => match H.get b with
                | some (.map es clock) => match aFind types ki kv es 0 with
                  | some (some (j, _)) => some (.tuple [], H.set b (.map (es.eraseIdx j) clock))
                  | some none => some (.tuple [], H)
                  | none => none
                | _ => none
              | _ => none
            else none
          | none => none
        | _ => none
      | _, _, _ => none
    | _, _ => none
  | _ => none

/-! ### Calls -/

def findMethod (ms : List (String × FuncId × Bool)) (name : String) : Option (FuncId × Bool) :=
  match ms with
  | [] => none
  | (n, f, p) :: rest => if n == name then some (f, p) else findMethod rest name

/-- The receiver of a method that is called on an interface value: a pointer's method, or a value's. -/
def aRecv (cfg : Cfg) (H : AHeap) (i : TInfo) (ptrRecv : Bool) (v : AVal) : Option AVal :=
  match i.desc, ptrRecv, v with
  | .pointer _, true, v => some v
  | .pointer e, false, .ptr b off => match cfg.types e, H.get b with
    | some ei, some (.cells vs _ _) => partOf ei vs off
    | _, _ => none
  | _, _, _ => none

/-- What a call operation calls: the function and all its arguments. -/
def aTarget (cfg : Cfg) (fr : AFrame) (H : AHeap) (c : Call) : Option (FuncId × List AVal) :=
  match c.callee with
  | .builtin _ => none
  | .value f => match fr.get f, getAll fr c.args.toList with
    | some (.func g first captured), some args => some (g, first ++ args ++ captured)
    | _, _ => none
  | .invoke r name => match fr.get r, getAll fr c.args.toList with
    | some (.iface t v), some args => match cfg.types t with
      | some i => match findMethod i.methods name with
        | some (g, p) => match aRecv cfg H i p v with
          | some recv => some (g, recv :: args)
          | none => none
        | none => none
      | none => none
    | _, _ => none

/-! ### Regions -/

inductive OpKind where
  | pure | read | alloc | write | call
  deriving DecidableEq

def kindOf : Op → OpKind
  | .call { callee := .builtin b, .. } => match b with
    | .append | .copy | .delete | .clear => .write
    | .len => .read
    | _ => .pure
  | .call _ => .call
  | .load .. | .lookup .. | .convert .. => .read
  | .alloc .. | .box .. | .buildSlice .. | .makeMap .. | .makeSlice .. => .alloc
  | .store .. | .mapUpdate .. | .insert .. | .mapEntry .. | .entryStore .. => .write
  | _ => .pure

def isEffect (o : Op) : Bool := match kindOf o with
  | .write | .call => true
  | _ => false

def isAlloc (o : Op) : Bool := match kindOf o with
  | .alloc => true
  | _ => false

/-- How many operations of a list make a block. -/
def countAllocs : List Oper → Nat
  | [] => 0
  | o :: l => (if isAlloc o.op then 1 else 0) + countAllocs l

def put (fr : AFrame) (dst : Option Tmp) (v : AVal) : AFrame := match dst with
  | some d => fr.set d v
  | none => fr

/-- Is an operation to be done? (a guard that is no bool: no) -/
def aWanted (ops : List Oper) (fr : AFrame) (o : Oper) : Bool :=
  match o.guard with
  | none => true
  | some (j, want) => match ops[j]? with
    | some g => match g.dst with
      | some d => match fr[d]? with
        | some (.bool b) => b == want
        | _ => false
      | none => false
    | none => false

/-- A value read: out of the frame alone, or out of the heap. -/
def aValue (types : TypeId → Option TInfo) (fr : AFrame) (H : AHeap) (o : Op) : Option AVal :=
  match aPure types fr o with
  | some v => some v
  | none => aRead types fr H o

/-- One operation; 'name': the number of its block, if it makes one. -/
def aOp (cfg : Cfg) (call : CallFn) (name : Nat) (fr : AFrame) (H : AHeap) (o : Op) : Option (AVal × AHeap) :=
  match kindOf o with
  | .pure | .read => match aValue cfg.types fr H o with
    | some v => some (v, H)
    | none => none
  | .alloc => match aAlloc cfg.types fr o with
    | some (obj, ans) => some (ans name, H.set name obj)
    | none => none
  | .write => aWrite cfg.types fr H o
  | .call => match o with
    | .call c => match aTarget cfg fr H c with
      | some (f, args) => call f args H
      | none => none
    | _ => none

/-- The operations of a region, in the order of the text. -/
def aSeq (cfg : Cfg) (call : CallFn) (ops : List Oper) : List Oper → Nat → AFrame → AHeap → Option (AFrame × AHeap)
  | [], _, fr, H => some (fr, H)
  | o :: l, name, fr, H =>
    if aWanted ops fr o then
      match aOp cfg call name fr H o.op with
      | some (v, H') => aSeq cfg call ops l (if isAlloc o.op then name + 1 else name) (put fr o.dst v) H'
      | none => none
    else aSeq cfg call ops l (if isAlloc o.op then name + 1 else name) (put fr o.dst (.tuple [])) H

/-! ### A region that draws its order: run in one order, in which what makes a block stands as late as it can -/

/-- For each operation the set of those that must stand ahead of it, as bits. -/
def maskOf (acc : List Nat) (o : Oper) : Nat :=
  o.after.toList.foldl (fun s e => if Region.binds .any e then s ||| 2 ^ e.on ||| acc.getD e.on 0 else s) 0

def masks : List Oper → List Nat → List Nat
  | [], acc => acc
  | o :: l, acc => masks l (acc ++ [maskOf acc o])

/-- An operation, its place, what stands ahead of it, the number of its block. -/
structure Item where
  i : Nat
  o : Oper
  m : Nat
  name : Nat

def items : List Oper → List Nat → Nat → Nat → List Item
  | o :: l, m :: ms, i, name => ⟨i, o, m, name⟩ :: items l ms (i + 1) (if isAlloc o.op then name + 1 else name)
  | _, _, _, _ => []

/-- Where a run stands: the frame, the heap, which operations are done (bits), the heaps behind the effects done (the last one first), how many effects are ahead by each bit. -/
structure DSt where
  fr : AFrame
  H : AHeap
  done : Nat
  snaps : List AHeap

/-- The same value in all heaps. -/
def readAll (types : TypeId → Option TInfo) (fr : AFrame) (o : Op) : List AHeap → Option AVal
  | [] => none
  | [H] => aRead types fr H o
  | H :: Hs => match aRead types fr H o, readAll types fr o Hs with
    | some v, some u => if AVal.same v u then some v else none
    | _, _ => none

/-- How many of the effects are in a set? -/
def countIn (effs : List Item) (m : Nat) : Nat :=
  match effs with
  | [] => 0
  | e :: l => (if m.testBit e.i then 1 else 0) + countIn l m

/-- May it be done now? What stands ahead of it is done, it is not. -/
def atTurn (st : DSt) (x : Item) : Bool := (x.m &&& st.done) == x.m && !st.done.testBit x.i

def quietStep (cfg : Cfg) (ops : List Oper) (effs : List Item) (st : DSt) (x : Item) : Option DSt :=
  if atTurn st x then
    if aWanted ops st.fr x.o then
      match kindOf x.o.op with
      | .pure | .read =>
        match (match aPure cfg.types st.fr x.o.op with
          | some v => some v
          | none => readAll cfg.types st.fr x.o.op (st.snaps.take (st.snaps.length - countIn effs x.m))) with
        | some v => some { st with fr := put st.fr x.o.dst v, done := st.done ||| 2 ^ x.i }
        | none => none
      | .alloc => match aAlloc cfg.types st.fr x.o.op with
        | some (obj, ans) => some { st with fr := put st.fr x.o.dst (ans x.name), H := st.H.set x.name obj, done := st.done ||| 2 ^ x.i }
        | none => none
      | _ => none
    else if isEffect x.o.op then none
    else some { st with fr := put st.fr x.o.dst (.tuple []), done := st.done ||| 2 ^ x.i }
  else none

def runQuiet (cfg : Cfg) (ops : List Oper) (effs : List Item) (need : Nat) : List Item → DSt → Option DSt
  | [], st => some st
  | x :: l, st =>
    if need.testBit x.i && !st.done.testBit x.i then
      match quietStep cfg ops effs st x with
      | some st' => runQuiet cfg ops effs need l st'
      | none => none
    else runQuiet cfg ops effs need l st

def effectStep (cfg : Cfg) (call : CallFn) (ops : List Oper) (st : DSt) (x : Item) : Option DSt :=
  if atTurn st x then
    if aWanted ops st.fr x.o then
      match aOp cfg call x.name st.fr st.H x.o.op with
      | some (v, H') => some { fr := put st.fr x.o.dst v, H := H', done := st.done ||| 2 ^ x.i, snaps := H' :: st.snaps }
      | none => none
    else some { fr := put st.fr x.o.dst (.tuple []), H := st.H, done := st.done ||| 2 ^ x.i, snaps := st.H :: st.snaps }
  else none

def runDraw (cfg : Cfg) (call : CallFn) (ops : List Oper) (effs all : List Item) (most : Nat) : List Item → DSt → Option DSt
  | [], st => runQuiet cfg ops effs most all st
  | x :: l, st => match runQuiet cfg ops effs x.m all st with
    | none => none
    | some st1 => match effectStep cfg call ops st1 x with
      | none => none
      | some st2 => runDraw cfg call ops effs all most l st2

/-- Are the names free that the operations' blocks are to have? -/
def namesFree (H : AHeap) : List Item → Bool
  | [] => true
  | x :: l => (if isAlloc x.o.op then (H.get x.name).isNone else true) && namesFree H l

def drawItems (ops : List Oper) (next : Nat) : List Item := items ops (masks ops []) 0 next

def effItems (all : List Item) : List Item := all.filter fun x => isEffect x.o.op

def aDraw (cfg : Cfg) (call : CallFn) (ops : List Oper) (fr : AFrame) (H : AHeap) : Option (AFrame × AHeap) :=
  if namesFree H (drawItems ops H.next) then
    match runDraw cfg call ops (effItems (drawItems ops H.next)) (drawItems ops H.next) (2 ^ ops.length - 1) (effItems (drawItems ops H.next)) ⟨fr, H.bump (countAllocs ops), 0, [H.bump (countAllocs ops)]⟩ with
    | some st => if st.done = 2 ^ ops.length - 1 then some (st.fr, st.H) else none
    | none => none
  else none

/-! ### What is asked of a region that draws, once and for all -/

def tmpOf : Operand → Option Tmp
  | .tmp t => some t
  | _ => none

/-- The slots that an operation looks at: its operands', its guard's. -/
def looks (ops : List Oper) (o : Oper) : List Tmp :=
  o.op.operands.toList.filterMap tmpOf ++
  match o.guard with
  | none => []
  | some (j, _) => match ops[j]? with
    | some g => g.dst.toList
    | none => []

def pairOk (ops : List Oper) (x y : Item) : Bool :=
  x.i == y.i ||
    ((!x.m.testBit y.i || (x.m &&& y.m) == y.m) &&
     (match x.o.dst with
      | some d => y.o.dst != some d && (!(looks ops y.o).contains d || y.m.testBit x.i || x.m.testBit y.i)
      | none => true) &&
     (!(isEffect x.o.op && isEffect y.o.op) || y.m.testBit x.i || x.m.testBit y.i))

def selfOk (ops : List Oper) (x : Item) : Bool :=
  decide (x.m < 2 ^ x.i) && match x.o.dst with
    | some d => !(looks ops x.o).contains d
    | none => true

def okDraw (ops : List Oper) : Bool :=
  (drawItems ops 0).all fun x => selfOk ops x && (drawItems ops 0).all fun y => pairOk ops x y

def aRegion (cfg : Cfg) (call : CallFn) (ops : List Oper) (draw : Bool) (fr : AFrame) (H : AHeap) : Option (AFrame × AHeap) :=
  if draw then aDraw cfg call ops fr H else aSeq cfg call ops ops H.next fr (H.bump (countAllocs ops))

/-! ### Code -/

inductive AExit where
  | normal | exit (id : Nat) | ret
  deriving DecidableEq

abbrev ARes := Option (AExit × AFrame × AHeap)

def aLoop (body : AFrame → AHeap → ARes) : Nat → AFrame → AHeap → ARes
  | 0, _, _ => none
  | n + 1, fr, H => match body fr H with
    | some (.normal, fr', H') => aLoop body n fr' H'
    | r => r

def aCode (cfg : Cfg) (call : CallFn) (fuel : Nat) : Code → AFrame → AHeap → ARes
  | .skip, fr, H => some (.normal, fr, H)
  | .label _, fr, H => some (.normal, fr, H)
  | .region _ ops draw, fr, H => match aRegion cfg call ops.toList draw fr H with
    | some (fr', H') => some (.normal, fr', H')
    | none => none
  | .seq a b, fr, H => match aCode cfg call fuel a fr H with
    | some (.normal, fr', H') => aCode cfg call fuel b fr' H'
    | r => r
  | .cond c a b, fr, H => match fr.get c with
    | some (.bool true) => aCode cfg call fuel a fr H
    | some (.bool false) => aCode cfg call fuel b fr H
    | _ => none
  | .block id b, fr, H => match aCode cfg call fuel b fr H with
    | some (.exit i, fr', H') => if i = id then some (.normal, fr', H') else some (.exit i, fr', H')
    | r => r
  | .loop b, fr, H => aLoop (aCode cfg call fuel b) fuel fr H
  | .exit id, fr, H => some (.exit id, fr, H)
  | .ret, fr, H => some (.ret, fr, H)
  | _, _, _ => none

/-! ### Functions -/

def aResult (types : TypeId → Option TInfo) (fr : AFrame) (H : AHeap) : ResultVar → Option AVal
  | .tmp t => fr[t]?
  | .cell a t => match types t, fr[a]? with
    | some i, some (.ptr b off) => match H.get b with
      | some (.cells vs _ _) => partOf i vs off
      | _ => none
    | _, _ => none

def aResults (types : TypeId → Option TInfo) (fr : AFrame) (H : AHeap) : List ResultVar → Option (List AVal)
  | [] => some []
  | r :: rs => match aResult types fr H r, aResults types fr H rs with
    | some v, some vs => some (v :: vs)
    | _, _ => none

def aEnter (fn : Func) (args : List AVal) : AFrame := args ++ List.replicate (fn.ntmps - args.length) (.tuple [])

def aBody (cfg : Cfg) (call : CallFn) (fuel : Nat) (fn : Func) (args : List AVal) (H : AHeap) : Option (AVal × AHeap) :=
  match fn.body with
  | none => none
  | some c => match aCode cfg call fuel c (aEnter fn args) H with
    | some (.exit _, _, _) => none
    | some (_, fr, H') => match aResults cfg.types fr H' fn.results.toList with
      | some [v] => some (v, H')
      | some vs => some (.tuple vs, H')
      | none => none
    | none => none

/-- A call, to a depth. -/
def aCall (cfg : Cfg) (fuel : Nat) : Nat → CallFn
  | 0, _, _, _ => none
  | d + 1, f, args, H => match cfg.prims f with
    | some p => p args H
    | none => match cfg.funcs f with
      | some fn => aBody cfg (aCall cfg fuel d) fuel fn args H
      | none => none

end Go.Sx

/-
  SX, part 3: how abstract values and heaps stand to the model's.
-/
namespace Go.Sx

/-- Where an abstract block lies: the model's block, the place of the first cell, how many cells that block has. -/
abbrev Emb := Nat → Option (Nat × Nat × Nat)

mutual
/-- An abstract value stands for a value. -/
inductive VR (β : Emb) : AVal → Value → Prop where
  | bool (b : Bool) : VR β (.bool b) (.bool b)
  | int (k : IntKind) (n : Int) : VR β (.int k n) (.int k n)
  | str (b : ByteArray) : VR β (.str b.data.toList) (.string b)
  | nilptr : VR β .nilptr (.pointer none)
  | ptr (b off c base n : Nat) (h : β b = some (c, base, n)) : VR β (.ptr b off) (.pointer (some ⟨c, base + off, none⟩))
  | nilslice : VR β .nilslice (.slice none 0 0)
  | slice (b off len cap sz : Nat) (ex : Bool) (c base n o cap' : Nat) (h : β b = some (c, base, n)) (ho : o = base + off ∨ cap' = 0)
      (hc : cap ≤ cap') (he : ex = true → cap' = cap) (hn : o + cap' * sz ≤ n) (hl : len ≤ cap) :
      VR β (.slice b off len cap sz ex) (.slice (some ⟨c, o, none⟩) len cap')
  | nilmap : VR β .nilmap (.map none)
  | map (b c base n : Nat) (h : β b = some (c, base, n)) : VR β (.map b) (.map (some c))
  | func (f : FuncId) (a b : List AVal) (a' b' : Array Value) (ha : VRs β a a'.toList) (hb : VRs β b b'.toList) : VR β (.func f a b) (.func (.func f) a' b')
  | nilFunc : VR β .nilFunc .nilFunc
  | iface (t : TypeId) (v : AVal) (v' : Value) (h : VR β v v') : VR β (.iface t v) (.iface t v')
  | nilIface : VR β .nilIface .nilIface
  | agg (cs : List AVal) (cs' : Array Value) (h : VRs β cs cs'.toList) (h1 : cs.all AVal.one = true) : VR β (.agg cs) (.agg cs')
  | tuple (cs : List AVal) (cs' : Array Value) (h : VRs β cs cs'.toList) : VR β (.tuple cs) (.tuple cs')
  | sym (s : Sym) (v : Value) (h : s.Ok) (hv : VR β s.val.toAVal v) : VR β (.sym s) v
inductive VRs (β : Emb) : List AVal → List Value → Prop where
  | nil : VRs β [] []
  | cons (a : AVal) (v : Value) (as : List AVal) (vs : List Value) (h : VR β a v) (hs : VRs β as vs) : VRs β (a :: as) (v :: vs)
end

/-- One embedding says all that another one says. -/
def Emb.le (β β' : Emb) : Prop := ∀ b x, β b = some x → β' b = some x

theorem Emb.le_refl (β : Emb) : β.le β := fun _ _ h => h
theorem Emb.le_trans {a b c : Emb} (h : a.le b) (g : b.le c) : a.le c := fun x y e => g x y (h x y e)

mutual
theorem VR.mono {β β' : Emb} (h : β.le β') : ∀ {a : AVal} {v : Value}, VR β a v → VR β' a v
  | _, _, .bool b => .bool b
  | _, _, .int k n => .int k n
  | _, _, .str b => .str b
  | _, _, .nilptr => .nilptr
  | _, _, .ptr b off c base n e => .ptr b off c base n (h _ _ e)
  | _, _, .nilslice => .nilslice
  | _, _, .slice b off len cap sz ex c base n o cap' e ho hc he hn hl => .slice b off len cap sz ex c base n o cap' (h _ _ e) ho hc he hn hl
  | _, _, .nilmap => .nilmap
  | _, _, .map b c base n e => .map b c base n (h _ _ e)
  | _, _, .func f a b a' b' ha hb => .func f a b a' b' (VRs.mono h ha) (VRs.mono h hb)
  | _, _, .nilFunc => .nilFunc
  | _, _, .iface t v v' e => .iface t v v' (VR.mono h e)
  | _, _, .nilIface => .nilIface
  | _, _, .agg cs cs' e h1 => .agg cs cs' (VRs.mono h e) h1
  | _, _, .tuple cs cs' e => .tuple cs cs' (VRs.mono h e)
  | _, _, .sym s v e hv => .sym s v e (VR.mono h hv)
theorem VRs.mono {β β' : Emb} (h : β.le β') : ∀ {a : List AVal} {v : List Value}, VRs β a v → VRs β' a v
  | _, _, .nil => .nil
  | _, _, .cons a v as vs e es => .cons a v as vs (VR.mono h e) (VRs.mono h es)
end

theorem VR.conc {β : Emb} {a : AVal} {v : Value} (h : VR β a v) : VR β a.conc v := by
  cases h with
  | sym s v h hv => exact hv
  | bool b => exact .bool b
  | int k n => exact .int k n
  | str b => exact .str b
  | nilptr => exact .nilptr
  | ptr b off c base n h => exact .ptr b off c base n h
  | nilslice => exact .nilslice
  | slice b off len cap sz ex c base n o cap' h ho hc he hn hl => exact .slice b off len cap sz ex c base n o cap' h ho hc he hn hl
  | nilmap => exact .nilmap
  | map b c base n h => exact .map b c base n h
  | func f a b a' b' ha hb => exact .func f a b a' b' ha hb
  | nilFunc => exact .nilFunc
  | iface t v v' h => exact .iface t v v' h
  | nilIface => exact .nilIface
  | agg cs cs' h h1 => exact .agg cs cs' h h1
  | tuple cs cs' h => exact .tuple cs cs' h

theorem Scal.cases_VR {β : Emb} {c : Scal} {v : Value} (h : VR β c.toAVal v) : (∃ b, v = .string b) ∨ ∃ k n, v = .int k n := by
  cases c with
  | str s => cases h; exact .inl ⟨_, rfl⟩
  | int k n => cases h; exact .inr ⟨_, _, rfl⟩

theorem VRs.length {β : Emb} {as : List AVal} {vs : List Value} (h : VRs β as vs) : as.length = vs.length := by
  induction as generalizing vs with
  | nil => cases h; rfl
  | cons a as ih => cases h with | cons _ v _ vs h hs => simp [ih hs]

theorem VRs.get {β : Emb} {as : List AVal} {vs : List Value} (h : VRs β as vs) {i : Nat} {a : AVal} (ha : as[i]? = some a) : ∃ v, vs[i]? = some v ∧ VR β a v := by
  induction as generalizing vs i with
  | nil => simp at ha
  | cons b as ih =>
    cases h with
    | cons _ v _ vs h hs =>
      cases i with
      | zero => simp at ha; subst ha; exact ⟨v, by simp, h⟩
      | succ i => simp at ha; obtain ⟨u, hu, hr⟩ := ih hs ha; exact ⟨u, by simpa using hu, hr⟩

theorem VRs.of_get {β : Emb} {as : List AVal} {vs : List Value} (hl : as.length = vs.length) (h : ∀ (i : Nat) (a : AVal), as[i]? = some a → ∃ v, vs[i]? = some v ∧ VR β a v) : VRs β as vs := by
  induction as generalizing vs with
  | nil => cases vs with
    | nil => exact .nil
    | cons => simp at hl
  | cons a as ih =>
    cases vs with
    | nil => simp at hl
    | cons v vs =>
      obtain ⟨u, hu, hr⟩ := h 0 a (by simp)
      simp at hu; subst hu
      refine .cons _ _ _ _ hr (ih (by simpa using hl) fun i b hb => ?_)
      obtain ⟨u, hu, hr⟩ := h (i + 1) b (by simpa using hb)
      exact ⟨u, by simpa using hu, hr⟩

theorem VRs.append {β : Emb} {a b : List AVal} {v w : List Value} (h : VRs β a v) (g : VRs β b w) : VRs β (a ++ b) (v ++ w) := by
  induction a generalizing v with
  | nil => cases h; exact g
  | cons x a ih => cases h with | cons _ y _ vs h hs => exact .cons _ _ _ _ h (ih hs)

theorem VRs.take {β : Emb} {a : List AVal} {v : List Value} (h : VRs β a v) (n : Nat) : VRs β (a.take n) (v.take n) := by
  induction a generalizing v n with
  | nil => cases h; simp; exact .nil
  | cons x a ih => cases h with
    | cons _ y _ vs h hs => cases n with
      | zero => simp; exact .nil
      | succ n => simp; exact .cons _ _ _ _ h (ih hs n)

theorem VRs.drop {β : Emb} {a : List AVal} {v : List Value} (h : VRs β a v) (n : Nat) : VRs β (a.drop n) (v.drop n) := by
  induction a generalizing v n with
  | nil => cases h; simp; exact .nil
  | cons x a ih => cases h with
    | cons _ y _ vs h hs => cases n with
      | zero => simpa using .cons _ _ _ _ h hs
      | succ n => simpa using ih hs n

theorem VR.slice_inv {β : Emb} {b off len cap sz : Nat} {ex : Bool} {v : Value} (h : VR β (.slice b off len cap sz ex) v) :
    ∃ c base n o cap', v = .slice (some ⟨c, o, none⟩) len cap' ∧ β b = some (c, base, n) ∧ (o = base + off ∨ cap' = 0) ∧ cap ≤ cap' ∧ (ex = true → cap' = cap) ∧ o + cap' * sz ≤ n ∧ len ≤ cap := by
  cases h with
  | slice b off len cap sz ex c base n o cap' h ho hc he hn hl => exact ⟨c, base, n, o, cap', rfl, h, ho, hc, he, hn, hl⟩

theorem VR.ptr_inv {β : Emb} {b off : Nat} {v : Value} (h : VR β (.ptr b off) v) : ∃ c base n, v = .pointer (some ⟨c, base + off, none⟩) ∧ β b = some (c, base, n) := by
  cases h with
  | ptr b off c base n h => exact ⟨c, base, n, rfl, h⟩

theorem VR.map_inv {β : Emb} {b : Nat} {v : Value} (h : VR β (.map b) v) : ∃ c base n, v = .map (some c) ∧ β b = some (c, base, n) := by
  cases h with
  | map b c base n h => exact ⟨c, base, n, rfl, h⟩

theorem VR.int_inv {β : Emb} {k : IntKind} {n : Int} {v : Value} (h : VR β (.int k n) v) : v = .int k n := by cases h; rfl

theorem VR.str_inv {β : Emb} {s : List UInt8} {v : Value} (h : VR β (.str s) v) : ∃ b : ByteArray, v = .string b ∧ b.data.toList = s := by cases h; exact ⟨_, rfl, rfl⟩

/-! ### Scalars -/

theorem ofScalar_VR {β : Emb} {v : Value} {a : AVal} (h : ofScalar v = some a) : VR β a v := by
  unfold ofScalar at h
  split at h
  all_goals first
    | (cases h; first | exact .bool _ | exact .int _ _ | exact .str _ | exact .nilptr | exact .nilslice | exact .nilmap | exact .nilFunc | exact .nilIface)
    | skip
  · rename_i vs
    split at h
    · rename_i he
      cases h
      have : vs.toList = [] := by simpa using he
      exact .tuple _ _ (by rw [this]; exact .nil)
    · cases h
  · cases h

theorem ofScalars_VRs {β : Emb} : ∀ {vs : List Value} {as : List AVal}, ofScalars vs = some as → VRs β as vs
  | [], as, h => by cases h; exact .nil
  | v :: vs, as, h => by
    unfold ofScalars at h
    split at h
    · rename_i a l ha hl
      cases h
      exact .cons _ _ _ _ (ofScalar_VR ha) (ofScalars_VRs hl)
    · cases h

theorem ofScalar_one {v : Value} {a : AVal} (h : ofScalar v = some a) (hv : ∀ vs, v ≠ .tuple vs) : a.one = true := by
  unfold ofScalar at h
  split at h <;> first | (cases h; rfl) | skip
  · exact absurd rfl (hv _)
  · cases h

/-! ### Heaps -/

/-- Cells stand for cells, from a place on. -/
def CellsR (β : Emb) (vs : List AVal) (cs : Array Value) (base : Nat) : Prop :=
  ∀ i a, vs[i]? = some a → a.one = true ∧ ∃ v, cs[base + i]? = some v ∧ VR β a v

def EntryR (β : Emb) (e : AEntry) (e' : MapEntry) : Prop := VR β e.key e'.key ∧ VR β e.val e'.val ∧ e.born = e'.born

def EntriesR (β : Emb) : List AEntry → List MapEntry → Prop
  | [], l => l = []
  | e :: es, l => ∃ e' l', l = e' :: l' ∧ EntryR β e e' ∧ EntriesR β es l'

/-- What is known of a block's type. -/
def TyIs (ty : Option (TypeId × Bool)) (T : TypeId) (x : Nat × Nat × Nat) (n : Nat) : Prop := ∀ t ex, ty = some (t, ex) → T = t ∧ x.2.1 = 0 ∧ (ex = true → x.2.2 = n)

/-- A block stands for the model's. -/
def ObjR (β : Emb) (o : AObj) (x : Nat × Nat × Nat) (h : Array Obj) : Prop :=
  match o with
  | .cells vs ro ty => ∃ cs T fz, h[x.1]? = some (.cells cs T fz) ∧ cs.size = x.2.2 ∧ x.2.1 + vs.length ≤ x.2.2 ∧ CellsR β vs cs x.2.1 ∧
      (ro = false → ∀ i, i < x.2.2 → ¬ (fz.1 ≤ i ∧ i < fz.2)) ∧ TyIs ty T x vs.length
  | .map es clock => ∃ es', h[x.1]? = some (.map es' clock) ∧ EntriesR β es es'.toList
  | .opaque_ => True

/-- An abstract heap lies in a heap of the model, as an embedding says. Blocks that it does not name are no part of it. -/
structure Rel (β : Emb) (H : AHeap) (h : Array Obj) : Prop where
  dom : ∀ b x, β b = some x → b < H.next ∧ x.1 < h.size
  obj : ∀ b o x, H.get b = some o → β b = some x → ObjR β o x h
  inj : ∀ b b' o o' x x', H.get b = some o → H.get b' = some o' → β b = some x → β b' = some x' → x.1 = x'.1 → b = b'

theorem EntryR.mono {β β' : Emb} (h : β.le β') {e : AEntry} {e' : MapEntry} (he : EntryR β e e') : EntryR β' e e' := ⟨he.1.mono h, he.2.1.mono h, he.2.2⟩

theorem EntriesR.mono {β β' : Emb} (h : β.le β') : ∀ {es : List AEntry} {l : List MapEntry}, EntriesR β es l → EntriesR β' es l
  | [], _, e => e
  | _ :: _, _, ⟨e', l', hl, he, hs⟩ => ⟨e', l', hl, he.mono h, EntriesR.mono h hs⟩

theorem CellsR.mono {β β' : Emb} (h : β.le β') {vs : List AVal} {cs : Array Value} {base : Nat} (hc : CellsR β vs cs base) : CellsR β' vs cs base :=
  fun i a ha => let ⟨h1, v, hv, hr⟩ := hc i a ha; ⟨h1, v, hv, hr.mono h⟩

theorem ObjR.mono {β β' : Emb} (h : β.le β') {o : AObj} {x : Nat × Nat × Nat} {hp hp' : Array Obj} (ho : ObjR β o x hp) (hh : hp'[x.1]? = hp[x.1]?) : ObjR β' o x hp' := by
  cases o with
  | cells vs ro ty =>
    obtain ⟨cs, T, fz, hb, hn, hl, hc, hz⟩ := ho
    exact ⟨cs, T, fz, hh.trans hb, hn, hl, hc.mono h, hz⟩
  | map es clock =>
    obtain ⟨es', hb, he⟩ := ho
    exact ⟨es', hh.trans hb, he.mono h⟩
  | opaque_ => trivial

/-! ### The tree -/

theorem Tr.get_leaf {α : Type} (n : Nat) : (Tr.leaf : Tr α).get n = none := rfl

theorem Tr.get_setF {α : Type} (x : Option α) : ∀ (f : Nat) (t : Tr α) (n m : Nat), n < f → (Tr.setF x f t n).get m = if m = n then x else t.get m := by
  intro f
  induction f with
  | zero => intro t n m h; omega
  | succ f ih =>
    intro t n m h
    cases t with
    | leaf =>
      cases n with
      | zero =>
        simp only [Tr.setF, Tr.get]
        split
        · rfl
        · split <;> rfl
      | succ n =>
        simp only [Tr.setF]
        split
        · rename_i h1
          simp only [Tr.get]
          by_cases hm : m = 0
          · subst hm; simp
          · rw [if_neg hm]
            by_cases h2 : m % 2 = 1
            · rw [if_pos h2, ih _ _ _ (by omega)]
              by_cases e : m = n + 1
              · subst e; simp
              · rw [if_neg e, if_neg (by omega)]; rfl
            · rw [if_neg h2, if_neg (by omega)]
        · rename_i h1
          simp only [Tr.get]
          by_cases hm : m = 0
          · subst hm; simp
          · rw [if_neg hm]
            by_cases h2 : m % 2 = 1
            · rw [if_pos h2, if_neg (by omega)]
            · rw [if_neg h2, ih _ _ _ (by omega)]
              by_cases e : m = n + 1
              · subst e; simp
              · rw [if_neg e, if_neg (by omega)]; rfl
    | node l v r =>
      cases n with
      | zero =>
        simp only [Tr.setF, Tr.get]
        by_cases hm : m = 0
        · simp [hm]
        · simp [hm]
      | succ n =>
        simp only [Tr.setF]
        split
        · rename_i h1
          simp only [Tr.get]
          by_cases hm : m = 0
          · subst hm; simp
          · rw [if_neg hm, if_neg hm]
            by_cases h2 : m % 2 = 1
            · rw [if_pos h2, if_pos h2, ih _ _ _ (by omega)]
              by_cases e : m = n + 1
              · subst e; simp
              · rw [if_neg e, if_neg (by omega)]
            · rw [if_neg h2, if_neg h2, if_neg (by omega)]
        · rename_i h1
          simp only [Tr.get]
          by_cases hm : m = 0
          · subst hm; simp
          · rw [if_neg hm, if_neg hm]
            by_cases h2 : m % 2 = 1
            · rw [if_pos h2, if_pos h2, if_neg (by omega)]
            · rw [if_neg h2, if_neg h2, ih _ _ _ (by omega)]
              by_cases e : m = n + 1
              · subst e; simp
              · rw [if_neg e, if_neg (by omega)]

theorem Tr.get_set {α : Type} (t : Tr α) (n : Nat) (x : Option α) (m : Nat) : (t.set n x).get m = if m = n then x else t.get m :=
  Tr.get_setF x (n + 1) t n m (Nat.lt_succ_self n)

@[simp] theorem AHeap.get_set (H : AHeap) (b : Nat) (o : AObj) (c : Nat) : (H.set b o).get c = if c = b then some o else H.get c := Tr.get_set _ _ _ _
@[simp] theorem AHeap.get_kill (H : AHeap) (b c : Nat) : (H.kill b).get c = if c = b then none else H.get c := Tr.get_set _ _ _ _
@[simp] theorem AHeap.get_bump (H : AHeap) (n c : Nat) : (H.bump n).get c = H.get c := rfl
@[simp] theorem AHeap.next_set (H : AHeap) (b : Nat) (o : AObj) : (H.set b o).next = H.next := rfl
@[simp] theorem AHeap.next_kill (H : AHeap) (b : Nat) : (H.kill b).next = H.next := rfl
@[simp] theorem AHeap.next_bump (H : AHeap) (n : Nat) : (H.bump n).next = H.next + n := rfl

theorem Rel.bump {β : Emb} {H : AHeap} {h : Array Obj} (r : Rel β H h) (n : Nat) : Rel β (H.bump n) h :=
  ⟨fun b x e => let ⟨p, q⟩ := r.dom b x e; ⟨by simp; omega, q⟩, fun b o x g e => r.obj b o x g e, fun b b' o o' x x' g g' => r.inj b b' o o' x x' g g'⟩

/-- Fewer blocks. -/
theorem Rel.less {β : Emb} {H H' : AHeap} {h : Array Obj} (r : Rel β H h) (hn : H.next ≤ H'.next) (hg : ∀ b o, H'.get b = some o → H.get b = some o) : Rel β H' h :=
  ⟨fun b x e => let ⟨p, q⟩ := r.dom b x e; ⟨by omega, q⟩, fun b o x g e => r.obj b o x (hg _ _ g) e, fun b b' o o' x x' g g' => r.inj b b' o o' x x' (hg _ _ g) (hg _ _ g')⟩

/-! ### What a step does to the rest of the world -/

/-- From (β, H, w) to (β', w'): what new names and blocks there are (names from nx on); what was not H's is as it was. -/
structure Ext (nx : Nat) (β β' : Emb) (H H' : AHeap) (w w' : World) : Prop where
  le : β.le β'
  new : ∀ b x, β' b = some x → β b = some x ∨ (nx ≤ b ∧ (w.heap.size ≤ x.1 ∨ ∃ b0 o0 x0, H.get b0 = some o0 ∧ β b0 = some x0 ∧ x0.1 = x.1))
  live : ∀ b o, H'.get b = some o → b < H.next → ∃ o', H.get b = some o'
  size : w.heap.size ≤ w'.heap.size
  frame : ∀ c, c < w.heap.size → (∀ b o x, H.get b = some o → β b = some x → x.1 ≠ c) → w'.heap[c]? = w.heap[c]?
  tape : w'.tape = w.tape
  os : w'.os = w.os
  output : w'.output = w.output
  next : H.next ≤ H'.next

theorem Ext.refl (nx : Nat) (β : Emb) (H : AHeap) (w : World) : Ext nx β β H H w w :=
  ⟨β.le_refl, fun _ _ h => .inl h, fun _ o h _ => ⟨o, h⟩, Nat.le_refl _, fun _ _ _ => rfl, rfl, rfl, rfl, Nat.le_refl _⟩

/-- Names that come earlier are fewer. -/
theorem Ext.from {nx nx' : Nat} {β β' : Emb} {H H' : AHeap} {w w' : World} (a : Ext nx β β' H H' w w') (h : nx' ≤ nx) : Ext nx' β β' H H' w w' :=
  { a with new := fun b x hb => (a.new b x hb).imp id fun ⟨p, q⟩ => ⟨Nat.le_trans h p, q⟩ }

theorem Ext.trans {nx nx' : Nat} {β β1 β2 : Emb} {H H1 H2 : AHeap} {w w1 w2 : World} (a : Ext nx β β1 H H1 w w1) (b0 : Ext nx' β1 β2 H1 H2 w1 w2) (hn : nx ≤ nx') (hd : ∀ b x, β b = some x → b < H.next ∧ x.1 < w.heap.size) :
    Ext nx β β2 H H2 w w2 := by
  have b := b0.from hn
  refine ⟨Emb.le_trans a.le b.le, ?_, ?_, Nat.le_trans a.size b.size, ?_, b.tape.trans a.tape, b.os.trans a.os, b.output.trans a.output, Nat.le_trans a.next b.next⟩
  · intro c x hc
    rcases b.new c x hc with h1 | ⟨hn, h1⟩
    · exact a.new c x h1
    · refine .inr ⟨hn, ?_⟩
      rcases h1 with h1 | ⟨b0, o0, x0, hg, hb, hx⟩
      · exact .inl (Nat.le_trans a.size h1)
      · rcases a.new b0 x0 hb with h2 | ⟨_, h2⟩
        · obtain ⟨o', ho'⟩ := a.live b0 o0 hg (hd _ _ h2).1
          exact .inr ⟨b0, o', x0, ho', h2, hx⟩
        · rcases h2 with h2 | ⟨b1, o1, x1, hg1, hb1, hx1⟩
          · exact .inl (hx ▸ h2)
          · exact .inr ⟨b1, o1, x1, hg1, hb1, hx1.trans hx⟩
  · intro c o hg hb
    obtain ⟨o', ho'⟩ := b.live c o hg (Nat.lt_of_lt_of_le hb a.next)
    exact a.live c o' ho' hb
  · intro c hc hne
    have h1 := a.frame c hc hne
    rw [← h1]
    refine b.frame c (Nat.lt_of_lt_of_le hc a.size) ?_
    intro b0 o0 x0 hg hb hx
    rcases a.new b0 x0 hb with h2 | ⟨_, h2⟩
    · obtain ⟨o', ho'⟩ := a.live b0 o0 hg (hd _ _ h2).1
      exact hne b0 o' x0 ho' h2 hx
    · rcases h2 with h2 | ⟨b1, o1, x1, hg1, hb1, hx1⟩
      · omega
      · exact hne b1 o1 x1 hg1 hb1 (hx1.trans hx)

/-- Another heap behind, of which no more is live. -/
theorem Ext.swap {nx : Nat} {β β' : Emb} {H H' H'' : AHeap} {w w' : World} (a : Ext nx β β' H H' w w') (hl : ∀ b o, H''.get b = some o → b < H.next → ∃ o', H'.get b = some o') (hn : H.next ≤ H''.next) : Ext nx β β' H H'' w w' :=
  { a with live := fun b o hg hb => let ⟨o', h⟩ := hl b o hg hb; a.live b o' h hb, next := hn }

end Go.Sx
