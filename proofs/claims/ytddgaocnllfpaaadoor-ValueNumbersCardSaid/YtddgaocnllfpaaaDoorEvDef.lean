import Derived.Test.YtddgaocnllfpaaaDoorEvBase
namespace Go.Ev
open Go

def undefA : AV := .tup []

def AV.cells : AV → List AV
  | .agg cs => cs
  | v => [v]

/-- the constants: no addresses in them -/
def ofCell : Value → Option AV
  | .bool b => some (.bool b)
  | .int k n => some (.int k n)
  | .string s => some (.str s.data.toList)
  | .pointer none => some .ptr0
  | .slice none 0 0 => some .sl0
  | .map none => some .map0
  | .nilFunc => some .nilfn
  | .nilIface => some .nilif
  | _ => none
def ofCells : List Value → Option (List AV)
  | [] => some []
  | v :: vs => match ofCell v, ofCells vs with
    | some x, some xs => some (x :: xs)
    | _, _ => none
def ofValue : Value → Option AV
  | .agg cs => (ofCells cs.toList).map .agg
  | .tuple vs => (ofCells vs.toList).map .tup
  | .func (.func f) first captured => cond (first.toList.isEmpty && captured.toList.isEmpty) (some (.fn (.func f) [] [])) none
  | v => ofCell v

inductive Kind where | free | tip | old
def Kind.isFree : Kind → Bool | .free => true | _ => false
def Kind.isOld : Kind → Bool | .old => true | _ => false

structure Obj where
  cs : List AV
  es : Nat
  kind : Kind

structure Heap where
  tr : Tr Obj
  next : Nat
  log : List Nat
def Heap.get (H : Heap) (b : Nat) : Option Obj := H.tr.get b
def Heap.put (H : Heap) (b : Nat) (o : Obj) : Heap := { H with tr := H.tr.set b o }
/-- a block that is written: the log tells it -/
def Heap.write (H : Heap) (b : Nat) (o : Obj) : Heap := { H with tr := H.tr.set b o, log := b :: H.log }
/-- a new block at a number that is still free -/
def Heap.add (H : Heap) (b : Nat) (o : Obj) : Option Heap := match H.get b with | none => some (H.put b o) | some _ => none

structure TI where
  desc : TypeDesc
  size : Nat
  bytes : Nat
  zero : Option (List AV)
def TI.isAgg (i : TI) : Bool := match i.desc with | .struct _ | .array _ _ => true | _ => false

structure Ctx where
  ty : TypeId → Option TI
  fn : FuncId → Option Func
  orc : BinOp → Exp → Exp → Option Bool

structure Ctx.Ok [Env] (C : Ctx) (P : Program) : Prop where
  ty : ∀ t i, C.ty t = some i → P.underlying t = some i.desc ∧ ∃ j, P.info? t = some j ∧ j.size = i.size ∧ j.bytes = i.bytes ∧ (∀ zs, i.zero = some zs → ∃ z, j.zero = some z ∧ ∀ ι, VRs ι zs z.cells.toList)
  fn : ∀ f x, C.fn f = some x → P.funcs[f]? = some x
  name : ∀ f x, C.fn f = some x → x.name ≠ "runtime.NumGoroutine"
  mixed : P.follows .mixedOrders = true
  orc : ∀ o a b r, C.orc o a b = some r → cmpVal o a.eval b.eval = r

def Ctx.of (P : Program) : Ctx where
  ty t := match P.info? t, P.underlying t with
    | some j, some d => some { desc := d, size := j.size, bytes := j.bytes, zero := j.zero.bind fun z => ofCells z.cells.toList }
    | _, _ => none
  fn f := P.funcs[f]?
  orc _ _ _ := none

structure St where
  T : Tr AV
  N : Nat
  H : Heap
def St.put (s : St) (dst : Option Tmp) (v : AV) : Option St :=
  match dst with
  | none => some s
  | some d => cond (Nat.blt d s.N) (some { s with T := s.T.set d v }) none

def ev (T : Tr AV) : Operand → Option AV
  | .tmp t => T.get t
  | .const v => ofValue v
  | .global _ => none
  | .func f => some (.fn (.func f) [] [])
def evs (T : Tr AV) : List Operand → Option (List AV)
  | [] => some []
  | x :: xs => match ev T x, evs T xs with
    | some v, some vs => some (v :: vs)
    | _, _ => none

def splice (cs : List AV) (o : Nat) (new : List AV) : List AV := cs.take o ++ new ++ cs.drop (o + new.length)

/-- a value of a type out of cells -/
def part (i : TI) (cs : List AV) (o : Nat) : Option AV :=
  cond i.isAgg (cond (Nat.ble (o + i.size) cs.length) (some (.agg ((cs.drop o).take i.size))) none) (cs[o]?)

def AV.flat : AV → Bool
  | .agg _ | .tup _ => false
  | _ => true
def flatAll : List AV → Bool
  | [] => true
  | x :: xs => x.flat && flatAll xs
def evLoad (C : Ctx) (H : Heap) (t : TypeId) : AV → Option AV
  | .ptr b o => match C.ty t, H.get b with
    | some i, some ob => part i ob.cs o
    | _, _ => none
  | _ => none
def evStore (C : Ctx) (H : Heap) (t : TypeId) (x : AV) : AV → Option Heap
  | .ptr b o => match C.ty t, H.get b with
    | some i, some ob => cond (ob.kind.isFree && Nat.beq x.cells.length i.size && Nat.ble (o + i.size) ob.cs.length && flatAll x.cells)
        (some (H.write b { ob with cs := splice ob.cs o x.cells })) none
    | _, _ => none
  | _ => none

/-- parts put into cells -/
def fillA (place : Nat → Option (Nat × Nat)) (cells : List AV) : List (Nat × AV) → Option (List AV)
  | [] => some cells
  | (i, v) :: rest => match place i with
    | none => none
    | some (off, size) => cond (Nat.beq v.cells.length size && Nat.ble (off + v.cells.length) cells.length) (fillA place (splice cells off v.cells) rest) none
def evParts (T : Tr AV) : List (Nat × Operand) → Option (List (Nat × AV))
  | [] => some []
  | (i, x) :: xs => match ev T x, evParts T xs with
    | some v, some vs => some ((i, v) :: vs)
    | _, _ => none

def repeatCells (z : List AV) : Nat → List AV
  | 0 => []
  | n + 1 => z ++ repeatCells z n

def intArithA (op : BinOp) (k : IntKind) (x y : Int) : Option AV :=
  match op with
  | .add => some (.int k (k.wrap (x + y)))
  | .sub => some (.int k (k.wrap (x - y)))
  | .mul => some (.int k (k.wrap (x * y)))
  | .quo => if y = 0 then none else some (.int k (k.wrap (x.tdiv y)))
  | .rem => if y = 0 then none else some (.int k (x.tmod y))
  | .and => some (.int k (k.wrap (BitVec.ofInt k.bits x &&& BitVec.ofInt k.bits y).toNat))
  | .or => some (.int k (k.wrap (BitVec.ofInt k.bits x ||| BitVec.ofInt k.bits y).toNat))
  | .xor => some (.int k (k.wrap (BitVec.ofInt k.bits x ^^^ BitVec.ofInt k.bits y).toNat))
  | .andNot => some (.int k (k.wrap (BitVec.ofInt k.bits x &&& ~~~BitVec.ofInt k.bits y).toNat))
  | .eql => some (.bool (x == y))
  | .neq => some (.bool (x != y))
  | .lss => some (.bool (x < y))
  | .leq => some (.bool (x ≤ y))
  | .gtr => some (.bool (x > y))
  | .geq => some (.bool (x ≥ y))
  | _ => none
def shiftA (op : BinOp) (k : IntKind) (x y : Int) : Option AV :=
  match op with
  | .shl => if y < 0 then none else some (.int k (k.wrap (x * 2 ^ min y.toNat k.bits)))
  | .shr => if y < 0 then none else some (.int k (x.fdiv (2 ^ min y.toNat k.bits)))
  | _ => none
def stringOpA (op : BinOp) (x y : List UInt8) : Option AV :=
  match op with
  | .add => cond (Nat.ble (x.length + y.length) 9223372036854775807) (some (.str (x ++ y))) none
  | .eql => some (.bool (x == y))
  | .neq => some (.bool !(x == y))
  | .lss => some (.bool (Op.bytesLess x y))
  | .leq => some (.bool (Op.bytesLess x y || x == y))
  | .gtr => some (.bool !(Op.bytesLess x y || x == y))
  | .geq => some (.bool !(Op.bytesLess x y))
  | _ => none
/-- == at a type that is not int nor string, where the answer hangs on no address -/
def equalA (d : TypeDesc) : AV → AV → Option Bool
  | .bool a, .bool b => match d with | .bool => some (a == b) | _ => none
  | .ptr0, .ptr0 => match d with | .pointer _ => some true | _ => none
  | .ptr0, .ptr _ _ => match d with | .pointer _ => some false | _ => none
  | .ptr _ _, .ptr0 => match d with | .pointer _ => some false | _ => none
  | .sl0, .sl0 => match d with | .slice _ => some true | _ => none
  | .sl0, .sl _ _ _ => match d with | .slice _ => some false | _ => none
  | .sl _ _ _, .sl0 => match d with | .slice _ => some false | _ => none
  | .map0, .map0 => match d with | .map _ _ => some true | _ => none
  | .map0, .map _ => match d with | .map _ _ => some false | _ => none
  | .map _, .map0 => match d with | .map _ _ => some false | _ => none
  | .nilfn, .nilfn => match d with | .func _ _ _ => some true | _ => none
  | .nilfn, .fn _ _ _ => match d with | .func _ _ _ => some false | _ => none
  | .fn _ _ _, .nilfn => match d with | .func _ _ _ => some false | _ => none
  | _, _ => none
def numOf : AV → Option (IntKind × Exp)
  | .int k n => some (k, .lit n)
  | .sx k e => some (k, e)
  | _ => none
/-- an operation on numbers of which one is not known -/
def symOp (C : Ctx) (op : BinOp) (k k' : IntKind) (a b : Exp) : Option AV :=
  match op with
  | .shl | .shr => match b with
    | .lit y => if y < 0 then none else some (.sx k (.sh op k a y.toNat))
    | _ => none
  | .add | .sub | .mul | .and | .or | .xor | .andNot => if k = k' then some (.sx k (.op op k a b)) else none
  | .quo | .rem => if k = k' then (match C.orc .eql b (.lit 0) with
    | some false => some (.sx k (.op op k a b))
    | _ => none) else none
  | .eql | .neq | .lss | .leq | .gtr | .geq => if k = k' then (C.orc op a b).map .bool else none
def binOpA (C : Ctx) (op : BinOp) (t : TypeId) (x y : AV) : Option AV :=
  match x, y with
  | .int k a, .int k' b =>
    match op with
    | .shl | .shr => shiftA op k a b
    | _ => if k = k' then intArithA op k a b else none
  | .str a, .str b => stringOpA op a b
  | _, _ => match numOf x, numOf y with
    | some (k, a), some (k', b) => symOp C op k k' a b
    | _, _ => match op, C.ty t with
      | .eql, some i => (equalA i.desc x y).map .bool
      | .neq, some i => (equalA i.desc x y).map fun b => .bool !b
      | _, _ => none
def unOpA (op : UnOp) (x : AV) : Option AV :=
  match op, x with
  | .neg, .int k n => some (.int k (k.wrap (0 - n)))
  | .xor, .int k n => intArithA .xor k (if k.signed then -1 else k.max) n
  | .not, .bool b => some (.bool !b)
  | _, _ => none

def convertA (C : Ctx) (src dst : TypeId) (x : AV) : Option AV :=
  match C.ty src, C.ty dst with
  | some i, some j =>
    match j.desc, x with
    | .int k, .int _ n => (match i.desc with | .unsafePointer => none | .float _ => none | .complex _ => none | _ => some (.int k (k.wrap n)))
    | .int k, .sx _ e => (match i.desc with | .unsafePointer => none | .float _ => none | .complex _ => none | _ => some (.sx k (.conv k e)))
    | .string, .str s => (match i.desc with | .string => some (.str s) | _ => none)
    | _, _ => none
  | _, _ => none

def lenA (d : TypeDesc) (x : AV) : Option AV :=
  match d, x with
  | .string, .str s => some (.int .i64 s.length)
  | .slice _, .sl0 => some (.int .i64 0)
  | .slice _, .sl _ _ n => some (.int .i64 n)
  | .array n _, _ => some (.int .i64 n)
  | .map _ _, .map0 => some (.int .i64 0)
  | _, _ => none

def fieldA (C : Ctx) (t : TypeId) (f : Nat) (x : AV) : Option AV :=
  match C.ty t, x with
  | some { desc := .struct fs, .. }, .agg cs => match fs[f]? with
    | some fd => match C.ty fd.type with
      | some j => part j cs fd.offset
      | none => none
    | none => none
  | _, _ => none
def fieldAddrA (C : Ctx) (t : TypeId) (f : Nat) (x : AV) : Option AV :=
  match C.ty t, x with
  | some { desc := .struct fs, .. }, .ptr b o => match fs[f]? with
    | some fd => match C.ty fd.type with
      | some j => cond (Nat.beq j.size 0) none (some (.ptr b (o + fd.offset)))
      | none => none
    | none => none
  | _, _ => none
def indexAddrA (C : Ctx) (t : TypeId) (x : AV) (ix : AV) : Option AV :=
  match C.ty t, ix with
  | some i, .int _ n =>
    match i.desc, x with
    | .slice e, .sl b o len => match C.ty e with
      | some j => if 0 ≤ n ∧ n < (len : Int) then some (.ptr b (o + n.toNat * j.size)) else none
      | none => none
    | .array len e, .ptr b o => match C.ty e with
      | some j => if 0 ≤ n ∧ n < (len : Int) then some (.ptr b (o + n.toNat * j.size)) else none
      | none => none
    | _, _ => none
  | _, _ => none
def indexA (C : Ctx) (t : TypeId) (x : AV) (ix : AV) : Option AV :=
  match C.ty t, ix with
  | some i, .int _ n =>
    match i.desc, x with
    | .array len e, .agg cs => match C.ty e with
      | some j => if 0 ≤ n ∧ n < (len : Int) then part j cs (n.toNat * j.size) else none
      | none => none
    | .string, .str s => if 0 ≤ n then (match s[n.toNat]? with | some b => some (.int .u8 b.toNat) | none => none) else none
    | _, _ => none
  | _, _ => none

/-- the cells of the first n elements -/
def firstA (H : Heap) (size n : Nat) : AV → Option (List AV)
  | .sl0 => some []
  | .sl b o _ => match H.get b with
    | some ob => cond (Nat.ble (o + n * size) ob.cs.length) (some ((ob.cs.drop o).take (n * size))) none
    | none => none
  | .str s => some ((s.take n).map fun b => .int .u8 b.toNat)
  | _ => none
def lenOfA : AV → Option Nat
  | .sl0 => some 0
  | .sl _ _ n => some n
  | .str s => some s.length
  | _ => none

def zeroFits (j : TI) : Bool := match j.zero with
  | some z => Nat.beq z.length j.size
  | none => false
/-- append: a new abstract block; the old one's row may be shared -/
def appendA (C : Ctx) (H : Heap) (id : Nat) (t xt : TypeId) (s x : AV) : Option (AV × Heap) :=
  match Nat.beq t xt, C.ty t with
  | true, some i =>
    match i.desc with
    | .slice e => match C.ty e with
      | some j =>
        match x with
        | .sl0 => (match s with
          | .sl0 => some (.sl0, H)
          | .sl b o len => some (.sl b o len, H)
          | _ => none)
        | .sl bx ox n => (match firstA H j.size n (.sl bx ox n) with
          | some new =>
            cond (Nat.beq n 0 || Nat.beq j.size 0 || !zeroFits j || !Nat.beq new.length (n * j.size)) none
              (match s with
              | .sl0 =>
                cond (Nat.ble (n * j.bytes) 140737488355328 && Nat.ble n 1000000000)
                  (match H.add id { cs := new, es := j.size, kind := .free } with
                    | some H' => some (.sl id 0 n, H')
                    | none => none) none
              | .sl b o len =>
                (match H.get b with
                | some ob =>
                  cond (!ob.kind.isOld && Nat.beq (o + len * j.size) ob.cs.length && Nat.beq ob.es j.size && Nat.ble ((len + n) * j.bytes) 140737488355328 && Nat.ble (len + n) 1000000000 && flatAll new)
                    (match (H.write b { ob with kind := .old }).add id { cs := ob.cs.drop o ++ new, es := ob.es, kind := .tip } with
                      | some H' => some (.sl id 0 (len + n), H')
                      | none => none) none
                | none => none)
              | _ => none)
          | none => none)
        | _ => none
      | none => none
    | _ => none
  | _, _ => none

def sliceBoundA (y : Nat) : Option AV → Nat → Option Nat
  | none, d => some d
  | some (.int _ i), _ => if 0 ≤ i ∧ i ≤ (y : Int) then some i.toNat else none
  | some _, _ => none
def evOpt (T : Tr AV) : Option Operand → Option (Option AV)
  | none => some none
  | some x => match ev T x with | some v => some (some v) | none => none
/-- x[lo:hi] of a string, of a slice up to its length -/
def sliceA (C : Ctx) (H : Heap) (t : TypeId) (x : AV) (lo hi : Option AV) : Option AV :=
  match C.ty t, x with
  | some i, .str s => match i.desc with
    | .string => match sliceBoundA s.length hi s.length with
      | some h => match sliceBoundA h lo 0 with
        | some l => some (.str ((s.take h).drop l))
        | none => none
      | none => none
    | _ => none
  | some i, .sl b o n => match i.desc with
    | .slice e => match C.ty e, sliceBoundA n hi n with
      | some j, some h => match sliceBoundA h lo 0, H.get b with
        | some l, some ob => cond (Nat.blt l n && Nat.beq ob.es j.size) (some (.sl b (o + l * j.size) (h - l))) none
        | _, _ => none
      | _, _ => none
    | _ => none
  | some i, .sl0 => match i.desc with
    | .slice e => match C.ty e, sliceBoundA 0 hi 0 with
      | some _, some h => match sliceBoundA h lo 0 with
        | some _ => some .sl0
        | none => none
      | _, _ => none
    | _ => none
  | _, _ => none

def placeOf (C : Ctx) : Option Field → Option (Nat × Nat)
  | some f => match C.ty f.type with
    | some j => some (f.offset, j.size)
    | none => none
  | none => none
def fillPlaces (C : Ctx) (fs : Array Field) (i : Nat) : Option (Nat × Nat) := placeOf C fs[i]?
def fieldsKnown (C : Ctx) (fs : Array Field) : Bool := fs.toList.all fun f => (C.ty f.type).isSome

def buildA (C : Ctx) (t : TypeId) (parts : List (Nat × AV)) : Option AV :=
  match C.ty t with
  | some i => match i.zero, i.desc with
    | some z, .struct fs => cond (fieldsKnown C fs) ((fillA (fillPlaces C fs) z parts).map .agg) none
    | some z, .array _ e => match C.ty e with
      | some j => (fillA (fun i => some (i * j.size, j.size)) z parts).map .agg
      | none => none
    | _, _ => none
  | none => none

def buildSliceA (C : Ctx) (H : Heap) (id : Nat) (t : TypeId) (len : Nat) (parts : List (Nat × AV)) : Option (AV × Heap) :=
  match C.ty t with
  | some { desc := .slice e, .. } => match C.ty e with
    | some j => match j.zero with
      | some z => cond (Nat.beq z.length j.size && !Nat.beq j.size 0 && Nat.ble (len * j.size) 16777216)
          (match fillA (fun i => some (i * j.size, j.size)) (repeatCells z len) parts with
            | some cs => cond (Nat.beq cs.length (len * j.size)) (match H.add id { cs, es := j.size, kind := .free } with
              | some H' => some (.sl id 0 len, H')
              | none => none) none
            | none => none) none
      | none => none
    | none => none
  | _ => none

def makeSliceA (C : Ctx) (H : Heap) (id : Nat) (t : TypeId) : AV → AV → Option (AV × Heap)
  | .int _ n, .int _ c => if n = c ∧ 0 ≤ n ∧ n ≤ 16777216 then
      (match C.ty t with
      | some { desc := .slice e, .. } => match C.ty e with
        | some j => match j.zero with
          | some z => cond (Nat.beq z.length j.size && !Nat.beq j.size 0 && Nat.ble j.bytes 1000000 && Nat.ble (n.toNat * j.bytes) 140737488355328)
            (match H.add id { cs := repeatCells z n.toNat, es := j.size, kind := .free } with
              | some H' => some (.sl id 0 n.toNat, H')
              | none => none) none
          | none => none
        | none => none
      | _ => none) else none
  | _, _ => none

/-- a new variable of a type -/
def allocA (C : Ctx) (H : Heap) (id : Nat) (t : TypeId) : Option (AV × Heap) :=
  match C.ty t with
  | some i => match i.zero with
    | some z => match H.add id { cs := z, es := i.size, kind := .free } with
      | some H' => some (.ptr id 0, H')
      | none => none
    | none => none
  | none => none
def boxA (H : Heap) (id : Nat) (v : AV) : Option (AV × Heap) :=
  match H.add id { cs := v.cells, es := v.cells.length, kind := .free } with
  | some H' => some (.ptr id 0, H')
  | none => none

abbrev CallA := Heap → FuncId → List AV → Option (AV × Heap)

def same (H : Heap) : Option AV → Option (AV × Heap)
  | some v => some (v, H)
  | none => none

def callA (C : Ctx) (call : CallA) (H : Heap) (id : Nat) (T : Tr AV) (c : Call) : Option (AV × Heap) :=
  match evs T c.args.toList with
  | none => none
  | some vs =>
    match c.callee with
    | .value f => match ev T f with
      | some (.fn (.func f) first captured) => call H f (first ++ vs ++ captured)
      | _ => none
    | .builtin .len => match c.argTypes[0]?, vs with
      | some t, x :: _ => match C.ty t with
        | some i => same H (lenA i.desc x)
        | none => none
      | _, _ => none
    | .builtin .append => match c.argTypes.toList, vs with
      | [t, xt], [s, x] => appendA C H id t xt s x
      | _, _ => none
    | _ => none

def evOp (C : Ctx) (call : CallA) (H : Heap) (id : Nat) (T : Tr AV) (o : Oper) : Option (AV × Heap) :=
  match o.op with
  | .move x | .assign x => same H (ev T x)
  | .pick c a b => match ev T c with
    | some (.bool t) => match t with
      | true => same H (ev T a)
      | false => same H (ev T b)
    | _ => none
  | .alloc t => allocA C H id t
  | .box _ x => match ev T x with | some v => boxA H id v | none => none
  | .build t parts => match evParts T parts.toList with | some ps => same H (buildA C t ps) | none => none
  | .buildSlice t len parts => match evParts T parts.toList with | some ps => buildSliceA C H id t len ps | none => none
  | .load t a => match ev T a with | some v => same H (evLoad C H t v) | none => none
  | .store t a x => match ev T a, ev T x with
    | some v, some u => match evStore C H t u v with
      | some H' => some (undefA, H')
      | none => none
    | _, _ => none
  | .nilCheck x => match ev T x with
    | some (.ptr b o) => some (.ptr b o, H)
    | some (.fn (.func f) a c) => some (.fn (.func f) a c, H)
    | _ => none
  | .binOp op t x y _ => match ev T x, ev T y with
    | some a, some b => same H (binOpA C op t a b)
    | _, _ => none
  | .unOp op _ x => match ev T x with | some a => same H (unOpA op a) | none => none
  | .convert s d x => match ev T x with | some a => same H (convertA C s d a) | none => none
  | .field t x f => match ev T x with | some a => same H (fieldA C t f a) | none => none
  | .fieldAddr t x f => match ev T x with | some a => same H (fieldAddrA C t f a) | none => none
  | .indexAddr t x i => match ev T x, ev T i with | some a, some b => same H (indexAddrA C t a b) | _, _ => none
  | .index t x i => match ev T x, ev T i with | some a, some b => same H (indexA C t a b) | _, _ => none
  | .slice t x lo hi none => match ev T x, evOpt T lo, evOpt T hi with
    | some a, some l, some h => same H (sliceA C H t a l h)
    | _, _, _ => none
  | .extract x i => match ev T x with
    | some (.tup vs) => same H vs[i]?
    | _ => none
  | .makeSlice t l c => match ev T l, ev T c with | some a, some b => makeSliceA C H id t a b | _, _ => none
  | .call c => callA C call H id T c
  | _ => none

/-- is an operation wanted -/
def wantedA (ops : Array Oper) (T : Tr AV) (o : Oper) : Option Bool :=
  match o.guard with
  | none => some true
  | some (j, want) => match (ops[j]?).bind (·.dst) with
    | some d => match T.get d with
      | some (.bool b) => some (b == want)
      | some (.tup []) => some false
      | _ => none
    | none => none

/-- the operations of a region in the order of the text; the i-th may make the block number base + i -/
def evOps (C : Ctx) (call : CallA) (ops : Array Oper) (base : Nat) : Nat → List Oper → St → Option St
  | _, [], s => some s
  | i, o :: rest, s => match wantedA ops s.T o with
    | none => none
    | some false => match s.put o.dst undefA with
      | some s' => evOps C call ops base (i + 1) rest s'
      | none => none
    | some true => match evOp C call s.H (base + i) s.T o with
      | some (v, H') => match ({ s with H := H' } : St).put o.dst v with
        | some s' => evOps C call ops base (i + 1) rest s'
        | none => none
      | none => none

inductive X where
  | normal
  | exit (id : Nat)
  | ret

/-- 0: looks at no memory · 1: makes one block · 2: looks at one block · 3: all else -/
def clsOf (o : Oper) : Nat :=
  match o.op with
  | .move _ | .assign _ | .pick .. | .build .. | .nilCheck _ | .binOp .. | .unOp .. | .convert .. | .field .. | .fieldAddr .. | .indexAddr .. | .index .. | .extract .. => 0
  | .alloc _ | .box .. | .buildSlice .. | .makeSlice .. => 1
  | .load .. | .slice .. => 2
  | .call { callee := .builtin .len, .. } => 0
  | _ => 3

def binding (o : Oper) : List Nat := (o.after.toList.filter (Region.binds .any)).map (·.on)

/-- of each operation the set of those that come before it, as bits -/
def masksFrom : List Oper → List Nat → List Nat
  | [], acc => acc
  | o :: os, acc => masksFrom os (acc ++ [(binding o).foldl (fun m j => m ||| (1 <<< j) ||| acc.getD j 0) 0])
def masks (ops : Array Oper) : List Nat := masksFrom ops.toList []
def bef (ms : List Nat) (j i : Nat) : Bool := (ms.getD j 0).testBit i
def ordered (ms : List Nat) (i j : Nat) : Bool := bef ms i j || bef ms j i

def listedAll (l : List Nat) (ls : List Nat) : Bool := l.all fun j => ls.contains j
def pickNext (ops : Array Oper) (listed : List Nat) (wantE : Bool) : List Nat → Option Nat
  | [] => none
  | i :: is => match ops[i]? with
    | some o => cond (!listed.contains i && (wantE || !Nat.beq (clsOf o) 3) && listedAll (binding o) listed) (some i) (pickNext ops listed wantE is)
    | none => pickNext ops listed wantE is
def greedy (ops : Array Oper) : Nat → List Nat → List Nat
  | 0, listed => listed
  | n + 1, listed => match pickNext ops listed false (List.range ops.size) with
    | some i => greedy ops n (listed ++ [i])
    | none => match pickNext ops listed true (List.range ops.size) with
      | some i => greedy ops n (listed ++ [i])
      | none => listed
def orderOf (ops : Array Oper) : List Nat := greedy ops ops.size []

def posOf (l : List Nat) (i : Nat) : Nat := l.findIdx (Nat.beq i)

def pairOk (ops : Array Oper) (ms ord : List Nat) (i j : Nat) (x y : Oper) : Bool :=
  (match x.dst with
    | some t => cond ((y.looksAt ops).contains t || y.dst == some t) (ordered ms i j) true
    | none => true) &&
  (cond (Nat.beq (clsOf x) 3 && Nat.beq (clsOf y) 3) (ordered ms i j) true) &&
  (cond (Nat.beq (clsOf x) 1 && Nat.beq (clsOf y) 3) (ordered ms i j || Nat.blt (posOf ord i) (posOf ord j)) true)
def staticOk (ops : Array Oper) (ms ord : List Nat) : Bool :=
  Nat.beq ord.length ops.size && ((List.range ops.size).all fun i => ord.contains i) && (ord.all fun i => Nat.blt i ops.size) &&
  (ord.zipIdx.all fun x => Nat.beq (posOf ord x.1) x.2) &&
  ((List.range ops.size).all fun j => match ops[j]? with
    | some y => ((binding y).all fun i => Nat.blt i ops.size && Nat.blt (posOf ord i) (posOf ord j)) &&
      ((List.range ops.size).all fun i => Nat.beq i j || match ops[i]? with
        | some x => pairOk ops ms ord i j x y
        | none => false)
    | none => false)

/-- what an operation of a region that draws its order has looked at, or written -/
structure Info where
  blk : Option Nat
  wr : List Nat
def blkOf (T : Tr AV) (base i : Nat) (o : Oper) : Option Nat :=
  match o.op with
  | .load _ a => match ev T a with | some (.ptr b _) => some b | _ => none
  | .slice _ x _ _ _ => match ev T x with | some (.sl b _ _) => some b | _ => none
  | _ => cond (Nat.beq (clsOf o) 1) (some (base + i)) none
def evOneD (C : Ctx) (call : CallA) (ops : Array Oper) (base i : Nat) (s : St) : Option (St × Info) :=
  match ops[i]? with
  | none => none
  | some o => match wantedA ops s.T o with
    | none => none
    | some false => match s.put o.dst undefA with
      | some s' => some (s', ⟨none, []⟩)
      | none => none
    | some true => match evOp C call s.H (base + i) s.T o with
      | some (v, H') => match ({ s with H := { H' with log := [] } } : St).put o.dst v with
        | some s' => some (s', ⟨blkOf s.T base i o, cond (Nat.beq (clsOf o) 3) H'.log []⟩)
        | none => none
      | none => none
def evOpsD (C : Ctx) (call : CallA) (ops : Array Oper) (base : Nat) : List Nat → St → Option (St × List (Nat × Info))
  | [], s => some (s, [])
  | i :: is, s => match evOneD C call ops base i s with
    | some (s', f) => match evOpsD C call ops base is s' with
      | some (s'', fs) => some (s'', (i, f) :: fs)
      | none => none
    | none => none
def dynOk (ms : List Nat) (fs : List (Nat × Info)) : Bool :=
  fs.all fun x => match x.2.blk with
    | none => true
    | some b => fs.all fun y => cond (y.2.wr.contains b) (Nat.beq x.1 y.1 || ordered ms x.1 y.1) true
def evDraw (C : Ctx) (call : CallA) (ops : Array Oper) (s : St) : Option St :=
  cond (staticOk ops (masks ops) (orderOf ops))
    (match evOpsD C call ops s.H.next (orderOf ops) { s with H := { s.H with next := s.H.next + ops.size, log := [] } } with
    | some (s', fs) => cond (dynOk (masks ops) fs) (some { s' with H := { s'.H with log := fs.flatMap (fun x => x.2.wr) ++ s.H.log } }) none
    | none => none) none

mutual
def evCode (C : Ctx) (call : CallA) : Nat → Code → St → Option (X × St)
  | 0, _, _ => none
  | n + 1, c, s =>
    match c with
    | .skip => some (.normal, s)
    | .region _ ops draw => match draw with
      | false => (match evOps C call ops s.H.next 0 ops.toList { s with H := { s.H with next := s.H.next + ops.size } } with
        | some s' => some (.normal, s')
        | none => none)
      | true => (match evDraw C call ops s with
        | some s' => some (.normal, s')
        | none => none)
    | .seq a b => match evCode C call n a s with
      | some (.normal, s') => evCode C call n b s'
      | r => r
    | .cond x a b => match ev s.T x with
      | some (.bool true) => evCode C call n a s
      | some (.bool false) => evCode C call n b s
      | _ => none
    | .block id b => match evCode C call n b s with
      | some (.exit i, s') => some (cond (Nat.beq i id) .normal (.exit i), s')
      | r => r
    | .loop b => evLoop C call n b s
    | .exit id => some (.exit id, s)
    | .label _ => some (.normal, s)
    | .ret => some (.ret, s)
    | _ => none
def evLoop (C : Ctx) (call : CallA) : Nat → Code → St → Option (X × St)
  | 0, _, _ => none
  | n + 1, b, s => match evCode C call n b s with
    | some (.normal, s') => evLoop C call n b s'
    | r => r
end

def enterT : Nat → List AV → Tr AV → Tr AV
  | _, [], T => T
  | i, v :: vs, T => enterT (i + 1) vs (T.set i v)

def resultA (C : Ctx) (s : St) : ResultVar → Option AV
  | .tmp t => s.T.get t
  | .cell a t => match s.T.get a with
    | some v => evLoad C s.H t v
    | none => none
def resultsA (C : Ctx) (s : St) : List ResultVar → Option (List AV)
  | [] => some []
  | r :: rs => match resultA C s r, resultsA C s rs with
    | some v, some vs => some (v :: vs)
    | _, _ => none
def shut : List AV → AV
  | [v] => v
  | vs => .tup vs

/-- what a call hands back, by the given functions where they speak -/
def evFun (C : Ctx) (prim : CallA) : Nat → CallA
  | 0, _, _, _ => none
  | n + 1, H, f, args =>
    match prim H f args with
    | some r => some r
    | none =>
      match C.fn f with
      | some fn => match fn.body with
        | some code => cond (Nat.ble args.length fn.ntmps)
          (match evCode C (evFun C prim n) n code { T := enterT 0 args .nil, N := fn.ntmps, H := { H with log := [] } } with
            | some (.exit _, _) => none
            | some (_, s) => match resultsA C s fn.results.toList with
              | some vs => some (shut vs, { s.H with log := s.H.log.filter (fun b => (H.get b).isSome) ++ H.log })
              | none => none
            | none => none) none
        | none => none
      | none => none
end Go.Ev
