import Derived.Test.YtldgccbiikahgabGreatEvBase
namespace Go.Ev
open Go

def undefA : AV := .tup []

def AV.cells : AV → List AV
  | .agg cs => cs
  | v => [v]

/-- the constants: no addresses in them -/
def ofCell : Value → Option AV
  | .bool b => some (.bool b)
  | .int k n => some (.int k n)
  | .string s => some (.str s.data.toList)
  | .pointer none => some .ptr0
  | .slice none 0 0 => some .sl0
  | .map none => some .map0
  | .nilFunc => some .nilfn
  | .nilIface => some .nilif
  | _ => none
def ofCells : List Value → Option (List AV)
  | [] => some []
  | v :: vs => match ofCell v, ofCells vs with
    | some x, some xs => some (x :: xs)
    | _, _ => none
def ofValue : Value → Option AV
  | .agg cs => (ofCells cs.toList).map .agg
  | .tuple vs => (ofCells vs.toList).map .tup
  | .func (.func f) first captured => cond (first.toList.isEmpty && captured.toList.isEmpty) (some (.fn (.func f) [] [])) none
  | v => ofCell v

/-- free: nobody else's · tip: from a place on nobody else's · old: something has been appended behind it · map: keys and values by turns -/
inductive Kind where | free | tip (own : Nat) | old | map
def Kind.isFree : Kind → Bool | .free | .map => true | _ => false
def Kind.isOld : Kind → Bool | .old => true | _ => false
def Kind.isMap : Kind → Bool | .map => true | _ => false
def Kind.own : Kind → Nat | .tip n => n | _ => 0
/-- may the cells from a place on be written -/
def Kind.lets (k : Kind) (o : Nat) : Bool := match k with | .free => true | .tip n => Nat.ble n o | _ => false

structure Obj where
  cs : List AV
  es : Nat
  kind : Kind

structure Heap where
  tr : Tr Obj
  next : Nat
  log : List Nat
def Heap.get (H : Heap) (b : Nat) : Option Obj := H.tr.get b
/-- a block of cells -/
def Heap.cells (H : Heap) (b : Nat) : Option Obj := match H.get b with | some o => cond o.kind.isMap none (some o) | none => none
def Heap.put (H : Heap) (b : Nat) (o : Obj) : Heap := { H with tr := H.tr.set b o }
/-- a block that is written: the log tells it -/
def Heap.write (H : Heap) (b : Nat) (o : Obj) : Heap := { H with tr := H.tr.set b o, log := b :: H.log }
/-- a new block at a number that is still free -/
def Heap.add (H : Heap) (b : Nat) (o : Obj) : Option Heap := match H.get b with | none => some (H.put b o) | some _ => none

structure TI where
  desc : TypeDesc
  size : Nat
  bytes : Nat
  zero : Option (List AV)
  zval : Option AV
def TI.isAgg (i : TI) : Bool := match i.desc with | .struct _ | .array _ _ => true | _ => false

structure Ctx where
  ty : TypeId → Option TI
  fn : FuncId → Option Func
  orc : BinOp → Exp → Exp → Option Bool

structure Ctx.Ok [Env] (C : Ctx) (P : Program) : Prop where
  ty : ∀ t i, C.ty t = some i → P.underlying t = some i.desc ∧ ∃ j, P.info? t = some j ∧ j.size = i.size ∧ j.bytes = i.bytes ∧ (∀ zs, i.zero = some zs → ∃ z, j.zero = some z ∧ ∀ ι, VRs ι zs z.cells.toList)
  fn : ∀ f x, C.fn f = some x → P.funcs[f]? = some x
  name : ∀ f x, C.fn f = some x → x.name ≠ "runtime.NumGoroutine"
  mixed : P.follows .mixedOrders = true
  orc : ∀ o a b r, C.orc o a b = some r → cmpVal o a.eval b.eval = r
  zv : ∀ t i v, C.ty t = some i → i.zval = some v → ∃ j z, P.info? t = some j ∧ j.zero = some z ∧ ∀ ι, VR ι v z

def Ctx.of (P : Program) : Ctx where
  ty t := match P.info? t, P.underlying t with
    | some j, some d => some { desc := d, size := j.size, bytes := j.bytes, zero := j.zero.bind fun z => ofCells z.cells.toList, zval := j.zero.bind ofValue }
    | _, _ => none
  fn f := P.funcs[f]?
  orc _ _ _ := none

structure St where
  T : Tr AV
  N : Nat
  H : Heap
def St.put (s : St) (dst : Option Tmp) (v : AV) : Option St :=
  match dst with
  | none => some s
  | some d => cond (Nat.blt d s.N) (some { s with T := s.T.set d v }) none

def ev (T : Tr AV) : Operand → Option AV
  | .tmp t => T.get t
  | .const v => ofValue v
  | .global _ => none
  | .func f => some (.fn (.func f) [] [])
def evs (T : Tr AV) : List Operand → Option (List AV)
  | [] => some []
  | x :: xs => match ev T x, evs T xs with
    | some v, some vs => some (v :: vs)
    | _, _ => none

def splice (cs : List AV) (o : Nat) (new : List AV) : List AV := cs.take o ++ new ++ cs.drop (o + new.length)

/-- a value of a type out of cells -/
def part (i : TI) (cs : List AV) (o : Nat) : Option AV :=
  cond i.isAgg (cond (Nat.ble (o + i.size) cs.length) (some (.agg ((cs.drop o).take i.size))) none) (cs[o]?)

def AV.flat : AV → Bool
  | .agg _ | .tup _ => false
  | _ => true
def flatAll : List AV → Bool
  | [] => true
  | x :: xs => x.flat && flatAll xs
def evLoad (C : Ctx) (H : Heap) (t : TypeId) : AV → Option AV
  | .ptr b o => match C.ty t, H.cells b with
    | some i, some ob => part i ob.cs o
    | _, _ => none
  | _ => none
def evStore (C : Ctx) (H : Heap) (t : TypeId) (x : AV) : AV → Option Heap
  | .ptr b o => match C.ty t, H.cells b with
    | some i, some ob => cond (ob.kind.lets o && Nat.beq x.cells.length i.size && Nat.ble (o + i.size) ob.cs.length && flatAll x.cells)
        (some (H.write b { ob with cs := splice ob.cs o x.cells })) none
    | _, _ => none
  | _ => none

/-- parts put into cells -/
def fillA (place : Nat → Option (Nat × Nat)) (cells : List AV) : List (Nat × AV) → Option (List AV)
  | [] => some cells
  | (i, v) :: rest => match place i with
    | none => none
    | some (off, size) => cond (Nat.beq v.cells.length size && Nat.ble (off + v.cells.length) cells.length) (fillA place (splice cells off v.cells) rest) none
def evParts (T : Tr AV) : List (Nat × Operand) → Option (List (Nat × AV))
  | [] => some []
  | (i, x) :: xs => match ev T x, evParts T xs with
    | some v, some vs => some ((i, v) :: vs)
    | _, _ => none

def repeatCells (z : List AV) : Nat → List AV
  | 0 => []
  | n + 1 => z ++ repeatCells z n

def intArithA (op : BinOp) (k : IntKind) (x y : Int) : Option AV :=
  match op with
  | .add => some (.int k (k.wrap (x + y)))
  | .sub => some (.int k (k.wrap (x - y)))
  | .mul => some (.int k (k.wrap (x * y)))
  | .quo => if y = 0 then none else some (.int k (k.wrap (x.tdiv y)))
  | .rem => if y = 0 then none else some (.int k (x.tmod y))
  | .and => some (.int k (k.wrap (BitVec.ofInt k.bits x &&& BitVec.ofInt k.bits y).toNat))
  | .or => some (.int k (k.wrap (BitVec.ofInt k.bits x ||| BitVec.ofInt k.bits y).toNat))
  | .xor => some (.int k (k.wrap (BitVec.ofInt k.bits x ^^^ BitVec.ofInt k.bits y).toNat))
  | .andNot => some (.int k (k.wrap (BitVec.ofInt k.bits x &&& ~~~BitVec.ofInt k.bits y).toNat))
  | .eql => some (.bool (x == y))
  | .neq => some (.bool (x != y))
  | .lss => some (.bool (x < y))
  | .leq => some (.bool (x ≤ y))
  | .gtr => some (.bool (x > y))
  | .geq => some (.bool (x ≥ y))
  | _ => none
def shiftA (op : BinOp) (k : IntKind) (x y : Int) : Option AV :=
  match op with
  | .shl => if y < 0 then none else some (.int k (k.wrap (x * 2 ^ min y.toNat k.bits)))
  | .shr => if y < 0 then none else some (.int k (x.fdiv (2 ^ min y.toNat k.bits)))
  | _ => none
def stringOpA (op : BinOp) (x y : List UInt8) : Option AV :=
  match op with
  | .add => cond (Nat.ble (x.length + y.length) 9223372036854775807) (some (.str (x ++ y))) none
  | .eql => some (.bool (x == y))
  | .neq => some (.bool !(x == y))
  | .lss => some (.bool (Op.bytesLess x y))
  | .leq => some (.bool (Op.bytesLess x y || x == y))
  | .gtr => some (.bool !(Op.bytesLess x y || x == y))
  | .geq => some (.bool !(Op.bytesLess x y))
  | _ => none
/-- == at a type that is not int nor string, where the answer hangs on no address -/
def equalA (d : TypeDesc) : AV → AV → Option Bool
  | .bool a, .bool b => match d with | .bool => some (a == b) | _ => none
  | .ptr0, .ptr0 => match d with | .pointer _ => some true | _ => none
  | .ptr0, .ptr _ _ => match d with | .pointer _ => some false | _ => none
  | .ptr _ _, .ptr0 => match d with | .pointer _ => some false | _ => none
  | .sl0, .sl0 => match d with | .slice _ => some true | _ => none
  | .sl0, .sl _ _ _ => match d with | .slice _ => some false | _ => none
  | .sl _ _ _, .sl0 => match d with | .slice _ => some false | _ => none
  | .map0, .map0 => match d with | .map _ _ => some true | _ => none
  | .map0, .map _ => match d with | .map _ _ => some false | _ => none
  | .map _, .map0 => match d with | .map _ _ => some false | _ => none
  | .nilfn, .nilfn => match d with | .func _ _ _ => some true | _ => none
  | .nilfn, .fn _ _ _ => match d with | .func _ _ _ => some false | _ => none
  | .fn _ _ _, .nilfn => match d with | .func _ _ _ => some false | _ => none
  | _, _ => none
def numOf : AV → Option (IntKind × Exp)
  | .int k n => some (k, .lit n)
  | .sx k e => some (k, e)
  | _ => none
/-- an operation on numbers of which one is not known -/
def symOp (C : Ctx) (op : BinOp) (k k' : IntKind) (a b : Exp) : Option AV :=
  match op with
  | .shl | .shr => match b with
    | .lit y => if y < 0 then none else some (.sx k (.sh op k a y.toNat))
    | _ => none
  | .add | .sub | .mul | .and | .or | .xor | .andNot => if k = k' then some (.sx k (.op op k a b)) else none
  | .quo | .rem => if k = k' then (match C.orc .eql b (.lit 0) with
    | some false => some (.sx k (.op op k a b))
    | _ => none) else none
  | .eql | .neq | .lss | .leq | .gtr | .geq => if k = k' then (C.orc op a b).map .bool else none
def binOpA (C : Ctx) (op : BinOp) (t : TypeId) (x y : AV) : Option AV :=
  match x, y with
  | .int k a, .int k' b =>
    match op with
    | .shl | .shr => shiftA op k a b
    | _ => if k = k' then intArithA op k a b else none
  | .str a, .str b => stringOpA op a b
  | _, _ => match numOf x, numOf y with
    | some (k, a), some (k', b) => symOp C op k k' a b
    | _, _ => match op, C.ty t with
      | .eql, some i => (equalA i.desc x y).map .bool
      | .neq, some i => (equalA i.desc x y).map fun b => .bool !b
      | _, _ => none
def unOpA (op : UnOp) (x : AV) : Option AV :=
  match op, x with
  | .neg, .int k n => some (.int k (k.wrap (0 - n)))
  | .xor, .int k n => intArithA .xor k (if k.signed then -1 else k.max) n
  | .not, .bool b => some (.bool !b)
  | _, _ => none

def convertA (C : Ctx) (src dst : TypeId) (x : AV) : Option AV :=
  match C.ty src, C.ty dst with
  | some i, some j =>
    match j.desc, x with
    | .int k, .int _ n => (match i.desc with | .unsafePointer => none | .float _ => none | .complex _ => none | _ => some (.int k (k.wrap n)))
    | .int k, .sx _ e => (match i.desc with | .unsafePointer => none | .float _ => none | .complex _ => none | _ => some (.sx k (.conv k e)))
    | .string, .str s => (match i.desc with | .string => some (.str s) | _ => none)
    | _, _ => none
  | _, _ => none

def lenA (d : TypeDesc) (x : AV) : Option AV :=
  match d, x with
  | .string, .str s => some (.int .i64 s.length)
  | .slice _, .sl0 => some (.int .i64 0)
  | .slice _, .sl _ _ n => some (.int .i64 n)
  | .array n _, _ => some (.int .i64 n)
  | .map _ _, .map0 => some (.int .i64 0)
  | _, _ => none

/-! ### maps: keys and values by turns -/
def Heap.entries (H : Heap) (b : Nat) : Option Obj := match H.get b with | some o => cond o.kind.isMap (some o) none | none => none
def sameA : TypeDesc → AV → AV → Option Bool
  | .int _, .int k a, .int k' b => if k = k' then some (a == b) else none
  | .string, .str a, .str b => some (a == b)
  | _, _, _ => none
def findA (d : TypeDesc) (k : AV) : List AV → Option (Option AV)
  | [] => some none
  | [_] => none
  | x :: v :: r => match sameA d k x with
    | some true => some (some v)
    | some false => findA d k r
    | none => none
def updA (d : TypeDesc) (k v : AV) : List AV → Option (List AV)
  | [] => some [k, v]
  | [_] => none
  | x :: u :: r => match sameA d k x with
    | some true => some (k :: v :: r)
    | some false => match updA d k v r with
      | some r' => some (x :: u :: r')
      | none => none
    | none => none
def keyA (d : TypeDesc) (k : AV) : Bool := match d, k with | .int q, .int p _ => decide (p = q) | .string, .str _ => true | _, _ => false
def lookA (d : TypeDesc) (z : Option AV) (ok : Bool) (k : AV) (cs : List AV) : Option AV :=
  match findA d k cs with
  | some (some v) => some (cond ok (.tup [v, .bool true]) v)
  | some none => match z with
    | some v => some (cond ok (.tup [v, .bool false]) v)
    | none => none
  | none => none
def lookupA (C : Ctx) (H : Heap) (t : TypeId) (m k : AV) (ok : Bool) : Option AV :=
  match C.ty t with
  | some i => match i.desc with
    | .map kt et => match C.ty kt, C.ty et with
      | some ki, some ei => cond (keyA ki.desc k) (match m with
        | .map0 => lookA ki.desc ei.zval ok k []
        | .map b => (match H.entries b with
          | some ob => lookA ki.desc ei.zval ok k ob.cs
          | none => none)
        | _ => none) none
      | _, _ => none
    | _ => none
  | none => none
def mapUpdateA (C : Ctx) (H : Heap) (t : TypeId) (m k v : AV) : Option Heap :=
  match C.ty t with
  | some i => match i.desc with
    | .map kt _ => match C.ty kt, m with
      | some ki, .map b => cond (keyA ki.desc k) (match H.entries b with
        | some ob => (match updA ki.desc k v ob.cs with
          | some cs => some (H.write b { ob with cs := cs })
          | none => none)
        | none => none) none
      | _, _ => none
    | _ => none
  | none => none
def makeMapA (H : Heap) (id : Nat) : Option (AV × Heap) :=
  match H.add id { cs := [], es := 0, kind := .map } with
  | some H' => some (.map id, H')
  | none => none
def lenMapA (H : Heap) (d : TypeDesc) (x : AV) : Option AV :=
  match d, x with
  | .map _ _, .map b => match H.entries b with
    | some ob => some (.int .i64 (ob.cs.length / 2 : Nat))
    | none => none
  | _, _ => none
/-- the bytes of a slice as a string -/
def bytesA : List AV → Option (List UInt8)
  | [] => some []
  | .int .u8 n :: r => match bytesA r with
    | some s => some (UInt8.ofNat n.toNat :: s)
    | none => none
  | _ :: _ => none
def toStringA (C : Ctx) (H : Heap) (src dst : TypeId) (x : AV) : Option AV :=
  match C.ty src, C.ty dst with
  | some i, some j => match i.desc, j.desc with
    | .slice e, .string => match C.ty e with
      | some ei => match ei.desc, x with
        | .int .u8, .sl0 => some (.str [])
        | .int .u8, .sl b o n => (match H.cells b with
          | some ob => cond (Nat.ble (o + n) ob.cs.length) (match bytesA ((ob.cs.drop o).take n) with
            | some s => some (.str s)
            | none => none) none
          | none => none)
        | _, _ => none
      | none => none
    | _, _ => none
  | _, _ => none
def numA (k : IntKind) : Exp → AV
  | .lit n => .int k n
  | e => .sx k e
/-- the less of two numbers, or the greater -/
def minMaxA (C : Ctx) (min : Bool) (x y : AV) : Option AV :=
  match x, y with
  | .int k a, .int _ b => some (.int k (cond min (if b < a then b else a) (if b > a then b else a)))
  | _, _ => match numOf x, numOf y with
    | some (k, a), some (_, b) => match cond min (C.orc .lss b a) (C.orc .lss a b) with
      | some true => some (numA k b)
      | some false => some (numA k a)
      | none => none
    | _, _ => none

def convertHA (C : Ctx) (H : Heap) (src dst : TypeId) (x : AV) : Option AV :=
  match convertA C src dst x with
  | some v => some v
  | none => toStringA C H src dst x
def lenHA (H : Heap) (d : TypeDesc) (x : AV) : Option AV :=
  match x with
  | .map b => lenMapA H d (.map b)
  | x => lenA d x
def fieldA (C : Ctx) (t : TypeId) (f : Nat) (x : AV) : Option AV :=
  match C.ty t, x with
  | some { desc := .struct fs, .. }, .agg cs => match fs[f]? with
    | some fd => match C.ty fd.type with
      | some j => part j cs fd.offset
      | none => none
    | none => none
  | _, _ => none
def fieldAddrA (C : Ctx) (t : TypeId) (f : Nat) (x : AV) : Option AV :=
  match C.ty t, x with
  | some { desc := .struct fs, .. }, .ptr b o => match fs[f]? with
    | some fd => match C.ty fd.type with
      | some j => cond (Nat.beq j.size 0) none (some (.ptr b (o + fd.offset)))
      | none => none
    | none => none
  | _, _ => none
def indexAddrA (C : Ctx) (t : TypeId) (x : AV) (ix : AV) : Option AV :=
  match C.ty t, ix with
  | some i, .int _ n =>
    match i.desc, x with
    | .slice e, .sl b o len => match C.ty e with
      | some j => if 0 ≤ n ∧ n < (len : Int) then some (.ptr b (o + n.toNat * j.size)) else none
      | none => none
    | .array len e, .ptr b o => match C.ty e with
      | some j => if 0 ≤ n ∧ n < (len : Int) then some (.ptr b (o + n.toNat * j.size)) else none
      | none => none
    | _, _ => none
  | _, _ => none
def indexA (C : Ctx) (t : TypeId) (x : AV) (ix : AV) : Option AV :=
  match C.ty t, ix with
  | some i, .int _ n =>
    match i.desc, x with
    | .array len e, .agg cs => match C.ty e with
      | some j => if 0 ≤ n ∧ n < (len : Int) then part j cs (n.toNat * j.size) else none
      | none => none
    | .string, .str s => if 0 ≤ n then (match s[n.toNat]? with | some b => some (.int .u8 b.toNat) | none => none) else none
    | _, _ => none
  | _, _ => none

/-- the cells of the first n elements -/
def firstA (H : Heap) (size n : Nat) : AV → Option (List AV)
  | .sl0 => some []
  | .sl b o _ => match H.cells b with
    | some ob => cond (Nat.ble (o + n * size) ob.cs.length) (some ((ob.cs.drop o).take (n * size))) none
    | none => none
  | .str s => some ((s.take n).map fun b => .int .u8 b.toNat)
  | _ => none
def lenOfA : AV → Option Nat
  | .sl0 => some 0
  | .sl _ _ n => some n
  | .str s => some s.length
  | _ => none

def zeroFits (j : TI) : Bool := match j.zero with
  | some z => Nat.beq z.length j.size
  | none => false
/-- append: a new abstract block; the old one's row may be shared -/
def appendA (C : Ctx) (H : Heap) (id : Nat) (t xt : TypeId) (s x : AV) : Option (AV × Heap) :=
  match Nat.beq t xt, C.ty t with
  | true, some i =>
    match i.desc with
    | .slice e => match C.ty e with
      | some j =>
        match x with
        | .sl0 => (match s with
          | .sl0 => some (.sl0, H)
          | .sl b o len => some (.sl b o len, H)
          | _ => none)
        | .sl bx ox n => (match firstA H j.size n (.sl bx ox n) with
          | some new =>
            cond (Nat.beq n 0 || Nat.beq j.size 0 || !zeroFits j || !Nat.beq new.length (n * j.size)) none
              (match s with
              | .sl0 =>
                cond (Nat.ble (n * j.bytes) 140737488355328 && Nat.ble n 1000000000)
                  (match H.add id { cs := new, es := j.size, kind := .free } with
                    | some H' => some (.sl id 0 n, H')
                    | none => none) none
              | .sl b o len =>
                (match H.cells b with
                | some ob =>
                  cond (!ob.kind.isOld && Nat.beq (o + len * j.size) ob.cs.length && Nat.beq ob.es j.size && Nat.ble ((len + n) * j.bytes) 140737488355328 && Nat.ble (len + n) 1000000000 && flatAll new)
                    (match (H.write b { ob with kind := .old }).add id { cs := ob.cs.drop o ++ new, es := ob.es, kind := .tip (ob.cs.drop o).length } with
                      | some H' => some (.sl id 0 (len + n), H')
                      | none => none) none
                | none => none)
              | _ => none)
          | none => none)
        | _ => none
      | none => none
    | _ => none
  | _, _ => none

/-- append(s, make([]T, m)...), and append of a slice of no elements -/
def appendZA (C : Ctx) (H : Heap) (id : Nat) (t xt : TypeId) (s x : AV) : Option (AV × Heap) :=
  match C.ty t with
  | some i => match i.desc with
    | .slice e => match C.ty e with
      | some j => match x with
        | .sl _ _ 0 => cond (Nat.beq t xt) (match s with
          | .sl0 => some (.sl0, H)
          | .sl b o len => some (.sl b o len, H)
          | _ => none) none
        | .int _ m => match C.ty xt with
          | some q => match q.desc, j.zero with
            | .int _, some z => cond (decide (0 < m) && decide (m ≤ 1000000) && Nat.beq z.length j.size && !Nat.beq j.size 0 && flatAll (repeatCells z m.toNat))
              (match s with
              | .sl0 => cond (Nat.ble (m.toNat * j.bytes) 140737488355328)
                  (match H.add id { cs := repeatCells z m.toNat, es := j.size, kind := .free } with
                    | some H' => some (.sl id 0 m.toNat, H')
                    | none => none) none
              | .sl b o len => (match H.cells b with
                | some ob =>
                  cond (!ob.kind.isOld && Nat.beq (o + len * j.size) ob.cs.length && Nat.beq ob.es j.size && Nat.ble ((len + m.toNat) * j.bytes) 140737488355328 && Nat.ble (len + m.toNat) 1000000000)
                    (match (H.write b { ob with kind := .old }).add id { cs := ob.cs.drop o ++ repeatCells z m.toNat, es := ob.es, kind := .tip (ob.cs.drop o).length } with
                      | some H' => some (.sl id 0 (len + m.toNat), H')
                      | none => none) none
                | none => none)
              | _ => none) none
            | _, _ => none
          | none => none
        | _ => none
      | none => none
    | _ => none
  | none => none
def appendHA (C : Ctx) (H : Heap) (id : Nat) (t xt : TypeId) (s x : AV) : Option (AV × Heap) :=
  match appendA C H id t xt s x with
  | some r => some r
  | none => appendZA C H id t xt s x

def sliceBoundA (y : Nat) : Option AV → Nat → Option Nat
  | none, d => some d
  | some (.int _ i), _ => if 0 ≤ i ∧ i ≤ (y : Int) then some i.toNat else none
  | some _, _ => none
def evOpt (T : Tr AV) : Option Operand → Option (Option AV)
  | none => some none
  | some x => match ev T x with | some v => some (some v) | none => none
/-- x[lo:hi] of a string, of a slice up to its length -/
def sliceA (C : Ctx) (H : Heap) (t : TypeId) (x : AV) (lo hi : Option AV) : Option AV :=
  match C.ty t, x with
  | some i, .str s => match i.desc with
    | .string => match sliceBoundA s.length hi s.length with
      | some h => match sliceBoundA h lo 0 with
        | some l => some (.str ((s.take h).drop l))
        | none => none
      | none => none
    | _ => none
  | some i, .sl b o n => match i.desc with
    | .slice e => match C.ty e, sliceBoundA n hi n with
      | some j, some h => match sliceBoundA h lo 0, H.cells b with
        | some l, some ob => cond (Nat.blt l n && Nat.beq ob.es j.size) (some (.sl b (o + l * j.size) (h - l))) none
        | _, _ => none
      | _, _ => none
    | _ => none
  | some i, .sl0 => match i.desc with
    | .slice e => match C.ty e, sliceBoundA 0 hi 0 with
      | some _, some h => match sliceBoundA h lo 0 with
        | some _ => some .sl0
        | none => none
      | _, _ => none
    | _ => none
  | _, _ => none

def placeOf (C : Ctx) : Option Field → Option (Nat × Nat)
  | some f => match C.ty f.type with
    | some j => some (f.offset, j.size)
    | none => none
  | none => none
def fillPlaces (C : Ctx) (fs : Array Field) (i : Nat) : Option (Nat × Nat) := placeOf C fs[i]?
def fieldsKnown (C : Ctx) (fs : Array Field) : Bool := fs.toList.all fun f => (C.ty f.type).isSome

def buildA (C : Ctx) (t : TypeId) (parts : List (Nat × AV)) : Option AV :=
  match C.ty t with
  | some i => match i.zero, i.desc with
    | some z, .struct fs => cond (fieldsKnown C fs) ((fillA (fillPlaces C fs) z parts).map .agg) none
    | some z, .array _ e => match C.ty e with
      | some j => (fillA (fun i => some (i * j.size, j.size)) z parts).map .agg
      | none => none
    | _, _ => none
  | none => none

def buildSliceA (C : Ctx) (H : Heap) (id : Nat) (t : TypeId) (len : Nat) (parts : List (Nat × AV)) : Option (AV × Heap) :=
  match C.ty t with
  | some { desc := .slice e, .. } => match C.ty e with
    | some j => match j.zero with
      | some z => cond (Nat.beq z.length j.size && !Nat.beq j.size 0 && Nat.ble (len * j.size) 16777216)
          (match fillA (fun i => some (i * j.size, j.size)) (repeatCells z len) parts with
            | some cs => cond (Nat.beq cs.length (len * j.size)) (match H.add id { cs, es := j.size, kind := .free } with
              | some H' => some (.sl id 0 len, H')
              | none => none) none
            | none => none) none
      | none => none
    | none => none
  | _ => none

def makeSliceA (C : Ctx) (H : Heap) (id : Nat) (t : TypeId) : AV → AV → Option (AV × Heap)
  | .int _ n, .int _ c => if n = c ∧ 0 ≤ n ∧ n ≤ 16777216 then
      (match C.ty t with
      | some { desc := .slice e, .. } => match C.ty e with
        | some j => match j.zero with
          | some z => cond (Nat.beq z.length j.size && !Nat.beq j.size 0 && Nat.ble j.bytes 1000000 && Nat.ble (n.toNat * j.bytes) 140737488355328)
            (match H.add id { cs := repeatCells z n.toNat, es := j.size, kind := .free } with
              | some H' => some (.sl id 0 n.toNat, H')
              | none => none) none
          | none => none
        | none => none
      | _ => none) else none
  | _, _ => none

/-- a new variable of a type -/
def allocA (C : Ctx) (H : Heap) (id : Nat) (t : TypeId) : Option (AV × Heap) :=
  match C.ty t with
  | some i => match i.zero with
    | some z => match H.add id { cs := z, es := i.size, kind := .free } with
      | some H' => some (.ptr id 0, H')
      | none => none
    | none => none
  | none => none
def boxA (H : Heap) (id : Nat) (v : AV) : Option (AV × Heap) :=
  match H.add id { cs := v.cells, es := v.cells.length, kind := .free } with
  | some H' => some (.ptr id 0, H')
  | none => none

abbrev CallA := Heap → FuncId → List AV → Option (AV × Heap)

def same (H : Heap) : Option AV → Option (AV × Heap)
  | some v => some (v, H)
  | none => none

def callA (C : Ctx) (call : CallA) (H : Heap) (id : Nat) (T : Tr AV) (c : Call) : Option (AV × Heap) :=
  match evs T c.args.toList with
  | none => none
  | some vs =>
    match c.callee with
    | .value f => match ev T f with
      | some (.fn (.func f) first captured) => call H f (first ++ vs ++ captured)
      | _ => none
    | .builtin .len => match c.argTypes[0]?, vs with
      | some t, x :: _ => match C.ty t with
        | some i => same H (lenHA H i.desc x)
        | none => none
      | _, _ => none
    | .builtin .append => match c.argTypes.toList, vs with
      | [t, xt], [s, x] => appendHA C H id t xt s x
      | _, _ => none
    | .builtin .min => match vs with
      | [x, y] => same H (minMaxA C true x y)
      | _ => none
    | .builtin .max => match vs with
      | [x, y] => same H (minMaxA C false x y)
      | _ => none
    | _ => none

def evOp (C : Ctx) (call : CallA) (H : Heap) (id : Nat) (T : Tr AV) (o : Oper) : Option (AV × Heap) :=
  match o.op with
  | .move x | .assign x => same H (ev T x)
  | .pick c a b => match ev T c with
    | some (.bool t) => match t with
      | true => same H (ev T a)
      | false => same H (ev T b)
    | _ => none
  | .alloc t => allocA C H id t
  | .box _ x => match ev T x with | some v => boxA H id v | none => none
  | .build t parts => match evParts T parts.toList with | some ps => same H (buildA C t ps) | none => none
  | .buildSlice t len parts => match evParts T parts.toList with | some ps => buildSliceA C H id t len ps | none => none
  | .load t a => match ev T a with | some v => same H (evLoad C H t v) | none => none
  | .store t a x => match ev T a, ev T x with
    | some v, some u => match evStore C H t u v with
      | some H' => some (undefA, H')
      | none => none
    | _, _ => none
  | .nilCheck x => match ev T x with
    | some (.ptr b o) => some (.ptr b o, H)
    | some (.fn (.func f) a c) => some (.fn (.func f) a c, H)
    | _ => none
  | .binOp op t x y _ => match ev T x, ev T y with
    | some a, some b => same H (binOpA C op t a b)
    | _, _ => none
  | .unOp op _ x => match ev T x with | some a => same H (unOpA op a) | none => none
  | .convert s d x => match ev T x with | some a => same H (convertHA C H s d a) | none => none
  | .field t x f => match ev T x with | some a => same H (fieldA C t f a) | none => none
  | .fieldAddr t x f => match ev T x with | some a => same H (fieldAddrA C t f a) | none => none
  | .indexAddr t x i => match ev T x, ev T i with | some a, some b => same H (indexAddrA C t a b) | _, _ => none
  | .index t x i => match ev T x, ev T i with | some a, some b => same H (indexA C t a b) | _, _ => none
  | .slice t x lo hi none => match ev T x, evOpt T lo, evOpt T hi with
    | some a, some l, some h => same H (sliceA C H t a l h)
    | _, _, _ => none
  | .extract x i => match ev T x with
    | some (.tup vs) => same H vs[i]?
    | _ => none
  | .makeSlice t l c => match ev T l, ev T c with | some a, some b => makeSliceA C H id t a b | _, _ => none
  | .call c => callA C call H id T c
  | .makeFunc f first captured => match evs T first.toList, evs T captured.toList with
    | some a, some c => some (.fn f a c, H)
    | _, _ => none
  | .makeMap _ none => makeMapA H id
  | .lookup t m k ok => match ev T m, ev T k with
    | some a, some b => same H (lookupA C H t a b ok)
    | _, _ => none
  | .mapUpdate t m k x => match ev T m, ev T k, ev T x with
    | some a, some b, some c => match mapUpdateA C H t a b c with
      | some H' => some (undefA, H')
      | none => none
    | _, _, _ => none
  | _ => none

/-- is an operation wanted -/
def wantedA (ops : Array Oper) (T : Tr AV) (o : Oper) : Option Bool :=
  match o.guard with
  | none => some true
  | some (j, want) => match (ops[j]?).bind (·.dst) with
    | some d => match T.get d with
      | some (.bool b) => some (b == want)
      | some (.tup []) => some false
      | _ => none
    | none => none

/-- the operations of a region in the order of the text; the i-th may make the block number base + i -/
def evOps (C : Ctx) (call : CallA) (ops : Array Oper) (base : Nat) : Nat → List Oper → St → Option St
  | _, [], s => some s
  | i, o :: rest, s => match wantedA ops s.T o with
    | none => none
    | some false => match s.put o.dst undefA with
      | some s' => evOps C call ops base (i + 1) rest s'
      | none => none
    | some true => match evOp C call s.H (base + i) s.T o with
      | some (v, H') => match ({ s with H := H' } : St).put o.dst v with
        | some s' => evOps C call ops base (i + 1) rest s'
        | none => none
      | none => none

inductive X where
  | normal
  | exit (id : Nat)
  | ret

/-- 0: looks at no memory · 1: makes one block · 2: looks at one block · 3: all else -/
def clsOf (o : Oper) : Nat :=
  match o.op with
  | .move _ | .assign _ | .pick .. | .build .. | .nilCheck _ | .binOp .. | .unOp .. | .field .. | .fieldAddr .. | .indexAddr .. | .index .. | .extract .. | .makeFunc .. => 0
  | .alloc _ | .box .. | .buildSlice .. | .makeSlice .. | .makeMap .. => 1
  | .load .. | .slice .. | .convert .. | .lookup .. => 2
  | .call { callee := .builtin .len, .. } => 2
  | .call { callee := .builtin .min, .. } | .call { callee := .builtin .max, .. } => 0
  | _ => 3

def binding (o : Oper) : List Nat := (o.after.toList.filter (Region.binds .any)).map (·.on)

/-- of each operation the set of those that come before it, as bits -/
def masksFrom : List Oper → List Nat → List Nat
  | [], acc => acc
  | o :: os, acc => masksFrom os (acc ++ [(binding o).foldl (fun m j => m ||| (1 <<< j) ||| acc.getD j 0) 0])
def masks (ops : Array Oper) : List Nat := masksFrom ops.toList []
def bef (ms : List Nat) (j i : Nat) : Bool := (ms.getD j 0).testBit i
def ordered (ms : List Nat) (i j : Nat) : Bool := bef ms i j || bef ms j i

def listedAll (l : List Nat) (ls : List Nat) : Bool := l.all fun j => ls.contains j
def pickNext (ops : Array Oper) (listed : List Nat) (wantE : Bool) : List Nat → Option Nat
  | [] => none
  | i :: is => match ops[i]? with
    | some o => cond (!listed.contains i && (wantE || !Nat.beq (clsOf o) 3) && listedAll (binding o) listed) (some i) (pickNext ops listed wantE is)
    | none => pickNext ops listed wantE is
def greedy (ops : Array Oper) : Nat → List Nat → List Nat
  | 0, listed => listed
  | n + 1, listed => match pickNext ops listed false (List.range ops.size) with
    | some i => greedy ops n (listed ++ [i])
    | none => match pickNext ops listed true (List.range ops.size) with
      | some i => greedy ops n (listed ++ [i])
      | none => listed
def orderOf (ops : Array Oper) : List Nat := greedy ops ops.size []

def posOf (l : List Nat) (i : Nat) : Nat := l.findIdx (Nat.beq i)

/-- two stores, the last of the effects, side by side and in no order: the place of the first -/
def storeAt (ops : Array Oper) (i : Nat) : Bool := match ops[i]? with
  | some o => (match o.op with | .store .. => true | _ => false) && o.guard.isNone && o.dst.isNone
  | none => false
def effAt (ops : Array Oper) (i : Nat) : Bool := match ops[i]? with
  | some o => Nat.beq (clsOf o) 3
  | none => false
def looseAt (ops : Array Oper) (ms ord : List Nat) : Option Nat :=
  match ((List.range ord.length).filter fun p => effAt ops (ord.getD p 0)).reverse with
  | q :: p :: _ => cond (Nat.beq q (p + 1) && !ordered ms (ord.getD p 0) (ord.getD q 0) && storeAt ops (ord.getD p 0) && storeAt ops (ord.getD q 0)) (some p) none
  | _ => none
def loosePair (ord : List Nat) (lo : Option Nat) (i j : Nat) : Bool := match lo with
  | some p => (Nat.beq (posOf ord i) p && Nat.beq (posOf ord j) (p + 1)) || (Nat.beq (posOf ord i) (p + 1) && Nat.beq (posOf ord j) p)
  | none => false
def looseOk (ops : Array Oper) (ord : List Nat) (lo : Option Nat) : Bool := match lo with
  | some p => Nat.blt (p + 1) ops.size && (ord.zipIdx.all fun x => cond (Nat.beq x.2 p || Nat.beq x.2 (p + 1)) (storeAt ops x.1) (cond (effAt ops x.1) (Nat.ble x.2 p) true))
  | none => true
def pairOk (ops : Array Oper) (ms ord : List Nat) (lo : Option Nat) (i j : Nat) (x y : Oper) : Bool :=
  (match x.dst with
    | some t => cond ((y.looksAt ops).contains t || y.dst == some t) (ordered ms i j) true
    | none => true) &&
  (cond (Nat.beq (clsOf x) 3 && Nat.beq (clsOf y) 3) (ordered ms i j || loosePair ord lo i j) true) &&
  (cond (Nat.beq (clsOf x) 1 && Nat.beq (clsOf y) 3) (ordered ms i j || Nat.blt (posOf ord i) (posOf ord j)) true)
def staticOk (ops : Array Oper) (ms ord : List Nat) (lo : Option Nat) : Bool :=
  looseOk ops ord lo &&
  Nat.beq ord.length ops.size && ((List.range ops.size).all fun i => ord.contains i) && (ord.all fun i => Nat.blt i ops.size) &&
  (ord.zipIdx.all fun x => Nat.beq (posOf ord x.1) x.2) &&
  ((List.range ops.size).all fun j => match ops[j]? with
    | some y => ((binding y).all fun i => Nat.blt i ops.size && Nat.blt (posOf ord i) (posOf ord j)) &&
      ((List.range ops.size).all fun i => Nat.beq i j || match ops[i]? with
        | some x => pairOk ops ms ord lo i j x y
        | none => false)
    | none => false)

/-! ### a region that tosses a coin, and what is the same behind both its sides -/
mutual
def AV.beq : AV → AV → Bool
  | .bool a, .bool b => a == b
  | .int k n, .int k' m => k == k' && n == m
  | .sx k e, .sx k' e' => k == k' && e.beq e'
  | .str s, .str t => s == t
  | .ptr0, .ptr0 => true
  | .ptr b o, .ptr b' o' => Nat.beq b b' && Nat.beq o o'
  | .sl0, .sl0 => true
  | .sl b o n, .sl b' o' n' => Nat.beq b b' && Nat.beq o o' && Nat.beq n n'
  | .map0, .map0 => true
  | .map b, .map b' => Nat.beq b b'
  | .fn f a c, .fn g a' c' => f == g && beqs a a' && beqs c c'
  | .nilfn, .nilfn => true
  | .iface t v, .iface t' v' => Nat.beq t t' && v.beq v'
  | .nilif, .nilif => true
  | .agg cs, .agg cs' => beqs cs cs'
  | .tup cs, .tup cs' => beqs cs cs'
  | .any, .any => true
  | .anyb, .anyb => true
  | _, _ => false
def beqs : List AV → List AV → Bool
  | [], [] => true
  | x :: xs, y :: ys => x.beq y && beqs xs ys
  | _, _ => false
end
def meetO : Option AV → Option AV → Option AV
  | some x, some y => cond (x.beq y) (some x) none
  | _, _ => none
def Tr.meet : Tr AV → Tr AV → Tr AV
  | .node v l r, .node v' l' r' => .node (meetO v v') (l.meet l') (r.meet r')
  | _, _ => .nil
def joinCells : List AV → List AV → Option (List AV)
  | [], [] => some []
  | x :: xs, y :: ys => match joinCells xs ys with
    | some zs => cond (x.beq y) (some (x :: zs)) (cond (x.flat && y.flat) (some (.any :: zs)) none)
    | none => none
  | _, _ => none
def Kind.beq : Kind → Kind → Bool
  | .free, .free | .old, .old | .map, .map => true
  | .tip n, .tip m => Nat.beq n m
  | _, _ => false
def joinObj (o p : Obj) : Option Obj :=
  cond (Nat.beq o.es p.es && o.kind.beq p.kind) (match o.kind.isMap with
    | true => cond (beqs o.cs p.cs) (some o) none
    | false => match joinCells o.cs p.cs with
      | some cs => some { o with cs := cs }
      | none => none) none
/-- blocks as they are behind both sides -/
def joinBlks (Ha Hb : Heap) : List Nat → Heap → Option Heap
  | [], H => some H
  | b :: bs, H => match Ha.get b, Hb.get b with
    | some o, some p => (match joinObj o p with
      | some q => joinBlks Ha Hb bs (H.put b q)
      | none => none)
    | none, none => joinBlks Ha Hb bs H
    | _, _ => none
def Heap.vacant (H : Heap) (bs : List Nat) : Bool := bs.all fun b => match H.get b with | none => true | some _ => false
def joinHeap (H Ha Hb : Heap) : Option Heap :=
  cond (H.vacant (List.range' H.next (max Ha.next Hb.next - H.next)))
    (match joinBlks Ha Hb (Ha.log ++ Hb.log ++ List.range' H.next (max Ha.next Hb.next - H.next)) H with
    | some K => some { K with next := max Ha.next Hb.next, log := Ha.log ++ Hb.log ++ H.log }
    | none => none) none
def joinSt (s sa sb : St) : Option St :=
  match joinHeap s.H sa.H sb.H with
  | some K => some { s with T := sa.T.meet sb.T, H := K }
  | none => none
/-- how many operations stand ahead of the first append -/
def aheadOf : List Oper → Nat
  | [] => 0
  | o :: os => match o.op with
    | .call { callee := .builtin .append, .. } => 0
    | _ => aheadOf os + 1
def aheadIn : Code → Nat
  | .region _ ops _ => aheadOf ops.toList
  | .seq a _ => aheadIn a
  | _ => 0
/-- one new cell, two stores into it in some order, and what lies there then -/
def coinA (C : Ctx) (ops : Array Oper) (s : St) : Option St :=
  match ops.toList with
  | [o0, o1, o2, o3] => match o0.op, o1.op, o2.op, o3.op with
    | .alloc t0, .store t1 (.tmp a1) (.const (.bool _)), .store t2 (.tmp a2) (.const (.bool _)), .load t3 (.tmp a3) => match o0.dst, o3.dst with
      | some a, some r =>
        cond (Nat.beq a1 a && Nat.beq a2 a && Nat.beq a3 a && !Nat.beq r a && o0.guard.isNone && o1.guard.isNone && o2.guard.isNone && o3.guard.isNone && o1.dst.isNone && o2.dst.isNone &&
          (binding o0).isEmpty && (binding o1 == [0]) && (binding o2 == [0]) && ((binding o3).contains 0 && (binding o3).contains 1 && (binding o3).contains 2 && (binding o3).all fun j => Nat.blt j 3) && Nat.blt a s.N && Nat.blt r s.N)
          (match C.ty t0, C.ty t1, C.ty t2, C.ty t3 with
          | some i0, some i1, some i2, some i3 => match i0.zero with
            | some [z] => cond (z.flat && !i1.isAgg && !i2.isAgg && !i3.isAgg && Nat.beq i1.size 1 && Nat.beq i2.size 1)
              (match ({ s.H with next := s.H.next + ops.size } : Heap).add s.H.next { cs := [.anyb], es := i0.size, kind := .free } with
                | some H' => some { s with T := (s.T.set a (.ptr s.H.next 0)).set r .anyb, H := H' }
                | none => none) none
            | _ => none
          | _, _, _, _ => none) none
      | _, _ => none
    | _, _, _, _ => none
  | _ => none

/-- what an operation of a region that draws its order has looked at, or written -/
structure Info where
  blk : Option Nat
  wr : List Nat
  st : Option (Nat × Nat × Nat)
/-- what a store writes: the block, the place, how many cells -/
def stOf (T : Tr AV) (o : Oper) : Option (Nat × Nat × Nat) :=
  match o.op with
  | .store _ a x => match ev T a, ev T x with | some (.ptr b off), some v => some (b, off, v.cells.length) | _, _ => none
  | _ => none
def farA : Option (Nat × Nat × Nat) → Option (Nat × Nat × Nat) → Bool
  | some (b, o, n), some (b', o', n') => !Nat.beq b b' || Nat.ble (o + n) o' || Nat.ble (o' + n') o
  | _, _ => false
def blkOf (T : Tr AV) (base i : Nat) (o : Oper) : Option Nat :=
  match o.op with
  | .load _ a => match ev T a with | some (.ptr b _) => some b | _ => none
  | .slice _ x _ _ _ => match ev T x with | some (.sl b _ _) => some b | _ => none
  | .convert _ _ x => match ev T x with | some (.sl b _ _) => some b | _ => none
  | .lookup _ m _ _ => match ev T m with | some (.map b) => some b | _ => none
  | .call { callee := .builtin .len, args, .. } => match evs T args.toList with | some (.map b :: _) => some b | _ => none
  | _ => cond (Nat.beq (clsOf o) 1) (some (base + i)) none
def evOneD (C : Ctx) (call : CallA) (ops : Array Oper) (base i : Nat) (s : St) : Option (St × Info) :=
  match ops[i]? with
  | none => none
  | some o => match wantedA ops s.T o with
    | none => none
    | some false => match s.put o.dst undefA with
      | some s' => some (s', ⟨none, [], none⟩)
      | none => none
    | some true => match evOp C call s.H (base + i) s.T o with
      | some (v, H') => match ({ s with H := { H' with log := [] } } : St).put o.dst v with
        | some s' => some (s', ⟨blkOf s.T base i o, cond (Nat.beq (clsOf o) 3) H'.log [], stOf s.T o⟩)
        | none => none
      | none => none
def evOpsD (C : Ctx) (call : CallA) (ops : Array Oper) (base : Nat) : List Nat → St → Option (St × List (Nat × Info))
  | [], s => some (s, [])
  | i :: is, s => match evOneD C call ops base i s with
    | some (s', f) => match evOpsD C call ops base is s' with
      | some (s'', fs) => some (s'', (i, f) :: fs)
      | none => none
    | none => none
def dynOk (ms : List Nat) (fs : List (Nat × Info)) : Bool :=
  fs.all fun x => match x.2.blk with
    | none => true
    | some b => fs.all fun y => cond (y.2.wr.contains b) (Nat.beq x.1 y.1 || ordered ms x.1 y.1) true
def looseDyn (ord : List Nat) (lo : Option Nat) (fs : List (Nat × Info)) : Bool :=
  match lo with
  | none => true
  | some _ => fs.all fun x => fs.all fun y => cond (loosePair ord lo x.1 y.1) (farA x.2.st y.2.st) true
def evDraw (C : Ctx) (call : CallA) (ops : Array Oper) (s : St) : Option St :=
  cond (staticOk ops (masks ops) (orderOf ops) (looseAt ops (masks ops) (orderOf ops)))
    (match evOpsD C call ops s.H.next (orderOf ops) { s with H := { s.H with next := s.H.next + ops.size, log := [] } } with
    | some (s', fs) => cond (dynOk (masks ops) fs && looseDyn (orderOf ops) (looseAt ops (masks ops) (orderOf ops)) fs) (some { s' with H := { s'.H with log := fs.flatMap (fun x => x.2.wr) ++ s.H.log } }) none
    | none => none) none

mutual
def evCode (C : Ctx) (call : CallA) : Nat → Code → St → Option (X × St)
  | 0, _, _ => none
  | n + 1, c, s =>
    match c with
    | .skip => some (.normal, s)
    | .region _ ops draw => match draw with
      | false => (match evOps C call ops s.H.next 0 ops.toList { s with H := { s.H with next := s.H.next + ops.size } } with
        | some s' => some (.normal, s')
        | none => none)
      | true => (match coinA C ops s with
        | some s' => some (.normal, s')
        | none => match evDraw C call ops s with
          | some s' => some (.normal, s')
          | none => none)
    | .seq a b => match evCode C call n a s with
      | some (.normal, s') => evCode C call n b s'
      | r => r
    | .cond x a b => match ev s.T x with
      | some (.bool true) => evCode C call n a s
      | some (.bool false) => evCode C call n b s
      | some .anyb => (match evCode C call n a { s with H := { s.H with next := s.H.next + (aheadIn b - aheadIn a), log := [] } }, evCode C call n b { s with H := { s.H with log := [] } } with
        | some (.normal, sa), some (.normal, sb) => (match joinSt s sa sb with
          | some s' => some (.normal, s')
          | none => none)
        | _, _ => none)
      | _ => none
    | .block id b => match evCode C call n b s with
      | some (.exit i, s') => some (cond (Nat.beq i id) .normal (.exit i), s')
      | r => r
    | .loop b => evLoop C call n b s
    | .exit id => some (.exit id, s)
    | .label _ => some (.normal, s)
    | .ret => some (.ret, s)
    | _ => none
def evLoop (C : Ctx) (call : CallA) : Nat → Code → St → Option (X × St)
  | 0, _, _ => none
  | n + 1, b, s => match evCode C call n b s with
    | some (.normal, s') => evLoop C call n b s'
    | r => r
end

def enterT : Nat → List AV → Tr AV → Tr AV
  | _, [], T => T
  | i, v :: vs, T => enterT (i + 1) vs (T.set i v)

def resultA (C : Ctx) (s : St) : ResultVar → Option AV
  | .tmp t => s.T.get t
  | .cell a t => match s.T.get a with
    | some v => evLoad C s.H t v
    | none => none
def resultsA (C : Ctx) (s : St) : List ResultVar → Option (List AV)
  | [] => some []
  | r :: rs => match resultA C s r, resultsA C s rs with
    | some v, some vs => some (v :: vs)
    | _, _ => none
def shut : List AV → AV
  | [v] => v
  | vs => .tup vs

/-- what a call hands back, by the given functions where they speak -/
def evFun (C : Ctx) (prim : CallA) : Nat → CallA
  | 0, _, _, _ => none
  | n + 1, H, f, args =>
    match prim H f args with
    | some r => some r
    | none =>
      match C.fn f with
      | some fn => match fn.body with
        | some code => cond (Nat.ble args.length fn.ntmps)
          (match evCode C (evFun C prim n) n code { T := enterT 0 args .nil, N := fn.ntmps, H := { H with log := [] } } with
            | some (.exit _, _) => none
            | some (_, s) => match resultsA C s fn.results.toList with
              | some vs => some (shut vs, { s.H with log := s.H.log.filter (fun b => (H.get b).isSome) ++ H.log })
              | none => none
            | none => none) none
        | none => none
      | none => none
end Go.Ev
