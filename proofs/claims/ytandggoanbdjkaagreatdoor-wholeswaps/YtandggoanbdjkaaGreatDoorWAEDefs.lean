/- The abstract evaluator: values, heap, operations. Conditions: none. -/
import GoSem.Machine.Exec
import GoSem.Machine.Return
namespace AE
open Go

/-- A persistent table of numbers. -/
inductive Tr (α : Type) where
  | leaf
  | node (l : Tr α) (v : Option α) (r : Tr α)

def Tr.get {α : Type} : Tr α → Nat → Option α
  | .leaf, _ => none
  | .node l v r, k => match k with
    | 0 => v
    | k' + 1 => if k' % 2 = 0 then l.get (k' / 2) else r.get (k' / 2)

def Tr.putF {α : Type} (v : α) : Nat → Tr α → Nat → Tr α
  | 0, t, _ => t
  | n + 1, t, k => match t with
    | .leaf => match k with
      | 0 => .node .leaf (some v) .leaf
      | k' + 1 => if k' % 2 = 0 then .node (Tr.putF v n .leaf (k' / 2)) none .leaf else .node .leaf none (Tr.putF v n .leaf (k' / 2))
    | .node l x r => match k with
      | 0 => .node l (some v) r
      | k' + 1 => if k' % 2 = 0 then .node (Tr.putF v n l (k' / 2)) x r else .node l x (Tr.putF v n r (k' / 2))

def Tr.put {α : Type} (t : Tr α) (k : Nat) (v : α) : Tr α := Tr.putF v (k + 1) t k

/-- An abstract value. -/
inductive AV where
  | bool (b : Bool)
  | int (k : IntKind) (n : Int)
  | str (s : ByteArray)
  | ptr (a : Option (Nat × Nat))
  | gptr (g : Nat)
  | slice (a : Option (Nat × Nat)) (len cap : Nat) (ex : Bool)
  | mt                                   -- a slice of no elements, not nil, somewhere
  | map (r : Option Nat)
  | func (f : FuncId) (first captured : List AV)
  | nilFunc
  | iface (t : TypeId) (v : AV)
  | nilIface
  | agg (cells : List AV)
  | tuple (vs : List AV)
  | top                                  -- whatever
  | sym (i n : Nat)                      -- a whole number of kind int: n above what name i stands for
  deriving Inhabited

def AV.cells : AV → List AV
  | .agg cs => cs
  | v => [v]

def AV.undef : AV := .tuple []

/-- is anything known of it? -/
def AV.known : AV → Bool
  | .top => false
  | _ => true

/-- may it lie in one cell? -/
def AV.flat : AV → Bool
  | .agg _ | .tuple _ | .top => false
  | _ => true

mutual
/-- are two values the same? -/
def AV.same : AV → AV → Bool
  | .bool a, .bool b => a == b
  | .int k a, .int l b => k == l && a == b
  | .str a, .str b => a == b
  | .ptr a, .ptr b => a == b
  | .gptr a, .gptr b => a == b
  | .slice a l c e, .slice a' l' c' e' => a == a' && l == l' && c == c' && e == e'
  | .mt, .mt => true
  | .map a, .map b => a == b
  | .func f x y, .func g u v => f == g && AV.sames x u && AV.sames y v
  | .nilFunc, .nilFunc => true
  | .iface t x, .iface u y => t == u && AV.same x y
  | .nilIface, .nilIface => true
  | .agg xs, .agg ys => AV.sames xs ys
  | .tuple xs, .tuple ys => AV.sames xs ys
  | .top, .top => true
  | .sym i n, .sym j m => i == j && n == m
  | _, _ => false
def AV.sames : List AV → List AV → Bool
  | [], [] => true
  | x :: xs, y :: ys => AV.same x y && AV.sames xs ys
  | _, _ => false
end

/-- A block: cells 0 to n - 1; one that nothing was laid into reads as its place in the pattern z, of zn cells, does. -/
structure Blk where
  t : TypeId
  g : Bool
  n : Nat
  zn : Nat
  z : Tr AV
  cs : Tr AV

def Blk.get (b : Blk) (k : Nat) : Option AV :=
  if k < b.n then
    match b.cs.get k with
    | some v => some v
    | none => b.z.get (k % b.zn)
  else none

def Blk.put (b : Blk) (k : Nat) (v : AV) : Blk := { b with cs := b.cs.put k v }

def Blk.load (b : Blk) (off : Nat) : Nat → Option (List AV)
  | 0 => some []
  | n + 1 => (b.get off).bind fun v => (b.load (off + 1) n).bind fun vs => some (v :: vs)

def Blk.store (b : Blk) (off : Nat) : List AV → Option Blk
  | [] => some b
  | v :: vs => if off < b.n then (if v.flat then (b.put off v).store (off + 1) vs else none) else none

def putL (i : Nat) : List AV → Tr AV → Tr AV
  | [], t => t
  | v :: vs, t => putL (i + 1) vs (t.put i v)

def Blk.ofList (t : TypeId) (g : Bool) (l : List AV) : Blk := { t, g, n := l.length, zn := 0, z := .leaf, cs := putL 0 l .leaf }
def Blk.zeros (t : TypeId) (c : Nat) (zs : List AV) : Blk := { t, g := false, n := c * zs.length, zn := zs.length, z := putL 0 zs .leaf, cs := .leaf }

inductive AObj where
  | cells (b : Blk)
  | map (es : List (AV × AV))
  | gone

structure Heap where
  m : Tr AObj
  next : Nat

def Heap.get (h : Heap) (i : Nat) : Option AObj := h.m.get i
def Heap.put (h : Heap) (i : Nat) (o : AObj) : Heap := { h with m := h.m.put i o }
/-- A new object: at the number told, or at the next one. -/
def Heap.alloc (h : Heap) (at_ : Option Nat) (o : AObj) : Option (Nat × Heap) :=
  match at_ with
  | some i => match h.get i with
    | none => if i < h.next then some (i, { h with m := h.m.put i o }) else none
    | some _ => none
  | none => some (h.next, { m := h.m.put h.next o, next := h.next + 1 })

mutual
/-- A constant of the program's text, as an abstract value. -/
def ofVal : Value → Option AV
  | .bool b => some (.bool b)
  | .int k n => some (.int k n)
  | .string s => some (.str s)
  | .pointer none => some (.ptr none)
  | .slice none 0 0 => some (.slice none 0 0 true)
  | .map none => some (.map none)
  | .nilFunc => some .nilFunc
  | .nilIface => some .nilIface
  | .agg ⟨cs⟩ => (ofVals cs).map .agg
  | .tuple ⟨cs⟩ => (ofVals cs).map .tuple
  | _ => none
def ofVals : List Value → Option (List AV)
  | [] => some []
  | v :: vs => (ofVal v).bind fun a => (ofVals vs).bind fun as => some (a :: as)
end

structure St where
  T : Tr AV
  n : Nat
  ds : List (FuncId × List AV)
  H : Heap

def St.tmp (s : St) (t : Nat) : AV := (s.T.get t).getD .undef

def St.set (s : St) (dst : Option Nat) (v : AV) : St :=
  match dst with
  | some d => if d < s.n then { s with T := s.T.put d v } else s
  | none => s

def St.eval (s : St) : Operand → Option AV
  | .tmp t => some (s.tmp t)
  | .const v => ofVal v
  | .global g => some (.gptr g)
  | .func f => some (.func f [] [])

/-! ### operations -/

def takeAt (cs : List AV) (off n : Nat) : Option (List AV) :=
  if off + n ≤ cs.length then some ((cs.drop off).take n) else none

def putAt (cs : List AV) (off : Nat) (vs : List AV) : Option (List AV) :=
  if off + vs.length ≤ cs.length then some (cs.take off ++ (vs ++ cs.drop (off + vs.length))) else none

def isAgg (P : Program) (t : TypeId) : Option Bool :=
  match P.underlying t with
  | some (.struct _) | some (.array _ _) => some true
  | some _ => some false
  | none => none

def sizeOf (P : Program) (t : TypeId) : Option Nat := (P.info? t).map (·.size)
def bytesOf (P : Program) (t : TypeId) : Option Nat := (P.info? t).map (·.bytes)
def zeroOf (P : Program) (t : TypeId) : Option AV := (P.info? t).bind fun i => i.zero.bind ofVal

def loadCells (H : Heap) (id off n : Nat) : Option (List AV) :=
  match H.get id with
  | some (.cells b) => b.load off n
  | _ => none

def storeCells (H : Heap) (id off : Nat) (vs : List AV) : Option Heap :=
  match H.get id with
  | some (.cells b) => (b.store off vs).bind fun b' => some (H.put id (.cells b'))
  | _ => none

def loadVar (P : Program) (t : TypeId) (H : Heap) : AV → Option AV
  | .ptr (some (id, off)) => (isAgg P t).bind fun
    | true => (sizeOf P t).bind fun n => (loadCells H id off n).map .agg
    | false => (loadCells H id off 1).bind fun
      | [v] => some v
      | _ => none
  | _ => none

def storeVar (P : Program) (t : TypeId) (H : Heap) (a v : AV) : Option Heap :=
  match a with
  | .ptr (some (id, off)) => (sizeOf P t).bind fun n => if v.known = true ∧ v.cells.length = n then storeCells H id off v.cells else none
  | _ => none

/-- a new row of cells, and a pointer to it -/
def newRow (H : Heap) (at_ : Option Nat) (b : Blk) : Option (Nat × Heap) := H.alloc at_ (.cells b)

def allFlat : List AV → Bool
  | [] => true
  | v :: vs => v.flat && allFlat vs

def fill (place : Nat → Option (Nat × Nat)) (cells : List AV) : List (Nat × AV) → Option (List AV)
  | [] => some cells
  | (i, v) :: rest => (place i).bind fun (off, size) =>
    if v.known = true ∧ v.cells.length = size then (putAt cells off v.cells).bind fun cs => fill place cs rest else none

def structPlace (P : Program) (fs : Array Field) (i : Nat) : Option (Nat × Nat) :=
  fs[i]?.bind fun f => (sizeOf P f.type).bind fun n => some (f.offset, n)

def build (P : Program) (t : TypeId) (parts : List (Nat × AV)) : Option AV :=
  (zeroOf P t).bind fun z => (P.underlying t).bind fun
    | .struct fs => if fs.all (fun f => (sizeOf P f.type).isSome) then (fill (structPlace P fs) z.cells parts).map .agg else none
    | .array _ e => (sizeOf P e).bind fun n => (fill (fun i => some (i * n, n)) z.cells parts).map .agg
    | _ => none

def rep : Nat → List AV → List AV
  | 0, _ => []
  | n + 1, zs => zs ++ rep n zs

def buildSlice (P : Program) (t : TypeId) (len : Nat) (parts : List (Nat × AV)) (at_ : Option Nat) (H : Heap) : Option (AV × Heap) :=
  match P.underlying t with
  | some (.slice e) => (sizeOf P e).bind fun n =>
    if len * n ≤ 65536 then
      (zeroOf P e).bind fun z => if z.cells.length = n then
        (fill (fun i => some (i * n, n)) (rep len z.cells) parts).bind fun cs =>
        (newRow H at_ (.ofList e false cs)).bind fun (id, H) => some (.slice (some (id, 0)) len len true, H)
      else none
    else none
  | _ => none

def intOp (op : BinOp) (k : IntKind) (a b : Int) : Option AV :=
  match op with
  | .add => some (.int k (k.wrap (a + b)))
  | .sub => some (.int k (k.wrap (a - b)))
  | .mul => some (.int k (k.wrap (a * b)))
  | .quo => if b = 0 then none else some (.int k (k.wrap (a.tdiv b)))
  | .rem => if b = 0 then none else some (.int k (a.tmod b))
  | .and => some (.int k (k.wrap (BitVec.ofInt k.bits a &&& BitVec.ofInt k.bits b).toNat))
  | .or => some (.int k (k.wrap (BitVec.ofInt k.bits a ||| BitVec.ofInt k.bits b).toNat))
  | .xor => some (.int k (k.wrap (BitVec.ofInt k.bits a ^^^ BitVec.ofInt k.bits b).toNat))
  | .andNot => some (.int k (k.wrap (BitVec.ofInt k.bits a &&& ~~~BitVec.ofInt k.bits b).toNat))
  | .eql => some (.bool (a == b))
  | .neq => some (.bool (a != b))
  | .lss => some (.bool (a < b))
  | .leq => some (.bool (a ≤ b))
  | .gtr => some (.bool (a > b))
  | .geq => some (.bool (a ≥ b))
  | _ => none

def shiftOp (op : BinOp) (k : IntKind) (x y : Int) : Option AV :=
  if y < 0 then none else
    let n := min y.toNat k.bits
    match op with
    | .shl => some (.int k (k.wrap (x * 2 ^ n)))
    | .shr => some (.int k (x.fdiv (2 ^ n)))
    | _ => none

/-- equality of two cells of a basic type -/
def eqBasic (P : Program) (t : TypeId) (x y : AV) : Option Bool :=
  match P.underlying t, x, y with
  | some (.int _), .int k a, .int l b => if k = l then some (a == b) else none
  | some .bool, .bool a, .bool b => some (a == b)
  | some .string, .str a, .str b => some (a == b)
  | _, _, _ => none

/-- equality of the cells of a struct whose fields are whole numbers, bools and strings -/
def eqFields (P : Program) : List Field → Nat → List AV → List AV → Option Bool
  | [], _, [], [] => some true
  | f :: fs, o, x :: xs, y :: ys =>
    if f.name != "_" && f.offset == o then (eqBasic P f.type x y).bind fun b => if b then eqFields P fs (o + 1) xs ys else some false else none
  | _, _, _, _ => none

def aggEq (P : Program) (t : TypeId) (xs ys : List AV) : Option Bool :=
  match P.underlying t with
  | some (.struct fs) => if !P.stoodInHeld t && !P.eqGuardType P.depth t then eqFields P fs.toList 0 xs ys else none
  | _ => none

def strOp (op : BinOp) (x y : ByteArray) : Option AV :=
  match op with
  | .add => if x.size + y.size ≤ 1099511627776 then some (.str (x ++ y)) else none
  | .eql => some (.bool (x.toList == y.toList))
  | .neq => some (.bool (!(x.toList == y.toList)))
  | .lss => some (.bool (Op.bytesLess x.toList y.toList))
  | .leq => some (.bool (Op.bytesLess x.toList y.toList || x.toList == y.toList))
  | .gtr => some (.bool !(Op.bytesLess x.toList y.toList || x.toList == y.toList))
  | .geq => some (.bool !(Op.bytesLess x.toList y.toList))
  | _ => none

def isNilLit : Operand → Bool
  | .const .nilIface => true
  | _ => false

/-- equality where one of the two is nil, and of bools -/
def eqAV (P : Program) (t : TypeId) (x y : AV) : Option Bool :=
  match P.underlying t, x, y with
  | some .bool, .bool a, .bool b => some (a == b)
  | some (.pointer _), .ptr none, .ptr b => some b.isNone
  | some (.pointer _), .ptr _, .ptr none => some false
  | some (.interface _), .nilIface, .iface _ _ | some (.interface _), .iface _ _, .nilIface => some false
  | some (.slice _), .slice none _ _ _, .slice b _ _ _ => some b.isNone
  | some (.slice _), .slice _ _ _ _, .slice none _ _ _ => some false
  | some (.slice _), .mt, .slice none _ _ _ | some (.slice _), .slice none _ _ _, .mt => some false
  | some (.map _ _), .map none, .map b => some b.isNone
  | some (.map _ _), .map _, .map none => some false
  | some (.func _ _ _), .nilFunc, .nilFunc => some true
  | some (.func _ _ _), .nilFunc, .func _ _ _ | some (.func _ _ _), .func _ _ _, .nilFunc => some false
  | some (.struct _), .agg xs, .agg ys => aggEq P t xs ys
  | _, _, _ => none

/-- numbers above a name: what is not known here is none -/
def symOp (op : BinOp) (i n : Nat) (y : AV) : Option AV :=
  match op, y with
  | .add, .int .i64 (.ofNat k) => if n + k ≤ 2305843009213693952 then some (.sym i (n + k)) else none
  | .sub, .int .i64 (.ofNat k) => if k ≤ n then some (.sym i (n - k)) else none
  | .eql, .int .i64 (.ofNat k) => if k < n then some (.bool false) else none
  | .neq, .int .i64 (.ofNat k) => if k < n then some (.bool true) else none
  | .lss, .int .i64 (.ofNat k) => if k ≤ n then some (.bool false) else none
  | .geq, .int .i64 (.ofNat k) => if k ≤ n then some (.bool true) else none
  | .gtr, .int .i64 (.ofNat k) => if k < n then some (.bool true) else none
  | .eql, .sym j m => if i = j then some (.bool (n == m)) else none
  | .neq, .sym j m => if i = j then some (.bool (!(n == m))) else none
  | _, _ => none

def binOp (P : Program) (op : BinOp) (t : TypeId) (ox oy : Operand) (x y : AV) : Option AV :=
  match op, x, y with
  | op, .sym i n, y => symOp op i n y
  | .shl, .int k a, .int _ b | .shr, .int k a, .int _ b => shiftOp op k a b
  | _, .int k a, .int l b => if k = l then intOp op k a b else none
  | _, .str a, .str b => strOp op a b
  | .eql, .nilIface, .nilIface => if isNilLit ox || isNilLit oy then (match P.underlying t with | some (.interface _) => some (.bool true) | _ => none) else none
  | .neq, .nilIface, .nilIface => if isNilLit ox || isNilLit oy then (match P.underlying t with | some (.interface _) => some (.bool false) | _ => none) else none
  | .eql, x, y => (eqAV P t x y).map .bool
  | .neq, x, y => (eqAV P t x y).map fun b => .bool !b
  | _, _, _ => none

def unOp (op : UnOp) (x : AV) : Option AV :=
  match op, x with
  | .neg, .int k n => intOp .sub k 0 n
  | .xor, .int k n => intOp .xor k (if k.signed then -1 else k.max) n
  | .not, .bool b => some (.bool !b)
  | _, _ => none

def bytesOfCells : List AV → ByteArray → Option ByteArray
  | [], acc => some acc
  | .int .u8 n :: cs, acc => bytesOfCells cs (acc.push (UInt8.ofNat n.toNat))
  | _, _ => none

def convert (P : Program) (src dst : TypeId) (x : AV) (at_ : Option Nat) (H : Heap) : Option (AV × Heap) :=
  match P.underlying src, P.underlying dst, x with
  | some (.int _), some (.int k), .int _ n => some (.int k (k.wrap n), H)
  | some .string, some .string, .str s => some (.str s, H)
  | some .string, some (.slice e), .str s => match P.underlying e with
    | some (.int .u8) => if sizeOf P e = some 1 then
        (newRow H at_ (.ofList e true (s.data.toList.map fun b => .int .u8 b.toNat))).bind fun (id, H) =>
        some (.slice (some (id, 0)) s.size s.size false, H) else none
    | _ => none
  | some (.slice _), some (.slice e), .slice (some p) l c ex => if (src == dst) = true then match P.underlying e with
    | some (.int .u8) => match H.get p.1 with
      | some (.cells b) => some (.slice (some p) l c ex, H.put p.1 (.cells b))
      | _ => none
    | _ => none
    else none
  | some (.slice e), some .string, .slice none 0 _ _ => match P.underlying e with
    | some (.int .u8) => some (.str .empty, H)
    | _ => none
  | some (.slice e), some .string, .mt => match P.underlying e with
    | some (.int .u8) => some (.str .empty, H)
    | _ => none
  | some (.slice e), some .string, .slice (some (id, off)) len _ _ => match P.underlying e with
    | some (.int .u8) => (loadCells H id off len).bind fun cs => (bytesOfCells cs .empty).bind fun s => some (.str s, H)
    | _ => none
  | _, _, _ => none

def bound (x : AV) (y : Nat) : Option Nat :=
  match x with
  | .int _ i => if 0 ≤ i ∧ i ≤ y then some i.toNat else none
  | _ => none

/-- low, high, max: of a slice of length len and (known) room cap -/
def bounds (len cap : Nat) (low high max : Option AV) : Option (Nat × Nat × Nat) :=
  (match max with | some v => bound v cap | none => some cap).bind fun m =>
  (match high with | some v => bound v m | none => if max.isSome then none else some len).bind fun h =>
  (match low with | some v => bound v h | none => some 0).bind fun l => some (l, h, m)

def sliceArr (P : Program) (k : Nat) (e : TypeId) (id off : Nat) (low high max : Option AV) : Option AV :=
  (sizeOf P e).bind fun n => (bounds k k low high max).bind fun (l, h, m) =>
    some (.slice (some (id, if m = l then off else off + l * n)) (h - l) (m - l) true)

def sliceOp (P : Program) (t : TypeId) (x : AV) (low high max : Option AV) : Option AV :=
  match P.underlying t, x with
  | some .string, .str s => if max.isSome then none else (bounds s.size s.size low high none).map fun (l, h, _) => .str (s.extract l h)
  | some (.slice e), .slice a len cap ex => (sizeOf P e).bind fun n => (bounds len cap low high max).bind fun (l, h, m) =>
    match a with
    | none => some (.slice none (h - l) (m - l) (ex || max.isSome))
    | some (id, off) =>
      if ex || max.isSome then some (.slice (some (id, if m = l then off else off + l * n)) (h - l) (m - l) true)
      else if m = l then some .mt
      else some (.slice (some (id, off + l * n)) (h - l) (m - l) false)
  | some (.slice e), .mt => (sizeOf P e).bind fun _ => (bounds 0 0 low high max).bind fun _ => if max.isSome then none else some .mt
  | some (.pointer arr), .ptr (some (id, off)) => match P.underlying arr with
    | some (.array k e) => sliceArr P k e id off low high max
    | _ => none
  | some (.array k e), .ptr (some (id, off)) => sliceArr P k e id off low high max
  | _, _ => none

def fieldAddr (P : Program) (s : TypeId) (a : AV) (f : Nat) : Option AV :=
  match P.underlying s, a with
  | some (.struct fs), .ptr (some (id, off)) => fs[f]?.bind fun fl => (sizeOf P fl.type).bind fun n =>
    if n = 0 then none else some (.ptr (some (id, off + fl.offset)))
  | _, _ => none

def indexAddr (P : Program) (t : TypeId) (x i : AV) : Option AV :=
  match P.underlying t, x, i with
  | some (.slice e), .slice (some (id, off)) len _ _, .int _ i => if 0 ≤ i ∧ i < len then (sizeOf P e).bind fun n => some (.ptr (some (id, off + i.toNat * n))) else none
  | some (.array len e), .ptr (some (id, off)), .int _ i => if 0 ≤ i ∧ i < len then (sizeOf P e).bind fun n => some (.ptr (some (id, off + i.toNat * n))) else none
  | _, _, _ => none

def part (P : Program) (t : TypeId) (cs : List AV) (off : Nat) : Option AV :=
  (isAgg P t).bind fun
  | true => (sizeOf P t).bind fun n => (takeAt cs off n).map .agg
  | false => cs[off]?

def index (P : Program) (t : TypeId) (x i : AV) : Option AV :=
  match P.underlying t, x, i with
  | some (.array len e), .agg cs, .int _ i => if 0 ≤ i ∧ i < len then (sizeOf P e).bind fun n => part P e cs (i.toNat * n) else none
  | some .string, .str s, .int _ i => if 0 ≤ i then (s.data[i.toNat]?).map fun b => .int .u8 b.toNat else none
  | _, _, _ => none

def field (P : Program) (t : TypeId) (x : AV) (f : Nat) : Option AV :=
  match P.underlying t, x with
  | some (.struct fs), .agg cs => fs[f]?.bind fun fl => part P fl.type cs fl.offset
  | _, _ => none

/-- of two keys of one basic kind -/
def sameKey : AV → AV → Option Bool
  | .int k a, .int l b => if k = l then some (a == b) else none
  | .str a, .str b => some (a == b)
  | .bool a, .bool b => some (a == b)
  | _, _ => none

def findKey (k : AV) : List (AV × AV) → Nat → Option (Option (Nat × AV))
  | [], _ => some none
  | (x, v) :: es, i => match sameKey k x with
    | some true => some (some (i, v))
    | some false => findKey k es (i + 1)
    | none => none

def keyOk (P : Program) (t : TypeId) (k : AV) : Bool :=
  match P.underlying t, k with
  | some (.int _), .int _ _ | some .string, .str _ | some .bool, .bool _ => true
  | _, _ => false

def lookup (P : Program) (t : TypeId) (x k : AV) (ok : Bool) (H : Heap) : Option AV :=
  match P.underlying t with
  | some (.map kt e) =>
    if keyOk P kt k then
      (match x with
       | .map none => some []
       | .map (some r) => match H.get r with | some (.map es) => some es | _ => none
       | _ => none).bind fun es => (findKey k es 0).bind fun
      | some (_, v) => some (if ok then .tuple [v, .bool true] else v)
      | none => (zeroOf P e).map fun z => if ok then .tuple [z, .bool false] else z
    else none
  | _ => none

def mapUpdate (P : Program) (t : TypeId) (m k v : AV) (H : Heap) : Option Heap :=
  match P.underlying t, m with
  | some (.map kt _), .map (some r) =>
    if keyOk P kt k then
      match H.get r with
      | some (.map es) => (findKey k es 0).bind fun
        | some (i, _) => some (H.put r (.map (es.modify i fun _ => (k, v))))
        | none => some (H.put r (.map (es ++ [(k, v)])))
      | _ => none
    else none
  | _, _ => none

def mapDelete (P : Program) (t : TypeId) (m k : AV) (H : Heap) : Option Heap :=
  match P.underlying t with
  | some (.map kt _) =>
    if keyOk P kt k then
      match m with
      | .map none => some H
      | .map (some r) => match H.get r with
        | some (.map es) => (findKey k es 0).bind fun
          | some (i, _) => some (H.put r (.map (es.eraseIdx i)))
          | none => some H
        | _ => none
      | _ => none
    else none
  | _ => none

def typeAssert (P : Program) (x : AV) (asserted : TypeId) (ok : Bool) : Option AV :=
  match P.underlying asserted, x with
  | some (.interface _), _ => none
  | some _, .nilIface => if ok then (zeroOf P asserted).map fun z => .tuple [z, .bool false] else none
  | some _, .iface t v => if t = asserted then some (if ok then .tuple [v, .bool true] else v)
      else if ok then (zeroOf P asserted).map fun z => .tuple [z, .bool false] else none
  | _, _ => none

def makeSlice (P : Program) (t : TypeId) (len cap : AV) (at_ : Option Nat) (H : Heap) : Option (AV × Heap) :=
  match P.underlying t, len, cap with
  | some (.slice e), .int _ l, .int _ c => (sizeOf P e).bind fun n => (bytesOf P e).bind fun b =>
    if 0 ≤ l ∧ l ≤ c ∧ c ≤ 1099511627776 ∧ b * c ≤ 1099511627776 then
      (zeroOf P e).bind fun z => if z.cells.length = n then
        (newRow H at_ (.zeros e c.toNat z.cells)).bind fun (id, H) => some (.slice (some (id, 0)) l.toNat c.toNat true, H)
      else none
    else none
  | _, _, _ => none

/-- the cells of what is appended or copied: n of them -/
def srcLen : AV → Option Nat
  | .slice _ n _ _ => some n
  | .mt => some 0
  | .str s => some s.size
  | _ => none

def srcCells (size n : Nat) (H : Heap) : AV → Option (List AV)
  | .slice (some (id, off)) _ _ _ => loadCells H id off (n * size)
  | .slice none _ _ _ => if n = 0 then some [] else none
  | .mt => if n = 0 then some [] else none
  | .str s => if size = 1 ∧ n ≤ s.size then some ((s.extract 0 n).data.toList.map fun b => .int .u8 b.toNat) else none
  | _ => none

/-- beyond the known room of a slice whose room isn't known: the row that it leads to now, wherever that lies -/
def grown (e : TypeId) (size len need id off : Nat) (new : List AV) (H : Heap) : Option (AV × Heap) :=
  match H.get id with
  | some (.cells b) =>
    if b.g && off == 0 && Nat.ble (len * size) b.n && b.t == e then
      (Blk.store { b with n := need * size } (len * size) new).bind fun b' =>
        ((H.put id .gone).alloc none (.cells b')).bind fun (id', H) => some (.slice (some (id', 0)) need need false, H)
    else none
  | _ => none

def isSrc : TypeDesc → Bool
  | .slice _ | .string => true
  | _ => false

def append (P : Program) (sType xType : TypeId) (s x : AV) (H : Heap) : Option (AV × Heap) :=
  match P.underlying sType, P.underlying xType with
  | some (.slice e), some xd =>
    if !isSrc xd then none else
    (sizeOf P e).bind fun size => (bytesOf P e).bind fun b => (srcLen x).bind fun n => (srcCells size n H x).bind fun new =>
      match s with
      | .slice base len cap ex =>
        let need := len + n
        if need ≤ cap then
          match base with
          | some (id, off) => (storeCells H id (off + len * size) new).bind fun H => some (.slice base need cap ex, H)
          | none => if n = 0 then some (.slice none need cap ex, H) else none
        else if (2 * need + 1024) * b ≤ 1099511627776 ∧ 2 * need + 1024 ≤ 1099511627776 ∧ (zeroOf P e).any (fun z => z.cells.length == size) = true ∧ allFlat new = true then
          match base with
          | none => if ex && len == 0 then
              (H.alloc none (.cells (.ofList e true new))).bind fun (id, H) => some (.slice (some (id, 0)) need need false, H)
            else none
          | some (id, off) =>
            if ex then
              (loadCells H id off (len * size)).bind fun old =>
              (H.alloc none (.cells (.ofList e true (old ++ new)))).bind fun (id', H) => some (.slice (some (id', 0)) need need false, H)
            else grown e size len need id off new H
        else none
      | .mt => if n = 0 then some (.mt, H) else none
      | _ => none
  | _, _ => none

def copy (P : Program) (dType : TypeId) (d x : AV) (H : Heap) : Option (AV × Heap) :=
  match P.underlying dType with
  | some (.slice e) => (sizeOf P e).bind fun size => (srcLen x).bind fun sl => (srcLen d).bind fun dl =>
    let n := Nat.min sl dl
    (srcCells size n H x).bind fun new =>
      match d with
      | .slice (some (id, off)) _ _ _ => (storeCells H id off new).bind fun H => some (.int .i64 n, H)
      | .slice none _ _ _ => some (.int .i64 n, H)
      | .mt => if n = 0 then some (.int .i64 n, H) else none
      | _ => none
  | _ => none

def clear (P : Program) (t : TypeId) (x : AV) (H : Heap) : Option (AV × Heap) :=
  match P.underlying t, x with
  | none, _ => none
  | _, .slice none _ _ _ | _, .mt | _, .slice _ 0 _ _ | _, .map none => some (.tuple [], H)
  | some (.slice e), .slice (some (id, off)) n _ _ => (sizeOf P e).bind fun size => (zeroOf P e).bind fun z =>
    if z.cells.length = size then (storeCells H id off (rep n z.cells)).bind fun H => some (.tuple [], H) else none
  | some (.map _ _), .map (some r) => match H.get r with
    | some (.map _) => some (.tuple [], H.put r (.map []))
    | _ => none
  | _, _ => none

def len (P : Program) (t : TypeId) (x : AV) (H : Heap) : Option AV :=
  match P.underlying t, x with
  | some .string, .str s => some (.int .i64 s.size)
  | some (.array n _), _ => some (.int .i64 n)
  | some (.slice _), .slice _ n _ _ => some (.int .i64 n)
  | some (.slice _), .mt => some (.int .i64 0)
  | some (.map _ _), .map none => some (.int .i64 0)
  | some (.map _ _), .map (some r) => match H.get r with | some (.map es) => some (.int .i64 es.length) | _ => none
  | some (.pointer arr), _ => match P.underlying arr with | some (.array n _) => some (.int .i64 n) | _ => none
  | _, _ => none

def minmaxF (mx : Bool) (k : IntKind) : Int → List AV → Option AV
  | x, [] => some (.int k x)
  | x, .int _ y :: rest => minmaxF mx k (if mx then (if y > x then y else x) else (if y < x then y else x)) rest
  | _, _ => none

def minmax (mx : Bool) : List AV → Option AV
  | .int k x :: rest => minmaxF mx k x rest
  | _ => none

def builtin (P : Program) (b : Builtin) (ts : List TypeId) (args : List AV) (H : Heap) : Option (AV × Heap) :=
  match b, ts, args with
  | .append, [s, x], [a, b] => append P s x a b H
  | .copy, [d, _], [a, b] => copy P d a b H
  | .clear, [t], [a] => clear P t a H
  | .len, [t], [a] => (len P t a H).map fun v => (v, H)
  | .delete, [t, _], [m, k] => (mapDelete P t m k H).map fun H => (.tuple [], H)
  | .min, _, args => (minmax false args).map fun v => (v, H)
  | .max, _, args => (minmax true args).map fun v => (v, H)
  | _, _, _ => none

/-- functions without a text that are known here -/
def idxByte (c : UInt8) : List UInt8 → Nat → Int
  | [], _ => -1
  | x :: xs, i => if x == c then i else idxByte c xs (i + 1)

def extern (name : String) (args : List AV) : Option AV :=
  match args with
  | [.str s, .int .u8 c] => if name == "internal/bytealg.IndexByteString" then some (.int .i64 (idxByte (UInt8.ofNat c.toNat) s.data.toList 0)) else none
  | [.int .u64 x, .int .u64 y, .int .u64 c] => if name == "math/bits.Add64" && decide (0 ≤ x) && decide (0 ≤ y) && decide (0 ≤ c) && decide (c ≤ 1) then
      some (.tuple [.int .u64 ((x + y + c) % 18446744073709551616), .int .u64 ((x + y + c) / 18446744073709551616)]) else none
  | _ => none

def evals (s : St) : List Operand → Option (List AV)
  | [] => some []
  | o :: os => (s.eval o).bind fun v => (evals s os).bind fun vs => some (v :: vs)

def evalParts (s : St) : List (Nat × Operand) → Option (List (Nat × AV))
  | [] => some []
  | (i, o) :: os => (s.eval o).bind fun v => (evalParts s os).bind fun vs => some ((i, v) :: vs)

def evalOpt (s : St) : Option Operand → Option (Option AV)
  | none => some none
  | some o => (s.eval o).map some

/-- the method of an interface value: function and receiver -/
def method (P : Program) (t : TypeId) (v : AV) (name : String) : Option (FuncId × AV) :=
  (P.info? t).bind fun i => (i.methods.find? (·.name == name)).bind fun m =>
    if m.path.isEmpty then m.func.bind fun (f, ptr) => match P.underlying t, ptr with
      | some (.pointer _), true => some (f, v)
      | some (.pointer _), false => none
      | some _, false => some (f, v)
      | _, _ => none
    else none

/-- What an operation that enters no function does; what it makes anew lies at 'at_', or at the next number. -/
def opLocal (P : Program) (s : St) (at_ : Option Nat) (o : Op) : Option (AV × Heap) :=
  let H := s.H
  let pv (r : Option AV) : Option (AV × Heap) := r.bind fun v => some (v, H)
  let pu (r : Option Heap) : Option (AV × Heap) := r.bind fun H => some (.undef, H)
  match o with
  | .move x | .assign x => pv (s.eval x)
  | .pick c a b => (s.eval c).bind fun
    | .bool true => pv (s.eval a)
    | .bool false => pv (s.eval b)
    | _ => none
  | .alloc e => (zeroOf P e).bind fun z => (newRow H at_ (.zeros e 1 z.cells)).bind fun (id, H) => some (.ptr (some (id, 0)), H)
  | .box e x => (s.eval x).bind fun v => if v.known = false then none else (newRow H at_ (.ofList e false v.cells)).bind fun (id, H) => some (.ptr (some (id, 0)), H)
  | .build t ps => (evalParts s ps.toList).bind fun ps => pv (build P t ps)
  | .buildSlice t n ps => (evalParts s ps.toList).bind fun ps => buildSlice P t n ps at_ H
  | .load t a => (s.eval a).bind fun a => pv (loadVar P t H a)
  | .store t a x => (s.eval a).bind fun a => (s.eval x).bind fun x => pu (storeVar P t H a x)
  | .nilCheck x => (s.eval x).bind fun
    | .ptr none | .nilIface | .nilFunc | .top => none
    | v => some (v, H)
  | .binOp op t x y _ => (s.eval x).bind fun a => (s.eval y).bind fun b => pv (binOp P op t x y a b)
  | .unOp op _ x => (s.eval x).bind fun a => pv (unOp op a)
  | .convert src dst x => (s.eval x).bind fun a => convert P src dst a at_ H
  | .makeInterface t x => match P.underlying t with
    | some (.interface _) => none
    | some _ => (s.eval x).bind fun a => some (.iface t a, H)
    | none => none
  | .makeFunc (.func f) first cap => (evals s first.toList).bind fun a => (evals s cap.toList).bind fun b => some (.func f a b, H)
  | .makeMap t r => match r with
    | none => (H.alloc at_ (.map [])).bind fun (id, H) => some (.map (some id), H)
    | some x => match P.underlying t with
      | some (.map _ _) => (s.eval x).bind fun
        | .int _ _ => (H.alloc at_ (.map [])).bind fun (id, H) => some (.map (some id), H)
        | _ => none
      | _ => none
  | .makeSlice t l c => (s.eval l).bind fun l => (s.eval c).bind fun c => makeSlice P t l c at_ H
  | .slice t x lo hi mx => (s.eval x).bind fun x => (evalOpt s lo).bind fun lo => (evalOpt s hi).bind fun hi => (evalOpt s mx).bind fun mx =>
    pv (sliceOp P t x lo hi mx)
  | .fieldAddr t x f => (s.eval x).bind fun x => pv (fieldAddr P t x f)
  | .field t x f => (s.eval x).bind fun x => pv (field P t x f)
  | .indexAddr t x i => (s.eval x).bind fun x => (s.eval i).bind fun i => pv (indexAddr P t x i)
  | .index t x i => (s.eval x).bind fun x => (s.eval i).bind fun i => pv (index P t x i)
  | .lookup t x k ok => (s.eval x).bind fun x => (s.eval k).bind fun k => pv (lookup P t x k ok H)
  | .mapUpdate t m k x | .insert t m k x => (s.eval m).bind fun m => (s.eval k).bind fun k => (s.eval x).bind fun x => pu (mapUpdate P t m k x H)
  | .typeAssert x _ a ok => (s.eval x).bind fun x => pv (typeAssert P x a ok)
  | .extract x i => (s.eval x).bind fun
    | .tuple vs => pv vs[i]?
    | _ => none
  | .call { callee := .builtin b, args, argTypes } => (evals s args.toList).bind fun vs => builtin P b argTypes.toList vs H
  | _ => none

/-- Which function a call enters, with which arguments. -/
def target (P : Program) (s : St) (c : Call) : Option (FuncId × List AV) :=
  (evals s c.args.toList).bind fun vs =>
  match c.callee with
  | .value f => (s.eval f).bind fun
    | .func f first cap => some (f, first ++ vs ++ cap)
    | _ => none
  | .invoke r name => (s.eval r).bind fun
    | .iface t v => (method P t v name).bind fun (f, x) => some (f, x :: vs)
    | _ => none
  | .builtin _ => none

inductive AExit where
  | normal
  | exit (id : Nat)
  | ret
  deriving DecidableEq

def wanted (s : St) (ops : Array Oper) (o : Oper) : Option Bool :=
  match o.guard with
  | none => some true
  | some (j, want) => match (ops[j]?).bind (·.dst) with
    | some t => match s.T.get t with
      | some (.bool b) => some (b == want)
      | some .top => none
      | _ => some false
    | none => some false

abbrev CallF := FuncId → List AV → Heap → Option (AV × Heap)

def isBuiltin : Callee → Bool
  | .builtin _ => true
  | _ => false

def execOper (P : Program) (callF : CallF) (s : St) (at_ : Option Nat) (o : Oper) : Option St :=
  match o.op with
  | .call c => if isBuiltin c.callee then (opLocal P s at_ o.op).bind fun (v, H) => some ({ s with H := H }.set o.dst v)
    else (target P s c).bind fun (f, vs) => (callF f vs s.H).bind fun (v, H) => some ({ s with H := H }.set o.dst v)
  | .defer c => (target P s c).bind fun d => some ({ s with ds := d :: s.ds }.set o.dst .undef)
  | op => (opLocal P s at_ op).bind fun (v, H) => some ({ s with H := H }.set o.dst v)

def execW (P : Program) (callF : CallF) (ops : Array Oper) (s : St) (at_ : Option Nat) (o : Oper) : Option St :=
  (wanted s ops o).bind fun
    | true => execOper P callF s at_ o
    | false => some (s.set o.dst .undef)

def execOps (P : Program) (callF : CallF) (ops : Array Oper) : List Oper → St → Option St
  | [], s => some s
  | o :: os, s => (execW P callF ops s none o).bind fun s => execOps P callF ops os s

/-! ### regions that draw their order -/

inductive Cls where
  | pure
  | read
  | new
  | eff
  deriving DecidableEq

def clsConvert (P : Program) (src dst : TypeId) : Cls :=
  match P.underlying dst, P.underlying src with
  | some (.int _), _ => .pure
  | some (.slice _), some .string => .new
  | some .string, _ => .read
  | _, _ => .eff

def clsLen (P : Program) (ts : Array TypeId) : Cls :=
  match (ts[0]?).bind (P.underlying ·) with
  | some .string | some (.slice _) | some (.array _ _) => .pure
  | _ => .read

def cls (P : Program) (o : Op) : Cls :=
  match o with
  | .move _ | .assign _ | .pick .. | .build .. | .nilCheck _ | .binOp .. | .unOp .. | .makeInterface .. | .makeFunc .. | .slice .. | .fieldAddr .. | .field ..
  | .indexAddr .. | .index .. | .typeAssert .. | .extract .. => .pure
  | .load .. | .lookup .. => .read
  | .alloc _ | .box .. | .buildSlice .. | .makeSlice .. | .makeMap .. => .new
  | .convert src dst _ => clsConvert P src dst
  | .call { callee := .builtin .len, argTypes, .. } => clsLen P argTypes
  | .call { callee := .builtin .min, .. } | .call { callee := .builtin .max, .. } => .pure
  | _ => .eff

def Cls.rank : Cls → Nat
  | .pure | .read => 0
  | .eff => 1
  | .new => 2

def bindsAny (e : Edge) : Bool :=
  match e.ground with
  | .textOnly _ | .gcOnly _ => false
  | _ => true

def readyD (ops : Array Oper) (done : List Nat) (i : Nat) : Bool :=
  !done.contains i && (match ops[i]? with
    | some o => o.after.toList.all fun e => !bindsAny e || done.contains e.on
    | none => false)

/-- the first that may come, of the least rank -/
def pickD (P : Program) (ops : Array Oper) (done : List Nat) : Option Nat :=
  let rs := (List.range ops.size).filter (readyD ops done)
  let of (r : Nat) := rs.find? fun i => match ops[i]? with | some o => (cls P o.op).rank == r | none => false
  match of 0 with
  | some i => some i
  | none => match of 1 with
    | some i => some i
    | none => of 2

def orderD (P : Program) (ops : Array Oper) : Nat → List Nat → List Nat
  | 0, _ => []
  | n + 1, done => match pickD P ops done with
    | some i => i :: orderD P ops n (i :: done)
    | none => []

/-- which wait for number i, directly or through others, among those of a list (in an order that fits): told as a list of those that i waits for -/
def beforeD (ops : Array Oper) : Nat → Nat → List Nat
  | 0, _ => []
  | n + 1, i => match ops[i]? with
    | some o => o.after.toList.flatMap fun e => if bindsAny e then e.on :: beforeD ops n e.on else []
    | none => []

/-- of an effect: the readings ahead of it that do not have to be -/
def againD (P : Program) (ops : Array Oper) (ahead : List Nat) (i : Nat) : List Nat :=
  match ops[i]? with
  | some o => if (cls P o.op) == .eff then
      ahead.filter fun j => (match ops[j]? with | some oj => (cls P oj.op) == .read | none => false) && !(beforeD ops ops.size i).contains j
    else []
  | none => []

def planD (P : Program) (ops : Array Oper) : List Nat → List Nat → List (Nat × List Nat)
  | _, [] => []
  | ahead, i :: l => (i, againD P ops ahead i) :: planD P ops (ahead ++ [i]) l

/-- does a reading still read what it read? -/
def stillD (P : Program) (ops : Array Oper) (s : St) (j : Nat) : Bool :=
  match ops[j]? with
  | some o => match wanted s ops o with
    | some true => match opLocal P s none o.op with
      | some (v, _) => match o.dst with
        | some d => AV.same v (s.tmp d)
        | none => true
      | none => false
    | some false => true
    | none => false
  | none => false

def execPlan (P : Program) (callF : CallF) (ops : Array Oper) (base : Nat) : List (Nat × List Nat) → St → Option St
  | [], s => some s
  | (i, again) :: l, s => (ops[i]?).bind fun o => (execW P callF ops s (if (cls P o.op) = .new then some (base + i) else none) o).bind fun s =>
    if again.all (stillD P ops s) then execPlan P callF ops base l s else none

def execDraw (P : Program) (callF : CallF) (ops : Array Oper) (s : St) : Option St :=
  execPlan P callF ops s.H.next (planD P ops [] (orderD P ops ops.size [])) { s with H := { s.H with next := s.H.next + ops.size } }

def readResult (P : Program) (s : St) (H : Heap) : ResultVar → Option AV
  | .tmp t => some (s.tmp t)
  | .cell a t => loadVar P t H (s.tmp a)

def readResults (P : Program) (s : St) (H : Heap) : List ResultVar → Option (List AV)
  | [] => some []
  | r :: rs => (readResult P s H r).bind fun v => (readResults P s H rs).bind fun vs => some (v :: vs)

def startT : List AV → Nat → Tr AV → Tr AV
  | [], _, t => t
  | v :: vs, i, t => startT vs (i + 1) (t.put i v)

def runDefers (callF : CallF) : List (FuncId × List AV) → Heap → Option Heap
  | [], H => some H
  | (f, vs) :: ds, H => (callF f vs H).bind fun (_, H) => runDefers callF ds H

def execCode (P : Program) (callF : CallF) (loopF : Code → St → Option (AExit × St)) : Code → St → Option (AExit × St)
  | .skip, s => some (.normal, s)
  | .label _, s => some (.normal, s)
  | .region _ ops draw, s => (if draw then execDraw P callF ops s else execOps P callF ops ops.toList s).bind fun s => some (.normal, s)
  | .seq a b, s => (execCode P callF loopF a s).bind fun
    | (.normal, s) => execCode P callF loopF b s
    | r => some r
  | .cond c a b, s => (s.eval c).bind fun
    | .bool true => execCode P callF loopF a s
    | .bool false => execCode P callF loopF b s
    | _ => none
  | .block id b, s => (execCode P callF loopF b s).bind fun
    | (.exit id', s) => if id' = id then some (.normal, s) else some (.exit id', s)
    | r => some r
  | .scope b, s => execCode P callF loopF b s
  | .loop b, s => loopF b s
  | .exit id, s => some (.exit id, s)
  | .ret, s => some (.ret, s)
  | _, _ => none

def oneOf : List AV → AV
  | [v] => v
  | vs => .tuple vs

/-- Functions whose answer is told, not stepped through. -/
abbrev Spec := FuncId → Option (List AV → Heap → Option (AV × Heap))

mutual
def loopN (P : Program) (X : Spec) : Nat → Code → St → Option (AExit × St)
  | 0, _, _ => none
  | n + 1, b, s => (execCode P (callN P X n false) (loopN P X n) b s).bind fun
    | (.normal, s) => loopN P X n b s
    | r => some r
/-- A call; 'd': of a function that is deferred, which defers nothing itself. -/
def callN (P : Program) (X : Spec) : Nat → Bool → FuncId → List AV → Heap → Option (AV × Heap)
  | 0, _, _, _, _ => none
  | n + 1, d, f, args, H => match X f with
    | some g => if d then none else g args H
    | none => (P.funcs[f]?).bind fun fn => match fn.body with
      | none => if d then none else (extern fn.name args).map fun v => (v, H)
      | some c =>
        (execCode P (callN P X n false) (loopN P X n) c { T := startT args 0 .leaf, n := (if args.length ≤ fn.ntmps then fn.ntmps else args.length), ds := [], H := H }).bind fun
        | (.exit _, _) => none
        | (_, s) => if d && !s.ds.isEmpty then none else (runDefers (callN P X n true) s.ds s.H).bind fun H =>
          (readResults P s H fn.results.toList).bind fun vs => some (oneOf vs, H)
end
end AE
