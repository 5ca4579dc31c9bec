/- The abstract evaluator once more, cut for the kernel. -/
import Derived.Test.YtandggoanbdjkaaGreatDoorWAEDefs
import Derived.KernelRfl
open Go
namespace FE
open AE
noncomputable section

def bcase {α : Type} (b : Bool) (x y : α) : α := @Bool.rec (fun _ => α) y x b
def obind {α β : Type} (x : Option α) (k : α → Option β) : Option β := @Option.rec α (fun _ => Option β) none k x
def lt (a b : Nat) : Bool := Nat.ble (Nat.succ a) b

def trGet {α : Type} (t : Tr α) : Nat → Option α :=
  @Tr.rec α (fun _ => Nat → Option α) (fun _ => none)
    (fun _ v _ gl gr k => @Nat.rec (fun _ => Option α) v (fun k' _ => @Bool.rec (fun _ => Option α) (gr (Nat.div k' 2)) (gl (Nat.div k' 2)) (Nat.beq (Nat.mod k' 2) 0)) k) t

def putLeaf {α : Type} (v : α) (ih : Tr α → Nat → Tr α) (k : Nat) : Tr α :=
  @Nat.rec (fun _ => Tr α) (.node .leaf (some v) .leaf)
    (fun k' _ => @Bool.rec (fun _ => Tr α) (.node .leaf none (ih .leaf (Nat.div k' 2))) (.node (ih .leaf (Nat.div k' 2)) none .leaf) (Nat.beq (Nat.mod k' 2) 0)) k
def putNode {α : Type} (v : α) (ih : Tr α → Nat → Tr α) (l : Tr α) (x : Option α) (r : Tr α) (k : Nat) : Tr α :=
  @Nat.rec (fun _ => Tr α) (.node l (some v) r)
    (fun k' _ => @Bool.rec (fun _ => Tr α) (.node l x (ih r (Nat.div k' 2))) (.node (ih l (Nat.div k' 2)) x r) (Nat.beq (Nat.mod k' 2) 0)) k
def putF {α : Type} (v : α) (n : Nat) : Tr α → Nat → Tr α :=
  @Nat.rec (fun _ => Tr α → Nat → Tr α) (fun t _ => t)
    (fun _ ih t k => @Tr.rec α (fun _ => Tr α) (putLeaf v ih k) (fun l x r _ _ => putNode v ih l x r k) t) n
def trPut {α : Type} (t : Tr α) (k : Nat) (v : α) : Tr α := putF v (Nat.succ k) t k

/-! values -/
section
variable {β : Type}
def nP : PUnit := ⟨⟩
def ptrK (k : Nat → Nat → Option β) (a : AV) : Option β :=
  @AV.rec (fun _ => Option β) (fun _ => PUnit) (fun _ => none) (fun _ _ => none) (fun _ => none)
    (fun a => @Option.rec (Nat × Nat) (fun _ => Option β) none (fun p => k p.1 p.2) a) (fun _ => none) (fun _ _ _ _ => none) none (fun _ => none)
    (fun _ _ _ _ _ => none) none (fun _ _ _ => none) none (fun _ _ => none) (fun _ _ => none) none (fun _ _ => none) nP (fun _ _ _ _ => nP) a
def intK (k : IntKind → Int → Option β) (a : AV) : Option β :=
  @AV.rec (fun _ => Option β) (fun _ => PUnit) (fun _ => none) k (fun _ => none)
    (fun _ => none) (fun _ => none) (fun _ _ _ _ => none) none (fun _ => none)
    (fun _ _ _ _ _ => none) none (fun _ _ _ => none) none (fun _ _ => none) (fun _ _ => none) none (fun _ _ => none) nP (fun _ _ _ _ => nP) a
def boolK (x y : Option β) (a : AV) : Option β :=
  @AV.rec (fun _ => Option β) (fun _ => PUnit) (fun b => @Bool.rec (fun _ => Option β) y x b) (fun _ _ => none) (fun _ => none)
    (fun _ => none) (fun _ => none) (fun _ _ _ _ => none) none (fun _ => none)
    (fun _ _ _ _ _ => none) none (fun _ _ _ => none) none (fun _ _ => none) (fun _ _ => none) none (fun _ _ => none) nP (fun _ _ _ _ => nP) a
def tupleK (k : List AV → Option β) (a : AV) : Option β :=
  @AV.rec (fun _ => Option β) (fun _ => PUnit) (fun _ => none) (fun _ _ => none) (fun _ => none)
    (fun _ => none) (fun _ => none) (fun _ _ _ _ => none) none (fun _ => none)
    (fun _ _ _ _ _ => none) none (fun _ _ _ => none) none (fun _ _ => none) (fun vs _ => k vs) none (fun _ _ => none) nP (fun _ _ _ _ => nP) a
def funcK (k : FuncId → List AV → List AV → Option β) (a : AV) : Option β :=
  @AV.rec (fun _ => Option β) (fun _ => PUnit) (fun _ => none) (fun _ _ => none) (fun _ => none)
    (fun _ => none) (fun _ => none) (fun _ _ _ _ => none) none (fun _ => none)
    (fun f x y _ _ => k f x y) none (fun _ _ _ => none) none (fun _ _ => none) (fun _ _ => none) none (fun _ _ => none) nP (fun _ _ _ _ => nP) a
end
/-- the kind: 0 a whole number, 1 another -/
def isInt (a : AV) : Bool :=
  @AV.rec (fun _ => Bool) (fun _ => PUnit) (fun _ => false) (fun _ _ => true) (fun _ => false)
    (fun _ => false) (fun _ => false) (fun _ _ _ _ => false) false (fun _ => false)
    (fun _ _ _ _ _ => false) false (fun _ _ _ => false) false (fun _ _ => false) (fun _ _ => false) false (fun _ _ => false) nP (fun _ _ _ _ => nP) a
def flat (a : AV) : Bool :=
  @AV.rec (fun _ => Bool) (fun _ => PUnit) (fun _ => true) (fun _ _ => true) (fun _ => true)
    (fun _ => true) (fun _ => true) (fun _ _ _ _ => true) true (fun _ => true)
    (fun _ _ _ _ _ => true) true (fun _ _ _ => true) true (fun _ _ => false) (fun _ _ => false) false (fun _ _ => true) nP (fun _ _ _ _ => nP) a
def cellsOf (a : AV) : List AV :=
  @AV.rec (fun _ => List AV) (fun _ => PUnit) (fun _ => [a]) (fun _ _ => [a]) (fun _ => [a])
    (fun _ => [a]) (fun _ => [a]) (fun _ _ _ _ => [a]) [a] (fun _ => [a])
    (fun _ _ _ _ _ => [a]) [a] (fun _ _ _ => [a]) [a] (fun cs _ => cs) (fun _ _ => [a]) [a] (fun _ _ => [a]) nP (fun _ _ _ _ => nP) a
def known (a : AV) : Bool :=
  @AV.rec (fun _ => Bool) (fun _ => PUnit) (fun _ => true) (fun _ _ => true) (fun _ => true)
    (fun _ => true) (fun _ => true) (fun _ _ _ _ => true) true (fun _ => true)
    (fun _ _ _ _ _ => true) true (fun _ _ _ => true) true (fun _ _ => true) (fun _ _ => true) false (fun _ _ => true) nP (fun _ _ _ _ => nP) a
def nilBad (a : AV) : Bool :=
  @AV.rec (fun _ => Bool) (fun _ => PUnit) (fun _ => false) (fun _ _ => false) (fun _ => false)
    (fun p => @Option.rec (Nat × Nat) (fun _ => Bool) true (fun _ => false) p) (fun _ => false) (fun _ _ _ _ => false) false (fun _ => false)
    (fun _ _ _ _ _ => false) true (fun _ _ _ => false) true (fun _ _ => false) (fun _ _ => false) true (fun _ _ => false) nP (fun _ _ _ _ => nP) a

/-! blocks and heap -/
def bGet (b : Blk) (k : Nat) : Option AV :=
  bcase (lt k b.n) (@Option.rec AV (fun _ => Option AV) (trGet b.z (Nat.mod k b.zn)) (fun v => some v) (trGet b.cs k)) none
def bLoad (b : Blk) (n : Nat) : Nat → Option (List AV) :=
  @Nat.rec (fun _ => Nat → Option (List AV)) (fun _ => some []) (fun _ ih off => obind (bGet b off) fun v => obind (ih (Nat.succ off)) fun vs => some (v :: vs)) n
def bStore (l : List AV) : Blk → Nat → Option Blk :=
  @List.rec AV (fun _ => Blk → Nat → Option Blk) (fun b _ => some b)
    (fun v _ ih b off => bcase (lt off b.n) (bcase (flat v) (ih ⟨b.t, b.g, b.n, b.zn, b.z, trPut b.cs off v⟩ (Nat.succ off)) none) none) l
def fputL (l : List AV) : Nat → Tr AV → Tr AV :=
  @List.rec AV (fun _ => Nat → Tr AV → Tr AV) (fun _ t => t) (fun v _ ih i t => ih (Nat.succ i) (trPut t i v)) l
def len {α : Type} (l : List α) : Nat := @List.rec α (fun _ => Nat) 0 (fun _ _ ih => Nat.succ ih) l
def ofList (t : TypeId) (g : Bool) (l : List AV) : Blk := ⟨t, g, len l, 0, .leaf, fputL l 0 .leaf⟩

section
variable {β : Type}
def cellsK (k : Blk → Option β) (o : AObj) : Option β := @AObj.rec (fun _ => Option β) k (fun _ => none) none o
def objK (H : Heap) (id : Nat) (k : Blk → Option β) : Option β := obind (trGet H.m id) (cellsK k)
end
def hPut (H : Heap) (id : Nat) (o : AObj) : Heap := ⟨trPut H.m id o, H.next⟩
def halloc (H : Heap) (at_ : Option Nat) (o : AObj) : Option (Nat × Heap) :=
  @Option.rec Nat (fun _ => Option (Nat × Heap)) (some (H.next, ⟨trPut H.m H.next o, Nat.succ H.next⟩))
    (fun i => @Option.rec AObj (fun _ => Option (Nat × Heap)) (bcase (lt i H.next) (some (i, ⟨trPut H.m i o, H.next⟩)) none) (fun _ => none) (trGet H.m i)) at_
def loadCells (H : Heap) (id off n : Nat) : Option (List AV) := objK H id fun b => bLoad b n off
def storeCells (H : Heap) (id off : Nat) (vs : List AV) : Option Heap := objK H id fun b => obind (bStore vs b off) fun b => some (hPut H id (.cells b))

def loadScalar (H : Heap) (id off : Nat) : Option AV := objK H id fun b => bGet b off
def loadAgg (P : Program) (t : TypeId) (H : Heap) (id off : Nat) : Option AV :=
  obind (sizeOf P t) fun n => obind (loadCells H id off n) fun l => some (.agg l)
def loadVar (P : Program) (t : TypeId) (H : Heap) (a : AV) : Option AV :=
  ptrK (fun id off => obind (isAgg P t) fun b => bcase b (loadAgg P t H id off) (loadScalar H id off)) a
def storeVar (P : Program) (t : TypeId) (H : Heap) (a v : AV) : Option Heap :=
  ptrK (fun id off => obind (sizeOf P t) fun n => bcase (known v) (bcase (Nat.beq (len (cellsOf v)) n) (storeCells H id off (cellsOf v)) none) none) a

/-! whole numbers -/
def maxN (k : IntKind) : Nat := @IntKind.rec (fun _ => Nat) 127 32767 2147483647 9223372036854775807 255 65535 4294967295 18446744073709551615 k
def negN (k : IntKind) : Nat := @IntKind.rec (fun _ => Nat) 128 32768 2147483648 9223372036854775808 0 0 0 0 k
def wrap (k : IntKind) (n : Int) : Int :=
  @Int.rec (fun _ => Int) (fun m => bcase (Nat.ble m (maxN k)) (.ofNat m) (IntKind.wrap k (.ofNat m))) (fun m => bcase (lt m (negN k)) (.negSucc m) (IntKind.wrap k (.negSucc m))) n
section
variable {β : Type}
def nat2 (f : Nat → Nat → β) (g : β) (a b : Int) : β := @Int.rec (fun _ => β) (fun m => @Int.rec (fun _ => β) (fun n => f m n) (fun _ => g) b) (fun _ => g) a
end
def add (a b : Int) : Int := nat2 (fun m n => .ofNat (Nat.add m n)) (Int.add a b) a b
def sub (a b : Int) : Int := nat2 (fun m n => bcase (Nat.ble n m) (.ofNat (Nat.sub m n)) (.negSucc (Nat.sub n (Nat.succ m)))) (Int.sub a b) a b
def mul (a b : Int) : Int := nat2 (fun m n => .ofNat (Nat.mul m n)) (Int.mul a b) a b
def ieq (a b : Int) : Bool := nat2 Nat.beq (a == b) a b
def ilt (a b : Int) : Bool := nat2 lt (decide (a < b)) a b
def ile (a b : Int) : Bool := nat2 Nat.ble (decide (a ≤ b)) a b
def bitOp (f : Nat → Nat → Nat) (op : BinOp) (k : IntKind) (a b : Int) : Option AV :=
  nat2 (fun m n => bcase (Nat.ble m (maxN k)) (bcase (Nat.ble n (maxN k)) (some (.int k (.ofNat (f m n)))) (AE.intOp op k a b)) (AE.intOp op k a b)) (AE.intOp op k a b) a b
def intOp : BinOp → IntKind → Int → Int → Option AV :=
  @BinOp.rec (fun _ => IntKind → Int → Int → Option AV) (fun k a b => some (.int k (wrap k (add a b)))) (fun k a b => some (.int k (wrap k (sub a b))))
    (fun k a b => some (.int k (wrap k (mul a b)))) (AE.intOp .quo) (AE.intOp .rem) (bitOp Nat.land .and) (bitOp Nat.lor .or) (bitOp Nat.xor .xor)
    (AE.intOp .shl) (AE.intOp .shr) (AE.intOp .andNot) (fun _ a b => some (.bool (ieq a b))) (fun _ a b => some (.bool (Bool.not (ieq a b))))
    (fun _ a b => some (.bool (ilt a b))) (fun _ a b => some (.bool (ile a b))) (fun _ a b => some (.bool (ilt b a))) (fun _ a b => some (.bool (ile b a)))
def sameKind (k l : IntKind) : Bool := Nat.beq (@IntKind.rec (fun _ => Nat) 0 1 2 3 4 5 6 7 k) (@IntKind.rec (fun _ => Nat) 0 1 2 3 4 5 6 7 l)
def isShift : BinOp → Bool := @BinOp.rec (fun _ => Bool) false false false false false false false false true true false false false false false false false
def bitsN (k : IntKind) : Nat := @IntKind.rec (fun _ => Nat) 8 16 32 64 8 16 32 64 k
def minN (a b : Nat) : Nat := bcase (Nat.ble a b) a b
def shrF (k : IntKind) (x y : Int) : Option AV := nat2 (fun m n => some (.int k (.ofNat (Nat.shiftRight m (minN n (bitsN k)))))) (AE.shiftOp .shr k x y) x y
def shlF (k : IntKind) (x y : Int) : Option AV := nat2 (fun m n => some (.int k (wrap k (.ofNat (Nat.shiftLeft m (minN n (bitsN k))))))) (AE.shiftOp .shl k x y) x y
def shift : BinOp → IntKind → Int → Int → Option AV :=
  @BinOp.rec (fun _ => IntKind → Int → Int → Option AV) (AE.shiftOp .add) (AE.shiftOp .sub) (AE.shiftOp .mul) (AE.shiftOp .quo) (AE.shiftOp .rem) (AE.shiftOp .and) (AE.shiftOp .or) (AE.shiftOp .xor)
    shlF shrF (AE.shiftOp .andNot) (AE.shiftOp .eql) (AE.shiftOp .neq) (AE.shiftOp .lss) (AE.shiftOp .leq) (AE.shiftOp .gtr) (AE.shiftOp .geq)
def binOp (P : Program) (op : BinOp) (t : TypeId) (ox oy : Operand) (x y : AV) : Option AV :=
  bcase (isInt x) (bcase (isInt y)
    (intK (fun k a => intK (fun l b => bcase (isShift op) (shift op k a b) (bcase (sameKind k l) (intOp op k a b) none)) y) x)
    (AE.binOp P op t ox oy x y)) (AE.binOp P op t ox oy x y)

/-! states -/
def tmp (s : St) (t : Nat) : AV := @Option.rec AV (fun _ => AV) (.tuple []) (fun v => v) (trGet s.T t)
def setT (s : St) (v : AV) (d : Nat) : St := bcase (lt d s.n) ⟨trPut s.T d v, s.n, s.ds, s.H⟩ s
def set (s : St) (dst : Option Nat) (v : AV) : St := @Option.rec Nat (fun _ => St) s (setT s v) dst
def setH (s : St) (dst : Option Nat) (v : AV) (H : Heap) : St := set ⟨s.T, s.n, s.ds, H⟩ dst v

def evalK {β : Type} (s : St) (k : AV → Option β) (x : Operand) : Option β :=
  @Operand.rec (fun _ => Option β) (fun t => k (tmp s t)) (fun c => obind (ofVal c) k) (fun g => k (.gptr g)) (fun f => k (.func f [] [])) x
def evals {β : Type} (s : St) (l : List Operand) : (List AV → Option β) → Option β :=
  @List.rec Operand (fun _ => (List AV → Option β) → Option β) (fun k => k []) (fun o _ ih k => evalK s (fun v => ih fun vs => k (v :: vs)) o) l

abbrev HT := Option Nat → Option Nat → St → Option St
def hNone : HT := fun _ _ _ => none
def hMove (x : Operand) : HT := fun _ dst s => evalK s (fun v => some (set s dst v)) x
def gen (P : Program) (o : Op) : HT := fun at_ dst s => obind (opLocal P s at_ o) fun p => some (setH s dst p.1 p.2)
def hLoad (P : Program) (t : TypeId) (x : Operand) : HT := fun _ dst s => evalK s (fun a => obind (loadVar P t s.H a) fun v => some (set s dst v)) x
def hStore (P : Program) (t : TypeId) (a x : Operand) : HT := fun _ dst s => evalK s (fun a => evalK s (fun x => obind (storeVar P t s.H a x) fun H => some (setH s dst (.tuple []) H)) x) a
def fieldOff (P : Program) (t : TypeId) (f : Nat) : Option Nat :=
  match P.underlying t with
  | some (.struct fs) => fs[f]?.bind fun fl => (sizeOf P fl.type).bind fun n => if n = 0 then none else some fl.offset
  | _ => none
def hField (P : Program) (t : TypeId) (x : Operand) (f : Nat) : HT := fun _ dst s =>
  evalK s (fun a => ptrK (fun id off => obind (fieldOff P t f) fun o => some (set s dst (.ptr (some (id, Nat.add off o))))) a) x
def hPick (c a b : Operand) : HT := fun _ dst s => evalK s (boolK (evalK s (fun v => some (set s dst v)) a) (evalK s (fun v => some (set s dst v)) b)) c
def hNil (x : Operand) : HT := fun _ dst s => evalK s (fun v => bcase (nilBad v) none (some (set s dst v))) x
def hBin (P : Program) (op : BinOp) (t : TypeId) (x y : Operand) : HT := fun _ dst s =>
  evalK s (fun a => evalK s (fun b => obind (binOp P op t x y a b) fun v => some (set s dst v)) y) x
def notK (s : St) (dst : Option Nat) (a : AV) : Option St := boolK (some (set s dst (.bool false))) (some (set s dst (.bool true))) a
def hUn (P : Program) (op : UnOp) (t : TypeId) (x : Operand) : HT :=
  @UnOp.rec (fun _ => HT) (gen P (.unOp .neg t x)) (gen P (.unOp .xor t x)) (fun _ dst s => evalK s (notK s dst) x) (gen P (.unOp .plus t x)) op
def nth {α : Type} (l : List α) : Nat → Option α := @List.rec α (fun _ => Nat → Option α) (fun _ => none) (fun v _ ih n => @Nat.rec (fun _ => Option α) (some v) (fun m _ => ih m) n) l
def hExtract (x : Operand) (i : Nat) : HT := fun _ dst s => evalK s (tupleK fun vs => obind (nth vs i) fun v => some (set s dst v)) x
def hBox (e : TypeId) (x : Operand) : HT := fun at_ dst s => evalK s (fun v => bcase (known v) (obind (halloc s.H at_ (.cells (ofList e false (cellsOf v)))) fun p => some (setH s dst (.ptr (some (p.1, 0))) p.2)) none) x
def zeroBlk (P : Program) (e : TypeId) : Option Blk := (zeroOf P e).bind fun z => some (.zeros e 1 z.cells)
def hAlloc (P : Program) (e : TypeId) : HT := fun at_ dst s => obind (zeroBlk P e) fun b => obind (halloc s.H at_ (.cells b)) fun p => some (setH s dst (.ptr (some (p.1, 0))) p.2)
/-- what indexes: 0 nothing, else a slice's element size and one, or an array's length -/
inductive Ix where
  | none
  | slice (n : Nat)
  | array (len n : Nat)
def ixOf (P : Program) (t : TypeId) : Ix :=
  match P.underlying t with
  | some (.slice e) => match sizeOf P e with | some n => .slice n | _ => .none
  | some (.array len e) => match sizeOf P e with | some n => .array len n | _ => .none
  | _ => .none
def ixAt (id off n len : Nat) (s : St) (dst : Option Nat) (i : Int) : Option St :=
  @Int.rec (fun _ => Option St) (fun m => bcase (lt m len) (some (set s dst (.ptr (some (id, Nat.add off (Nat.mul m n)))))) Option.none) (fun _ => Option.none) i
def sliceK {β : Type} (k : Nat → Nat → Nat → Nat → Bool → Option β) (a : AV) : Option β :=
  @AV.rec (fun _ => Option β) (fun _ => PUnit) (fun _ => none) (fun _ _ => none) (fun _ => none)
    (fun _ => none) (fun _ => none) (fun p len cap ex => @Option.rec (Nat × Nat) (fun _ => Option β) none (fun p => k p.1 p.2 len cap ex) p) none (fun _ => none)
    (fun _ _ _ _ _ => none) none (fun _ _ _ => none) none (fun _ _ => none) (fun _ _ => none) none (fun _ _ => none) nP (fun _ _ _ _ => nP) a
def ixSlice (n : Nat) (s : St) (dst : Option Nat) (x i : AV) : Option St := intK (fun _ i => sliceK (fun id off len _ _ => ixAt id off n len s dst i) x) i
def ixArr (len n : Nat) (s : St) (dst : Option Nat) (x i : AV) : Option St := intK (fun _ i => ptrK (fun id off => ixAt id off n len s dst i) x) i
def hIndexAddr (P : Program) (t : TypeId) (x i : Operand) : HT := fun _ dst s =>
  evalK s (fun a => evalK s (fun b => @Ix.rec (fun _ => St → Option Nat → AV → AV → Option St) (fun _ _ _ _ => none) ixSlice ixArr (ixOf P t) s dst a b) i) x
def convK (P : Program) (src dst : TypeId) : Option IntKind :=
  match P.underlying src, P.underlying dst with
  | some (.int _), some (.int k) => some k
  | _, _ => none
def hConv (P : Program) (src dst : TypeId) (x : Operand) : HT := fun at_ d s =>
  @Option.rec IntKind (fun _ => Option St) (gen P (.convert src dst x) at_ d s) (fun k => evalK s (intK fun _ n => some (set s d (.int k (wrap k n)))) x) (convK P src dst)

/-! calls of what is built in -/
def elemOf (P : Program) (t : TypeId) : Option (Nat × Nat × TypeId) :=
  match P.underlying t with
  | some (.slice e) => match sizeOf P e, bytesOf P e with | some n, some b => some (n, b, e) | _, _ => none
  | _ => none
def hBuiltin (P : Program) (c : Call) : HT := gen P (.call c)

def hCall (P : Program) (callF : CallF) (c : Call) : HT := fun at_ dst s =>
  @Callee.rec (fun _ => Option St) (fun f => evals s c.args.toList fun vs => evalK s (funcK fun f first cap => obind (callF f (first ++ (vs ++ cap)) s.H) fun r => some (setH s dst r.1 r.2)) f)
    (fun _ _ => obind (target P s c) fun p => obind (callF p.1 p.2 s.H) fun r => some (setH s dst r.1 r.2)) (fun _ => hBuiltin P c at_ dst s) c.callee
def hDefer (P : Program) (c : Call) : HT := fun _ dst s => obind (target P s c) fun d => some (set ⟨s.T, s.n, d :: s.ds, s.H⟩ dst (.tuple []))

def disp (P : Program) (callF : CallF) : Op → HT :=
  @Op.rec (fun _ => HT) hMove hMove hPick
    (hAlloc P) hBox (fun t p => gen P (.build t p)) (fun t l p => gen P (.buildSlice t l p))
    (fun t m k v => gen P (.insert t m k v)) (hLoad P) (hStore P) (fun _ => hNone) (fun _ => hNone) hNil
    (fun op t x y _ => hBin P op t x y) (hUn P) (hConv P) (fun _ _ => hNone)
    (fun t x => gen P (.makeInterface t x)) (fun f a b => gen P (.makeFunc f a b)) (fun t r => gen P (.makeMap t r)) (fun _ _ => hNone)
    (fun t l c => gen P (.makeSlice t l c)) (fun t x l h m => gen P (.slice t x l h m)) (hField P) (fun t x f => gen P (.field t x f))
    (hIndexAddr P) (fun t x i => gen P (.index t x i)) (fun t x k o => gen P (.lookup t x k o))
    (fun t m k v => gen P (.mapUpdate t m k v)) (fun _ _ _ => hNone) (fun _ _ _ _ => hNone) (fun _ _ => hNone) (fun _ _ => hNone) (fun _ => hNone)
    (fun x a b o => gen P (.typeAssert x a b o)) hExtract (hCall P callF) (fun _ => hNone) (hDefer P)
    (fun _ => hNone) (fun _ _ => hNone) (fun _ _ _ => hNone) (fun _ _ => hNone)

def wantK (s : St) (ops : Array Oper) (run : Option St) (skip : Option St) (g : Nat × Bool) : Option St :=
  match (ops[g.1]?).bind (·.dst) with
    | some t => match trGet s.T t with
      | some (.bool b) => if b == g.2 then run else skip
      | some .top => none
      | _ => skip
    | none => skip
def oper (P : Program) (callF : CallF) (ops : Array Oper) (s : St) (at_ : Option Nat) (o : Oper) : Option St :=
  @Option.rec (Nat × Bool) (fun _ => Option St) (disp P callF o.op at_ o.dst s) (wantK s ops (disp P callF o.op at_ o.dst s) (some (set s o.dst (.tuple [])))) o.guard
def opsL (P : Program) (callF : CallF) (ops : Array Oper) (l : List Oper) : St → Option St :=
  @List.rec Oper (fun _ => St → Option St) (fun s => some s) (fun o _ ih s => obind (oper P callF ops s none o) ih) l

/-- the plan of a region, with the operations themselves -/
def planO (P : Program) (ops : Array Oper) : List (Nat × List Nat) → List (Bool × Nat × Oper × List Nat)
  | [] => []
  | (i, a) :: l => match ops[i]? with
    | some o => ((cls P o.op) == .new, i, o, a) :: planO P ops l
    | none => []
def planOf (P : Program) (ops : Array Oper) : List (Bool × Nat × Oper × List Nat) := planO P ops (planD P ops [] (orderD P ops ops.size []))
def againK (P : Program) (ops : Array Oper) (ih : St → Option St) (again : List Nat) (s : St) : Option St :=
  @List.rec Nat (fun _ => Option St) (ih s) (fun _ _ _ => bcase (again.all (stillD P ops s)) (ih s) none) again
def planL (P : Program) (callF : CallF) (ops : Array Oper) (base : Nat) (l : List (Bool × Nat × Oper × List Nat)) : St → Option St :=
  @List.rec _ (fun _ => St → Option St) (fun s => some s)
    (fun p _ ih s => obind (oper P callF ops s (bcase p.1 (some (Nat.add base p.2.1)) none) p.2.2.1) (againK P ops ih p.2.2.2)) l
def draw (P : Program) (callF : CallF) (ops : Array Oper) (s : St) : Option St :=
  planL P callF ops s.H.next (planOf P ops) ⟨s.T, s.n, s.ds, ⟨s.H.m, Nat.add s.H.next ops.size⟩⟩

abbrev R := Option (AExit × St)
def seqK (k : St → R) (p : AExit × St) : R := @AExit.rec (fun _ => R) (k p.2) (fun _ => some p) (some p) p.1
def blockK (id : Nat) (p : AExit × St) : R := @AExit.rec (fun _ => R) (some p) (fun id' => bcase (Nat.beq id' id) (some (.normal, p.2)) (some p)) (some p) p.1
def code (P : Program) (callF : CallF) (loopF : Code → St → R) : Code → St → R :=
  @Code.rec (fun _ => St → R) (fun s => some (.normal, s)) (fun _ ops d s => obind (bcase d (draw P callF ops s) (opsL P callF ops ops.toList s)) fun s => some (.normal, s))
    (fun _ _ ia ib s => obind (ia s) (seqK ib)) (fun c _ _ ia ib s => evalK s (boolK (ia s) (ib s)) c) (fun id _ ib s => obind (ib s) (blockK id))
    (fun b _ s => loopF b s) (fun _ _ _ _ _ _ _ => none) (fun id s => some (.exit id, s)) (fun _ ib s => ib s) (fun _ s => some (.normal, s)) (fun _ _ => none)
    (fun s => some (.ret, s)) (fun _ _ => none)
structure Both where
  loop : Code → St → R
  call : CallF
  dcall : CallF
def runDefs (callF : CallF) (l : List (FuncId × List AV)) : Heap → Option Heap :=
  @List.rec _ (fun _ => Heap → Option Heap) (fun H => some H) (fun d _ ih H => obind (callF d.1 d.2 H) fun r => ih r.2) l
def endRun (P : Program) (callD : CallF) (fn : Func) (s : St) : Option (AV × Heap) :=
  obind (runDefs callD s.ds s.H) fun H => obind (readResults P s H fn.results.toList) fun vs => some (oneOf vs, H)
def endCall (P : Program) (callD : CallF) (fn : Func) (p : AExit × St) : Option (AV × Heap) :=
  @AExit.rec (fun _ => Option (AV × Heap)) (endRun P callD fn p.2) (fun _ => none) (endRun P callD fn p.2) p.1
def endRunD (P : Program) (callD : CallF) (fn : Func) (s : St) : Option (AV × Heap) :=
  @List.rec _ (fun _ => Option (AV × Heap)) (endRun P callD fn s) (fun _ _ _ => none) s.ds
def endCallD (P : Program) (callD : CallF) (fn : Func) (p : AExit × St) : Option (AV × Heap) :=
  @AExit.rec (fun _ => Option (AV × Heap)) (endRunD P callD fn p.2) (fun _ => none) (endRunD P callD fn p.2) p.1
def fstart (l : List AV) : Nat → Tr AV → Tr AV := fputL l
def start (args : List AV) (H : Heap) (fn : Func) : St := ⟨fstart args 0 .leaf, bcase (Nat.ble (len args) fn.ntmps) fn.ntmps (len args), [], H⟩
def specK (X : Spec) (args : List AV) (H : Heap) (k : Option (AV × Heap)) (f : FuncId) : Option (AV × Heap) :=
  @Option.rec _ (fun _ => Option (AV × Heap)) k (fun g => g args H) (X f)
def specD (X : Spec) (k : Option (AV × Heap)) (f : FuncId) : Option (AV × Heap) :=
  @Option.rec _ (fun _ => Option (AV × Heap)) k (fun _ => none) (X f)
def callBody (P : Program) (ih : Both) (args : List AV) (H : Heap) (fn : Func) : Option (AV × Heap) :=
  @Option.rec Code (fun _ => Option (AV × Heap)) ((extern fn.name args).map fun v => (v, H))
    (fun c => obind (code P ih.call ih.loop c (start args H fn)) (endCall P ih.dcall fn)) fn.body
def callBodyD (P : Program) (ih : Both) (args : List AV) (H : Heap) (fn : Func) : Option (AV × Heap) :=
  @Option.rec Code (fun _ => Option (AV × Heap)) none
    (fun c => obind (code P ih.call ih.loop c (start args H fn)) (endCallD P ih.dcall fn)) fn.body
def both (P : Program) (X : Spec) (n : Nat) : Both :=
  @Nat.rec (fun _ => Both) ⟨fun _ _ => none, fun _ _ _ => none, fun _ _ _ => none⟩
    (fun _ ih => ⟨fun b s => obind (code P ih.call ih.loop b s) (seqK (fun s => ih.loop b s)),
      fun f args H => specK X args H (obind (P.funcs[f]?) (callBody P ih args H)) f, fun f args H => specD X (obind (P.funcs[f]?) (callBodyD P ih args H)) f⟩) n
end
end FE
