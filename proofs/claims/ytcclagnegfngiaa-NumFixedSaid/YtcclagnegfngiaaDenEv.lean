/- DEN, 1: a plain interpreter of the program's code over a heap of its own: it draws nothing, knows no capacity that Go leaves open, and answers 'none' where it does not know. -/
import Derived.Orders
set_option autoImplicit false
namespace Den
open Go

/-! trees: a finite map from Nat -/
inductive Tr (α : Type) where
  | nil
  | node (l : Tr α) (v : Option α) (r : Tr α)

def Tr.get {α : Type} : Tr α → Nat → Option α
  | .nil, _ => none
  | .node l v r, n => cond (Nat.beq n 0) v (cond (Nat.beq (Nat.mod n 2) 1) (l.get (Nat.div n 2)) (r.get (Nat.sub (Nat.div n 2) 1)))

def Tr.setF {α : Type} : Nat → Tr α → Nat → α → Tr α
  | 0, t, _, _ => t
  | f+1, .nil, n, x => cond (Nat.beq n 0) (.node .nil (some x) .nil)
      (cond (Nat.beq (Nat.mod n 2) 1) (.node (Tr.setF f .nil (Nat.div n 2) x) none .nil) (.node .nil none (Tr.setF f .nil (Nat.sub (Nat.div n 2) 1) x)))
  | f+1, .node l v r, n, x => cond (Nat.beq n 0) (.node l (some x) r)
      (cond (Nat.beq (Nat.mod n 2) 1) (.node (Tr.setF f l (Nat.div n 2) x) v r) (.node l v (Tr.setF f r (Nat.sub (Nat.div n 2) 1) x)))
def Tr.set {α : Type} (t : Tr α) (n : Nat) (x : α) : Tr α := Tr.setF (Nat.succ n) t n x

/-! values -/
structure AAddr where
  b : Nat
  v : Nat
  o : Nat

/-- a capacity: known, or whatever Go gave to a row of elements of z cells -/
inductive Cap where
  | kn (c : Nat)
  | op (z : Nat)
mutual
inductive AV where
  | bool (b : Bool)
  | int (k : IntKind) (n : Int)
  | str (s : List Nat)
  | ptr (a : Option AAddr)
  | slice (a : Option AAddr) (len : Nat) (cap : Cap)
  | fn (f : FuncId) (first captured : AVs)
  | nilfn
  | agg (cs : AVs)
  | tup (vs : AVs)
  | iface (t : TypeId) (v : AV)
  | nilif
  | map (r : Option Nat)
inductive AVs where
  | nil
  | cons (a : AV) (as : AVs)
end
def AVs.app : AVs → AVs → AVs | .nil, b => b | .cons x a, b => .cons x (AVs.app a b)
def AVs.len : AVs → Nat | .nil => 0 | .cons _ as => Nat.succ as.len
def AVs.get : AVs → Nat → Option AV
  | .nil, _ => none
  | .cons a as, n => match n with | 0 => some a | n+1 => as.get n
def AVs.drop : AVs → Nat → AVs
  | .nil, _ => .nil
  | .cons a as, n => match n with | 0 => .cons a as | n+1 => as.drop n
def AVs.take : AVs → Nat → AVs
  | .nil, _ => .nil
  | .cons a as, n => match n with | 0 => .nil | n+1 => .cons a (as.take n)
def AVs.set : AVs → Nat → AV → AVs
  | .nil, _, _ => .nil
  | .cons a as, n, x => match n with | 0 => .cons x as | n+1 => .cons a (as.set n x)
def AVs.sets (cs : AVs) (o : Nat) : AVs → AVs
  | .nil => cs
  | .cons a as => AVs.sets (cs.set o a) (Nat.succ o) as
def AVs.rep (cs : AVs) : Nat → AVs
  | 0 => .nil
  | n+1 => AVs.app cs (AVs.rep cs n)

mutual
def ofV : Value → Option AV
  | .bool b => some (.bool b)
  | .int k n => some (.int k n)
  | .string s => some (.str (s.data.toList.map UInt8.toNat))
  | .pointer none => some (.ptr none)
  | .slice none n m => cond (Nat.beq n 0) (cond (Nat.beq m 0) (some (.slice none 0 (.kn 0))) none) none
  | .nilFunc => some .nilfn
  | .nilIface => some .nilif
  | .map none => some (.map none)
  | .agg ⟨l⟩ => (ofVs l).bind fun cs => some (.agg cs)
  | .tuple ⟨l⟩ => (ofVs l).bind fun cs => some (.tup cs)
  | .iface t v => (ofV v).bind fun a => some (.iface t a)
  | _ => none
def ofVs : List Value → Option AVs
  | [] => some .nil
  | v :: l => (ofV v).bind fun a => (ofVs l).bind fun as => some (.cons a as)
end

/-! memory: a row of cells with its version (a slice that grows makes the addresses of an elder version dead) -/
structure Row where
  cells : Tr AV
  hw : Nat
  ver : Nat
inductive Ob where
  | row (r : Row)
structure Heap where
  next : Nat
  t : Tr Ob

structure Env where
  info : Tr TypeInfo
  fns : Tr Func

def undOf (E : Tr TypeInfo) (d : TypeDesc) : Option TypeDesc :=
  match d with
  | .named _ u => (E.get u).bind fun j => some j.desc
  | d => some d
def Env.und (E : Env) (t : TypeId) : Option TypeDesc := (E.info.get t).bind fun i => undOf E.info i.desc
def Env.size (E : Env) (t : TypeId) : Option Nat := (E.info.get t).bind fun i => some i.size
def Env.bytes (E : Env) (t : TypeId) : Option Nat := (E.info.get t).bind fun i => some i.bytes
def Env.zero (E : Env) (t : TypeId) : Option AV := (E.info.get t).bind fun i => i.zero.bind ofV
def descAgg : TypeDesc → Bool
  | .struct _ => true
  | .array _ _ => true
  | _ => false
def Env.isAgg (E : Env) (t : TypeId) : Option Bool := (E.und t).bind fun d => some (descAgg d)

def guardO {α : Type} (b : Bool) (x : Option α) : Option α := cond b x none

def Heap.row (H : Heap) (b : Nat) : Option Row := (H.t.get b).bind fun o => match o with | .row r => some r
def ldRow (r : Row) (v o : Nat) : Option AV := match r with | ⟨cells, _, ver⟩ => guardO (Nat.beq ver v) (cells.get o)
def Heap.ld (H : Heap) (b v o : Nat) : Option AV := (H.row b).bind fun r => ldRow r v o
def ldN (cells : Tr AV) : Nat → Nat → Option AVs
  | 0, _ => some .nil
  | n+1, o => (cells.get o).bind fun a => (ldN cells n (Nat.succ o)).bind fun as => some (.cons a as)
def ldRowN (r : Row) (v o n : Nat) : Option AVs := match r with | ⟨cells, _, ver⟩ => guardO (Nat.beq ver v) (ldN cells n o)
def Heap.ldCells (H : Heap) (b v o n : Nat) : Option AVs := match n with
  | 0 => some .nil
  | n+1 => (H.row b).bind fun r => ldRowN r v o (Nat.succ n)
def stN (cells : Tr AV) : AVs → Nat → Tr AV
  | .nil, _ => cells
  | .cons a as, o => stN (cells.set o a) as (Nat.succ o)
def leaf : AV → Bool | .agg _ => false | .tup _ => false | _ => true
def leafs : AVs → Bool | .nil => true | .cons a as => and (leaf a) (leafs as)
def Heap.putRow (H : Heap) (b : Nat) (r : Row) : Heap := match H with | ⟨n, t⟩ => ⟨n, t.set b (.row r)⟩
def stRow (H : Heap) (b v o : Nat) (vs : AVs) (r : Row) : Option Heap := match r with
  | ⟨cells, hw, ver⟩ => guardO (Nat.beq ver v) (guardO (leafs vs) (guardO (Nat.ble (Nat.add o vs.len) hw) (some (H.putRow b ⟨stN cells vs o, hw, ver⟩))))
/-- cells that are there are written -/
def Heap.stCells (H : Heap) (b v o : Nat) (vs : AVs) : Option Heap :=
  match vs with
  | .nil => some H
  | .cons a as => (H.row b).bind fun r => stRow H b v o (.cons a as) r
def Heap.new (H : Heap) (cs : AVs) : Heap := match H with
  | ⟨n, t⟩ => ⟨Nat.succ n, t.set n (.row ⟨stN .nil cs 0, cs.len, 1⟩)⟩
def AV.cells : AV → AVs | .agg cs => cs | v => .cons v .nil
def loadAgg (E : Env) (H : Heap) (t : TypeId) (a : AAddr) : Option AV := (E.size t).bind fun n => (H.ldCells a.b a.v a.o n).bind fun cs => some (.agg cs)
def ldVar (E : Env) (H : Heap) (t : TypeId) (a : AAddr) : Option AV :=
  (E.isAgg t).bind fun g => cond g (loadAgg E H t a) (H.ld a.b a.v a.o)
def stVar (E : Env) (H : Heap) (t : TypeId) (a : AAddr) (v : AV) : Option Heap :=
  (E.size t).bind fun n => guardO (Nat.beq v.cells.len n) (H.stCells a.b a.v a.o v.cells)

/-! integers -/
def topF : IntKind → Nat
  | .i8 => 127 | .u8 => 255 | .i16 => 32767 | .u16 => 65535 | .i32 => 2147483647 | .u32 => 4294967295
  | .i64 => 9223372036854775807 | .u64 => 18446744073709551615
def wrapF (k : IntKind) (n : Int) : Int := match n with
  | .ofNat m => cond (Nat.ble m (topF k)) (.ofNat m) (k.wrap (.ofNat m))
  | .negSucc m => k.wrap (.negSucc m)
def ltF (x y : Int) : Bool := match x with
  | .ofNat a => (match y with | .ofNat b => Nat.ble (Nat.succ a) b | .negSucc _ => false)
  | .negSucc a => (match y with | .ofNat _ => true | .negSucc b => Nat.ble (Nat.succ b) a)
def eqF (x y : Int) : Bool := match x with
  | .ofNat a => (match y with | .ofNat b => Nat.beq a b | .negSucc _ => false)
  | .negSucc a => (match y with | .ofNat _ => false | .negSucc b => Nat.beq a b)
def onNat (x y : Int) (f : Nat → Nat → Int) (g : Int) : Int := match x with
  | .ofNat a => (match y with | .ofNat b => f a b | .negSucc _ => g)
  | .negSucc _ => g
def subNF (a b : Nat) : Int := cond (Nat.ble b a) (.ofNat (Nat.sub a b)) (.negSucc (Nat.sub (Nat.sub b a) 1))
def kbits : IntKind → Nat | .i8 => 8 | .u8 => 8 | .i16 => 16 | .u16 => 16 | .i32 => 32 | .u32 => 32 | .i64 => 64 | .u64 => 64
/-- an integer, forced -/
def mkNat (k : IntKind) : Nat → Option AV | 0 => some (.int k (.ofNat 0)) | m+1 => some (.int k (.ofNat (Nat.succ m)))
def mkInt (k : IntKind) (n : Int) : Option AV := match n with
  | .ofNat m => mkNat k m
  | .negSucc m => some (.int k (.negSucc m))
def kidx : IntKind → Nat | .i8 => 0 | .u8 => 1 | .i16 => 2 | .u16 => 3 | .i32 => 4 | .u32 => 5 | .i64 => 6 | .u64 => 7
def kEq (a b : IntKind) : Bool := Nat.beq (kidx a) (kidx b)
def notF (k : IntKind) (x : Int) : Int := match x with
  | .ofNat a => cond (Nat.ble a (topF k)) (cond k.signed (.negSucc a) (.ofNat (Nat.sub (topF k) a))) (k.wrap ((BitVec.ofInt k.bits (if k.signed then -1 else k.max) ^^^ BitVec.ofInt k.bits (.ofNat a)).toNat))
  | .negSucc a => k.wrap ((BitVec.ofInt k.bits (if k.signed then -1 else k.max) ^^^ BitVec.ofInt k.bits (.negSucc a)).toNat)
def xAnd (k : IntKind) (x y : Int) : Int := onNat x y (fun a b => wrapF k (.ofNat (Nat.land a b))) (k.wrap ((BitVec.ofInt k.bits x &&& BitVec.ofInt k.bits y).toNat))
def xOr (k : IntKind) (x y : Int) : Int := onNat x y (fun a b => wrapF k (.ofNat (Nat.lor a b))) (k.wrap ((BitVec.ofInt k.bits x ||| BitVec.ofInt k.bits y).toNat))
def xXor (k : IntKind) (x y : Int) : Int := onNat x y (fun a b => wrapF k (.ofNat (Nat.xor a b))) (k.wrap ((BitVec.ofInt k.bits x ^^^ BitVec.ofInt k.bits y).toNat))
def xAndNot (k : IntKind) (x y : Int) : Int := k.wrap ((BitVec.ofInt k.bits x &&& ~~~(BitVec.ofInt k.bits y)).toNat)
def intOp (op : BinOp) (k : IntKind) (x y : Int) : Option AV :=
  match op with
  | .add => mkInt k (wrapF k (onNat x y (fun a b => .ofNat (Nat.add a b)) (x + y)))
  | .sub => mkInt k (wrapF k (onNat x y subNF (x - y)))
  | .mul => mkInt k (wrapF k (onNat x y (fun a b => .ofNat (Nat.mul a b)) (x * y)))
  | .quo => cond (eqF y (.ofNat 0)) none (mkInt k (wrapF k (onNat x y (fun a b => .ofNat (Nat.div a b)) (x.tdiv y))))
  | .rem => cond (eqF y (.ofNat 0)) none (mkInt k (onNat x y (fun a b => .ofNat (Nat.mod a b)) (x.tmod y)))
  | .eql => some (.bool (eqF x y))
  | .neq => some (.bool (not (eqF x y)))
  | .lss => some (.bool (ltF x y))
  | .leq => some (.bool (not (ltF y x)))
  | .gtr => some (.bool (ltF y x))
  | .geq => some (.bool (not (ltF x y)))
  | .and => mkInt k (xAnd k x y)
  | .or => mkInt k (xOr k x y)
  | .xor => mkInt k (xXor k x y)
  | .andNot => mkInt k (xAndNot k x y)
  | _ => none
def shN (k : IntKind) (y : Int) : Option Nat := match y with
  | .ofNat n => some (Nat.min n (kbits k))
  | .negSucc _ => none
def shlF (x : Int) (n : Nat) : Int := match x with
  | .ofNat a => .ofNat (Nat.mul a (Nat.pow 2 n))
  | .negSucc a => (.negSucc a) * 2 ^ n
def shrF (x : Int) (n : Nat) : Int := match x with
  | .ofNat a => .ofNat (Nat.div a (Nat.pow 2 n))
  | .negSucc a => (Int.negSucc a).fdiv (2 ^ n)
def shOp (op : BinOp) (k : IntKind) (x y : Int) : Option AV := match op with
  | .shl => (shN k y).bind fun n => mkInt k (wrapF k (shlF x n))
  | .shr => (shN k y).bind fun n => mkInt k (shrF x n)
  | _ => none
def isShift : BinOp → Bool | .shl => true | .shr => true | _ => false
def strLt : List Nat → List Nat → Bool
  | _, [] => false
  | [], _ :: _ => true
  | a :: x, b :: y => or (Nat.ble (Nat.succ a) b) (and (Nat.beq a b) (strLt x y))
def strEq : List Nat → List Nat → Bool
  | [], [] => true
  | a :: x, b :: y => and (Nat.beq a b) (strEq x y)
  | [], _ :: _ => false
  | _ :: _, [] => false
def strOp (op : BinOp) (x y : List Nat) : Option AV := match op with
  | .add => guardO (Nat.ble (Nat.add x.length y.length) 9223372036854775807) (some (.str (x ++ y)))
  | .eql => some (.bool (strEq x y))
  | .neq => some (.bool (not (strEq x y)))
  | .lss => some (.bool (strLt x y))
  | .leq => some (.bool (or (strLt x y) (strEq x y)))
  | .gtr => some (.bool (not (or (strLt x y) (strEq x y))))
  | .geq => some (.bool (not (strLt x y)))
  | _ => none
def binInt (op : BinOp) (k : IntKind) (a : Int) (y : AV) : Option AV := match y with
  | .int k' b => cond (isShift op) (shOp op k a b) (guardO (kEq k k') (intOp op k a b))
  | _ => none
def binStr (op : BinOp) (a : List Nat) (y : AV) : Option AV := match y with
  | .str b => strOp op a b
  | _ => none
def binOpA (op : BinOp) (x y : AV) : Option AV := match x with
  | .int k a => binInt op k a y
  | .str a => binStr op a y
  | _ => none
def unOpA (op : UnOp) (x : AV) : Option AV := match x with
  | .int k n => (match op with
    | .neg => mkInt k (wrapF k (onNat 0 n subNF (0 - n)))
    | .xor => mkInt k (notF k n)
    | _ => none)
  | .bool b => (match op with | .not => some (.bool (not b)) | _ => none)
  | _ => none

/-! operands -/
inductive Nx where
  | val (v : AV)
  | skip
  | enter (f : FuncId) (args : AVs)
def undefA : AV := .tup .nil
abbrev Fr := Tr AV
def slot (A : Fr) (t : Nat) : AV := match A.get t with | some v => v | none => undefA
def ev1 (A : Fr) : Operand → Option AV
  | .tmp t => some (slot A t)
  | .const v => ofV v
  | .func f => some (.fn f .nil .nil)
  | .global _ => none
def evL (A : Fr) : List Operand → Option AVs
  | [] => some .nil
  | x :: l => (ev1 A x).bind fun a => (evL A l).bind fun as => some (.cons a as)
def optA (A : Fr) : Option Operand → Option (Option AV)
  | none => some none
  | some x => (ev1 A x).bind fun v => some (some v)
def evParts (A : Fr) : List (Nat × Operand) → Option (List (Nat × AV))
  | [] => some []
  | p :: l => match p with | (i, x) => (ev1 A x).bind fun a => (evParts A l).bind fun as => some ((i, a) :: as)
def asPtr : AV → Option AAddr | .ptr a => a | _ => none
def asBoolA : AV → Option Bool | .bool b => some b | _ => none
def asAgg : AV → Option AVs | .agg cs => some cs | _ => none
def asTup : AV → Option AVs | .tup cs => some cs | _ => none
def asNatI : Int → Option Nat | .ofNat n => some n | .negSucc _ => none
def asNat : AV → Option Nat | .int _ i => asNatI i | _ => none
def asStr : AV → Option (List Nat) | .str s => some s | _ => none
abbrev Sl := Option AAddr × Nat × Cap
def asSlice : AV → Option Sl | .slice a n c => some (a, n, c) | _ => none
def idx (v : AV) (n : Nat) : Option Nat := (asNat v).bind fun i => guardO (Nat.ble (Nat.succ i) n) (some i)
def bound (v : AV) (n : Nat) : Option Nat := (asNat v).bind fun i => guardO (Nat.ble i n) (some i)
def boundOr (v : Option AV) (n d : Nat) : Option Nat := match v with | some v => bound v n | none => some d
def AAddr.plus (a : AAddr) (n : Nat) : AAddr := match a with | ⟨b, v, o⟩ => ⟨b, v, Nat.add o n⟩
def part (E : Env) (t : TypeId) (cs : AVs) (o : Nat) : Option AV :=
  (E.isAgg t).bind fun g => cond g ((E.size t).bind fun n => some (.agg ((cs.drop o).take n))) (cs.get o)

/-! slices -/
def sliceStr (s : List Nat) (n : Nat) (lo hi mx : Option AV) : Option AV := match mx with
  | some _ => none
  | none => (boundOr hi n n).bind fun h => (boundOr lo h 0).bind fun l => some (.str ((s.drop l).take (Nat.sub h l)))
def movedK (a : Option AAddr) (c n : Nat) : Option AAddr := match a with
  | none => none
  | some a => cond (Nat.beq c 0) (some a) (some (a.plus n))
def dead (a : AAddr) : AAddr := match a with | ⟨b, _, o⟩ => ⟨b, 0, o⟩
def movedO (a : Option AAddr) (len l z : Nat) : Option AAddr := match a with
  | none => none
  | some a => match l with
    | 0 => some a
    | l+1 => cond (Nat.beq (Nat.succ l) len) (some (dead a)) (some (a.plus (Nat.mul (Nat.succ l) z)))
/-- s[l:h] -/
def slice2 (a : Option AAddr) (len : Nat) (cap : Cap) (sz : Nat) (lo hi : Option AV) : Option AV := match cap with
  | .kn c => (boundOr hi c len).bind fun h => (boundOr lo h 0).bind fun l =>
      guardO (Nat.ble l c) (some (.slice (movedK a (Nat.sub c l) (Nat.mul l sz)) (Nat.sub h l) (.kn (Nat.sub c l))))
  | .op z => guardO (Nat.beq z sz) ((boundOr hi len len).bind fun h => (boundOr lo h 0).bind fun l =>
      some (.slice (movedO a len l z) (Nat.sub h l) (.op z)))
def capOr (cap : Cap) (len : Nat) : Nat := match cap with | .kn c => c | .op _ => len
/-- s[l:h:m] -/
def slice3 (a : Option AAddr) (len : Nat) (cap : Cap) (sz : Nat) (lo hi : Option AV) (mx : AV) : Option AV :=
  (bound mx (capOr cap len)).bind fun m => hi.bind fun hi => (bound hi m).bind fun h => (boundOr lo h 0).bind fun l =>
    some (.slice (movedK a (Nat.sub m l) (Nat.mul l sz)) (Nat.sub h l) (.kn (Nat.sub m l)))
def sliceArr (a : AAddr) (n sz : Nat) (lo hi mx : Option AV) : Option AV := match mx with
  | some _ => none
  | none => (boundOr hi n n).bind fun h => (boundOr lo h 0).bind fun l =>
    some (.slice (movedK (some a) (Nat.sub n l) (Nat.mul l sz)) (Nat.sub h l) (.kn (Nat.sub n l)))
def sliceSl (E : Env) (e : TypeId) (x : AV) (lo hi mx : Option AV) : Option AV :=
  (asSlice x).bind fun s => (E.size e).bind fun sz => match s with
    | (a, len, cap) => match mx with
      | none => slice2 a len cap sz lo hi
      | some m => slice3 a len cap sz lo hi m
def sliceA (E : Env) (t : TypeId) (x : AV) (lo hi mx : Option AV) : Option AV :=
  (E.und t).bind fun d => match d with
    | .string => (asStr x).bind fun s => sliceStr s s.length lo hi mx
    | .slice e => sliceSl E e x lo hi mx
    | .array n e => (asPtr x).bind fun a => (E.size e).bind fun sz => sliceArr a n sz lo hi mx
    | _ => none

def strCells : List Nat → AVs
  | [] => .nil
  | b :: l => .cons (.int .u8 (.ofNat b)) (strCells l)
def cellNat : AV → Option Nat | .int k n => guardO (kEq k .u8) ((asNatI n).bind fun m => guardO (Nat.ble m 255) (some m)) | _ => none
def cellsStr : AVs → Option (List Nat)
  | .nil => some []
  | .cons a as => (cellNat a).bind fun n => (cellsStr as).bind fun l => some (n :: l)
def firstOf (H : Heap) (size n : Nat) (a : Option AAddr) : Option AVs := match a with
  | some a => H.ldCells a.b a.v a.o (Nat.mul n size)
  | none => guardO (Nat.beq n 0) (some .nil)
def firstCells (H : Heap) (size n : Nat) : AV → Option AVs
  | .slice a _ _ => firstOf H size n a
  | .str s => some (strCells (s.take n))
  | _ => none
def lenOf : AV → Option Nat
  | .slice _ n _ => some n
  | .str s => some s.length
  | _ => none
def roomA : Nat := 140737488355328
abbrev VH := Option (AV × Heap)
def newSl (H : Heap) (cs : AVs) (len : Nat) (cap : Cap) : VH := match H with
  | ⟨n, t⟩ => some (.slice (some ⟨n, 1, 0⟩) len cap, Heap.new ⟨n, t⟩ cs)
def growRow (H : Heap) (a : AAddr) (size len n : Nat) (new : AVs) (r : Row) : VH := match a, r with
  | ⟨b, v, o⟩, ⟨cells, hw, ver⟩ => guardO (Nat.beq ver v) (guardO (leafs new)
      (cond (Nat.ble (Nat.add o (Nat.mul (Nat.add len n) size)) hw)
        (some (.slice (some ⟨b, v, o⟩) (Nat.add len n) (.op size), H.putRow b ⟨stN cells new (Nat.add o (Nat.mul len size)), hw, ver⟩))
        (guardO (Nat.ble (Nat.add o (Nat.mul len size)) hw)
          (some (.slice (some ⟨b, Nat.succ ver, o⟩) (Nat.add len n) (.op size),
            H.putRow b ⟨stN cells new (Nat.add o (Nat.mul len size)), Nat.add o (Nat.mul (Nat.add len n) size), Nat.succ ver⟩)))))
def appendK (H : Heap) (size : Nat) (base : Option AAddr) (len c n : Nat) (new : AVs) : VH :=
  cond (Nat.ble (Nat.add len n) c)
    (match base with
      | some a => (H.stCells a.b a.v (Nat.add a.o (Nat.mul len size)) new).bind fun H => some (.slice (some a) (Nat.add len n) (.kn c), H)
      | none => some (.slice none (Nat.add len n) (.kn c), H))
    ((firstOf H size len base).bind fun old => newSl H (AVs.app old new) (Nat.add len n) (.op size))
def appendO (H : Heap) (size z : Nat) (base : Option AAddr) (len n : Nat) (new : AVs) : VH :=
  guardO (Nat.beq z size) (match base with
    | none => none
    | some a => cond (Nat.beq n 0) (some (.slice (some a) len (.op z), H)) ((H.row a.b).bind fun r => growRow H a size len n new r))
def appendA (H : Heap) (size bytes : Nat) (s : Sl) (n : Nat) (new : AVs) : VH :=
  guardO (Nat.ble (Nat.mul (Nat.add (Nat.succ s.2.1) n) bytes) roomA) (guardO (Nat.beq new.len (Nat.mul n size))
    (match s with
    | (base, len, cap) => match cap with
      | .kn c => appendK H size base len c n new
      | .op z => appendO H size z base len n new))
def Env.elem (E : Env) (e : TypeId) : Option (Nat × Nat) := (E.info.get e).bind fun i => (i.zero.bind ofV).bind fun z =>
  guardO (Nat.beq z.cells.len i.size) (guardO (Nat.ble 1 i.size) (guardO (Nat.ble 1 i.bytes) (some (i.size, i.bytes))))
def appendZ (E : Env) (H : Heap) (e : TypeId) (size bytes : Nat) (s : Sl) (x : AV) : VH :=
  (asNat x).bind fun n => (E.zero e).bind fun z => appendA H size bytes s n (z.cells.rep n)
def appendS (H : Heap) (size bytes : Nat) (s : Sl) (x : AV) : VH :=
  (lenOf x).bind fun n => (firstCells H size n x).bind fun new => appendA H size bytes s n new
def appKind : TypeDesc → Option Bool | .int _ => some true | .slice _ => some false | .string => some false | _ => none
def sliceElem (E : Env) (t : TypeId) : Option TypeId := (E.und t).bind fun d => match d with | .slice e => some e | _ => none
def aAppend (E : Env) (H : Heap) (ts : List TypeId) (args : AVs) : VH :=
  match ts with
  | t :: t2 :: _ => (match args with
    | .cons s (.cons x .nil) => (asSlice s).bind fun s => (sliceElem E t).bind fun e => (E.elem e).bind fun p =>
      (E.und t2).bind fun d => (appKind d).bind fun g => cond g (appendZ E H e p.1 p.2 s x) (appendS H p.1 p.2 s x)
    | _ => none)
  | _ => none
def copyTo (H : Heap) (a : Option AAddr) (n : Nat) (cs : AVs) : VH := match a with
  | some a => (H.stCells a.b a.v a.o cs).bind fun H => some (.int .i64 (.ofNat n), H)
  | none => some (.int .i64 (.ofNat n), H)
def copyN (H : Heap) (size : Nat) (a : Option AAddr) (n : Nat) (x : AV) : VH := (firstCells H size n x).bind fun cs => copyTo H a n cs
def aCopy (E : Env) (H : Heap) (ts : List TypeId) (args : AVs) : VH :=
  match ts with
  | t :: _ => (match args with
    | .cons d (.cons x .nil) => (asSlice d).bind fun s => (sliceElem E t).bind fun e => (E.size e).bind fun size => (lenOf x).bind fun m =>
      match s with | (a, len, _) => copyN H size a (Nat.min m len) x
    | _ => none)
  | _ => none
def lenA (d : TypeDesc) (x : AV) : Option Nat := match d with
  | .string => (asStr x).bind fun s => some s.length
  | .slice _ => (asSlice x).bind fun s => some s.2.1
  | .array n _ => some n
  | _ => none
def aLen (E : Env) (ts : List TypeId) (args : AVs) : Option AV := match ts with
  | t :: _ => (match args with
    | .cons x .nil => (E.und t).bind fun d => (lenA d x).bind fun n => mkNat .i64 n
    | _ => none)
  | _ => none
def aCap (E : Env) (ts : List TypeId) (args : AVs) : Option AV := match ts with
  | t :: _ => (match args with
    | .cons x .nil => (sliceElem E t).bind fun _ => (asSlice x).bind fun s => (match s.2.2 with | .kn c => mkNat .i64 c | .op _ => none)
    | _ => none)
  | _ => none
def mm2 (mx : Bool) (k : IntKind) (x : Int) (y : AV) : Option AV := match y with
  | .int _ y => mkInt k (cond (cond mx (ltF x y) (ltF y x)) y x)
  | _ => none
def mm1 (mx : Bool) (x y : AV) : Option AV := match x with
  | .int k x => mm2 mx k x y
  | _ => none
def minmax (mx : Bool) : AV → AVs → Option AV
  | v, .nil => some v
  | v, .cons y as => (mm1 mx v y).bind fun v => minmax mx v as
def aMM (mx : Bool) (args : AVs) : Option AV := match args with | .cons a as => minmax mx a as | .nil => none
def val (o : Option AV) (H : Heap) : Option (Nx × Heap) := o.bind fun v => some (.val v, H)
def valH (o : VH) : Option (Nx × Heap) := o.bind fun p => match p with | (v, H) => some (.val v, H)
def earlyB : Builtin → Bool | .len => true | .cap => true | .min => true | .max => true | _ => false
def builtinA (E : Env) (H : Heap) (b : Builtin) (ts : List TypeId) (args : AVs) : Option (Nx × Heap) :=
  match b with
  | .append => valH (aAppend E H ts args)
  | .copy => valH (aCopy E H ts args)
  | .len => val (aLen E ts args) H
  | .cap => val (aCap E ts args) H
  | .min => val (aMM false args) H
  | .max => val (aMM true args) H
  | _ => none

/-! building -/
def fillOne (cs : AVs) (v : AVs) (p : Nat × Nat) : Option AVs := match p with
  | (o, size) => guardO (Nat.beq v.len size) (guardO (Nat.ble (Nat.add o v.len) cs.len) (some (cs.sets o v)))
def fillA (place : Nat → Option (Nat × Nat)) (cs : AVs) : List (Nat × AV) → Option AVs
  | [] => some cs
  | p :: rest => match p with | (i, v) => (place i).bind fun q => (fillOne cs v.cells q).bind fun cs => fillA place cs rest
def placeArr (sz i : Nat) : Option (Nat × Nat) := some (Nat.mul i sz, sz)
def fieldAt (fs : Array Field) (i : Nat) : Option Field := fs.toList[i]?
def placesA (E : Env) : List Field → Option (List (Nat × Nat))
  | [] => some []
  | f :: fs => (E.size f.type).bind fun s => (placesA E fs).bind fun l => some ((f.offset, s) :: l)
def placeStr (l : List (Nat × Nat)) (i : Nat) : Option (Nat × Nat) := l[i]?
def xBuild (E : Env) (A : Fr) (H : Heap) (t : TypeId) (ps : Array (Nat × Operand)) : Option (Nx × Heap) :=
  (E.und t).bind fun d => (evParts A ps.toList).bind fun ps => (E.zero t).bind fun z => (asAgg z).bind fun z => match d with
    | .struct fs => (placesA E fs.toList).bind fun l => (fillA (placeStr l) z ps).bind fun cs => some (.val (.agg cs), H)
    | .array _ e => (E.size e).bind fun sz => (fillA (placeArr sz) z ps).bind fun cs => some (.val (.agg cs), H)
    | _ => none
def xBuildSlice (E : Env) (A : Fr) (H : Heap) (t : TypeId) (n : Nat) (ps : Array (Nat × Operand)) : Option (Nx × Heap) :=
  (sliceElem E t).bind fun e => (evParts A ps.toList).bind fun ps => (E.size e).bind fun sz => (E.zero e).bind fun z =>
    guardO (Nat.beq z.cells.len sz) (guardO (Nat.ble (Nat.mul n sz) 16777216) ((fillA (placeArr sz) (z.cells.rep n) ps).bind fun cs => valH (newSl H cs n (.kn n))))
def xMakeSlice (E : Env) (A : Fr) (H : Heap) (t : TypeId) (l c : Operand) : Option (Nx × Heap) :=
  (sliceElem E t).bind fun e => (ev1 A l).bind fun l => (ev1 A c).bind fun c => (asNat l).bind fun l => (asNat c).bind fun c =>
    (E.bytes e).bind fun by_ => (E.size e).bind fun sz => (E.zero e).bind fun z =>
      guardO (Nat.beq z.cells.len sz) (guardO (Nat.ble l c) (guardO (Nat.ble (Nat.mul c by_) roomA) (guardO (Nat.ble c 9223372036854775807) (valH (newSl H (z.cells.rep c) l (.kn c))))))

/-! operations -/
def newPtr (H : Heap) (cs : AVs) : Option (Nx × Heap) := match H with
  | ⟨n, t⟩ => some (.val (.ptr (some ⟨n, 1, 0⟩)), Heap.new ⟨n, t⟩ cs)
def xPick (A : Fr) (H : Heap) (c a b : Operand) : Option (Nx × Heap) := (ev1 A c).bind fun v => (asBoolA v).bind fun t => val (cond t (ev1 A a) (ev1 A b)) H
def xBin (A : Fr) (H : Heap) (op : BinOp) (x y : Operand) : Option (Nx × Heap) := (ev1 A x).bind fun a => (ev1 A y).bind fun b => val (binOpA op a b) H
def convSl (H : Heap) (x : AV) : Option (Nx × Heap) := match x with
  | .slice a n _ => match a with
    | none => val (some (.str [])) H
    | some a => (H.ldCells a.b a.v a.o n).bind fun cs => (cellsStr cs).bind fun s => some (.val (.str s), H)
  | _ => none
def convStr (H : Heap) (x : AV) : Option (Nx × Heap) := (asStr x).bind fun s => some (.val (.str s), H)
def convInt (H : Heap) (k : IntKind) (x : AV) : Option (Nx × Heap) := match x with
  | .int _ n => val (mkInt k (wrapF k n)) H
  | _ => none
def isU8 : TypeDesc → Bool | .int k => kEq k .u8 | _ => false
def isStrD : TypeDesc → Bool | .string => true | _ => false
def isSliceU8 (E : Env) (d : TypeDesc) : Bool := match d with | .slice e => (match E.und e with | some d => isU8 d | none => false) | _ => false
def xConvert (E : Env) (A : Fr) (H : Heap) (src dst : TypeId) (x : Operand) : Option (Nx × Heap) :=
  (E.und src).bind fun s => (E.und dst).bind fun d => (ev1 A x).bind fun v => match d with
    | .int k => convInt H k v
    | .string => cond (isStrD s) (convStr H v) (guardO (isSliceU8 E s) (convSl H v))
    | .slice e => guardO (isStrD s) (guardO (isSliceU8 E (.slice e)) ((asStr v).bind fun s => valH (newSl H (strCells s) s.length (.op 1))))
    | _ => none
def nilChecked (v : AV) : Option AV := match v with
  | .ptr a => a.bind fun a => some (.ptr (some a))
  | .fn f p q => some (.fn f p q)
  | _ => none
def xStore (E : Env) (A : Fr) (H : Heap) (t : TypeId) (x y : Operand) : Option (Nx × Heap) :=
  (ev1 A x).bind fun p => (ev1 A y).bind fun v => (asPtr p).bind fun a => (stVar E H t a v).bind fun H => some (.skip, H)
def xFieldAddr (E : Env) (A : Fr) (H : Heap) (t : TypeId) (x : Operand) (f : Nat) : Option (Nx × Heap) :=
  (E.und t).bind fun d => (ev1 A x).bind fun p => (asPtr p).bind fun a => match d with
    | .struct fs => (fieldAt fs f).bind fun fl => (E.size fl.type).bind fun sz => guardO (not (Nat.beq sz 0)) (some (.val (.ptr (some (a.plus fl.offset))), H))
    | _ => none
def xField (E : Env) (A : Fr) (H : Heap) (t : TypeId) (x : Operand) (f : Nat) : Option (Nx × Heap) :=
  (E.und t).bind fun d => (ev1 A x).bind fun v => (asAgg v).bind fun cs => match d with
    | .struct fs => (fieldAt fs f).bind fun fl => val (part E fl.type cs fl.offset) H
    | _ => none
def xIndexAddr (E : Env) (A : Fr) (H : Heap) (t : TypeId) (x i : Operand) : Option (Nx × Heap) :=
  (E.und t).bind fun d => (ev1 A x).bind fun v => (ev1 A i).bind fun i => match d with
    | .array n e => (asPtr v).bind fun a => (idx i n).bind fun j => (E.size e).bind fun sz => some (.val (.ptr (some (a.plus (Nat.mul j sz)))), H)
    | .slice e => (asSlice v).bind fun s => s.1.bind fun a => (idx i s.2.1).bind fun j => (E.size e).bind fun sz => some (.val (.ptr (some (a.plus (Nat.mul j sz)))), H)
    | _ => none
def strAt (s : List Nat) (j : Nat) : Option AV := s[j]?.bind fun b => mkNat .u8 b
def xIndex (E : Env) (A : Fr) (H : Heap) (t : TypeId) (x i : Operand) : Option (Nx × Heap) :=
  (E.und t).bind fun d => (ev1 A x).bind fun v => (ev1 A i).bind fun i => match d with
    | .array n e => (asAgg v).bind fun cs => (idx i n).bind fun j => (E.size e).bind fun sz => val (part E e cs (Nat.mul j sz)) H
    | .string => (asStr v).bind fun s => (asNat i).bind fun j => val (strAt s j) H
    | _ => none
def xSlice (E : Env) (A : Fr) (H : Heap) (t : TypeId) (x : Operand) (lo hi mx : Option Operand) : Option (Nx × Heap) :=
  (ev1 A x).bind fun v => (optA A lo).bind fun lo => (optA A hi).bind fun hi => (optA A mx).bind fun mx => val (sliceA E t v lo hi mx) H
def xArrPtr (E : Env) (A : Fr) (H : Heap) (t : TypeId) (x : Operand) : Option (Nx × Heap) :=
  (E.und t).bind fun d => (ev1 A x).bind fun v => (asSlice v).bind fun s => s.1.bind fun a => match d with
    | .array n _ => guardO (Nat.ble n s.2.1) (some (.val (.ptr (some a)), H))
    | _ => none
def xMakeFunc (A : Fr) (H : Heap) (fn : Fn) (first captured : Array Operand) : Option (Nx × Heap) := match fn with
  | .func f => (evL A first.toList).bind fun a => (evL A captured.toList).bind fun b => some (.val (.fn f a b), H)
  | _ => none
def callVal (H : Heap) (f : AV) (args : AVs) : Option (Nx × Heap) := match f with
  | .fn f first captured => some (.enter f (AVs.app (AVs.app first args) captured), H)
  | _ => none
def xCall (E : Env) (A : Fr) (H : Heap) (c : Call) : Option (Nx × Heap) :=
  (evL A c.args.toList).bind fun args => match c.callee with
    | .value f => (ev1 A f).bind fun f => callVal H f args
    | .builtin b => builtinA E H b c.argTypes.toList args
    | _ => none
def execA (E : Env) (A : Fr) (H : Heap) (o : Op) : Option (Nx × Heap) :=
  match o with
  | .move x => val (ev1 A x) H
  | .assign x => val (ev1 A x) H
  | .pick c a b => xPick A H c a b
  | .binOp op _ x y _ => xBin A H op x y
  | .unOp op _ x => val ((ev1 A x).bind fun a => unOpA op a) H
  | .convert src dst x => xConvert E A H src dst x
  | .nilCheck x => val ((ev1 A x).bind nilChecked) H
  | .extract x i => val ((ev1 A x).bind fun v => (asTup v).bind fun vs => vs.get i) H
  | .load t x => val ((ev1 A x).bind fun p => (asPtr p).bind fun a => ldVar E H t a) H
  | .store t x y => xStore E A H t x y
  | .alloc t => (E.zero t).bind fun z => newPtr H z.cells
  | .box _ x => (ev1 A x).bind fun v => newPtr H v.cells
  | .fieldAddr t x f => xFieldAddr E A H t x f
  | .field t x f => xField E A H t x f
  | .indexAddr t x i => xIndexAddr E A H t x i
  | .index t x i => xIndex E A H t x i
  | .slice t x lo hi mx => xSlice E A H t x lo hi mx
  | .makeSlice t l c => xMakeSlice E A H t l c
  | .buildSlice t n ps => xBuildSlice E A H t n ps
  | .build t ps => xBuild E A H t ps
  | .makeFunc fn first captured => xMakeFunc A H fn first captured
  | .sliceToArrayPointer t x => xArrPtr E A H t x
  | .call c => xCall E A H c
  | _ => none

def put (nt : Nat) (A : Fr) (d : Option Tmp) (v : AV) : Option Fr := match d with
  | some d => guardO (Nat.ble (Nat.succ d) nt) (some (A.set d v))
  | none => some A
def isB (want : Bool) : AV → Bool | .bool b => cond b want (not want) | _ => false
def wantedA (ops : List Oper) (A : Fr) (g : Option (Nat × Bool)) : Bool := match g with
  | none => true
  | some (j, want) => match ops[j]? with
    | some o => (match o.dst with | some d => isB want (slot A d) | none => false)
    | none => false
abbrev CallF := FuncId → AVs → Heap → VH
def after (nt : Nat) (call : CallF) (A : Fr) (d : Option Tmp) (k : Fr → Heap → Option (Fr × Heap)) (r : Nx) (H : Heap) : Option (Fr × Heap) := match r with
  | .val v => (put nt A d v).bind fun A => k A H
  | .skip => (put nt A d undefA).bind fun A => k A H
  | .enter f args => (call f args H).bind fun p => match p with | (v, H) => (put nt A d v).bind fun A => k A H
def doOp (E : Env) (nt : Nat) (call : CallF) (all : List Oper) (o : Oper) (k : Fr → Heap → Option (Fr × Heap)) (A : Fr) (H : Heap) : Option (Fr × Heap) :=
  cond (wantedA all A o.guard)
    ((execA E A H o.op).bind fun p => match p with | (r, H) => after nt call A o.dst k r H)
    ((put nt A o.dst undefA).bind fun A => k A H)
def runOps (E : Env) (nt : Nat) (call : CallF) (all : List Oper) : List Oper → Fr → Heap → Option (Fr × Heap)
  | [], A, H => some (A, H)
  | o :: rest, A, H => doOp E nt call all o (fun A H => runOps E nt call all rest A H) A H

/-! a region that draws its order: a plan, checked once -/
def oEq : Option Nat → Option Nat → Bool
  | none, none => true
  | some a, some b => Nat.beq a b
  | none, some _ => false
  | some _, none => false
def aEq : Option AAddr → Option AAddr → Bool
  | none, none => true
  | some ⟨b, v, o⟩, some ⟨b', v', o'⟩ => and (Nat.beq b b') (and (Nat.beq v v') (Nat.beq o o'))
  | none, some _ => false
  | some _, none => false
def cEq : Cap → Cap → Bool
  | .kn a, .kn b => Nat.beq a b
  | .op a, .op b => Nat.beq a b
  | .kn _, .op _ => false
  | .op _, .kn _ => false
def isB' (a b : Bool) : Bool := cond a b (not b)
mutual
def vEq : AV → AV → Bool
  | .bool a, .bool b => isB' a b
  | .int k a, .int k' b => and (kEq k k') (eqF a b)
  | .str a, .str b => strEq a b
  | .ptr a, .ptr b => aEq a b
  | .slice a n c, .slice b m d => and (aEq a b) (and (Nat.beq n m) (cEq c d))
  | .fn f p q, .fn g r s => and (Nat.beq f g) (and (vsEq p r) (vsEq q s))
  | .nilfn, .nilfn => true
  | .agg a, .agg b => vsEq a b
  | .tup a, .tup b => vsEq a b
  | .iface t a, .iface u b => and (Nat.beq t u) (vEq a b)
  | .nilif, .nilif => true
  | .map a, .map b => oEq a b
  | _, _ => false
def vsEq : AVs → AVs → Bool
  | .nil, .nil => true
  | .cons a as, .cons b bs => and (vEq a b) (vsEq as bs)
  | _, _ => false
end
def early (E : Env) : Op → Bool
  | .move _ => true
  | .assign _ => true
  | .pick _ _ _ => true
  | .binOp _ _ _ _ _ => true
  | .unOp _ _ _ => true
  | .nilCheck _ => true
  | .extract _ _ => true
  | .load _ _ => true
  | .fieldAddr _ _ _ => true
  | .field _ _ _ => true
  | .indexAddr _ _ _ => true
  | .index _ _ _ => true
  | .slice _ _ _ _ _ => true
  | .build _ _ => true
  | .makeFunc _ _ _ => true
  | .sliceToArrayPointer _ _ => true
  | .convert _ dst _ => match E.und dst with | some (.slice _) => false | _ => true
  | .call c => match c.callee with | .builtin b => earlyB b | _ => false
  | _ => false
def inL (n : Nat) : List Nat → Bool
  | [] => false
  | m :: l => or (Nat.beq m n) (inL n l)
def depsOf (o : Oper) : List Nat := (o.after.toList.filter (Region.binds .any)).map (·.on)
def numbered : List Oper → Nat → List (Nat × Oper)
  | [], _ => []
  | o :: l, n => (n, o) :: numbered l (Nat.succ n)
def apartAll (ops : Array Oper) (all : List (Nat × Oper)) (done : List Nat) (i : Nat) (oi : Oper) : Bool :=
  all.all fun p => or (Nat.beq p.1 i) (or (inL p.1 done) (or (inL i (depsOf p.2)) (oi.apart ops p.2)))
def freshAll (ops : Array Oper) (all : List (Nat × Oper)) (done : List Nat) (d : Nat) (oi : Oper) : Bool :=
  and (not (inL d (oi.looksAt ops))) (all.all fun p => or (not (inL p.1 done)) (and (not (inL d (p.2.looksAt ops))) (not (oEq p.2.dst (some d)))))
def earlyOk (E : Env) (ops : Array Oper) (all : List (Nat × Oper)) (done : List Nat) (i : Nat) (oi : Oper) : Bool :=
  and (early E oi.op) (and (apartAll ops all done i oi) (match oi.dst with | some d => freshAll ops all done d oi | none => false))
def blocked (all : List (Nat × Oper)) (done : List Nat) (i : Nat) : Bool :=
  all.all fun p => or (Nat.beq p.1 i) (or (inL p.1 done) ((depsOf p.2).any fun d => not (inL d done)))
def readyL (done : List Nat) (i : Nat) (oi : Oper) : Bool := and (not (inL i done)) ((depsOf oi).all fun d => inL d done)
def planOk (E : Env) (ops : Array Oper) (all : List (Nat × Oper)) : List Nat → List (Nat × Bool) → Bool
  | done, [] => all.all fun p => inL p.1 done
  | done, x :: rest => match x with
    | (i, e) => match ops.toList[i]? with
      | none => false
      | some oi => and (readyL done i oi) (and (cond e (earlyOk E ops all done i oi) (blocked all done i)) (planOk E ops all (i :: done) rest))
def planGo (E : Env) (ops : Array Oper) (all : List (Nat × Oper)) : Nat → List Nat → List (Nat × Bool)
  | 0, _ => []
  | f+1, done => match all.find? (fun p => and (readyL done p.1 p.2) (earlyOk E ops all done p.1 p.2)) with
    | some p => (p.1, true) :: planGo E ops all f (p.1 :: done)
    | none => match all.find? (fun p => readyL done p.1 p.2) with
      | some p => (p.1, false) :: planGo E ops all f (p.1 :: done)
      | none => []
def planOf (E : Env) (ops : Array Oper) : List (Nat × Bool) := planGo E ops (numbered ops.toList 0) ops.size []
def again1 (E : Env) (all : List Oper) (A : Fr) (H : Heap) (i : Nat) : Bool := match all[i]? with
  | none => false
  | some o => match o.dst with
    | none => false
    | some d => cond (wantedA all A o.guard)
      (match execA E A H o.op with
        | some (.val v, _) => vEq v (slot A d)
        | _ => false)
      (vEq undefA (slot A d))
def again (E : Env) (all : List Oper) (ds : List Nat) (A : Fr) (H : Heap) : List Nat → Bool
  | [] => true
  | i :: l => and (or (inL i ds) (again1 E all A H i)) (again E all ds A H l)
def drawOps (E : Env) (nt : Nat) (call : CallF) (all : List Oper) : List Nat → List (Nat × Bool) → Fr → Heap → Option (Fr × Heap)
  | _, [], A, H => some (A, H)
  | es, x :: r, A, H => match x with
    | (i, e) => match all[i]? with
      | none => none
      | some o => cond e
        (doOp E nt call all o (fun A H => drawOps E nt call all (es ++ [i]) r A H) A H)
        (doOp E nt call all o (fun A H => guardO (again E all (depsOf o) A H es) (drawOps E nt call all es r A H)) A H)

inductive Ex where
  | normal
  | exit (id : Nat)
  | ret
abbrev Out := Option (Ex × Fr × Heap)
def frameOf : AVs → Nat → Fr → Fr
  | .nil, _, A => A
  | .cons a as, n, A => frameOf as (Nat.succ n) (A.set n a)
def res1 (E : Env) (H : Heap) (A : Fr) : ResultVar → Option AV
  | .tmp t => some (slot A t)
  | .cell t ty => (asPtr (slot A t)).bind fun a => ldVar E H ty a
def resA (E : Env) (H : Heap) (A : Fr) : List ResultVar → Option AVs
  | [] => some .nil
  | r :: l => (res1 E H A r).bind fun v => (resA E H A l).bind fun as => some (.cons v as)
def mkRes : AVs → AV
  | .nil => .tup .nil
  | .cons v as => match as with | .nil => v | .cons b bs => .tup (.cons v (.cons b bs))
def ended : Ex → Bool | .exit _ => false | _ => true
def callW (E : Env) (rec : Nat → Code → Fr → Heap → Out) (fn : FuncId) (args : AVs) (H : Heap) : VH :=
  (E.fns.get fn).bind fun fu => fu.body.bind fun body => guardO (Nat.ble args.len fu.ntmps) ((rec fu.ntmps body (frameOf args 0 .nil) H).bind fun p => match p with
    | (ex, A, H) => guardO (ended ex) ((resA E H A fu.results.toList).bind fun vs => some (mkRes vs, H)))
def seqW (r : Out) (k : Fr → Heap → Out) : Out := r.bind fun p => match p with
  | (ex, A, H) => match ex with
    | .normal => k A H
    | ex => some (ex, A, H)
def blockW (id : Nat) (r : Out) : Out := r.bind fun p => match p with
  | (ex, A, H) => match ex with
    | .exit id' => cond (Nat.beq id' id) (some (.normal, A, H)) (some (.exit id', A, H))
    | ex => some (ex, A, H)
def condW (v : Option AV) (a b : Out) : Out := v.bind fun v => (asBoolA v).bind fun t => cond t a b
def regW (E : Env) (nt : Nat) (call : CallF) (ops : List Oper) (A : Fr) (H : Heap) : Out := (runOps E nt call ops ops A H).bind fun p => match p with | (A, H) => some (.normal, A, H)
def drawW (E : Env) (nt : Nat) (call : CallF) (ops : Array Oper) (A : Fr) (H : Heap) : Out :=
  guardO (and (Region.noSelect ops) (planOk E ops (numbered ops.toList 0) [] (planOf E ops))) ((drawOps E nt call ops.toList [] (planOf E ops) A H).bind fun p => match p with | (A, H) => some (.normal, A, H))
def stepC (E : Env) (rec : Nat → Code → Fr → Heap → Out) (nt : Nat) (c : Code) (A : Fr) (H : Heap) : Out :=
  match c with
  | .skip => some (.normal, A, H)
  | .exit id => some (.exit id, A, H)
  | .ret => some (.ret, A, H)
  | .seq a b => seqW (rec nt a A H) (rec nt b)
  | .cond x a b => condW (ev1 A x) (rec nt a A H) (rec nt b A H)
  | .block id c => blockW id (rec nt c A H)
  | .loop c => seqW (rec nt c A H) (rec nt (.loop c))
  | .region _ ops draw => cond draw (drawW E nt (callW E rec) ops A H) (regW E nt (callW E rec) ops.toList A H)
  | _ => none
def evCode (E : Env) : Nat → Nat → Code → Fr → Heap → Out
  | 0 => fun _ _ _ _ => none
  | f+1 => stepC E (evCode E f)
def callA (E : Env) (fuel : Nat) : CallF := callW E (evCode E fuel)
end Den
